/- Operations that make or write memory. -/
import Derived.Test.YtpgfcfojojemjaaPVl
namespace Go.PV
set_option linter.unusedVariables false
set_option linter.unusedSimpArgs false

/-- the elements that an append takes from its second operand -/
def elemsV (ie : TI) : V → Option (List V)
  | .nils => some []
  | .slice sz m _ _ => if sz = ie.sz then some m else none
  | .str bs => match ie.d with
    | .int .u8 => if ie.sz = 1 then some (bs.map byteV) else none
    | _ => none
  | _ => none

def maxApp : Nat := 2 ^ 24

/-- append: the slice, the tokens, the next one -/
def appendV (ie : TI) (own : List (Nat × Nat)) (next : Nat) (base : V) (m : List V) : Option (V × List (Nat × Nat) × Nat) :=
  match base with
  | .nils => if m.length ≤ maxApp then
      (if m.isEmpty then some (.nils,own,next) else some (.slice ie.sz m false (some next),(next,m.length) :: own,next + 1)) else none
  | .slice sz l ex tok => if sz = ie.sz ∧ l.length + m.length ≤ maxApp then
      (if m.isEmpty then some (.slice sz l ex tok,own,next)
       else if ex then some (.slice sz (l ++ m) false (some next),(next,l.length + m.length) :: own,next + 1)
       else match tok with
         | some id => if own.contains (id,l.length) then some (.slice sz (l ++ m) false (some id),(id,l.length + m.length) :: own.filter (fun q => q.1 != id),next) else none
         | none => none)
      else none
  | _ => none

section
variable {P : Program} {w0 w : World} {G0 G : Gh} {heap : List (List V)} {own : List (Nat × Nat)} {next : Nat}

theorem elems_run {ie : TI} {v : Value} {x : V} (hx : Rep w G v x) {m : List V} (h : elemsV ie x = some m) :
    (∀ y ∈ m,y.cells.length = ie.sz ∧ y.clean = true) ∧ (Builtin.lenOf v).run P w = .ok m.length w ∧
    ∃ cs : Array Value,(Builtin.firstCells ie.sz m.length v).run P w = .ok cs w ∧ LR w G cs.toList (flat m) := by
  cases x <;> simp only [elemsV] at h <;> first | (simp at h; done) | skip
  · -- a string
    rename_i bs
    split at h
    · split at h
      · rename_i hsz
        obtain rfl := Option.some.inj h
        cases hx with
        | str st =>
          have hl : (st.data.toList.map byteV).length = st.size := by rw [List.length_map]; exact Array.length_toList
          refine ⟨fun y hy => ?_,by rw [hl]; rfl,((st.extract 0 st.size).data.map fun b => .int .u8 b.toNat),by rw [hl]; rfl, ?_⟩
          · obtain ⟨b,hb,rfl⟩ := List.mem_map.1 hy
            exact ⟨hsz.symm,rfl⟩
          · rw [flat_bytes]
            have hex : (st.extract 0 st.size).data = st.data := by
              rw [ByteArray.data_extract]; exact Array.extract_size
            rw [hex]
            refine ⟨by simp,fun k y hk => ?_⟩
            rw [List.getElem?_map,Option.map_eq_some_iff] at hk
            obtain ⟨b,hb,rfl⟩ := hk
            have : (st.data.map fun b => Value.int .u8 b.toNat).toList.getD k undef = .int .u8 b.toNat := by
              rw [List.getD,Array.toList_map,List.getElem?_map,hb]; rfl
            rw [this]; exact byteV_rep b _ _
      · simp at h
    · simp at h
  · obtain rfl := Option.some.inj h
    cases hx
    exact ⟨by simp,rfl, #[],rfl,rfl,fun k y hk => by simp [flat] at hk⟩
  · split at h
    · rename_i hsz
      obtain rfl := Option.some.inj h
      obtain ⟨B,o,cap,sp,rfl,hX,hsp⟩ := hx.slice_inv
      refine ⟨fun y hy => by rw [← hsz]; exact hX.hel y hy,rfl, ?_⟩
      obtain ⟨vs,h1,h2,h3⟩ := hX.cells (P := P) hsp
      rw [flat_length (fun y hy => (hX.hel y hy).1),hsz] at h1
      exact ⟨vs,h1,by simpa using h2,fun k y hk => by have := h3 k y hk; rwa [Array.getD_eq_getD_getElem?,← Array.getElem?_toList,← List.getD] at this⟩
    · simp at h

theorem growBy_le (n : Nat) : ∀ (r c : Nat), c ≤ n + n + 4096 * 5 - 4096 * r → r ≤ 4 → c ≤ n → Builtin.growBy n r c ≤ 3 * n + 4096
  | 0,c,_,_,h => by simp [Builtin.growBy]; omega
  | r + 1,c,h,hr,hc => by
    simp only [Builtin.growBy]
    split
    · omega
    · rename_i hlt
      rcases Nat.lt_or_ge (c + (c + 768) / 4) n with h2 | h2
      · exact growBy_le n r _ (by omega) (by omega) (by omega)
      · cases r with
        | zero => simp [Builtin.growBy]; omega
        | succ r => simp only [Builtin.growBy]; rw [if_pos h2]; omega

theorem nextcap_le {need old : Nat} (h : old < need) : Builtin.nextslicecap need old ≤ 3 * need + 4096 := by
  unfold Builtin.nextslicecap
  split
  · omega
  · split
    · omega
    · exact growBy_le need 4 old (by omega) (by omega) (by omega)

theorem zeroCells_size (z : Array Value) (n : Nat) : (Builtin.zeroCells z n).size = n * z.size := by simp [Builtin.zeroCells]

/-- the arguments' types and sizes of an append that is told -/
structure AppT (P : Program) (ts : Array TypeId) (e : TypeId) (ie : TI) (info : TypeInfo) (zv : Value) : Prop where
  sl : ∃ t,ts[0]? = some t ∧ P.underlying t = some (.slice e)
  xt : ∀ t,ts[1]? = some t → ∃ d,P.underlying t = some d ∧ ∀ k,d ≠ .int k
  hinfo : P.info? e = some info
  sz : ie.sz = info.size
  bytes : info.bytes ≤ 2 ^ 20
  zero : info.zero = some zv
  zsz : zv.cells.size = info.size

/-- the part of an append that stays in its row -/
def inRow (P : Program) (w : World) (base : Option Addr) (len n cap sz : Nat) (cs : List Value) : Result Value := match base with
  | some a => ((storeCells (a.add (len * sz)) cs).run P w).andThen fun _ w' => .ok (.slice base (len + n) cap) w'
  | none => .ok (.slice base (len + n) cap) w

/-- what an append does, once its operands are known -/
theorem append_run {ts : Array TypeId} {e : TypeId} {ie : TI} {info : TypeInfo} {zv : Value} (T : AppT P ts e ie info zv) (ty : TypeId) {base : Option Addr} {len cap n : Nat} {x : Value}
    (hx : (Builtin.lenOf x).run P w = .ok n w) {cs : Array Value} (hcs : ∀ w',(w'.heap = w.heap) → (Builtin.firstCells ie.sz n x).run P w' = .ok cs w')
    {old : Array Value} (hold : ∀ w',(w'.heap = w.heap) → (Builtin.firstCells ie.sz len (.slice base len cap)).run P w' = .ok old w') (hm : len + n ≤ maxApp) (hcap : len ≤ cap) :
    (Builtin.append_ ts ty #[.slice base len cap,x]).run P w =
      if len + n ≤ cap then inRow P w base len n cap ie.sz cs.toList
      else
        .ok (.slice (some ⟨w.heap.size,0,none⟩) (len + n) ((Question.appendCap (len + n) cap e).cut (w.tape w.drawn (.appendCap (len + n) cap e))))
          (w.drew.alloc (.cells (old ++ cs ++ Builtin.zeroCells zv.cells ((Question.appendCap (len + n) cap e).cut (w.tape w.drawn (.appendCap (len + n) cap e)) - (len + n))) e)) := by
  obtain ⟨t,ht,hu⟩ := T.sl
  have hzero : ∀ w',(zeroValue e).run P w' = .ok zv w' := fun w' => by simp [zeroValue,run_info T.hinfo,T.zero]
  have hinfo : ∀ w',(typeInfo e).run P w' = .ok info w' := fun w' => run_info T.hinfo w'
  unfold Builtin.append_
  have e1 : (#[Value.slice base len cap,x] : Array Value)[0]? = some (.slice base len cap) := rfl
  have e2 : (#[Value.slice base len cap,x] : Array Value)[1]? = some x := rfl
  have h1 : ¬ (((len + n : Nat) : Int) > IntKind.i64.max ∧ (false = true ∨ info.bytes = 0)) := by
    rintro ⟨h,_⟩
    have e3 : IntKind.i64.max = 9223372036854775807 := rfl
    rw [e3] at h
    unfold maxApp at hm
    omega
  have hz0 : ∃ z : Option TypeId,ts[1]? = z ∧ (z = none ∨ ∃ t' d,z = some t' ∧ P.underlying t' = some d ∧ ∀ k,d ≠ .int k) := by
    cases h : ts[1]? with
    | none => exact ⟨none,rfl, .inl rfl⟩
    | some t' =>
      obtain ⟨d,hd,hk⟩ := T.xt t' h
      exact ⟨some t',rfl, .inr ⟨t',d,rfl,hd,hk⟩⟩
  obtain ⟨z,hz,hzc⟩ := hz0
  have hfz : (Question.appendCap (len + n) cap e).forced = false := rfl
  rw [ht,e1,e2]
  dsimp only
  rw [hz]
  rcases hzc with rfl | ⟨t',d,rfl,hd,hk⟩
  · simp only [Sem.run_bind,run_und hu,Result.andThen_ok,run_size T.hinfo,← T.sz,Sem.run_pure,Bool.false_eq_true,if_false,hx,Bool.not_false,if_true]
    by_cases hle : len + n ≤ cap
    · rw [if_pos hle,if_pos hle]
      simp only [Sem.run_bind,hcs w rfl,Result.andThen_ok]
      cases base with
      | none => simp [inRow]
      | some a => simp [inRow]
    · have h2 : ¬ (Builtin.nextslicecap (len + n) cap * info.bytes > 2 ^ 48) := by
        have := nextcap_le (need := len + n) (old := cap) (by omega)
        have h3 : Builtin.nextslicecap (len + n) cap ≤ 2 ^ 26 := by unfold maxApp at hm; omega
        have := Nat.mul_le_mul h3 T.bytes
        omega
      rw [if_neg hle,if_neg hle]
      simp only [Sem.run_bind,hinfo,Result.andThen_ok,Sem.run_ite]
      rw [if_neg (by simpa using h1),if_neg h2]
      simp only [Sem.run_bind,hinfo,Sem.run_pure,Result.andThen_ok,run_choose,hfz,Bool.false_eq_true,if_false,World.drew_eq,hold w.drew rfl,hcs w.drew rfl,run_askRoom,hzero]
      simp [newRow]
      rfl
  · simp only [Sem.run_bind,run_und hu,run_und hd,Result.andThen_ok,run_size T.hinfo,← T.sz,Sem.run_pure]
    simp only [Bool.false_eq_true,if_false,hx,Bool.not_false,if_true,Sem.run_bind,Result.andThen_ok]
    by_cases hle : len + n ≤ cap
    · rw [if_pos hle,if_pos hle]
      simp only [Sem.run_bind,hcs w rfl,Result.andThen_ok]
      cases base with
      | none => simp [inRow]
      | some a => simp [inRow]
    · have h2 : ¬ (Builtin.nextslicecap (len + n) cap * info.bytes > 2 ^ 48) := by
        have := nextcap_le (need := len + n) (old := cap) (by omega)
        have h3 : Builtin.nextslicecap (len + n) cap ≤ 2 ^ 26 := by unfold maxApp at hm; omega
        have := Nat.mul_le_mul h3 T.bytes
        omega
      rw [if_neg hle,if_neg hle]
      simp only [Sem.run_bind,hinfo,Result.andThen_ok,Sem.run_ite]
      rw [if_neg (by simpa using h1),if_neg h2]
      simp only [Sem.run_bind,hinfo,Sem.run_pure,Result.andThen_ok,run_choose,hfz,Bool.false_eq_true,if_false,World.drew_eq,hold w.drew rfl,hcs w.drew rfl,run_askRoom,hzero]
      simp [newRow]
      rfl
end
end Go.PV
