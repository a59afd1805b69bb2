/- Every operation that makes or writes memory: the model does what 'loudV' says. -/
import Derived.Test.YtpgfcfojojemjaaPVn
namespace Go.PV
set_option linter.unusedVariables false
set_option linter.unusedSimpArgs false

def maxMake : Nat := 2 ^ 24

/-- the value, the heap, the tokens, the next token -/
def loudV (P : Program) (s : St) : Op → Option (V × List (List V) × List (Nat × Nat) × Nat)
  | .alloc t => match ti P t with
    | some i => match i.z with
      | some z => some (.ptr s.heap.length 0,s.heap ++ [z],s.own,s.next)
      | none => none
    | none => none
  | .box _ x => match ev s x with
    | some v => if v.cells.all V.isCell then some (.ptr s.heap.length 0,s.heap ++ [v.cells],s.own,s.next) else none
    | none => none
  | .store t a x => match ti P t,ev s a,ev s x with
    | some i,some (.ptr b o),some v => match s.heap[b]? with
      | some cs => if v.cells.length = i.sz ∧ o + i.sz ≤ cs.length ∧ v.cells.all V.isCell then some (.tup [],s.heap.set b (wrL cs o v.cells),s.own,s.next) else none
      | none => none
    | _,_,_ => none
  | .makeSlice t l c => match ti P t,ev s l,ev s c with
    | some i,some (.int _ n),some (.int _ m) => match i.d with
      | .slice e => match ti P e with
        | some ie => match ie.z with
          | some z => if 0 ≤ n ∧ n ≤ m ∧ m ≤ maxMake ∧ 0 < ie.sz ∧ ie.bytes ≤ 2 ^ 20 ∧ z.length = ie.sz ∧ (ie.d.agg || ie.sz == 1) = true then
              some (.slice ie.sz (List.replicate n.toNat (if ie.d.agg then .agg z else z.headD .dead)) (n == m) (some s.next),s.heap,(s.next,n.toNat) :: s.own,s.next + 1) else none
          | none => none
        | none => none
      | _ => none
    | _,_,_ => none
  | .call { callee := .builtin .append,args,argTypes } => match args.toList,argTypes.toList with
    | [x,y], [t,u] => match ti P t,ti P u,ev s x,ev s y with
      | some i,some j,some b,some v => match i.d,j.d.intK? with
        | .slice e,none => match ti P e with
          | some ie => match ie.z,elemsV ie v with
            | some z,some m => if 0 < ie.sz ∧ ie.bytes ≤ 2 ^ 20 ∧ z.length = ie.sz then
                (match appendV ie s.own s.next b m with
                 | some (r,own,next) => some (r,s.heap,own,next)
                 | none => none) else none
            | _,_ => none
          | none => none
        | _,_ => none
      | _,_,_,_ => none
    | _,_ => none
  | _ => none

section
variable {P : Program} {w0 w : World} {G0 G : Gh} {heap : List (List V)} {own : List (Nat × Nat)} {next : Nat}

theorem appT {ts : Array TypeId} {t u e : TypeId} {i j ie : TI} {z : List V} (hts : ts.toList = [t, u]) (hi : ti P t = some i) (hj : ti P u = some j) (hd : i.d = .slice e) (hk : j.d.intK? = none) (he : ti P e = some ie)
    (hz : ie.z = some z) (hb : ie.bytes ≤ 2 ^ 20) (hzl : z.length = ie.sz) : ∃ info zv,AppT P ts e ie info zv := by
  obtain ⟨info,d,h1,h2,rfl⟩ := ti_spec hi
  obtain ⟨info',d',h1',h2',rfl⟩ := ti_spec hj
  obtain ⟨info'',d'',h1'',h2'',rfl⟩ := ti_spec he
  simp only at hz hb hzl hd hk
  have ht : ts = #[t,u] := by cases ts; simp at hts; simp [hts]
  subst ht
  cases hzz : info''.zero with
  | none => simp [hzz] at hz
  | some zv =>
    simp only [hzz,Option.bind_some] at hz
    have hl := (absL_rep hz default ⟨fun _ _ => False,0,id,0,id,fun _ _ => none⟩).1
    refine ⟨info'',zv,⟨⟨t,rfl, ?_⟩,fun t' ht' => ?_,h1'',rfl,hb,hzz, ?_⟩⟩
    · rw [h2]
      cases d <;> simp [tdOf] at hd
      rw [hd]
    · obtain rfl : u = t' := by simpa using ht'
      refine ⟨d',h2',fun k hk' => ?_⟩
      subst hk'
      simp [tdOf,TD.intK?] at hk
    · have : zv.cells.toList.length = zv.cells.size := Array.length_toList
      omega

theorem append_good (I : Inv w0 G0 heap own next w G) {ts : Array TypeId} {e : TypeId} {ie : TI} {info : TypeInfo} {zv : Value} (T : AppT P ts e ie info zv) (hsz : 0 < ie.sz) (ty : TypeId)
    {vb vx : Value} {b x r : V} (hb : Rep w G vb b) (hx : Rep w G vx x) {m : List V} (hm : elemsV ie x = some m) {own' : List (Nat × Nat)} {next' : Nat} (h : appendV ie own next b m = some (r,own',next')) :
    ∃ v w' G',(Builtin.append_ ts ty #[vb,vx]).run P w = .ok v w' ∧ Rep w' G' v r ∧ Inv w0 G0 heap own' next' w' G' ∧ Mono w G w' G' := by
  obtain ⟨hel,hlen,cs,hcs0,hLcs⟩ := elems_run (P := P) hx hm
  have hcs : ∀ w',w'.heap = w.heap → (Builtin.firstCells ie.sz m.length vx).run P w' = .ok cs w' := by
    intro w' hh
    have hx' : Rep w' G vx x := hx.mono ⟨fun _ _ h => ⟨h,cell_heap (by rw [hh])⟩,Nat.le_refl _,fun _ _ => rfl,Nat.le_refl _,fun _ _ => Nat.le_refl _,fun _ _ _ _ _ h => h⟩
    cases hx <;> simp only [elemsV] at hm <;> first | (simp at hm; done) | skip
    · simp only [Builtin.firstCells,Sem.run_pure] at hcs0 ⊢
      injection hcs0 with h1 _
      rw [h1]
    · simp only [Builtin.firstCells,Sem.run_pure] at hcs0 ⊢
      injection hcs0 with h1 _
      rw [h1]
    · rename_i B o sz l ex tok cap vs hcap hex hs hel' hS hR ht sp hsp
      have hz : sp = none ∨ l.length = 0 := by rcases hsp with h | h; exact .inl h; exact .inr (by omega)
      split at hm
      · rename_i hse
        obtain rfl := Option.some.inj hm
        simp only [Builtin.firstCells] at hcs0 ⊢
        have hfl : (flat l).length = l.length * sz := flat_length (fun y hy => (hel' y hy).1)
        have key : ∀ W : World,W.heap = w.heap → (loadCells ⟨B,o,sp⟩ (l.length * ie.sz)).run P W = .ok ((List.range (l.length * ie.sz)).map vs).toArray W := fun W hW =>
          run_loadCells (P := P) W ⟨B,o,sp⟩ (l.length * ie.sz) vs (fun j hj => by
            obtain rfl : sp = none := hz.resolve_right (by rintro h; rw [h] at hj; omega)
            rw [add_mk,cell_heap (w := w) (by rw [hW])]
            rw [← hse,← hfl] at hj
            exact (hS j _ (List.getElem?_eq_getElem hj)).2)
        rw [key w rfl] at hcs0
        injection hcs0 with h1 _
        rw [key w' hh,h1]
      · simp at hm
  cases b <;> simp only [appendV] at h <;> first | (simp at h; done) | skip
  case nils =>
    split at h
    · rename_i hmx
      cases hb
      have hold : ∀ w',w'.heap = w.heap → (Builtin.firstCells ie.sz 0 (.slice none 0 0)).run P w' = .ok #[] w' := fun _ _ => rfl
      have hrun := append_run (P := P) (w := w) T ty (base := none) (len := 0) (cap := 0) hlen hcs hold (by omega) (Nat.le_refl _)
      split at h
      · rename_i hemp
        obtain ⟨rfl,rfl,rfl⟩ : V.nils = r ∧ own = own' ∧ next = next' := by simpa using h
        have hm0 : m.length = 0 := by simpa using hemp
        rw [hm0,if_pos (by omega)] at hrun
        exact ⟨_,w,G,hrun, .nils,I,Mono.refl _ _⟩
      · rename_i hne
        obtain ⟨rfl,rfl,rfl⟩ : V.slice ie.sz m false (some next) = r ∧ (next,m.length) :: own = own' ∧ next + 1 = next' := by simpa using h
        have hml : 0 < m.length := by
          rcases Nat.eq_zero_or_pos m.length with h0 | h0
          · exact absurd (by simpa using h0) hne
          · exact h0
        rw [if_neg (by omega)] at hrun
        generalize hcap : (Question.appendCap (0 + m.length) 0 e).cut (w.tape w.drawn (.appendCap (0 + m.length) 0 e)) = cap at hrun
        have hge : m.length ≤ cap := by rw [← hcap]; simp only [Question.cut]; omega
        have hcsz : cs.size = m.length * ie.sz := by
          have := hLcs.len
          rw [flat_length (fun y hy => (hel y hy).1)] at this
          simpa using this
        obtain ⟨G',I',m',hr⟩ := freshTok I (W := w.drew) ⟨rfl,rfl,rfl,rfl⟩ hsz hel hLcs (arr := #[] ++ cs ++ Builtin.zeroCells zv.cells (cap - (0 + m.length))) (e := e) (cap := cap)
          (fun k hk => by
            simp only [Array.empty_append]
            rw [Array.getElem?_append_left (by omega),Array.getElem?_toList])
          (by
            simp only [Array.empty_append,Array.size_append,zeroCells_size,hcsz,T.zsz,← T.sz]
            rw [← Nat.add_mul]; congr 1; omega) hge
        rw [Nat.zero_add] at hrun
        rw [Nat.zero_add] at I' m' hr
        exact ⟨_,_,G',hrun,hr false (by simp),I',m'⟩
    · simp at h
  case slice sz l ex tok =>
    split at h
    · rename_i hc
      obtain ⟨rfl,hmx⟩ := hc
      obtain ⟨B,o,cap,sp,rfl,hX,hsp⟩ := hb.slice_inv
      have hold0 : ∃ old : Array Value,(∀ w',w'.heap = w.heap → (Builtin.firstCells ie.sz l.length (.slice (some ⟨B,o,sp⟩) l.length cap)).run P w' = .ok old w') ∧ LR w G old.toList (flat l) := by
        have hz : sp = none ∨ l.length = 0 := by rcases hsp with h | h; exact .inl h; exact .inr (by have := hX.hcap; omega)
        have hmem : memAt w G B o (flat l) := fun k y hk => (hX.mem k y hk).2
        have hfl : (flat l).length = l.length * ie.sz := flat_length (fun y hy => (hX.hel y hy).1)
        refine ⟨((List.range (l.length * ie.sz)).map fun j => (w.cell? ⟨B,o + j,none⟩).getD undef).toArray,fun W hW => ?_,by simp [hfl],fun k y hk => ?_⟩
        · exact run_loadCells (P := P) W ⟨B,o,sp⟩ (l.length * ie.sz) _ (fun j hj => by
            obtain rfl : sp = none := hz.resolve_right (by rintro h; rw [h] at hj; omega)
            rw [← hfl] at hj
            obtain ⟨v,hv,_⟩ := hmem j _ (List.getElem?_eq_getElem hj)
            rw [add_mk,cell_heap (w := w) (by rw [hW]),hv]; rfl)
        · obtain ⟨v,hv,hr⟩ := hmem k y hk
          have hkl := (List.getElem?_eq_some_iff.1 hk).1
          rw [hfl] at hkl
          simp [List.getD,hkl,hv,hr]
      obtain ⟨old,hold,hLold⟩ := hold0
      have hosz : old.size = l.length * ie.sz := by
        have := hLold.len
        rw [flat_length (fun y hy => (hX.hel y hy).1)] at this
        simpa using this
      have hrun := append_run (P := P) (w := w) T ty (base := some ⟨B,o,sp⟩) (len := l.length) (cap := cap) hlen hcs hold hmx hX.hcap
      have hcsz : cs.size = m.length * ie.sz := by
        have := hLcs.len
        rw [flat_length (fun y hy => (hel y hy).1)] at this
        simpa using this
      have hboth : ∀ x ∈ l ++ m,x.cells.length = ie.sz ∧ x.clean = true := fun x hx => by
        rcases List.mem_append.1 hx with h | h
        · exact hX.hel x h
        · exact hel x h
      have hLb : LR w G (old.toList ++ cs.toList) (flat (l ++ m)) := by rw [flat_append]; exact hLold.append hLcs
      split at h
      · rename_i hemp
        obtain ⟨rfl,rfl,rfl⟩ : V.slice ie.sz l ex tok = r ∧ own = own' ∧ next = next' := by simpa using h
        have hm0 : m = [] := by simpa using hemp
        subst hm0
        have hc0 : cs.toList = [] := List.eq_nil_of_length_eq_zero (by simpa using hcsz)
        rw [List.length_nil,Nat.add_zero,if_pos hX.hcap,hc0] at hrun
        exact ⟨_,w,G,hrun,hX.repS hsp,I,Mono.refl _ _⟩
      · rename_i hne
        have hmne : m ≠ [] := by rintro rfl; exact hne rfl
        have hml : 0 < m.length := List.length_pos_iff.2 hmne
        -- another row
        have grow : ¬ (l.length + m.length ≤ cap) → ∃ cap',l.length + m.length ≤ cap' ∧
            (Builtin.append_ ts ty #[.slice (some ⟨B,o,sp⟩) l.length cap,vx]).run P w = .ok (.slice (some ⟨w.heap.size,0,none⟩) (l ++ m).length cap')
              (w.drew.alloc (.cells (old ++ cs ++ Builtin.zeroCells zv.cells (cap' - (l.length + m.length))) e)) ∧
            (∀ k,k < (l ++ m).length * ie.sz → (old ++ cs ++ Builtin.zeroCells zv.cells (cap' - (l.length + m.length)))[k]? = (old.toList ++ cs.toList)[k]?) ∧
            (old ++ cs ++ Builtin.zeroCells zv.cells (cap' - (l.length + m.length))).size = cap' * ie.sz := fun hle => by
          rw [if_neg hle] at hrun
          generalize hcap : (Question.appendCap (l.length + m.length) cap e).cut (w.tape w.drawn (.appendCap (l.length + m.length) cap e)) = cap' at hrun
          have hge : l.length + m.length ≤ cap' := by rw [← hcap]; simp only [Question.cut]; omega
          refine ⟨cap',hge,by rw [List.length_append]; exact hrun,fun k hk => ?_, ?_⟩
          · rw [List.length_append,Nat.add_mul] at hk
            rw [Array.getElem?_append_left (by rw [Array.size_append]; omega),← Array.toList_append,Array.getElem?_toList]
          · simp only [Array.size_append,zeroCells_size,hcsz,hosz,T.zsz,← T.sz]
            rw [← Nat.add_mul,← Nat.add_mul]; congr 1; omega
        split at h
        · rename_i hex
          obtain ⟨rfl,rfl,rfl⟩ : V.slice ie.sz (l ++ m) false (some next) = r ∧ (next,l.length + m.length) :: own = own' ∧ next + 1 = next' := by simpa using h
          have hcl := hX.hex hex
          obtain ⟨cap',hge,hr1,hr2,hr3⟩ := grow (by omega)
          obtain ⟨G',I',m',hr⟩ := freshTok I (W := w.drew) ⟨rfl,rfl,rfl,rfl⟩ hX.hsz hboth hLb (e := e) (cap := cap') hr2 hr3 (by rw [List.length_append]; exact hge)
          rw [List.length_append] at I'
          exact ⟨_,_,G',hr1,hr false (by simp),I',m'⟩
        · rename_i hex
          have hexf : ex = false := by simpa using hex
          subst hexf
          split at h
          · rename_i id
            split at h
            · rename_i hown
              obtain ⟨rfl,rfl,rfl⟩ : V.slice ie.sz (l ++ m) false (some id) = r ∧ (id,l.length + m.length) :: own.filter (fun q => q.1 != id) = own' ∧ next = next' := by simpa using h
              have hown' : (id,l.length) ∈ own := by simpa using hown
              by_cases hle : l.length + m.length ≤ cap
              · obtain rfl : sp = none := hsp.resolve_right (by omega)
                obtain ⟨w',G',hst,hr,I',m'⟩ := inRow_good (P := P) I hX rfl hown' hel hLcs hle hmne
                rw [if_pos hle] at hrun
                simp only [inRow,add_mk,hst,Result.andThen_ok] at hrun
                exact ⟨_,w',G',hrun,hr,I',m'⟩
              · obtain ⟨cap',hge,hr1,hr2,hr3⟩ := grow hle
                obtain ⟨T0,hT0⟩ := I.own.mem id _ hown'
                obtain ⟨G',I',m',hr⟩ := freshMove I (W := w.drew) ⟨rfl,rfl,rfl,rfl⟩ hX.hsz hboth hLb (e := e) (cap := cap') hr2 hr3 (by rw [List.length_append]; exact hge) hT0 (by rw [List.length_append]; omega)
                rw [List.length_append] at I'
                exact ⟨_,_,G',hr1,hr,I',m'⟩
            · simp at h
          · simp at h
    · simp at h
end
end Go.PV
