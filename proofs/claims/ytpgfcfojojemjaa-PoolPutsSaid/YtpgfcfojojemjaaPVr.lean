/- A call that is handed blocks and tokens. -/
import Derived.Test.YtpgfcfojojemjaaPVq
namespace Go.PV
set_option linter.unusedVariables false
set_option linter.unusedSimpArgs false

/-- the callee's names for blocks, as the caller has them -/
def renP (ρ : List Nat) : V → V
  | .ptr i off => match ρ[i]? with
    | some b => .ptr b off
    | none => .dead
  | .agg _ | .tup _ | .func _ (_ :: _) => .dead
  | v => v
def renC (ρ : List Nat) : V → V
  | .func fn caps => .func fn (caps.map fun c => renP ρ c.bareC)
  | v => renP ρ v
def ren1 (ρ : List Nat) : V → V
  | .agg cs => .agg (cs.map (renC ρ))
  | v => renC ρ v
def ren (ρ : List Nat) : V → V
  | .tup vs => .tup (vs.map (ren1 ρ))
  | v => ren1 ρ v

/-- does a value of the callee's name blocks below n alone, and is it of the shapes that can be renamed? -/
def okP (n : Nat) : V → Bool
  | .ptr i _ => decide (i < n)
  | .agg _ | .tup _ | .func _ (_ :: _) => false
  | _ => true
def okC (n : Nat) : V → Bool
  | .func _ caps => caps.all fun c => okP n c && c.tokC.isEmpty
  | v => okP n v
def ok1 (n : Nat) : V → Bool
  | .agg cs => cs.all (okC n)
  | v => okC n v
def okV (n : Nat) : V → Bool
  | .tup vs => vs.all (ok1 n)
  | v => ok1 n v

section
variable {P : Program} {w w' : World} {G G' : Gh}

/-- the callee's ghost G' and the caller's G agree through ρ -/
structure Thru (ρ : List Nat) (w : World) (G : Gh) (w' : World) (G' : Gh) : Prop where
  S : Same w G w' G'
  mu : ∀ i b, ρ[i]? = some b → i < G.nb → b < G'.nb ∧ G'.mu b = G.mu i
  nx : G.nx ≤ G'.nx
  mx : ∀ id,id < G.nx → G.mx id ≤ G'.mx id
  tk : ∀ id n T,G.tk id n = some T → G'.tk id n = some T

/-- the tokens of a value are owned -/
def Owned (G : Gh) (ts : List (Nat × Nat)) : Prop := ∀ q ∈ ts, ∃ T, G.tk q.1 q.2 = some T

theorem Rep.thruP {ρ : List Nat} (m : Thru ρ w G w' G') {v : Value} {x : V} (h : Rep w G v x) (ht : Owned G x.tokC) : Rep w' G' v (renP ρ x) := by
  cases x with
  | ptr i off =>
    cases h with
    | ptr _ _ hi =>
    simp only [renP]
    split
    · rename_i b hb
      obtain ⟨h1,h2⟩ := m.mu i b hb hi
      rw [← h2]
      exact .ptr b off h1
    · exact .dead _
  | agg cs => exact .dead _
  | tup cs => exact .dead _
  | dead => exact .dead _
  | func fn caps =>
    cases caps with
    | nil => exact h.clean m.S rfl
    | cons c cs => exact .dead _
  | slice sz l ex tok =>
    simp only [renP]
    obtain ⟨B,o,cap,sp,rfl,hX,hsp⟩ := h.slice_inv
    have hb := (hX.repS hsp).bareC.clean m.S rfl
    simp only [V.bareC] at hb
    obtain ⟨B',o',cap',sp',he,hX',hsp'⟩ := hb.slice_inv
    injection he with e1 e2 e3
    obtain ⟨rfl,rfl,rfl⟩ : B = B' ∧ o = o' ∧ sp = sp' := by simpa using e1
    subst e3
    refine SliceAt.repS ⟨hX'.hcap,hX'.hex,hX'.hsz,hX'.hel,hX'.mem,fun id hid => ?_⟩ hsp'
    obtain ⟨h1,h2,h3⟩ := hX.ht id hid
    subst hid
    obtain ⟨T0,hT0⟩ := ht (id,l.length) (by simp [V.tokC])
    refine ⟨Nat.lt_of_lt_of_le h1 m.nx,Nat.le_trans h2 (m.mx id h1),fun T hT => ?_⟩
    have := m.tk id _ T0 hT0
    rw [hT] at this
    obtain rfl := Option.some.inj this
    exact h3 T hT0
  | bool b => exact h.clean m.S rfl
  | int k n => exact h.clean m.S rfl
  | str s => exact h.clean m.S rfl
  | nilp => exact h.clean m.S rfl
  | rptr cs => exact h.clean m.S rfl
  | nils => exact h.clean m.S rfl
  | nilf => exact h.clean m.S rfl
theorem Rep.thruC {ρ : List Nat} (m : Thru ρ w G w' G') {v : Value} {x : V} (h : Rep w G v x) (ht : Owned G x.tokC) : Rep w' G' v (renC ρ x) := by
  cases x with
  | func fn caps =>
    cases h with
    | func _ _ cvs hs hR =>
    refine .func fn _ cvs (by simpa using hs) (fun k y hk => ?_)
    rw [List.getElem?_map,Option.map_eq_some_iff] at hk
    obtain ⟨z,hz,rfl⟩ := hk
    exact (hR k z hz).bareC.thruP m (by rw [tokC_bare]; intro q hq; simp at hq)
  | _ => exact h.thruP m ht
theorem Rep.thru1 {ρ : List Nat} (m : Thru ρ w G w' G') {v : Value} {x : V} (h : Rep w G v x) (ht : Owned G (x.cells.flatMap V.tokC)) : Rep w' G' v (ren1 ρ x) := by
  cases x with
  | agg cs =>
    cases h with
    | agg vs _ hs hR =>
    refine .agg vs _ (by simpa using hs) (fun k y hk => ?_)
    rw [List.getElem?_map,Option.map_eq_some_iff] at hk
    obtain ⟨z,hz,rfl⟩ := hk
    exact (hR k z hz).thruC m (fun q hq => ht q (List.mem_flatMap.2 ⟨z,List.mem_of_getElem? hz,hq⟩))
  | _ => exact h.thruC m (by simpa [V.cells] using ht)
theorem Rep.thru {ρ : List Nat} (m : Thru ρ w G w' G') {v : Value} {x : V} (h : Rep w G v x) (ht : Owned G x.toks) : Rep w' G' v (ren ρ x) := by
  cases x with
  | tup cs =>
    cases h with
    | tup vs _ hs hR =>
    refine .tup vs _ (by simpa using hs) (fun k y hk => ?_)
    rw [List.getElem?_map,Option.map_eq_some_iff] at hk
    obtain ⟨z,hz,rfl⟩ := hk
    exact (hR k z hz).thru1 m (fun q hq => ht q (List.mem_flatMap.2 ⟨z,List.mem_of_getElem? hz,hq⟩))
  | _ => exact h.thru1 m ht

/-- back: from the caller's to the callee's -/
structure Back (ρ : List Nat) (w : World) (G : Gh) (Gc : Gh) : Prop where
  S : ∀ b o,G.S b o → Gc.S b o
  mu : ∀ i b, ρ[i]? = some b → b < G.nb → i < Gc.nb ∧ Gc.mu i = G.mu b
  nx : G.nx ≤ Gc.nx
  mx : ∀ id,id < G.nx → G.mx id ≤ Gc.mx id
  tk : ∀ id n T,id < G.nx → n ≤ G.mx id → Gc.tk id n = some T → G.tk id n = some T

theorem Rep.backP {ρ : List Nat} (m : Back ρ w G G') {v : Value} {x : V} (hx : okP ρ.length x = true) (h : Rep w G v (renP ρ x)) : Rep w G' v x := by
  have hS : Same w G w G' := fun b o h => ⟨m.S b o h,rfl⟩
  cases x with
  | ptr i off =>
    have hi : i < ρ.length := by simpa [okP] using hx
    simp only [renP,List.getElem?_eq_getElem hi] at h
    cases h with
    | ptr _ _ hb =>
    obtain ⟨h1,h2⟩ := m.mu i _ (List.getElem?_eq_getElem hi) hb
    rw [← h2]
    exact .ptr i off h1
  | agg cs => simp [okP] at hx
  | tup cs => simp [okP] at hx
  | dead => exact .dead _
  | func fn caps =>
    cases caps with
    | nil => exact Rep.clean hS h rfl
    | cons c cs => simp [okP] at hx
  | slice sz l ex tok =>
    simp only [renP] at h
    obtain ⟨B,o,cap,sp,rfl,hX,hsp⟩ := h.slice_inv
    have hb := (hX.repS hsp).bareC.clean hS rfl
    simp only [V.bareC] at hb
    obtain ⟨B',o',cap',sp',he,hX',hsp'⟩ := hb.slice_inv
    injection he with e1 e2 e3
    obtain ⟨rfl,rfl,rfl⟩ : B = B' ∧ o = o' ∧ sp = sp' := by simpa using e1
    subst e3
    refine SliceAt.repS ⟨hX'.hcap,hX'.hex,hX'.hsz,hX'.hel,hX'.mem,fun id hid => ?_⟩ hsp'
    obtain ⟨h1,h2,h3⟩ := hX.ht id hid
    exact ⟨Nat.lt_of_lt_of_le h1 m.nx,Nat.le_trans h2 (m.mx id h1),fun T hT => h3 T (m.tk id _ T h1 h2 hT)⟩
  | bool b => exact Rep.clean hS h rfl
  | int k n => exact Rep.clean hS h rfl
  | str s => exact Rep.clean hS h rfl
  | nilp => exact Rep.clean hS h rfl
  | rptr cs => exact Rep.clean hS h rfl
  | nils => exact Rep.clean hS h rfl
  | nilf => exact Rep.clean hS h rfl
theorem Rep.backC {ρ : List Nat} (m : Back ρ w G G') {v : Value} {x : V} (hx : okC ρ.length x = true) (h : Rep w G v (renC ρ x)) : Rep w G' v x := by
  cases x with
  | func fn caps =>
    simp only [renC] at h
    cases h with
    | func _ _ cvs hs hR =>
    refine .func fn _ cvs (by simpa using hs) (fun k y hk => ?_)
    have hy := List.all_eq_true.1 hx y (List.mem_of_getElem? hk)
    simp only [Bool.and_eq_true] at hy
    have hb : y.bareC = y := by
      cases y <;> first | rfl | skip
      rename_i sz l ex tok
      cases tok with
      | none => rfl
      | some t => simp [V.tokC] at hy
    have := hR k _ (by rw [List.getElem?_map,hk]; rfl)
    dsimp only at this
    rw [hb] at this
    exact Rep.backP m hy.1 this
  | _ => exact Rep.backP m hx h
theorem Rep.back1 {ρ : List Nat} (m : Back ρ w G G') {v : Value} {x : V} (hx : ok1 ρ.length x = true) (h : Rep w G v (ren1 ρ x)) : Rep w G' v x := by
  cases x with
  | agg cs =>
    simp only [ren1] at h
    cases h with
    | agg vs _ hs hR =>
    refine .agg vs _ (by simpa using hs) (fun k y hk => ?_)
    exact Rep.backC m (List.all_eq_true.1 hx y (List.mem_of_getElem? hk)) (hR k _ (by rw [List.getElem?_map,hk]; rfl))
  | _ => exact Rep.backC m hx h

/-- is the callee's argument the caller's value, its tokens handed over or not? -/
def Fits (ρ : List Nat) (x x' : V) : Prop := ok1 ρ.length x' = true ∧ (ren1 ρ x' = x ∨ ren1 ρ x' = x.bare1)
def FitsC (ρ : List Nat) (x x' : V) : Prop := okC ρ.length x' = true ∧ x'.isCell = true ∧ (renC ρ x' = x ∨ renC ρ x' = x.bareC)

/-- the caller's heap with the blocks that were handed over -/
def setAll (heap : List (List V)) : List Nat → List (List V) → List (List V)
  | b :: ρ,cs :: h' => setAll (heap.set b cs) ρ h'
  | _,_ => heap
theorem setAll_length : ∀ (ρ : List Nat) (h' : List (List V)) (heap : List (List V)), (setAll heap ρ h').length = heap.length
  | [],_,_ => by simp [setAll]
  | b :: ρ, [],_ => by simp [setAll]
  | b :: ρ,cs :: h',heap => by rw [setAll,setAll_length ρ h']; simp
theorem setAll_out : ∀ (ρ : List Nat) (h' : List (List V)) (heap : List (List V)) (b : Nat), b ∉ ρ → (setAll heap ρ h')[b]? = heap[b]?
  | [],_,_,_,_ => by simp [setAll]
  | b' :: ρ, [],_,_,_ => by simp [setAll]
  | b' :: ρ,cs :: h',heap,b,h => by
    rw [setAll,setAll_out ρ h' _ b (fun hb => h (by simp [hb])),List.getElem?_set_ne (fun e => h (by simp [e]))]
theorem setAll_in : ∀ (ρ : List Nat) (h' : List (List V)) (heap : List (List V)) (i b : Nat) (cs : List V), ρ.Nodup → ρ[i]? = some b → h'[i]? = some cs → b < heap.length → (setAll heap ρ h')[b]? = some cs
  | b' :: ρ,c :: h',heap,0,b,cs,hn,hb,hc,hl => by
    obtain rfl : b' = b := by simpa using hb
    obtain rfl : c = cs := by simpa using hc
    rw [setAll,setAll_out ρ h' _ b' (List.nodup_cons.1 hn).1]
    simp [hl]
  | b' :: ρ,c :: h',heap,i + 1,b,cs,hn,hb,hc,hl => by
    rw [setAll]
    exact setAll_in ρ h' _ i b cs (List.nodup_cons.1 hn).2 (by simpa using hb) (by simpa using hc) (by simpa using hl)
  | [],_,_,_,_,_,_,hb,_,_ => by simp at hb
  | _ :: _, [],_,_,_,_,_,_,hc,_ => by simp at hc

/-- blocks' names behind the call: those handed over, then the new ones -/
def rhoAfter (n : Nat) (ρ : List Nat) (m : Nat) : List Nat := ρ ++ (List.range (m - ρ.length)).map (n + ·)
/-- the caller's heap behind the call -/
def heapAfter (heap : List (List V)) (ρ : List Nat) (h' : List (List V)) : List (List V) :=
  setAll heap ρ ((h'.take ρ.length).map fun cs => cs.map (renC (rhoAfter heap.length ρ h'.length))) ++ (h'.drop ρ.length).map fun cs => cs.map (renC (rhoAfter heap.length ρ h'.length))
/-- its tokens: those that came back, those that it kept -/
def ownAfter (own given back : List (Nat × Nat)) : List (Nat × Nat) := back ++ own.filter fun q => !(given.any fun g => g.1 == q.1)
end
end Go.PV
