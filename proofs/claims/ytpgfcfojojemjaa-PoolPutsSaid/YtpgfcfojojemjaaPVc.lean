/- Stores: into an abstract block, and into a tail that is owned. -/
import Derived.Test.YtpgfcfojojemjaaPVb
namespace Go.PV
set_option linter.unusedVariables false

theorem setCell_at (w : World) (b o : Nat) (v : Value) {arr : Array Value} {e : TypeId} {fr : Nat × Nat} (h : w.heap[b]? = some (.cells arr e fr)) :
    (w.setCell ⟨b,o,none⟩ v).heap[b]? = some (.cells (arr.setIfInBounds o v) e fr) := by
  simp [World.setCell,Array.getElem?_modify,h]
theorem setCell_ne (w : World) (b o k : Nat) (v : Value) (h : k ≠ b) : (w.setCell ⟨b, o, none⟩ v).heap[k]? = w.heap[k]? := by
  simp only [World.setCell,Array.getElem?_modify]
  rw [if_neg (fun e => h e.symm)]

/-- one block's cells have turned, at the places of C alone -/
structure Upd (w w' : World) (B : Nat) (arr arr' : Array Value) (e : TypeId) (fr : Nat × Nat) (C : Nat → Prop) : Prop where
  os : w'.os = w.os
  tape : w'.tape = w.tape
  output : w'.output = w.output
  size : w'.heap.size = w.heap.size
  here : w.heap[B]? = some (.cells arr e fr)
  here' : w'.heap[B]? = some (.cells arr' e fr)
  asize : arr'.size = arr.size
  out : ∀ o : Nat, ¬ C o → arr'[o]? = arr[o]?
  other : ∀ k,k ≠ B → w'.heap[k]? = w.heap[k]?

theorem setCells_upd (B : Nat) (e : TypeId) (fr : Nat × Nat) : ∀ (vs : List Value) (o : Nat) (w : World) (arr : Array Value), w.heap[B]? = some (.cells arr e fr) → o + vs.length ≤ arr.size →
    ∃ arr',Upd w (w.setCells B o vs) B arr arr' e fr (fun k => o ≤ k ∧ k < o + vs.length) ∧ ∀ k,k < vs.length → arr'[o + k]? = vs[k]?
  | [],o,w,arr,h,_ => ⟨arr,⟨rfl,rfl,rfl,rfl,h,h,rfl,fun _ _ => rfl,fun _ _ => rfl⟩,fun k hk => by simp at hk⟩
  | v :: r,o,w,arr,h,hl => by
    simp only [List.length_cons] at hl
    obtain ⟨arr',u,hv⟩ := setCells_upd B e fr r (o + 1) (w.setCell ⟨B,o,none⟩ v) (arr.setIfInBounds o v) (setCell_at w B o v h) (by simp; omega)
    refine ⟨arr',⟨u.os,u.tape,u.output,u.size.trans (by simp [World.setCell]),h,u.here',by rw [u.asize]; simp, ?_, ?_⟩, ?_⟩
    · intro k hk
      simp only [List.length_cons] at hk
      rw [u.out k (by omega),Array.getElem?_setIfInBounds_ne (by omega)]
    · intro k hk
      rw [World.setCells,u.other k hk,setCell_ne w B o k v hk]
    · intro k hk
      cases k with
      | zero =>
        rw [Nat.add_zero,u.out o (by omega)]
        simp [Array.getElem?_setIfInBounds]
        omega
      | succ k =>
        have := hv k (by simpa using hk)
        rw [show o + (k + 1) = o + 1 + k from by omega,this]
        simp

theorem Upd.mono {w w' : World} {B : Nat} {arr arr' : Array Value} {e : TypeId} {fr : Nat × Nat} {C : Nat → Prop} (U : Upd w w' B arr arr' e fr C) {G : Gh}
    (hC : ∀ o,C o → ¬ G.S B o) : Mono w G w' G := by
  refine ⟨fun b o h => ⟨h, ?_⟩,Nat.le_refl _,fun _ _ => rfl,Nat.le_refl _,fun _ _ => Nat.le_refl _,fun _ _ _ _ _ h => h⟩
  by_cases hb : b = B
  · subst hb
    rw [cell_eq U.here',cell_eq U.here,U.out o (fun hc => hC o hc h)]
  · exact cell_heap (U.other b hb)

theorem Upd.since {w w' : World} {B : Nat} {arr arr' : Array Value} {e : TypeId} {fr : Nat × Nat} {C : Nat → Prop} (U : Upd w w' B arr arr' e fr C)
    {w0 : World} {G0 G : Gh} (s : Since w0 G0 w G) (hC : ∀ o,C o → Wr G0 B o ∨ w0.heap.size ≤ B) : Since w0 G0 w' G := by
  refine ⟨U.os.trans s.os,U.tape.trans s.tape,U.output.trans s.output,by rw [U.size]; exact s.size, ?_, ?_,s.newS,s.newMu,s.newTk,s.tkId,s.mxKeep⟩
  · intro k hk hw
    by_cases hb : k = B
    · subst hb
      have h1 : arr' = arr := by
        apply Array.ext_getElem?
        intro o
        refine U.out o (fun hc => ?_)
        rcases hC o hc with h | h
        · exact hw o h
        · omega
      rw [U.here',h1,← U.here]; exact s.same k hk hw
    · rw [U.other k hb]; exact s.same k hk hw
  · intro k a0 e0 f0 hk
    obtain ⟨a1,h1,h2,h3⟩ := s.part k a0 e0 f0 hk
    by_cases hb : k = B
    · subst hb
      rw [U.here] at h1
      obtain ⟨rfl,rfl,rfl⟩ : arr = a1 ∧ e = e0 ∧ fr = f0 := by simpa using h1
      refine ⟨arr',U.here',U.asize.trans h2,fun o ho => ?_⟩
      rw [U.out o (fun hc => ?_)]
      · exact h3 o ho
      · rcases hC o hc with h | h
        · exact ho h
        · have := some_lt hk; omega
    · exact ⟨a1,by rw [U.other k hb]; exact h1,h2,h3⟩

theorem Upd.there {w w' : World} {B : Nat} {arr arr' : Array Value} {e : TypeId} {fr : Nat × Nat} {C : Nat → Prop} (U : Upd w w' B arr arr' e fr C)
    {k : Nat} {a : Array Value} {e1 : TypeId} {f1 : Nat × Nat} (h : w.heap[k]? = some (.cells a e1 f1)) : ∃ a',w'.heap[k]? = some (.cells a' e1 f1) ∧ a'.size = a.size := by
  by_cases hb : k = B
  · subst hb
    rw [U.here] at h
    obtain ⟨rfl,rfl,rfl⟩ : arr = a ∧ e = e1 ∧ fr = f1 := by simpa using h
    exact ⟨arr',U.here',U.asize⟩
  · exact ⟨a,by rw [U.other k hb]; exact h,rfl⟩

/-- a write outside the abstract blocks and outside what lasts -/
theorem Inv.upd {w0 : World} {G0 : Gh} {heap own next} {w : World} {G : Gh} (I : Inv w0 G0 heap own next w G) {w' : World} {B : Nat} {arr arr' : Array Value} {e : TypeId} {fr : Nat × Nat} {C : Nat → Prop}
    (U : Upd w w' B arr arr' e fr C) (hS : ∀ o,C o → ¬ G.S B o) (hw : ∀ o,C o → Wr G0 B o ∨ w0.heap.size ≤ B) (hmu : ∀ b o,C o → b < G.nb → G.mu b ≠ B) :
    Inv w0 G0 heap own next w' G ∧ Mono w G w' G := by
  have m := U.mono hS
  refine ⟨⟨⟨I.heap.nb, ?_,I.heap.inj,I.heap.notS⟩,⟨I.own.mem,I.own.ok, ?_,I.own.notS,I.own.notMu,I.own.apart⟩, ?_,U.since I.since hw,I.mono.trans m,I.nx⟩,m⟩
  · intro b cs hb
    obtain ⟨a,e1,ha,hs,hr⟩ := I.heap.blk b cs hb
    have hbn : b < G.nb := by rw [I.heap.nb]; exact (List.getElem?_eq_some_iff.1 hb).1
    have : w'.heap[G.mu b]? = w.heap[G.mu b]? := by
      by_cases h : G.mu b = B
      · have h1 : arr' = arr := by
          apply Array.ext_getElem?
          intro o
          exact U.out o (fun hc => hmu b o hc hbn h)
        rw [h,U.here',h1,U.here]
      · exact U.other _ h
    exact ⟨a,e1,by rw [this]; exact ha,hs,fun k y hk => ⟨(hr k y hk).1,(hr k y hk).2.mono m⟩⟩
  · intro id _ T hT
    obtain ⟨a,e1,f1,ha,hs,hf⟩ := I.own.there id _ T hT
    obtain ⟨a',ha',hs'⟩ := U.there ha
    exact ⟨a',e1,f1,ha',by omega,hf⟩
  · intro b o h
    obtain ⟨a,e1,f1,ha,hs⟩ := I.sok b o h
    obtain ⟨a',ha',hs'⟩ := U.there ha
    exact ⟨a',e1,f1,ha',by omega⟩

/-- cells written one behind the other -/
def wrL {α : Type} (cs : List α) (o : Nat) : List α → List α
  | [] => cs
  | y :: ys => wrL (cs.set o y) (o + 1) ys
theorem wrL_length {α : Type} : ∀ (ys : List α) (cs : List α) (o : Nat), (wrL cs o ys).length = cs.length
  | [],_,_ => rfl
  | y :: ys,cs,o => by rw [wrL,wrL_length ys]; simp
theorem wrL_out {α : Type} : ∀ (ys : List α) (cs : List α) (o k : Nat), ¬ (o ≤ k ∧ k < o + ys.length) → (wrL cs o ys)[k]? = cs[k]?
  | [],_,_,_,_ => rfl
  | y :: ys,cs,o,k,h => by
    simp only [List.length_cons] at h
    rw [wrL,wrL_out ys _ _ _ (by omega),List.getElem?_set_ne (by omega)]
theorem wrL_in {α : Type} : ∀ (ys : List α) (cs : List α) (o k : Nat), o + ys.length ≤ cs.length → k < ys.length → (wrL cs o ys)[o + k]? = ys[k]?
  | [],_,_,k,_,h => by simp at h
  | y :: ys,cs,o,0,hl,_ => by
    simp only [List.length_cons] at hl
    rw [wrL,Nat.add_zero,wrL_out ys _ _ _ (by omega)]
    have : o < cs.length := by omega
    simp [this]
  | y :: ys,cs,o,k + 1,hl,h => by
    simp only [List.length_cons] at hl h
    have := wrL_in ys (cs.set o y) (o + 1) k (by simp; omega) (by omega)
    rw [wrL,show o + (k + 1) = o + 1 + k from by omega,this]
    simp

theorem Inv.store {w0 : World} {G0 : Gh} {heap own next} {w : World} {G : Gh} (I : Inv w0 G0 heap own next w G) {b o : Nat} {cs ys : List V} {vs : List Value}
    (hb : heap[b]? = some cs) (hl : o + ys.length ≤ cs.length) (hvs : vs.length = ys.length)
    (hr : ∀ k y,ys[k]? = some y → y.isCell = true ∧ Rep w G (vs.getD k undef) y) :
    Inv w0 G0 (heap.set b (wrL cs o ys)) own next (w.setCells (G.mu b) o vs) G ∧ Mono w G (w.setCells (G.mu b) o vs) G := by
  obtain ⟨arr,e,ha,hs,hrr⟩ := I.heap.blk b cs hb
  have hbn : b < G.nb := by rw [I.heap.nb]; exact (List.getElem?_eq_some_iff.1 hb).1
  obtain ⟨arr',U,hin⟩ := setCells_upd (G.mu b) e (0,0) vs o w arr ha (by omega)
  have m : Mono w G (w.setCells (G.mu b) o vs) G := U.mono (fun o' _ => I.heap.notS b o' hbn)
  have hw : ∀ o',o ≤ o' ∧ o' < o + vs.length → Wr G0 (G.mu b) o' ∨ w0.heap.size ≤ G.mu b := fun o' _ => by
    by_cases h : b < G0.nb
    · exact .inl (.inl ⟨b,h,(I.mono.mu b h).symm⟩)
    · exact .inr (I.since.newMu b (by omega) hbn)
  refine ⟨⟨⟨by simpa using I.heap.nb, ?_,I.heap.inj,I.heap.notS⟩,⟨I.own.mem,I.own.ok, ?_,I.own.notS,I.own.notMu,I.own.apart⟩, ?_,U.since I.since hw,I.mono.trans m,I.nx⟩,m⟩
  · intro b' cs' hb'
    by_cases h : b = b'
    · subst h
      have hlt : b < heap.length := (List.getElem?_eq_some_iff.1 hb).1
      obtain rfl : wrL cs o ys = cs' := by simpa [List.getElem?_set,hlt] using hb'
      refine ⟨arr',e,U.here',by rw [U.asize,hs,wrL_length],fun k y hk => ?_⟩
      by_cases hko : o ≤ k ∧ k < o + ys.length
      · obtain ⟨j,rfl⟩ : ∃ j,k = o + j := ⟨k - o,by omega⟩
        rw [wrL_in ys cs o j hl (by omega)] at hk
        have h1 := hr j y hk
        have h2 : arr'.getD (o + j) undef = vs.getD j undef := by
          rw [Array.getD_eq_getD_getElem?,hin j (by omega),List.getD]
        rw [h2]; exact ⟨h1.1,h1.2.mono m⟩
      · rw [wrL_out ys cs o k hko] at hk
        have h1 := hrr k y hk
        have h2 : arr'.getD k undef = arr.getD k undef := by
          rw [Array.getD_eq_getD_getElem?,U.out k (by omega),← Array.getD_eq_getD_getElem?]
        rw [h2]; exact ⟨h1.1,h1.2.mono m⟩
    · rw [List.getElem?_set_ne h] at hb'
      obtain ⟨a,e1,ha1,hs1,hr1⟩ := I.heap.blk b' cs' hb'
      have hbn' : b' < G.nb := by rw [I.heap.nb]; exact (List.getElem?_eq_some_iff.1 hb').1
      exact ⟨a,e1,by rw [U.other _ (fun hm => h (I.heap.inj b b' hbn hbn' hm.symm))]; exact ha1,hs1,fun k y hk => ⟨(hr1 k y hk).1,(hr1 k y hk).2.mono m⟩⟩
  · intro id _ T hT
    obtain ⟨a,e1,f1,ha,hs,hf⟩ := I.own.there id _ T hT
    obtain ⟨a',ha',hs'⟩ := U.there ha
    exact ⟨a',e1,f1,ha',by omega,hf⟩
  · intro b o h
    obtain ⟨a,e1,f1,ha,hs⟩ := I.sok b o h
    obtain ⟨a',ha',hs'⟩ := U.there ha
    exact ⟨a',e1,f1,ha',by omega⟩

/-- the token of an owned slice handed on: to the longer slice in the same row, or (another row) to the one that took its place; or let go -/
def Gh.moveTk (G : Gh) (id n n' : Nat) (T' : Tail) : Gh :=
  { G with mx := fun i => if i = id then n' else G.mx i,tk := fun i m => if i = id then (if m = n' then some T' else none) else G.tk i m }

theorem Inv.moveTk {w0 : World} {G0 : Gh} {heap own next} {w : World} {G : Gh} (I : Inv w0 G0 heap own next w G) {id n n' : Nat} {T T' : Tail}
    (hid : G.tk id n = some T) (hn : n < n') (hT : T'.len = n' ∧ n' ≤ T'.cap ∧ 0 < T'.sz)
    (hth : ∃ arr e fr,w.heap[T'.blk]? = some (.cells arr e fr) ∧ T'.off + T'.cap * T'.sz ≤ arr.size ∧ ∀ k,T'.has k → ¬ (fr.1 ≤ k ∧ k < fr.2))
    (hS : ∀ k,T'.has k → ¬ G.S T'.blk k) (hmu : ∀ b k,T'.has k → b < G.nb → G.mu b ≠ T'.blk)
    (hap : ∀ i m T1 k,i ≠ id → G.tk i m = some T1 → T1.blk = T'.blk → T'.has k → T1.has k → False)
    (hw : ∀ k,T'.has k → Wr G0 T'.blk k ∨ w0.heap.size ≤ T'.blk) :
    Inv w0 G0 heap ((id,n') :: own.filter (fun q => q.1 != id)) next w (G.moveTk id n n' T') ∧ Mono w G w (G.moveTk id n n' T') := by
  have hok := I.own.ok id n T hid
  have cas : ∀ i m T1,(G.moveTk id n n' T').tk i m = some T1 → (i = id ∧ m = n' ∧ T1 = T') ∨ (i ≠ id ∧ G.tk i m = some T1) := fun i m T1 h => by
    simp only [Gh.moveTk] at h
    split at h
    · rename_i hi
      split at h
      · rename_i hm; exact .inl ⟨hi,hm,by simpa using h.symm⟩
      · simp at h
    · rename_i hi; exact .inr ⟨hi,h⟩
  have m : Mono w G w (G.moveTk id n n' T') := by
    refine ⟨fun _ _ h => ⟨h,rfl⟩,Nat.le_refl _,fun _ _ => rfl,Nat.le_refl _,fun i h => ?_,fun i m1 T1 h h' h'' => ?_⟩
    · simp only [Gh.moveTk]; split
      · rename_i hi; subst hi; omega
      · exact Nat.le_refl _
    · rcases cas i m1 T1 h'' with ⟨rfl,rfl,_⟩ | h1
      · omega
      · exact h1.2
  have s := I.since
  refine ⟨⟨⟨I.heap.nb, ?_,I.heap.inj,I.heap.notS⟩,⟨?_, ?_, ?_, ?_, ?_, ?_⟩,I.sok,
    ⟨s.os,s.tape,s.output,s.size,s.same,s.part,s.newS,s.newMu, ?_, ?_, ?_⟩,I.mono.trans m,I.nx⟩,m⟩
  · intro b cs hb
    obtain ⟨arr,e,ha,hs,hr⟩ := I.heap.blk b cs hb
    exact ⟨arr,e,ha,hs,fun k y hk => ⟨(hr k y hk).1,(hr k y hk).2.mono m⟩⟩
  · intro i k hk
    rcases List.mem_cons.1 hk with h | h
    · obtain ⟨rfl,rfl⟩ := Prod.mk.inj h
      exact ⟨T',by simp [Gh.moveTk]⟩
    · have h' := List.mem_filter.1 h
      obtain ⟨T1,hT1⟩ := I.own.mem i k h'.1
      refine ⟨T1, ?_⟩
      have : i ≠ id := by simpa using h'.2
      simp only [Gh.moveTk]; rw [if_neg this]; exact hT1
  · intro i k T1 h
    rcases cas i k T1 h with ⟨rfl,rfl,rfl⟩ | ⟨h1,h2⟩
    · exact ⟨hT.1,hT.2.1,hok.2.2.1,by simp [Gh.moveTk],hT.2.2⟩
    · obtain ⟨a,b,c,d,e⟩ := I.own.ok i k T1 h2
      refine ⟨a,b,c, ?_,e⟩
      simp only [Gh.moveTk]; rw [if_neg h1]; exact d
  · intro i k T1 h
    rcases cas i k T1 h with ⟨rfl,rfl,rfl⟩ | ⟨h1,h2⟩
    · exact hth
    · exact I.own.there i k T1 h2
  · intro i k T1 j h hj
    rcases cas i k T1 h with ⟨rfl,rfl,rfl⟩ | ⟨h1,h2⟩
    · exact hS j hj
    · exact I.own.notS i k T1 j h2 hj
  · intro i k T1 b j h hj hb
    rcases cas i k T1 h with ⟨rfl,rfl,rfl⟩ | ⟨h1,h2⟩
    · exact hmu b j hj hb
    · exact I.own.notMu i k T1 b j h2 hj hb
  · intro i k T1 i' k' T2 j h h' hb hj hj'
    rcases cas i k T1 h with ⟨rfl,rfl,rfl⟩ | ⟨h1,h2⟩ <;> rcases cas i' k' T2 h' with ⟨rfl,rfl,rfl⟩ | ⟨h1',h2'⟩
    · rfl
    · exact (hap i' k' T2 j h1' h2' hb.symm hj hj').elim
    · exact (hap i k T1 j h1 h2 hb hj' hj).elim
    · exact I.own.apart i k T1 i' k' T2 j h2 h2' hb hj hj'
  · intro i k T1 j h hj
    rcases cas i k T1 h with ⟨rfl,rfl,rfl⟩ | ⟨h1,h2⟩
    · exact hw j hj
    · exact s.newTk i k T1 j h2 hj
  · intro i k T1 h
    rcases cas i k T1 h with ⟨rfl,rfl,rfl⟩ | ⟨h1,h2⟩
    · exact s.tkId i n T hid
    · exact s.tkId i k T1 h2
  · intro i hi hno
    simp only [Gh.moveTk]
    split
    · rename_i he
      subst he
      rcases s.tkId i n T hid with ⟨n0,T0,h0⟩ | h0
      · rw [hno n0] at h0; simp at h0
      · omega
    · exact s.mxKeep i hi hno

end Go.PV
