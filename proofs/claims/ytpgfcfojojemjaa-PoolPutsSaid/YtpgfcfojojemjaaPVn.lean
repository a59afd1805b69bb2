/- append, as the abstract state has it. -/
import Derived.Test.YtpgfcfojojemjaaPVm
namespace Go.PV
set_option linter.unusedVariables false
set_option linter.unusedSimpArgs false
section
variable {P : Program} {w0 w : World} {G0 G : Gh} {heap : List (List V)} {own : List (Nat × Nat)} {next : Nat}

/-- a fresh row that holds the elements l, spare room behind: all but the token -/
theorem freshRow (I : Inv w0 G0 heap own next w G) {W : World} (hW : W.heap = w.heap ∧ W.os = w.os ∧ W.tape = w.tape ∧ W.output = w.output) {sz : Nat} (hsz : 0 < sz) {l : List V} (hel : ∀ x ∈ l, x.cells.length = sz ∧ x.clean = true) {cells : List Value} (hl : LR w G cells (flat l))
    {arr : Array Value} {e : TypeId} {cap : Nat} (harr : ∀ k,k < l.length * sz → arr[k]? = cells[k]?) (has : arr.size = cap * sz) (hcap : l.length ≤ cap) :
    Inv w0 G0 heap own next (W.alloc (.cells arr e)) (G.addS w.heap.size 0 (l.length * sz)) ∧ Mono w G (W.alloc (.cells arr e)) (G.addS w.heap.size 0 (l.length * sz)) ∧
    (∀ G' : Gh,Mono (W.alloc (.cells arr e)) (G.addS w.heap.size 0 (l.length * sz)) (W.alloc (.cells arr e)) G' → ∀ ex tok,
      (ex = true → cap = l.length) → (∀ id,tok = some id → id < G'.nx ∧ l.length ≤ G'.mx id ∧ ∀ T,G'.tk id l.length = some T → T = ⟨w.heap.size,0,l.length,cap,sz⟩) →
      Rep (W.alloc (.cells arr e)) G' (.slice (some ⟨w.heap.size,0,none⟩) l.length cap) (.slice sz l ex tok)) := by
  obtain ⟨I1,m1⟩ := I.same (w' := W) hW.1 hW.2.1 hW.2.2.1 hW.2.2.2
  have hle : l.length * sz ≤ arr.size := by rw [has]; exact Nat.mul_le_mul_right _ hcap
  obtain ⟨I2,m2⟩ := newRow_good I1 arr e (0,0) (l.length * sz) hle
  rw [hW.1] at I2 m2
  refine ⟨I2,m1.trans m2,fun G' m3 ex tok hex ht => ?_⟩
  have hl' := hl.mono ((m1.trans m2).trans m3)
  refine SliceAt.rep ⟨hcap,hex,hsz,hel,fun k y hk => ?_,ht⟩
  have hkl := (List.getElem?_eq_some_iff.1 hk).1
  rw [flat_length (fun x hx => (hel x hx).1)] at hkl
  have hS : (G.addS w.heap.size 0 (l.length * sz)).S w.heap.size (0 + k) := .inr ⟨rfl,by omega,by omega⟩
  have := m3.S _ _ hS
  refine ⟨this.1,cells.getD k undef, ?_,hl'.rep k y hk⟩
  rw [Nat.zero_add,cell_eq (b := w.heap.size) (by rw [← hW.1]; exact heap_push_new W _),harr k hkl]
  have hc : k < cells.length := by rw [hl.len,flat_length (fun x hx => (hel x hx).1)]; exact hkl
  simp [List.getD,hc]

/-- .. with a new token -/
theorem freshTok (I : Inv w0 G0 heap own next w G) {W : World} (hW : W.heap = w.heap ∧ W.os = w.os ∧ W.tape = w.tape ∧ W.output = w.output) {sz : Nat} (hsz : 0 < sz) {l : List V} (hel : ∀ x ∈ l, x.cells.length = sz ∧ x.clean = true) {cells : List Value} (hl : LR w G cells (flat l))
    {arr : Array Value} {e : TypeId} {cap : Nat} (harr : ∀ k,k < l.length * sz → arr[k]? = cells[k]?) (has : arr.size = cap * sz) (hcap : l.length ≤ cap) :
    ∃ G',Inv w0 G0 heap ((next,l.length) :: own) (next + 1) (W.alloc (.cells arr e)) G' ∧ Mono w G (W.alloc (.cells arr e)) G' ∧
      ∀ ex,(ex = true → cap = l.length) → Rep (W.alloc (.cells arr e)) G' (.slice (some ⟨w.heap.size,0,none⟩) l.length cap) (.slice sz l ex (some next)) := by
  obtain ⟨I1,m1,hr⟩ := freshRow I hW hsz hel hl (e := e) harr has hcap
  let T : Tail := ⟨w.heap.size,0,l.length,cap,sz⟩
  have hnew : (W.alloc (.cells arr e)).heap[w.heap.size]? = some (.cells arr e) := by rw [← hW.1]; exact heap_push_new W _
  obtain ⟨I2,m2⟩ := I1.newTk l.length T ⟨rfl,hcap,hsz⟩ ⟨arr,e,(0,0),hnew,by simp [T,has],fun k _ => by simp⟩
    (fun k hk h => by
      rcases h with h | ⟨_,h1,h2⟩
      · obtain ⟨a1,e1,f1,ha,_⟩ := I.sok _ _ h
        have := some_lt ha; simp [T] at this
      · simp only [Tail.has,T] at hk; omega)
    (fun b k hk hb => by
      have := I.heap.lt (b := b) hb
      simp only [T]
      intro h
      have h' : G.mu b = w.heap.size := h
      omega)
    (fun id m T' k hT hb hk hk' => by
      obtain ⟨a1,e1,f1,ha,_⟩ := I.own.there id m T' hT
      have := some_lt ha
      have hb' : T'.blk = w.heap.size := hb
      omega)
    (fun k hk => .inr I.since.size)
  have hnx : (G.addS w.heap.size 0 (l.length * sz)).nx = next := I.nx
  refine ⟨_,I2,m1.trans m2,fun ex hex => hr _ m2 ex (some next) hex (fun id hid => ?_)⟩
  obtain rfl := Option.some.inj hid
  refine ⟨by simp [Gh.newTk,hnx],by simp [Gh.newTk,hnx],fun T' hT' => ?_⟩
  simp only [Gh.newTk,hnx] at hT'
  simp at hT'
  exact hT'.symm

/-- .. with the token of the row whose place it takes -/
theorem freshMove (I : Inv w0 G0 heap own next w G) {W : World} (hW : W.heap = w.heap ∧ W.os = w.os ∧ W.tape = w.tape ∧ W.output = w.output) {sz : Nat} (hsz : 0 < sz) {l : List V} (hel : ∀ x ∈ l, x.cells.length = sz ∧ x.clean = true) {cells : List Value} (hl : LR w G cells (flat l))
    {arr : Array Value} {e : TypeId} {cap : Nat} (harr : ∀ k,k < l.length * sz → arr[k]? = cells[k]?) (has : arr.size = cap * sz) (hcap : l.length ≤ cap)
    {id n : Nat} {T0 : Tail} (hid : G.tk id n = some T0) (hn : n < l.length) :
    ∃ G',Inv w0 G0 heap ((id,l.length) :: own.filter (fun q => q.1 != id)) next (W.alloc (.cells arr e)) G' ∧ Mono w G (W.alloc (.cells arr e)) G' ∧
      Rep (W.alloc (.cells arr e)) G' (.slice (some ⟨w.heap.size,0,none⟩) l.length cap) (.slice sz l false (some id)) := by
  obtain ⟨I1,m1,hr⟩ := freshRow I hW hsz hel hl (e := e) harr has hcap
  let T : Tail := ⟨w.heap.size,0,l.length,cap,sz⟩
  have hnew : (W.alloc (.cells arr e)).heap[w.heap.size]? = some (.cells arr e) := by rw [← hW.1]; exact heap_push_new W _
  obtain ⟨I2,m2⟩ := I1.moveTk (id := id) (n := n) (n' := l.length) (T := T0) (T' := T) hid hn ⟨rfl,hcap,hsz⟩ ⟨arr,e,(0,0),hnew,by simp [T,has],fun k _ => by simp⟩
    (fun k hk h => by
      rcases h with h | ⟨_,h1,h2⟩
      · obtain ⟨a1,e1,f1,ha,_⟩ := I.sok _ _ h
        have := some_lt ha; simp [T] at this
      · simp only [Tail.has,T] at hk; omega)
    (fun b k hk hb => by
      have := I.heap.lt (b := b) hb
      simp only [T]
      intro h
      have h' : G.mu b = w.heap.size := h
      omega)
    (fun i m T' k hne hT hb hk hk' => by
      obtain ⟨a1,e1,f1,ha,_⟩ := I.own.there i m T' hT
      have := some_lt ha
      have hb' : T'.blk = w.heap.size := hb
      omega)
    (fun k hk => .inr I.since.size)
  refine ⟨_,I2,m1.trans m2,hr _ m2 false (some id) (by simp) (fun i hi => ?_)⟩
  obtain rfl := Option.some.inj hi
  refine ⟨(I.own.ok id n T0 hid).2.2.1,by simp [Gh.moveTk],fun T' hT' => ?_⟩
  simp only [Gh.moveTk] at hT'
  simp at hT'
  exact hT'.symm

/-- in the row that is owned -/
theorem inRow_good (I : Inv w0 G0 heap own next w G) {B o cap sz : Nat} {l m : List V} {tok : Option Nat} (hX : SliceAt w G B o cap sz l false tok) {id : Nat} (htok : tok = some id)
    (hown : (id,l.length) ∈ own) (hel : ∀ x ∈ m,x.cells.length = sz ∧ x.clean = true) {cs : List Value} (hcs : LR w G cs (flat m)) (hle : l.length + m.length ≤ cap) (hm : m ≠ []) :
    ∃ w' G',(storeCells ⟨B,o + l.length * sz,none⟩ cs).run P w = .ok () w' ∧
      Rep w' G' (.slice (some ⟨B,o,none⟩) (l.length + m.length) cap) (.slice sz (l ++ m) false (some id)) ∧
      Inv w0 G0 heap ((id,l.length + m.length) :: own.filter (fun q => q.1 != id)) next w' G' ∧ Mono w G w' G' := by
  obtain ⟨T,hT⟩ := I.own.mem id _ hown
  obtain ⟨hid,hmx,hTe⟩ := hX.ht id htok
  obtain rfl := hTe T hT
  have hml : 0 < m.length := List.length_pos_iff.2 hm
  have hcl : cs.length = m.length * sz := by rw [hcs.len,flat_length (fun x hx => (hel x hx).1)]
  obtain ⟨arr,e,fr,ha,hsize,hfr⟩ := I.own.there id _ _ hT
  simp only at ha hsize hfr
  have hmul : (l.length + m.length) * sz ≤ cap * sz := Nat.mul_le_mul_right _ hle
  have hadd : (l.length + m.length) * sz = l.length * sz + m.length * sz := Nat.add_mul _ _ _
  have hhas : ∀ k,o + l.length * sz ≤ k → k < o + l.length * sz + cs.length → (⟨B,o,l.length,cap,sz⟩ : Tail).has k := fun k h1 h2 => ⟨h1,by simp only; omega⟩
  obtain ⟨arr',U,hin⟩ := setCells_upd B e fr cs (o + l.length * sz) w arr ha (by omega)
  obtain ⟨I1,m1⟩ := I.upd U (fun k hk => I.own.notS id _ _ k hT (hhas k hk.1 hk.2)) (fun k hk => I.since.newTk id _ _ k hT (hhas k hk.1 hk.2)) (fun b k hk hb => I.own.notMu id _ _ b k hT (hhas k hk.1 hk.2) hb)
  have hst : (storeCells ⟨B,o + l.length * sz,none⟩ cs).run P w = .ok () (w.setCells B (o + l.length * sz) cs) := by
    have := run_storeCells_cells (P := P) B (o + l.length * sz) cs 0 w (fun j hj => by
        rw [Nat.add_zero,cell_eq ha]
        simp [show o + l.length * sz + j < arr.size from by omega]) (fun j hj => by
        have := hfr (o + l.length * sz + j) (hhas _ (by omega) (by omega))
        simp only [Nat.add_zero,World.frozen?,ha]
        simpa using this) (fun v hv => by
        obtain ⟨k,hk,rfl⟩ := List.mem_iff_getElem.1 hv
        have hk' : k < (flat m).length := by rw [← hcs.len]; exact hk
        have hr := hcs.rep k _ (List.getElem?_eq_getElem hk')
        have hv : cs.getD k undef = cs[k] := by simp [List.getD,hk]
        rw [hv] at hr
        exact hr.oneCell (V.clean_isCell (flat_clean (fun x hx => (hel x hx).2) _ (List.getElem_mem hk'))))
    rwa [Nat.add_zero] at this
  let T' : Tail := ⟨B,o,l.length + m.length,cap,sz⟩
  have hhas' : ∀ k,T'.has k → (⟨B,o,l.length,cap,sz⟩ : Tail).has k := fun k hk => by
    simp only [Tail.has,T'] at hk ⊢
    omega
  obtain ⟨a2,ha2,hs2⟩ := U.there ha
  obtain ⟨I2,m2⟩ := I1.moveTk (id := id) (n := l.length) (n' := l.length + m.length) (T' := T') hT (by omega) ⟨rfl,hle,hX.hsz⟩
    ⟨a2,e,fr,ha2,by simp only [T']; omega,fun k hk => hfr k (hhas' k hk)⟩
    (fun k hk => I.own.notS id _ ⟨B,o,l.length,cap,sz⟩ k hT (hhas' k hk)) (fun b k hk hb => I.own.notMu id _ ⟨B,o,l.length,cap,sz⟩ b k hT (hhas' k hk) hb)
    (fun i j T1 k hne hT1 hb hk hk1 => hne (I.own.apart i j T1 id _ _ k hT1 hT hb hk1 (hhas' k hk)))
    (fun k hk => I.since.newTk id _ ⟨B,o,l.length,cap,sz⟩ k hT (hhas' k hk))
  obtain ⟨I3,m3⟩ := I2.addS B (o + l.length * sz) (o + (l.length + m.length) * sz) ⟨a2,e,fr,ha2,by omega⟩
    (fun b hb => I.own.notMu id _ _ b (o + l.length * sz) hT (hhas _ (by omega) (by
      have : 0 < m.length * sz := Nat.mul_pos hml hX.hsz
      omega)) hb)
    (fun i j T1 k hT1 hb hk1 hkk => by
      simp only [Gh.moveTk] at hT1
      split at hT1
      · split at hT1
        · obtain rfl := Option.some.inj hT1
          simp only [Tail.has,T'] at hk1
          omega
        · simp at hT1
      · rename_i hne
        exact hne (I.own.apart i j T1 id _ _ k hT1 hT hb hk1 (hhas k hkk.1 (by omega))))
    (fun k h1 h2 => I.since.newTk id _ _ k hT (hhas k h1 (by omega)))
  have mm := (m1.trans m2).trans m3
  refine ⟨_,_,hst, ?_,I3,mm⟩
  have hcs' := hcs.mono mm
  have hlen : (l ++ m).length = l.length + m.length := List.length_append
  have := SliceAt.rep (w := w.setCells B (o + l.length * sz) cs) (G := ((G.moveTk id l.length (l.length + m.length) T').addS B (o + l.length * sz) (o + (l.length + m.length) * sz)))
    (B := B) (o := o) (cap := cap) (sz := sz) (l := l ++ m) (ex := false) (tok := some id)
    ⟨by omega,by simp,hX.hsz,fun x hx => by
      rcases List.mem_append.1 hx with h | h
      · exact hX.hel x h
      · exact hel x h,fun k y hk => by
      have hfl : (flat l).length = l.length * sz := flat_length (fun x hx => (hX.hel x hx).1)
      rw [flat_append] at hk
      rcases Nat.lt_or_ge k (flat l).length with h | h
      · rw [List.getElem?_append_left h] at hk
        obtain ⟨h1,v,h2,h3⟩ := hX.mem k y hk
        have := mm.S _ _ h1
        exact ⟨this.1,v,by rw [this.2]; exact h2,h3.mono mm⟩
      · rw [List.getElem?_append_right h] at hk
        have hk2 := (List.getElem?_eq_some_iff.1 hk).1
        rw [← hcs.len] at hk2
        refine ⟨.inr ⟨rfl,by omega,by omega⟩,cs.getD (k - (flat l).length) undef, ?_,hcs'.rep _ y hk⟩
        have := hin (k - (flat l).length) hk2
        rw [cell_eq U.here',show o + k = o + l.length * sz + (k - (flat l).length) from by omega,this]
        simp [List.getD,hk2],fun i hi => by
      obtain rfl := Option.some.inj hi
      refine ⟨hid,by simp [Gh.addS,Gh.moveTk,hlen],fun T1 hT1 => ?_⟩
      simp only [Gh.addS,Gh.moveTk,hlen] at hT1
      simp at hT1
      rw [hlen]; exact hT1.symm⟩
  rwa [hlen] at this
end
end Go.PV
