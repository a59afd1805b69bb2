/- Contracts over abstract values; a call. -/
import Derived.Test.YtpgfcfojojemjaaPVp
namespace Go.PV
set_option linter.unusedVariables false
set_option linter.unusedSimpArgs false

/-- the tokens that a value bears -/
def V.tokC : V → List (Nat × Nat)
  | .slice _ l _ (some id) => [(id,l.length)]
  | _ => []
def V.toks : V → List (Nat × Nat)
  | .tup vs => vs.flatMap fun v => v.cells.flatMap V.tokC
  | v => v.cells.flatMap V.tokC
def ownOf (args : List V) (h : List (List V)) : List (Nat × Nat) := args.flatMap V.toks ++ h.flatMap fun cs => cs.flatMap V.tokC

/-- THE CONTRACT: of these arguments and this heap the call returns, and what it returns and leaves is as R says -/
def Enters (P : Program) (f : FuncId) : Prop := ∃ fn, P.funcs[f]? = some fn ∧ (fn.name == "runtime.NumGoroutine") = false ∧ fn.body.isNone = false
def VC (P : Program) (f : FuncId) (args : List V) (h : List (List V)) (R : V → List (List V) → Prop) : Prop :=
  Enters P f ∧ ∀ (w : World) (G : Gh) (cargs : Array Value),LR w G cargs.toList args → HeapOk w G h → OwnOk w G (ownOf args h) → SOk w G →
    Calls P f cargs w fun e w' => ∃ v G' r h',e = .returned v ∧ R r h' ∧ Rep w' G' v r ∧ HeapOk w' G' h' ∧ OwnOk w' G' (ownOf [r] h') ∧ SOk w' G' ∧ Since w G w' G' ∧ Mono w G w' G'

theorem VC.mono {P : Program} {f : FuncId} {args : List V} {h : List (List V)} {R R' : V → List (List V) → Prop} (c : VC P f args h R) (hr : ∀ r h', R r h' → R' r h') : VC P f args h R' :=
  ⟨c.1,fun w G cargs h1 h2 h3 h4 => (c.2 w G cargs h1 h2 h3 h4).mono fun e w' ⟨v,G',r,h',he,hR,rest⟩ => ⟨v,G',r,h',he,hr r h' hR,rest⟩⟩

theorem Since.refl {w : World} {G : Gh} (hmu : ∀ b, b < G.nb → True) : Since w G w G :=
  ⟨rfl,rfl,rfl,Nat.le_refl _,fun _ _ _ => rfl,fun k arr e fr h => ⟨arr,h,rfl,fun _ _ => rfl⟩,fun _ _ h => .inl h,fun b h1 h2 => by omega,
   fun id n T k h hk => .inl (.inr ⟨id,n,T,h,rfl,hk⟩),fun id n T h => .inl ⟨n,T,h⟩,fun _ _ _ => rfl⟩

/-! ## values without tokens -/
def V.bareC : V → V
  | .slice sz l ex _ => .slice sz l ex none
  | v => v
def V.bare1 : V → V
  | .agg cs => .agg (cs.map V.bareC)
  | v => v.bareC
def V.bare : V → V
  | .tup vs => .tup (vs.map V.bare1)
  | v => v.bare1

section
variable {P : Program} {w w' : World} {G G' : Gh}

theorem Rep.bareC {v : Value} {x : V} (h : Rep w G v x) : Rep w G v x.bareC := by
  cases h with
  | slice B o sz l ex tok cap vs hcap hex hsz hel hS hR ht sp hsp => exact .slice B o sz l ex none cap vs hcap hex hsz hel hS hR (by simp) sp hsp
  | _ => first | exact .bool _ | exact .int _ _ | exact .str _ | exact .nilp | exact .ptr _ _ ‹_› | exact .nils | exact .nilf | exact .dead _ | (constructor <;> assumption) | (simp only [V.bareC]; constructor <;> assumption)
theorem Rep.bare1 {v : Value} {x : V} (h : Rep w G v x) : Rep w G v x.bare1 := by
  cases x with
  | agg cs =>
    cases h with
    | agg vs _ hs hR =>
      refine .agg vs _ (by simpa using hs) (fun k y hk => ?_)
      rw [List.getElem?_map,Option.map_eq_some_iff] at hk
      obtain ⟨z,hz,rfl⟩ := hk
      exact (hR k z hz).bareC
  | _ => exact h.bareC
theorem Rep.bare {v : Value} {x : V} (h : Rep w G v x) : Rep w G v x.bare := by
  cases x with
  | tup cs =>
    cases h with
    | tup vs _ hs hR =>
      refine .tup vs _ (by simpa using hs) (fun k y hk => ?_)
      rw [List.getElem?_map,Option.map_eq_some_iff] at hk
      obtain ⟨z,hz,rfl⟩ := hk
      exact (hR k z hz).bare1
  | _ => exact h.bare1

/-! ## values that lead into no abstract heap -/
def V.noP0 : V → Bool
  | .ptr _ _ | .agg _ | .tup _ | .func _ (_ :: _) => false
  | _ => true
def V.noP1 : V → Bool
  | .agg cs => cs.all V.noP0
  | v => v.noP0
def V.noP : V → Bool
  | .tup vs => vs.all V.noP1
  | v => v.noP1

/-- between two ghosts that agree on what lasts -/
def Same (w : World) (G : Gh) (w' : World) (G' : Gh) : Prop := ∀ b o, G.S b o → G'.S b o ∧ w'.cell? ⟨b, o, none⟩ = w.cell? ⟨b, o, none⟩

theorem Rep.toC (m : Same w G w' G') {v : Value} {x : V} (h : Rep w G v x) (hx : x.noP0 = true) : Rep w' G' v x.bareC := by
  cases x with
  | dead => exact .dead v
  | ptr b o => simp [V.noP0] at hx
  | agg cs => simp [V.noP0] at hx
  | tup cs => simp [V.noP0] at hx
  | func fn caps =>
    cases caps with
    | nil => exact h.clean m rfl
    | cons c cs => simp [V.noP0] at hx
  | slice sz l ex tok => exact h.bareC.clean m rfl
  | bool b => exact h.clean m rfl
  | int k n => exact h.clean m rfl
  | str s => exact h.clean m rfl
  | nilp => exact h.clean m rfl
  | rptr cs => exact h.clean m rfl
  | nils => exact h.clean m rfl
  | nilf => exact h.clean m rfl
theorem Rep.to1 (m : Same w G w' G') {v : Value} {x : V} (h : Rep w G v x) (hx : x.noP1 = true) : Rep w' G' v x.bare1 := by
  cases x with
  | agg cs =>
    cases h with
    | agg vs _ hs hR =>
      refine .agg vs _ (by simpa using hs) (fun k y hk => ?_)
      rw [List.getElem?_map,Option.map_eq_some_iff] at hk
      obtain ⟨z,hz,rfl⟩ := hk
      exact (hR k z hz).toC m (List.all_eq_true.1 hx z (List.mem_of_getElem? hz))
  | _ => exact h.toC m hx
theorem Rep.to (m : Same w G w' G') {v : Value} {x : V} (h : Rep w G v x) (hx : x.noP = true) : Rep w' G' v x.bare := by
  cases x with
  | tup cs =>
    cases h with
    | tup vs _ hs hR =>
      refine .tup vs _ (by simpa using hs) (fun k y hk => ?_)
      rw [List.getElem?_map,Option.map_eq_some_iff] at hk
      obtain ⟨z,hz,rfl⟩ := hk
      exact (hR k z hz).to1 m (List.all_eq_true.1 hx z (List.mem_of_getElem? hz))
  | _ => exact h.to1 m hx

theorem tokC_bare (x : V) : x.bareC.tokC = [] := by cases x <;> rfl
theorem cells_bare1 (x : V) : x.bare1.cells.flatMap V.tokC = [] := by
  cases x with
  | agg cs =>
    simp only [V.bare1,V.cells,List.flatMap_eq_nil_iff]
    intro y hy
    obtain ⟨z,hz,rfl⟩ := List.mem_map.1 hy
    exact tokC_bare z
  | slice sz l ex tok => rfl
  | _ => rfl
theorem toks_bare (x : V) : x.bare.toks = [] := by
  cases x with
  | tup vs =>
    simp only [V.bare,V.toks,List.flatMap_eq_nil_iff]
    intro y hy
    obtain ⟨z,hz,rfl⟩ := List.mem_map.1 hy
    have := cells_bare1 z
    simpa using this
  | agg cs => exact cells_bare1 (.agg cs)
  | _ => rfl
theorem ownOf_bare (xs : List V) : ownOf (xs.map V.bare) [] = [] := by
  simp only [ownOf,List.flatMap_nil,List.append_nil,List.flatMap_eq_nil_iff]
  intro y hy
  obtain ⟨z,hz,rfl⟩ := List.mem_map.1 hy
  exact toks_bare z

/-- a ghost for a callee that is handed nothing to write -/
def Gh.empty (G : Gh) : Gh := { G with nb := 0, tk := fun _ _ => Option.none }

/-- A CALL THAT IS HANDED NOTHING TO WRITE: its result without tokens; heap and tokens of the caller stay -/
theorem call_pure {w0 : World} {G0 : Gh} {heap own next} (I : Inv w0 G0 heap own next w G) {f : FuncId} {xs : List V} {R : V → List (List V) → Prop} (c : VC P f (xs.map V.bare) [] R)
    {cargs : Array Value} (hl : LR w G cargs.toList xs) (hp : xs.all V.noP = true) (hR : ∀ r h',R r h' → r.noP = true) :
    Calls P f cargs w fun e w' => ∃ v G' r h',e = .returned v ∧ R r h' ∧ Rep w' G' v r.bare ∧ Inv w0 G0 heap own next w' G' ∧ Mono w G w' G' := by
  have hS : Same w G w G.empty := fun _ _ h => ⟨h,rfl⟩
  have hargs : LR w G.empty cargs.toList (xs.map V.bare) := by
    refine ⟨by simp [hl.len],fun k y hk => ?_⟩
    rw [List.getElem?_map,Option.map_eq_some_iff] at hk
    obtain ⟨z,hz,rfl⟩ := hk
    exact (hl.rep k z hz).to hS (List.all_eq_true.1 hp z (List.mem_of_getElem? hz))
  have hheap : HeapOk w G.empty [] := ⟨rfl,fun b cs h => by simp at h,fun b b' h => by simp [Gh.empty] at h,fun b o h => by simp [Gh.empty] at h⟩
  have hown : OwnOk w G.empty (ownOf (xs.map V.bare) []) := by
    rw [ownOf_bare]
    exact ⟨fun _ _ h => by simp at h,fun _ _ _ h => by simp [Gh.empty] at h,fun _ _ _ h => by simp [Gh.empty] at h,fun _ _ _ _ h => by simp [Gh.empty] at h,fun _ _ _ _ _ h => by simp [Gh.empty] at h,fun _ _ _ _ _ _ _ h => by simp [Gh.empty] at h⟩
  refine (c.2 w G.empty cargs hargs hheap hown I.sok).mono ?_
  rintro e w' ⟨v,G1,r,h',he,hRr,hr,hh,ho,hs,hsi,hm⟩
  have hwr : ∀ b o, ¬ Wr G.empty b o := by
    rintro b o (⟨i,hi,_⟩ | ⟨id,n,T,hT,_⟩)
    · simp [Gh.empty] at hi
    · simp [Gh.empty] at hT
  let G2 : Gh := { G with S := G1.S }
  have hmono : Mono w G w' G2 := ⟨fun b o h => hm.S b o h,Nat.le_refl _,fun _ _ => rfl,Nat.le_refl _,fun _ _ => Nat.le_refl _,fun _ _ _ _ _ h => h⟩
  have hold : ∀ k,k < w.heap.size → w'.heap[k]? = w.heap[k]? := fun k hk => hsi.same k hk (hwr k)
  have hnewS : ∀ b o,G1.S b o → G.S b o ∨ w.heap.size ≤ b := fun b o h => by
    rcases hsi.newS b o h with h | h | h
    · exact .inl h
    · exact (hwr b o h).elim
    · exact .inr h
  have hsame : Same w' G1 w' G2 := fun _ _ h => ⟨h,rfl⟩
  refine ⟨v,G2,r,h',he,hRr,hr.to hsame (hR r h' hRr),⟨⟨I.heap.nb, ?_,I.heap.inj, ?_⟩,⟨I.own.mem,I.own.ok, ?_, ?_,I.own.notMu,I.own.apart⟩,hs, ?_,I.mono.trans hmono,I.nx⟩,hmono⟩
  · intro b cs hb
    obtain ⟨arr,e1,ha,has,hrr⟩ := I.heap.blk b cs hb
    exact ⟨arr,e1,by show w'.heap[G.mu b]? = _; rw [hold _ (some_lt ha)]; exact ha,has,fun k y hk => ⟨(hrr k y hk).1,(hrr k y hk).2.mono hmono⟩⟩
  · intro b o hb h
    rcases hnewS _ _ h with h | h
    · exact I.heap.notS b o hb h
    · have := I.heap.lt (b := b) hb
      have h' : w.heap.size ≤ G.mu b := h
      omega
  · intro id n T hT
    obtain ⟨arr,e1,fr,ha,has,hf⟩ := I.own.there id n T hT
    exact ⟨arr,e1,fr,by rw [hold _ (some_lt ha)]; exact ha,has,hf⟩
  · intro id n T k hT hk h
    rcases hnewS _ _ h with h | h
    · exact I.own.notS id n T k hT hk h
    · obtain ⟨arr,e1,fr,ha,has,hf⟩ := I.own.there id n T hT
      have := some_lt ha; omega
  · have s := I.since
    refine ⟨hsi.os.trans s.os,hsi.tape.trans s.tape,hsi.output.trans s.output,Nat.le_trans s.size hsi.size,fun k hk hw => (hold k (Nat.lt_of_lt_of_le hk s.size)).trans (s.same k hk hw), ?_, ?_,s.newMu,s.newTk,s.tkId,s.mxKeep⟩
    · intro k arr e1 fr hk
      obtain ⟨a1,h1,h2,h3⟩ := s.part k arr e1 fr hk
      exact ⟨a1,by rw [hold k (some_lt h1)]; exact h1,h2,h3⟩
    · intro b o h
      rcases hnewS b o h with h | h
      · exact s.newS b o h
      · exact .inr (.inr (Nat.le_trans s.size h))

/-! ## a call that is lent memory to read -/
/-- values that lead nowhere -/
def V.pl0 : V → Bool
  | .bool _ | .int _ _ | .str _ | .nilp | .nils | .nilf => true
  | _ => false
def V.pl1 : V → Bool
  | .agg cs => cs.all V.pl0
  | v => v.pl0
def V.pl : V → Bool
  | .tup vs => vs.all V.pl1
  | v => v.pl1
theorem Rep.pl0 {v : Value} {x : V} (h : Rep w G v x) (hx : x.pl0 = true) : Rep w' G' v x := by
  cases h <;> first | (simp [V.pl0] at hx; done) | (constructor; done)
theorem Rep.pl1 {v : Value} {x : V} (h : Rep w G v x) (hx : x.pl1 = true) : Rep w' G' v x := by
  cases x with
  | agg cs =>
    cases h with
    | agg vs _ hs hR => exact .agg vs _ hs (fun k y hk => (hR k y hk).pl0 (List.all_eq_true.1 hx y (List.mem_of_getElem? hk)))
  | _ => exact h.pl0 hx
theorem Rep.pl {v : Value} {x : V} (h : Rep w G v x) (hx : x.pl = true) : Rep w' G' v x := by
  cases x with
  | tup cs =>
    cases h with
    | tup vs _ hs hR => exact .tup vs _ hs (fun k y hk => (hR k y hk).pl1 (List.all_eq_true.1 hx y (List.mem_of_getElem? hk)))
  | _ => exact h.pl1 hx
/-- an argument as the callee sees it: without tokens, a pointer into the heap as one to cells that last -/
def Lent (heap : List (List V)) (x y : V) : Prop := (x.noP = true ∧ y = x.bare) ∨ ∃ b o cs, x = .ptr b o ∧ heap[b]? = some cs ∧ y = .rptr ((cs.drop o).map V.bareC) ∧ ∀ c ∈ cs, c.bareC.cleanC = true
def lentL (heap : List (List V)) : List V → List V → Prop
  | [], [] => True
  | x :: xs,y :: ys => Lent heap x y ∧ lentL heap xs ys
  | _,_ => False
theorem lentL_get {heap : List (List V)} : ∀ {xs ys : List V}, lentL heap xs ys → xs.length = ys.length ∧ ∀ (k : Nat) (y : V), ys[k]? = some y → ∃ x, xs[k]? = some x ∧ Lent heap x y
  | [], [],_ => ⟨rfl,fun k y h => by simp at h⟩
  | x :: xs,y :: ys,h => by
    obtain ⟨h1,h2⟩ := h
    obtain ⟨h3,h4⟩ := lentL_get h2
    refine ⟨by simp [h3],fun k z hk => ?_⟩
    cases k with
    | zero => obtain rfl : y = z := by simpa using hk
              exact ⟨x,by simp,h1⟩
    | succ k => simpa using h4 k z (by simpa using hk)
  | [],_ :: _,h => h.elim
  | _ :: _, [],h => h.elim
theorem lent_toks {heap : List (List V)} {x y : V} (h : Lent heap x y) : y.toks = [] := by
  rcases h with ⟨_,rfl⟩ | ⟨b,o,cs,_,_,rfl,_⟩
  · exact toks_bare x
  · rfl
theorem call_lend {w0 : World} {G0 : Gh} {heap own next} (I : Inv w0 G0 heap own next w G) {f : FuncId} {xs ys : List V} {r0 : V} (c : VC P f ys [] fun r _ => r = r0)
    {cargs : Array Value} (hl : LR w G cargs.toList xs) (hy : lentL heap xs ys) (hr0 : r0.pl = true) :
    Calls P f cargs w fun e w' => ∃ v G',e = .returned v ∧ Rep w' G' v r0 ∧ Inv w0 G0 heap own next w' G' ∧ Mono w G w' G' := by
  let Ge : Gh := { G with nb := 0,tk := fun _ _ => Option.none,S := fun b o => G.S b o ∨ ((∃ i,i < G.nb ∧ G.mu i = b) ∧ ∃ arr e fr,w.heap[b]? = some (.cells arr e fr) ∧ o < arr.size) }
  have hS : Same w G w Ge := fun _ _ h => ⟨.inl h,rfl⟩
  obtain ⟨hlen,hget⟩ := lentL_get hy
  have hargs : LR w Ge cargs.toList ys := by
    refine ⟨by rw [hl.len,hlen],fun k y hk => ?_⟩
    obtain ⟨x,hx,hlx⟩ := hget k y hk
    have hrx := hl.rep k x hx
    rcases hlx with ⟨hp,rfl⟩ | ⟨b,o,cs,rfl,hb,rfl,hcl⟩
    · exact hrx.to hS hp
    · generalize cargs.toList.getD k undef = v at hrx ⊢
      cases hrx with
      | ptr b o hnb =>
      obtain ⟨arr,e,ha,hsz,hcell⟩ := I.heap.blk b cs hb
      refine .rptr (G.mu b) o _ (fun k => arr.getD (o + k) undef) (fun y hy => ?_) (fun k y hk => ?_) (fun k y hk => ?_)
      · obtain ⟨z,hz,rfl⟩ := List.mem_map.1 hy
        exact hcl z (List.mem_of_mem_drop hz)
      · have hlt : o + k < arr.size := by
          have := (List.getElem?_eq_some_iff.1 hk).1
          simp at this; omega
        refine ⟨.inr ⟨⟨b,hnb,rfl⟩,arr,e,(0,0),ha,hlt⟩, ?_⟩
        rw [cell_eq ha]
        simp [hlt]
      · rw [List.getElem?_map,Option.map_eq_some_iff] at hk
        obtain ⟨z,hz,rfl⟩ := hk
        rw [List.getElem?_drop] at hz
        exact ((hcell _ z hz).2.bareC).clean hS (hcl z (List.mem_of_getElem? hz))
  have hheap : HeapOk w Ge [] := ⟨rfl,fun b cs h => by simp at h,fun b b' h => by simp [Ge] at h,fun b o h => by simp [Ge] at h⟩
  have hown : OwnOk w Ge (ownOf ys []) := by
    have : ownOf ys [] = [] := by
      simp only [ownOf,List.flatMap_nil,List.append_nil,List.flatMap_eq_nil_iff]
      intro y hy'
      obtain ⟨k,hk,rfl⟩ := List.getElem_of_mem hy'
      obtain ⟨x,_,hlx⟩ := hget k _ (List.getElem?_eq_getElem hk)
      exact lent_toks hlx
    rw [this]
    exact ⟨fun _ _ h => by simp at h,fun _ _ _ h => by simp [Ge] at h,fun _ _ _ h => by simp [Ge] at h,fun _ _ _ _ h => by simp [Ge] at h,fun _ _ _ _ _ h => by simp [Ge] at h,fun _ _ _ _ _ _ _ h => by simp [Ge] at h⟩
  have hsok : SOk w Ge := fun b o h => by
    rcases h with h | ⟨_,arr,e,fr,h1,h2⟩
    · exact I.sok b o h
    · exact ⟨arr,e,fr,h1,h2⟩
  refine (c.2 w Ge cargs hargs hheap hown hsok).mono ?_
  rintro e w' ⟨v,G1,r,h',he,rfl,hr,hh,ho,hs,hsi,hm⟩
  have hwr : ∀ b o, ¬ Wr Ge b o := by
    rintro b o (⟨i,hi,_⟩ | ⟨id,n,T,hT,_⟩)
    · simp [Ge] at hi
    · simp [Ge] at hT
  let G2 : Gh := { G with S := fun b o => G.S b o ∨ (G1.S b o ∧ w.heap.size ≤ b) }
  have hold : ∀ k,k < w.heap.size → w'.heap[k]? = w.heap[k]? := fun k hk => hsi.same k hk (hwr k)
  have hmono : Mono w G w' G2 := ⟨fun b o h => ⟨.inl h,(hm.S b o (.inl h)).2⟩,Nat.le_refl _,fun _ _ => rfl,Nat.le_refl _,fun _ _ => Nat.le_refl _,fun _ _ _ _ _ h => h⟩
  refine ⟨v,G2,he,hr.pl hr0,⟨⟨I.heap.nb, ?_,I.heap.inj, ?_⟩,⟨I.own.mem,I.own.ok, ?_, ?_,I.own.notMu,I.own.apart⟩, ?_, ?_,I.mono.trans hmono,I.nx⟩,hmono⟩
  · intro b cs hb
    obtain ⟨arr,e1,ha,has,hrr⟩ := I.heap.blk b cs hb
    exact ⟨arr,e1,by show w'.heap[G.mu b]? = _; rw [hold _ (some_lt ha)]; exact ha,has,fun k y hk => ⟨(hrr k y hk).1,(hrr k y hk).2.mono hmono⟩⟩
  · intro b o hb h
    rcases h with h | ⟨_,h⟩
    · exact I.heap.notS b o hb h
    · have := I.heap.lt (b := b) hb
      have h' : w.heap.size ≤ G.mu b := h
      omega
  · intro id n T hT
    obtain ⟨arr,e1,fr,ha,has,hf⟩ := I.own.there id n T hT
    exact ⟨arr,e1,fr,by rw [hold _ (some_lt ha)]; exact ha,has,hf⟩
  · intro id n T k hT hk h
    rcases h with h | ⟨_,h⟩
    · exact I.own.notS id n T k hT hk h
    · obtain ⟨arr,e1,fr,ha,has,hf⟩ := I.own.there id n T hT
      have := some_lt ha; omega
  · intro b o h
    rcases h with h | ⟨h,_⟩
    · obtain ⟨arr,e1,fr,ha,hlt⟩ := I.sok b o h
      exact ⟨arr,e1,fr,by rw [hold _ (some_lt ha)]; exact ha,hlt⟩
    · exact hs b o h
  · have s := I.since
    refine ⟨hsi.os.trans s.os,hsi.tape.trans s.tape,hsi.output.trans s.output,Nat.le_trans s.size hsi.size,fun k hk hw => (hold k (Nat.lt_of_lt_of_le hk s.size)).trans (s.same k hk hw), ?_, ?_,s.newMu,s.newTk,s.tkId,s.mxKeep⟩
    · intro k arr e1 fr hk
      obtain ⟨a1,h1,h2,h3⟩ := s.part k arr e1 fr hk
      exact ⟨a1,by rw [hold k (some_lt h1)]; exact h1,h2,h3⟩
    · intro b o h
      rcases h with h | ⟨_,h⟩
      · exact s.newS b o h
      · exact .inr (.inr (Nat.le_trans s.size h))
end
end Go.PV
