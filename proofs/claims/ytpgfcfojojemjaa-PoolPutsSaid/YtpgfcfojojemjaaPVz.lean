/- Regions in which an order is drawn: the check, and what it gives. -/
import Derived.Test.YtpgfcfojojemjaaPVy
namespace Go.PV
set_option linter.unusedVariables false
set_option linter.unusedSimpArgs false

/-- the operations that one is told to come behind -/
def direct (o : Oper) : List Nat := (o.after.toList.filter fun e => Region.binds .any e).map (·.on)
/-- all that come ahead of each -/
def mkT : List Oper → List (List Nat) → List (List Nat)
  | [],T => T
  | o :: os,T => mkT os (T ++ [(direct o ++ (direct o).flatMap fun e => T.getD e []).eraseDups])
def pairsOk (ops : Array Oper) (fls : List Nat) (T : List (List Nat)) (j : Nat) (o : Oper) : List Oper → Nat → Bool
  | [],_ => true
  | x :: xs,i => (decide (j ≤ i) || (T.getD j []).contains i || swapOk ops x (fls.getD i 0) o (fls.getD j 0)) && pairsOk ops fls T j o xs (i + 1)
def rowsOk (ops : Array Oper) (fls : List Nat) (T : List (List Nat)) : List Oper → Nat → Bool
  | [],_ => true
  | o :: os,j => (direct o).all (· < j) && (T.getD j []).all (fun i => (direct o).contains i || (direct o).any fun e => (T.getD e []).contains i) && pairsOk ops fls T j o ops.toList 0 && rowsOk ops fls T os (j + 1)
def drawOk (ops : Array Oper) (fls : List Nat) : Bool := rowsOk ops fls (mkT ops.toList []) ops.toList 0

structure Drawn (ops : Array Oper) (fls : List Nat) (T : List (List Nat)) : Prop where
  lt : ∀ j o,ops[j]? = some o → ∀ e ∈ direct o,e < j
  tab : ∀ j o,ops[j]? = some o → ∀ i ∈ T.getD j [],i ∈ direct o ∨ ∃ e ∈ direct o,i ∈ T.getD e []
  swap : ∀ j o i x,ops[j]? = some o → ops[i]? = some x → i < j → i ∈ T.getD j [] ∨ swapOk ops x (fls.getD i 0) o (fls.getD j 0) = true

theorem pairsOk_spec {ops : Array Oper} {fls : List Nat} {T : List (List Nat)} {j : Nat} {o : Oper} : ∀ {xs : List Oper} {i0 : Nat}, pairsOk ops fls T j o xs i0 = true →
    ∀ k x,xs[k]? = some x → i0 + k < j → i0 + k ∈ T.getD j [] ∨ swapOk ops x (fls.getD (i0 + k) 0) o (fls.getD j 0) = true
  | [],i0,_,k,x,hx,_ => by simp at hx
  | y :: ys,i0,h,k,x,hx,hlt => by
    simp only [pairsOk,Bool.and_eq_true,Bool.or_eq_true,decide_eq_true_eq,List.contains_iff_mem] at h
    cases k with
    | zero =>
      obtain rfl : y = x := by simpa using hx
      rcases h.1 with (h1 | h1) | h1
      · omega
      · exact .inl h1
      · exact .inr h1
    | succ k =>
      have := pairsOk_spec h.2 k x (by simpa using hx) (by omega)
      rwa [show i0 + 1 + k = i0 + (k + 1) from by omega] at this
theorem rowsOk_spec {ops : Array Oper} {fls : List Nat} {T : List (List Nat)} : ∀ {os : List Oper} {j0 : Nat}, rowsOk ops fls T os j0 = true →
    ∀ k o,os[k]? = some o → (∀ e ∈ direct o,e < j0 + k) ∧ (∀ i ∈ T.getD (j0 + k) [],i ∈ direct o ∨ ∃ e ∈ direct o,i ∈ T.getD e []) ∧ pairsOk ops fls T (j0 + k) o ops.toList 0 = true
  | [],j0,_,k,o,ho => by simp at ho
  | y :: ys,j0,h,k,o,ho => by
    simp only [rowsOk,Bool.and_eq_true,List.all_eq_true,decide_eq_true_eq,Bool.or_eq_true,List.contains_iff_mem,List.any_eq_true] at h
    cases k with
    | zero =>
      obtain rfl : y = o := by simpa using ho
      exact ⟨h.1.1.1,h.1.1.2,h.1.2⟩
    | succ k =>
      have := rowsOk_spec h.2 k o (by simpa using ho)
      rwa [show j0 + 1 + k = j0 + (k + 1) from by omega] at this
theorem drawOk_spec {ops : Array Oper} {fls : List Nat} (h : drawOk ops fls = true) : Drawn ops fls (mkT ops.toList []) := by
  have key := fun j o (ho : ops[j]? = some o) => rowsOk_spec h j o (by simpa using ho)
  simp only [Nat.zero_add] at key
  refine ⟨fun j o ho => (key j o ho).1,fun j o ho => (key j o ho).2.1,fun j o i x ho hx hlt => ?_⟩
  have := pairsOk_spec (key j o ho).2.2 i x (by simpa using hx) (by omega)
  simpa using this

section
variable {P : Program} {W : List Nat} {N0 : Nat} {ops : Array Oper} {fls : List Nat} {T : List (List Nat)}

def DOps1 (P : Program) (W : List Nat) (N0 : Nat) (ops : Array Oper) : List (Nat × Oper × Nat) → (St → Prop) → St → Prop
  | [],K,s => K s
  | (_,o,fl) :: os,K,s => DRun1 P W N0 ops o fl (fun v s' => DOps1 P W N0 ops os K (s'.put o.dst v)) s

theorem front {i : Nat} {o : Oper} {fo : Nat} {K : St → Prop} {post : List (Nat × Oper × Nat)} : ∀ {pre : List (Nat × Oper × Nat)} {s : St}, N0 ≤ s.heap.length →
    (∀ t ∈ pre,swapOk ops t.2.1 t.2.2 o fo = true) → DOps1 P W N0 ops (pre ++ (i,o,fo) :: post) K s →
    DRun1 P W N0 ops o fo (fun v s' => DOps1 P W N0 ops (pre ++ post) K (s'.put o.dst v)) s
  | [],s,_,_,h => h
  | (j,x,fx) :: pre,s,hN,hs,h => by
    have h1 : DRun1 P W N0 ops x fx (fun v s' => DRun1 P W N0 ops o fo (fun u s'' => DOps1 P W N0 ops (pre ++ post) K (s''.put o.dst u)) (s'.put x.dst v)) s := by
      refine DRun1.mono (DRun1.keeps h) (fun v s' hv => ?_)
      refine front (by rw [(put_slots s' x.dst v).1]; exact Nat.le_trans hN hv.2.le) (fun t ht => hs t (by simp [ht])) hv.1
    exact swap (hs (j,x,fx) (by simp)) hN h1

/-- the unlisted ones -/
structure Un (ops : Array Oper) (fls : List Nat) (listed : Array Bool) (L : List (Nat × Oper × Nat)) : Prop where
  size : listed.size = ops.size
  mem : ∀ i,listed.getD i true = false ↔ i ∈ L.map (·.1)
  at_ : ∀ t ∈ L,ops[t.1]? = some t.2.1 ∧ t.2.2 = fls.getD t.1 0
  sorted : (L.map (·.1)).Pairwise (· < ·)
  closed : ∀ i o,ops[i]? = some o → listed.getD i true = true → ∀ e ∈ direct o,listed.getD e true = true

theorem direct_mem {o : Oper} {e : Nat} : e ∈ direct o ↔ ∃ x ∈ o.after, Region.binds .any x = true ∧ x.on = e := by
  simp only [direct,List.mem_map,List.mem_filter,Array.mem_toList_iff]
  constructor
  · rintro ⟨x,⟨h1,h2⟩,h3⟩; exact ⟨x,h1,h2,h3⟩
  · rintro ⟨x,h1,h2,h3⟩; exact ⟨x,⟨h1,h2⟩,h3⟩

theorem getD_tf {listed : Array Bool} {i : Nat} (h : i < listed.size) : listed.getD i true = listed.getD i false := by
  simp [h]

/-- all that come ahead of what is ready are listed -/
theorem ahead (D : Drawn ops fls T) {listed : Array Bool} (hc : ∀ i o, ops[i]? = some o → listed.getD i true = true → ∀ e ∈ direct o, listed.getD e true = true) :
    ∀ (j : Nat) (o : Oper),ops[j]? = some o → (∀ e ∈ direct o,listed.getD e true = true) → ∀ i ∈ T.getD j [],listed.getD i true = true := by
  intro j
  induction j using Nat.strongRecOn with
  | _ j ih =>
    intro o ho hd i hi
    rcases D.tab j o ho i hi with h | ⟨e,he,hi⟩
    · exact hd i h
    · have hlt := D.lt j o ho e he
      have hj := (Array.getElem?_eq_some_iff.1 ho).1
      have hoe : ops[e]? = some ops[e] := Array.getElem?_eq_getElem (by omega)
      exact ih e hlt _ hoe (hc e _ hoe (hd e he)) i hi

theorem wAny_sound {w0 : World} {G0 : Gh} {Q : Exit → Act → World → Prop} {K : St → Prop} (D : Drawn ops fls T) (hQ : ∀ s' a' w', K s' → CInv w0 G0 s' a' w' → Q .normal a' w') :
    ∀ (fuel : Nat) (listed : Array Bool) (L : List (Nat × Oper × Nat)) (s : St) (a : Act) (w : World),L.length = fuel → Un ops fls listed L → CInv w0 G0 s a w → N0 ≤ s.heap.length → DOps1 P W N0 ops L K s →
      wpAny P .any ops Q fuel listed a w := by
  intro fuel
  induction fuel with
  | zero =>
    intro listed L s a w hL U c hN h
    obtain rfl := List.eq_nil_of_length_eq_zero hL
    refine ⟨?_,hQ s a w h c⟩
    rw [List.eq_nil_iff_forall_not_mem]
    intro i hi
    have := (U.mem i).1 (mem_ready.1 hi).1
    simp at this
  | succ fuel ih =>
    intro listed L s a w hL U c hN h
    refine ⟨fun hr => ?_,fun i hi => ?_⟩
    · exfalso
      match L,hL with
      | (i,o,fl) :: L',_ =>
        obtain ⟨ho,_⟩ := U.at_ (i,o,fl) (by simp)
        have : i ∈ Region.ready .any ops listed := by
          refine mem_ready.2 ⟨(U.mem i).2 (by simp),o,ho,fun e he hb => ?_⟩
          have hlt := D.lt i o ho e.on (direct_mem.2 ⟨e,he,hb,rfl⟩)
          have hsz := (Array.getElem?_eq_some_iff.1 ho).1
          rw [← getD_tf (by rw [U.size]; omega)]
          cases hl : listed.getD e.on true with
          | true => rfl
          | false =>
            have hm := (U.mem e.on).1 hl
            have hs := U.sorted
            simp only [List.map_cons,List.pairwise_cons] at hs
            simp only [List.map_cons,List.mem_cons] at hm
            rcases hm with hm | hm
            · omega
            · have := hs.1 _ hm; omega
        rw [hr] at this
        cases this
    · obtain ⟨hun,o,ho,hall⟩ := mem_ready.1 hi
      have hmem := (U.mem i).1 hun
      obtain ⟨t,ht,hti⟩ := List.mem_map.1 hmem
      obtain ⟨pre,post,rfl⟩ := List.append_of_mem ht
      obtain ⟨i',o',fo⟩ := t
      obtain rfl : i' = i := hti
      obtain ⟨ho',hfo⟩ := U.at_ _ ht
      obtain rfl : o' = o := by rw [ho] at ho'; exact (Option.some.inj ho').symm
      have hsz := (Array.getElem?_eq_some_iff.1 ho).1
      have hdir : ∀ e ∈ direct o',listed.getD e true = true := fun e he => by
        obtain ⟨x,hx,hb,rfl⟩ := direct_mem.1 he
        have hlt := D.lt i' o' ho x.on he
        rw [getD_tf (by rw [U.size]; omega)]
        exact hall x hx hb
      have hsort := U.sorted
      rw [List.map_append,List.map_cons,List.pairwise_append] at hsort
      have hpre : ∀ t ∈ pre,swapOk ops t.2.1 t.2.2 o' fo = true := fun t htp => by
        obtain ⟨h1,h2⟩ := U.at_ t (by simp [htp])
        have hlt : t.1 < i' := hsort.2.2 t.1 (List.mem_map.2 ⟨t,htp,rfl⟩) i' (by simp)
        have hunT : listed.getD t.1 true = false := (U.mem t.1).2 (List.mem_map.2 ⟨t,by simp [htp],rfl⟩)
        rcases D.swap i' o' t.1 t.2.1 ho h1 hlt with hT | hT
        · have := ahead D U.closed i' o' ho hdir t.1 hT
          rw [hunT] at this; cases this
        · have hfo' : fo = fls.getD i' 0 := hfo
          rw [h2,hfo']; exact hT
      have hfront := front hN hpre h
      have hrun := hfront.keeps
      have hU' : Un ops fls (listed.setIfInBounds i' true) (pre ++ post) := by
        refine ⟨by simp [U.size],fun k => ?_,fun t ht' => U.at_ t ?_, ?_,fun k ok hk hl e he => ?_⟩
        · by_cases hki : i' = k
          · subst hki
            have hl : i' < listed.size := by rw [U.size]; exact hsz
            have hn : i' ∉ (pre ++ post).map (·.1) := by
              rw [List.map_append,List.mem_append]
              rintro (hm | hm)
              · exact absurd (hsort.2.2 i' hm i' (by simp)) (Nat.lt_irrefl _)
              · exact absurd ((List.pairwise_cons.1 hsort.2.1).1 i' hm) (Nat.lt_irrefl _)
            exact ⟨fun h => by simp [hl] at h,fun h => absurd h hn⟩
          · rw [getD_set_ne true hki,U.mem k]
            simp only [List.map_append,List.map_cons,List.mem_append,List.mem_cons]
            constructor
            · rintro (h | h | h)
              · exact .inl h
              · exact absurd h.symm hki
              · exact .inr h
            · rintro (h | h)
              · exact .inl h
              · exact .inr (.inr h)
        · simp only [List.mem_append,List.mem_cons] at ht' ⊢
          rcases ht' with h | h
          · exact .inl h
          · exact .inr (.inr h)
        · rw [List.map_append,List.pairwise_append]
          exact ⟨hsort.1,(List.pairwise_cons.1 hsort.2.1).2,fun x hx y hy => hsort.2.2 x hx y (by simp [hy])⟩
        · have key : ∀ e,listed.getD e true = true → (listed.setIfInBounds i' true).getD e true = true := fun e he => by
            by_cases hie : i' = e
            · subst hie
              have hl : i' < listed.size := by rw [U.size]; exact hsz
              simp [hl]
            · rw [getD_set_ne true hie]; exact he
          refine key e ?_
          by_cases hki : i' = k
          · subst hki
            rw [ho] at hk
            obtain rfl := Option.some.inj hk
            exact hdir e he
          · rw [getD_set_ne true hki] at hl
            exact U.closed k ok hk hl e he
      have hop : WOp P (limOf fo W s.heap.length) ops o' (fun s' => N0 ≤ s'.heap.length ∧ DOps1 P W N0 ops (pre ++ post) K s') s := by
        have := (DRun_iff.2 (hrun.mono (K' := fun v s' => N0 ≤ (s'.put o'.dst v).heap.length ∧ DOps1 P W N0 ops (pre ++ post) K (s'.put o'.dst v)) (fun v s' hv => ⟨by rw [(put_slots s' o'.dst v).1]; exact Nat.le_trans hN hv.2.le,hv.1⟩)))
        unfold DRun at this
        unfold WOp WOp1
        split
        · rename_i hg; simp only [hg] at this; exact this.2
        · rename_i j want hg
          simp only [hg] at this
          split
          · rename_i hd; simp only [hd] at this
          · rename_i d hd
            simp only [hd] at this
            split
            · rename_i b hb
              simp only [hb] at this
              exact ⟨fun h => (this.1 h).2,this.2⟩
            · rename_i hb; simp only [hb] at this; exact this
            · rename_i h1 h2
              split at this
              · rename_i b hb; exact h1 b hb
              · rename_i hb; exact h2 hb
              · exact this
      refine wOp_sound ho hop c (fun s' a' w' hK' c' => ?_)
      refine ih _ (pre ++ post) s' a' w' ?_ hU' c' hK'.1 hK'.2
      simp only [List.length_append,List.length_cons] at hL ⊢
      omega

/-- the operations of a list, each with its mark -/
def DOpsL (P : Program) (W : List Nat) (N0 : Nat) (ops : Array Oper) : List Oper → List Nat → (St → Prop) → St → Prop
  | [],_,K,s => K s
  | o :: os,fls,K,s => DRun P W N0 ops o (fls.headD 0) (fun v s' => DOpsL P W N0 ops os fls.tail K (s'.put o.dst v)) s

def zipL (fls : List Nat) : Nat → List Oper → List (Nat × Oper × Nat)
  | _, [] => []
  | k,o :: os => (k,o,fls.getD k 0) :: zipL fls (k + 1) os

theorem DOpsL_zip (fls : List Nat) {K : St → Prop} : ∀ (os : List Oper) (k : Nat) (s : St), DOpsL P W N0 ops os (fls.drop k) K s → DOps1 P W N0 ops (zipL fls k os) K s
  | [],k,s,h => h
  | o :: os,k,s,h => by
    simp only [DOpsL,zipL,DOps1] at h ⊢
    rw [DRun_iff] at h
    have e1 : (fls.drop k).headD 0 = fls.getD k 0 := by
      rw [List.headD_eq_head?_getD,List.head?_drop,List.getD_eq_getElem?_getD]
    rw [e1] at h
    refine h.mono (fun v s' hv => DOpsL_zip fls os (k + 1) _ ?_)
    rwa [List.tail_drop] at hv

theorem zipL_spec (fls : List Nat) : ∀ (os : List Oper) (k : Nat), (zipL fls k os).length = os.length ∧ ((zipL fls k os).map (·.1)) = List.range' k os.length ∧ ∀ t ∈ zipL fls k os, k ≤ t.1 ∧ os[t.1 - k]? = some t.2.1 ∧ t.2.2 = fls.getD t.1 0
  | [],k => ⟨rfl,rfl,fun t h => by simp [zipL] at h⟩
  | o :: os,k => by
    obtain ⟨h1,h2,h3⟩ := zipL_spec fls os (k + 1)
    refine ⟨by simp [zipL,h1],by simp [zipL,h2,List.range'_succ],fun t ht => ?_⟩
    simp only [zipL,List.mem_cons] at ht
    rcases ht with rfl | ht
    · exact ⟨Nat.le_refl _,by simp,rfl⟩
    · obtain ⟨h4,h5,h6⟩ := h3 t ht
      refine ⟨by omega, ?_,h6⟩
      rw [show t.1 - k = (t.1 - (k + 1)) + 1 from by omega]
      simpa using h5

theorem WC_regionD {id : Nat} {K : Exit → St → Prop} {s : St} (hm : P.follows .mixedOrders = true) (W : List Nat) (fls : List Nat) (hd : drawOk ops fls = true)
    (h : DOpsL P W s.heap.length ops ops.toList fls (K .normal) s) : WC P (.region id ops true) K s := by
  intro w0 G0 a w Q c hQ
  refine wp_region_any hm ?_
  obtain ⟨h1,h2,h3⟩ := zipL_spec fls ops.toList 0
  refine wAny_sound (drawOk_spec hd) (fun s' a' w' hK hc' => hQ _ _ _ _ hK hc') ops.size _ (zipL fls 0 ops.toList) s a _ (by simpa using h1) ?_ ?_ (Nat.le_refl _) (DOpsL_zip fls _ 0 _ (by simpa using h))
  · refine ⟨by simp,fun i => ?_,fun t ht => ?_, ?_,fun i o ho hl => ?_⟩
    · rw [h2]
      rcases Nat.lt_or_ge i ops.size with hi | hi
      · simp [hi]
      · simp [hi,Nat.not_lt.2 hi]
    · obtain ⟨_,h5,h6⟩ := h3 t ht
      exact ⟨by simpa using h5,h6⟩
    · rw [h2]; exact List.pairwise_lt_range'
    · have hi := (Array.getElem?_eq_some_iff.1 ho).1
      simp [hi] at hl
  · obtain ⟨G,hs,I,hdf⟩ := c
    obtain ⟨I',m'⟩ := I.same (w' := { w with drawn := w.drawn + 1 }) rfl rfl rfl rfl
    exact ⟨G,hs.mono m',I',hdf⟩
end
end Go.PV
