/- A contract out of a function's body. -/
import Derived.Test.YtpgfcfojojemjaaPVu
namespace Go.PV
set_option linter.unusedVariables false
set_option linter.unusedSimpArgs false

/-- a result, read at the end -/
def resV (P : Program) (s : St) : ResultVar → Option V
  | .tmp t => s.slots[t]?
  | .cell a t => match ti P t,s.slots[a]? with
    | some i,some p => match cellsOf s p with
      | some cs => loadV i cs
      | none => none
    | _,_ => none
def resL (P : Program) (s : St) : List ResultVar → Option (List V)
  | [] => some []
  | r :: rs => match resV P s r,resL P s rs with
    | some v,some vs => some (v :: vs)
    | _,_ => none
def resOf (P : Program) (s : St) (rs : List ResultVar) : Option V := match resL P s rs with
  | some [v] => some v
  | some vs => some (.tup vs)
  | none => none

/-- how a result is read -/
def readRes (tmps : Array Value) : ResultVar → Sem Value
  | .tmp t => pure (tmps.getD t undef)
  | .cell b t => do loadVar t (← asAddr (tmps.getD b undef))
theorem results_eq (fn : Func) (tmps : Array Value) : results fn tmps = (do
    let vs ← fn.results.mapM (readRes tmps)
    pure (if h : vs.size = 1 then vs[0] else .tuple vs)) := by
  unfold results
  congr 1

/-- tokens that are still owned -/
def V.keepC (own : List (Nat × Nat)) : V → V
  | .slice sz l ex (some id) => if own.contains (id,l.length) then .slice sz l ex (some id) else .slice sz l ex none
  | v => v
def V.keep1 (own : List (Nat × Nat)) : V → V
  | .agg cs => .agg (cs.map (V.keepC own))
  | v => v.keepC own
def V.keep (own : List (Nat × Nat)) : V → V
  | .tup vs => .tup (vs.map (V.keep1 own))
  | v => v.keep1 own

section
variable {P : Program} {w : World} {G : Gh} {s : St} {a : Act}

theorem Rep.keepC {own : List (Nat × Nat)} {v : Value} {x : V} (h : Rep w G v x) : Rep w G v (x.keepC own) := by
  cases x with
  | slice sz l ex tok =>
    cases tok with
    | none => exact h
    | some id =>
      simp only [V.keepC]
      split
      · exact h
      · exact h.bareC
  | _ => exact h
theorem Rep.keep1 {own : List (Nat × Nat)} {v : Value} {x : V} (h : Rep w G v x) : Rep w G v (x.keep1 own) := by
  cases x with
  | agg cs =>
    cases h with
    | agg vs _ hs hR =>
      refine .agg vs _ (by simpa using hs) (fun k y hk => ?_)
      rw [List.getElem?_map,Option.map_eq_some_iff] at hk
      obtain ⟨z,hz,rfl⟩ := hk
      exact (hR k z hz).keepC
  | _ => exact h.keepC (own := own)
theorem Rep.keep {own : List (Nat × Nat)} {v : Value} {x : V} (h : Rep w G v x) : Rep w G v (x.keep own) := by
  cases x with
  | tup cs =>
    cases h with
    | tup vs _ hs hR =>
      refine .tup vs _ (by simpa using hs) (fun k y hk => ?_)
      rw [List.getElem?_map,Option.map_eq_some_iff] at hk
      obtain ⟨z,hz,rfl⟩ := hk
      exact (hR k z hz).keep1
  | _ => exact h.keep1 (own := own)
theorem tokC_keep (own : List (Nat × Nat)) (x : V) : ∀ q ∈ (x.keepC own).tokC, q ∈ own := by
  intro q hq
  cases x with
  | slice sz l ex tok =>
    cases tok with
    | none => simp [V.keepC,V.tokC] at hq
    | some id =>
      simp only [V.keepC] at hq
      split at hq
      · rename_i hc
        simp only [V.tokC,List.mem_singleton] at hq
        subst hq
        simpa using hc
      · simp [V.tokC] at hq
  | _ => simp [V.keepC,V.tokC] at hq
theorem tok1_keep (own : List (Nat × Nat)) (x : V) : ∀ q ∈ (x.keep1 own).cells.flatMap V.tokC, q ∈ own := by
  intro q hq
  cases x with
  | agg cs =>
    simp only [V.keep1,V.cells,List.mem_flatMap] at hq
    obtain ⟨y,hy,hq⟩ := hq
    obtain ⟨z,hz,rfl⟩ := List.mem_map.1 hy
    exact tokC_keep own z q hq
  | slice sz l ex tok =>
    refine tokC_keep own (.slice sz l ex tok) q ?_
    simp only [V.keep1] at hq
    generalize hx : (V.slice sz l ex tok).keepC own = x at hq ⊢
    have : x.cells = [x] := by
      rw [← hx]
      cases tok with
      | none => rfl
      | some id => simp only [V.keepC]; split <;> rfl
    rw [this] at hq
    simpa using hq
  | _ => simp [V.keep1,V.keepC,V.cells,V.tokC] at hq
theorem toks_keep (own : List (Nat × Nat)) (x : V) : ∀ q ∈ (x.keep own).toks, q ∈ own := by
  intro q hq
  cases x with
  | tup vs =>
    simp only [V.keep,V.toks,List.mem_flatMap] at hq
    obtain ⟨y,hy,hq⟩ := hq
    obtain ⟨z,hz,rfl⟩ := List.mem_map.1 hy
    exact tok1_keep own z q (List.mem_flatMap.2 hq)
  | slice sz l ex tok =>
    refine tok1_keep own (.slice sz l ex tok) q ?_
    simp only [V.keep] at hq
    generalize hx : (V.slice sz l ex tok).keep1 own = x at hq ⊢
    have : x.toks = x.cells.flatMap V.tokC := by
      rw [← hx]
      cases tok with
      | none => rfl
      | some id => simp only [V.keep1,V.keepC]; split <;> rfl
    rwa [this] at hq
  | agg cs => exact tok1_keep own (.agg cs) q hq
  | _ => simp [V.keep,V.keep1,V.keepC,V.toks,V.cells,V.tokC] at hq

/-- fewer blocks -/
def Gh.cut (G : Gh) (n : Nat) : Gh := { G with nb := n }
theorem Rep.cutP {n : Nat} {v : Value} {x : V} (h : Rep w G v x) (hx : okP n x = true) : Rep w (G.cut n) v x := by
  have hS : Same w G w (G.cut n) := fun _ _ h => ⟨h,rfl⟩
  cases x with
  | ptr i off =>
    cases h with
    | ptr _ _ hi => exact .ptr (w := w) (G := G.cut n) i off (by have := hx; simp only [okP,decide_eq_true_eq] at this; exact this)
  | agg cs => simp [okP] at hx
  | tup cs => simp [okP] at hx
  | dead => exact .dead _
  | func fn caps =>
    cases caps with
    | nil => exact Rep.clean hS h rfl
    | cons c cs => simp [okP] at hx
  | slice sz l ex tok =>
    obtain ⟨B,o,cap,sp,rfl,hX,hsp⟩ := h.slice_inv
    have hb := (hX.repS hsp).bareC.clean hS rfl
    simp only [V.bareC] at hb
    obtain ⟨B',o',cap',sp',he,hX',hsp'⟩ := hb.slice_inv
    injection he with e1 e2 e3
    obtain ⟨rfl,rfl,rfl⟩ : B = B' ∧ o = o' ∧ sp = sp' := by simpa using e1
    subst e3
    exact SliceAt.repS ⟨hX'.hcap,hX'.hex,hX'.hsz,hX'.hel,hX'.mem,hX.ht⟩ hsp'
  | bool b => exact Rep.clean hS h rfl
  | int k n => exact Rep.clean hS h rfl
  | str s => exact Rep.clean hS h rfl
  | nilp => exact Rep.clean hS h rfl
  | rptr cs => exact Rep.clean hS h rfl
  | nils => exact Rep.clean hS h rfl
  | nilf => exact Rep.clean hS h rfl
theorem Rep.cutC {n : Nat} {v : Value} {x : V} (h : Rep w G v x) (hx : okC n x = true) : Rep w (G.cut n) v x := by
  cases x with
  | func fn caps =>
    cases h with
    | func _ _ cvs hs hR =>
    refine .func fn _ cvs hs (fun k y hk => ?_)
    have hy := List.all_eq_true.1 hx y (List.mem_of_getElem? hk)
    simp only [Bool.and_eq_true] at hy
    exact (hR k y hk).cutP hy.1
  | _ => exact h.cutP hx
theorem Rep.cut1 {n : Nat} {v : Value} {x : V} (h : Rep w G v x) (hx : ok1 n x = true) : Rep w (G.cut n) v x := by
  cases x with
  | agg cs =>
    cases h with
    | agg vs _ hs hR =>
    exact .agg vs _ hs (fun k y hk => (hR k y hk).cutC (List.all_eq_true.1 hx y (List.mem_of_getElem? hk)))
  | _ => exact h.cutC hx
theorem Rep.cutV {n : Nat} {v : Value} {x : V} (h : Rep w G v x) (hx : okV n x = true) : Rep w (G.cut n) v x := by
  cases x with
  | tup cs =>
    cases h with
    | tup vs _ hs hR =>
    exact .tup vs _ hs (fun k y hk => (hR k y hk).cut1 (List.all_eq_true.1 hx y (List.mem_of_getElem? hk)))
  | _ => exact h.cut1 hx

theorem resV_run (hs : SR w G a.tmps s.slots) {w0 : World} {G0 : Gh} (I : Inv w0 G0 s.heap s.own s.next w G) {r : ResultVar} {x : V} (h : resV P s r = some x) :
    ∃ v,(readRes a.tmps r).run P w = .ok v w ∧ Rep w G v x := by
  cases r with
  | tmp t => exact ⟨_,rfl,hs.rep t x h⟩
  | cell b t =>
    simp only [resV] at h
    split at h
    · rename_i i p hi hp
      split at h
      · rename_i cs hcs
        obtain ⟨B,o,hv,hm⟩ := cellsOf_mem I rfl (hs.rep b p hp) hcs
        obtain ⟨v,h1,h2⟩ := run_loadV (P := P) hi hm h
        refine ⟨v, ?_,h2⟩
        simp only [readRes,hv,asAddr,Sem.run_bind,Sem.run_pure,Result.andThen_ok,h1]
      · simp at h
    · simp at h

theorem resL_run (hs : SR w G a.tmps s.slots) {w0 : World} {G0 : Gh} (I : Inv w0 G0 s.heap s.own s.next w G) : ∀ {rs : List ResultVar} {xs : List V}, resL P s rs = some xs →
    ∃ vs : List Value,(rs.mapM (readRes a.tmps)).run P w = .ok vs w ∧ LR w G vs xs
  | [],xs,h => by
    obtain rfl := Option.some.inj h
    exact ⟨[],rfl,rfl,fun k y hk => by simp at hk⟩
  | r :: rs,xs,h => by
    simp only [resL] at h
    split at h
    · rename_i v vs hv hvs
      obtain rfl := Option.some.inj h
      obtain ⟨u,hu,hur⟩ := resV_run (P := P) hs I hv
      obtain ⟨us,hus,husr⟩ := resL_run hs I hvs
      refine ⟨u :: us, ?_,by simp [husr.len],fun k y hk => ?_⟩
      · rw [List.mapM_cons]
        simp only [Sem.run_bind,hu,hus,Sem.run_pure,Result.andThen_ok]
      · cases k with
        | zero => obtain rfl : v = y := by simpa using hk
                  exact hur
        | succ k => exact husr.rep k y (by simpa using hk)
    · simp at h

theorem results_run (hs : SR w G a.tmps s.slots) {w0 : World} {G0 : Gh} (I : Inv w0 G0 s.heap s.own s.next w G) {fn : Func} {x : V} (h : resOf P s fn.results.toList = some x) :
    ∃ v,(results fn a.tmps).run P w = .ok v w ∧ Rep w G v x := by
  unfold resOf at h
  have key : ∀ xs,resL P s fn.results.toList = some xs → ∃ vs : List Value,(fn.results.mapM (readRes a.tmps)).run P w = .ok vs.toArray w ∧ LR w G vs xs := fun xs hx => by
    obtain ⟨vs,h1,h2⟩ := resL_run (P := P) hs I hx
    refine ⟨vs, ?_,h2⟩
    rw [Array.mapM_eq_mapM_toList]
    simp only [Sem.run_map,h1,Result.andThen_ok]
  split at h
  · rename_i v hv
    obtain rfl := Option.some.inj h
    obtain ⟨vs,h1,h2⟩ := key _ hv
    obtain ⟨u,rfl⟩ : ∃ u,vs = [u] := by
      match vs,h2.len with
      | [u],_ => exact ⟨u,rfl⟩
    refine ⟨u, ?_,h2.rep 0 _ rfl⟩
    rw [results_eq]
    simp only [Sem.run_bind,h1,Result.andThen_ok]
    rfl
  · rename_i vs hne hv
    obtain rfl := Option.some.inj h
    obtain ⟨us,h1,h2⟩ := key _ hv
    have hl : us.toArray.size ≠ 1 := by
      intro h
      have h' : us.length = 1 := by simpa using h
      have := h2.len
      match vs,(by omega : vs.length = 1) with
      | [u],_ => exact hne u rfl
    refine ⟨.tuple us.toArray, ?_, .tup _ _ (by simpa using h2.len) (fun k y hk => by have := h2.rep k y hk; simpa [List.getD] using this)⟩
    rw [results_eq]
    simp only [Sem.run_bind,h1,Result.andThen_ok]
    rw [dif_neg hl]
    rfl
  · simp at h

/-- what a function ends with: its result, the heap that the caller gets back -/
def Ends (P : Program) (fn : Func) (n : Nat) (R : V → List (List V) → Prop) (s : St) : Prop :=
  ∃ x m,resOf P s fn.results.toList = some x ∧ n ≤ m ∧ m ≤ s.heap.length ∧
    (m = s.heap.length ∨ (okV m x && (s.heap.take m).all fun cs => cs.all (okC m)) = true) ∧ R (x.keep s.own) ((s.heap.take m).map fun cs => cs.map (V.keepC s.own))

/-- the state that a function begins with -/
def St.begin (fn : Func) (args : List V) (h : List (List V)) (n : Nat) : St :=
  { slots := args ++ List.replicate (fn.ntmps - args.length) (.tup []),heap := h,own := ownOf args h,next := n }

theorem VC_intro {f : FuncId} {fn : Func} {c : Code} {args : List V} {h : List (List V)} {R : V → List (List V) → Prop} (hf : P.funcs[f]? = some fn) (hb : fn.body = some c) (hn : (fn.name == "runtime.NumGoroutine") = false)
    (H : ∀ n,WC P c (fun e s => (e = .normal ∨ e = .ret) ∧ Ends P fn h.length R s) (St.begin fn args h n)) : VC P f args h R := by
  refine ⟨⟨fn,hf,hn,by rw [hb]; rfl⟩,fun w G cargs hl hh ho hs => ?_⟩
  refine calls_of_wp hf hb ?_
  have hsz : cargs.size = args.length := by simpa using hl.len
  have hinv : Inv w G h (ownOf args h) G.nx w G := ⟨hh,ho,hs,Since.refl (fun _ _ => trivial),Mono.refl _ _,rfl⟩
  refine H G.nx w G _ w _ ⟨G,⟨?_, ?_⟩,hinv,rfl⟩ ?_
  · simp [St.begin,hsz]
  · intro t x hx
    simp only [St.begin] at hx
    rcases Nat.lt_or_ge t args.length with ht | ht
    · rw [List.getElem?_append_left ht] at hx
      have := hl.rep t x hx
      have e : (cargs ++ Array.replicate (fn.ntmps - cargs.size) undef).getD t undef = cargs.toList.getD t undef := by
        rw [Array.getD_eq_getD_getElem?,Array.getElem?_append_left (by omega),← Array.getElem?_toList,← List.getD]
      rw [e]; exact this
    · rw [List.getElem?_append_right ht] at hx
      have hx' := List.mem_of_getElem? hx
      obtain rfl := List.eq_of_mem_replicate hx'
      have e : (cargs ++ Array.replicate (fn.ntmps - cargs.size) undef).getD t undef = undef := by
        rw [Array.getD_eq_getD_getElem?,Array.getElem?_append_right (by omega)]
        cases hq : (Array.replicate (fn.ntmps - cargs.size) undef)[t - cargs.size]? with
        | none => rfl
        | some v =>
          have := Array.getElem?_eq_some_iff.1 hq
          obtain ⟨h1,h2⟩ := this
          rw [← h2]; simp
      rw [e]; exact undef_rep
  · intro e s a w' hK hc
    obtain ⟨he,x,m,hres,hnm,hml,hcut,hR⟩ := hK
    obtain ⟨G',hs',I',hd⟩ := hc
    obtain ⟨v,hv,hvr⟩ := results_run hs' I' hres
    have hkeep := hvr.keep (own := s.own)
    have hnb := I'.heap.nb
    have hpost : (fun (e : Ending) (w' : World) => ∃ v G' r h',e = .returned v ∧ R r h' ∧ Rep w' G' v r ∧ HeapOk w' G' h' ∧ OwnOk w' G' (ownOf [r] h') ∧ SOk w' G' ∧ Since w G w' G' ∧ Mono w G w' G') (.returned v) w' := by
      have hm0 : Mono w' G' w' (G'.cut m) ∨ True := .inr trivial
      have hrepC : ∀ (b : Nat) cs,s.heap[b]? = some cs → b < m → ∀ (k : Nat) y v,cs[k]? = some y → Rep w' G' v y → Rep w' (G'.cut m) v y := by
        intro b cs hb hbm k y v hk hr
        rcases hcut with hcut | hcut
        · rw [show G'.cut m = G' from by rw [hcut,← hnb]; rfl]; exact hr
        · simp only [Bool.and_eq_true] at hcut
          have h1 := List.all_eq_true.1 hcut.2 cs (List.mem_of_getElem? (by rw [List.getElem?_take,if_pos hbm]; exact hb))
          exact hr.cutC (List.all_eq_true.1 h1 y (List.mem_of_getElem? hk))
      have hrepV : Rep w' (G'.cut m) v x := by
        rcases hcut with hcut | hcut
        · rw [show G'.cut m = G' from by rw [hcut,← hnb]; rfl]; exact hvr
        · simp only [Bool.and_eq_true] at hcut
          exact hvr.cutV hcut.1
      have htake : ∀ (b : Nat) cs,(s.heap.take m)[b]? = some cs → b < m ∧ s.heap[b]? = some cs := fun b cs hb => by
        rw [List.getElem?_take] at hb
        split at hb
        · exact ⟨‹_›,hb⟩
        · simp at hb
      refine ⟨v,G'.cut m,_,_,rfl,hR,hrepV.keep,⟨by simp [Gh.cut]; omega,fun b cs hb => ?_,fun b b' hb hb' hm => ?_,fun b o hb => ?_⟩,
        ⟨fun id n hq => ?_,I'.own.ok,I'.own.there,I'.own.notS,fun id n T b k hT hk hb => I'.own.notMu id n T b k hT hk (by have hb' : b < m := hb; omega),I'.own.apart⟩,I'.sok, ?_, ?_⟩
      · rw [List.getElem?_map,Option.map_eq_some_iff] at hb
        obtain ⟨cs0,hb,rfl⟩ := hb
        obtain ⟨hbm,hb⟩ := htake b cs0 hb
        obtain ⟨arr,e1,ha,has,hrr⟩ := I'.heap.blk b cs0 hb
        refine ⟨arr,e1,ha,by simpa using has,fun k y hk => ?_⟩
        rw [List.getElem?_map,Option.map_eq_some_iff] at hk
        obtain ⟨z,hz,rfl⟩ := hk
        obtain ⟨h1,h2⟩ := hrr k z hz
        refine ⟨?_,(hrepC b cs0 hb hbm k z _ hz h2).keepC⟩
        cases z <;> first | rfl | (simp [V.isCell] at h1; done) | skip
        rename_i sz l ex tok
        cases tok with
        | none => rfl
        | some id => simp only [V.keepC]; split <;> rfl
      · have h1 : b < m := hb
        have h2 : b' < m := hb'
        exact I'.heap.inj b b' (by omega) (by omega) hm
      · have h1 : b < m := hb
        exact I'.heap.notS b o (by omega)
      · have hmem : (id,n) ∈ s.own := by
          simp only [ownOf,List.mem_append,List.flatMap_cons,List.flatMap_nil,List.append_nil] at hq
          rcases hq with hq | hq
          · exact toks_keep s.own x _ hq
          · simp only [List.mem_flatMap] at hq
            obtain ⟨cs,hcs,y,hy,hq⟩ := hq
            obtain ⟨cs0,_,rfl⟩ := List.mem_map.1 hcs
            obtain ⟨z,_,rfl⟩ := List.mem_map.1 hy
            exact tokC_keep s.own z _ hq
        exact I'.own.mem id n hmem
      · have si := I'.since
        exact ⟨si.os,si.tape,si.output,si.size,si.same,si.part,si.newS,fun b hb hb' => si.newMu b hb (by have h1 : b < m := hb'; omega),si.newTk,si.tkId,si.mxKeep⟩
      · have mo := I'.mono
        have hgn : G.nb = h.length := hh.nb
        exact ⟨mo.S,by show G.nb ≤ m; omega,mo.mu,mo.nx,mo.mx,mo.tk⟩
    rcases he with rfl | rfl
    · exact ⟨hd,v,hv,hpost⟩
    · exact ⟨hd,v,hv,hpost⟩
end
end Go.PV
