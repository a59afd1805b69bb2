/- A region's operations over abstract states: weakest preconditions; one behind the other. -/
import Derived.Test.YtpgfcfojojemjaaPVs
namespace Go.PV
set_option linter.unusedVariables false
set_option linter.unusedSimpArgs false

def St.put (s : St) (dst : Option Tmp) (v : V) : St := match dst with
  | some d => { s with slots := s.slots.set d v }
  | none => s

/-- lists of values, the callee's beside the caller's -/
def fitsL (ρ : List Nat) : List V → List V → Prop
  | [], [] => True
  | x :: xs,y :: ys => Fits ρ x y ∧ fitsL ρ xs ys
  | _,_ => False
def fitsCL (ρ : List Nat) : List V → List V → Prop
  | [], [] => True
  | x :: xs,y :: ys => FitsC ρ x y ∧ fitsCL ρ xs ys
  | _,_ => False
/-- blocks that are handed over -/
def fitsH (heap : List (List V)) (ρ : List Nat) : List Nat → List (List V) → Prop
  | [], [] => True
  | b :: bs,cs' :: hl => (∃ cs,heap[b]? = some cs ∧ fitsCL ρ cs cs') ∧ fitsH heap ρ bs hl
  | _,_ => False

/-- which blocks a call may be handed, where an order is drawn: all (no order is drawn), those told, none -/
inductive Lim
  | free
  | blocks (W : List Nat)
  | only
def Lim.lets : Lim → List Nat → Prop
  | .free,_ => True
  | .blocks W, ρ => ∀ b ∈ ρ,b ∈ W
  | .only,_ => False

/-- a call of a function by its number -/
inductive WFn (P : Program) (lim : Lim) (f : FuncId) (xs : List V) (K : V → St → Prop) (s : St) : Prop
  | pure (r : V) (c : VC P f (xs.map V.bare) [] fun r' _ => r' = r) (hp : xs.all V.noP = true) (hr : r.noP = true) (hK : K r.bare s)
  | some_ (R : V → List (List V) → Prop) (hl : lim = .free) (c : VC P f (xs.map V.bare) [] R) (hp : xs.all V.noP = true) (hK : ∀ r h',R r h' → r.noP = true ∧ K r.bare s)
  | ref (ρ : List Nat) (args' : List V) (hl : List (List V)) (R : V → List (List V) → Prop) (c : VC P f args' hl R) (hf : fitsL ρ xs args') (hn : ρ.Nodup) (hh : fitsH s.heap ρ ρ hl)
      (hown : ∀ q ∈ ownOf args' hl,q ∈ s.own) (hlim : lim.lets ρ) (hne : lim ≠ .free → ∃ r h',R r h' ∧ ρ.length ≤ h'.length)
      (hK : ∀ r h' n',R r h' → s.next ≤ n' → ρ.length ≤ h'.length →
        K (ren (rhoAfter s.heap.length ρ h'.length) r) { s with heap := heapAfter s.heap ρ h',own := ownAfter s.own (ownOf args' hl) (ownOf [r] h'),next := n' })
  | lend (ys : List V) (r : V) (hl : lim ≠ .only) (c : VC P f ys [] fun r' _ => r' = r) (hy : lentL s.heap xs ys) (hr : r.pl = true) (hK : K r s)
  | gen (R : V → List (List V) → List (Nat × Nat) → Nat → Prop) (hl : lim = .free ∨ (∃ W,lim = .blocks W ∧ ∀ b,b < s.heap.length → b ∈ W) ∧ (∃ r h' ow' n',R r h' ow' n') ∧ ∀ r h' ow' n',R r h' ow' n' → s.heap.length ≤ h'.length) (e : Enters P f)
      (c : ∀ (w0 : World) (G0 : Gh) (w : World) (G : Gh) (cargs : Array Value),LR w G cargs.toList xs → Inv w0 G0 s.heap s.own s.next w G →
        Calls P f cargs w fun e w' => ∃ v G' r h' ow' n',e = .returned v ∧ R r h' ow' n' ∧ Rep w' G' v r ∧ Inv w0 G0 h' ow' n' w' G' ∧ Mono w G w' G')
      (hK : ∀ r h' ow' n',R r h' ow' n' → K r { s with heap := h',own := ow',next := n' })

/-- an operation: its result and the state behind it, its slots as they were -/
def WRun (P : Program) (lim : Lim) (op : Op) (K : V → St → Prop) (s : St) : Prop :=
  match opV P s op with
  | some v => K v s
  | none => match loudV P s op with
    | some (v,h,ow,nx) => K v { s with heap := h,own := ow,next := nx }
    | none => match op with
      | .call { callee := .value f,args, .. } => ∃ fid caps xs,ev s f = some (.func (.func fid) caps) ∧ evL s args.toList = some xs ∧ WFn P lim fid (xs ++ caps) K s
      | _ => False

def WOp1 (P : Program) (lim : Lim) (o : Oper) (K : St → Prop) (s : St) : Prop := WRun P lim o.op (fun v s' => K (s'.put o.dst v)) s

def WOp (P : Program) (lim : Lim) (ops : Array Oper) (o : Oper) (K : St → Prop) (s : St) : Prop :=
  match o.guard with
  | none => WOp1 P lim o K s
  | some (j,want) => match (ops[j]?).bind (·.dst) with
    | none => False
    | some d => match s.slots[d]? with
      | some (.bool b) => (b = want → WOp1 P lim o K s) ∧ (b ≠ want → K (s.put o.dst (.tup [])))
      | some (.tup []) => K (s.put o.dst (.tup []))
      | _ => False

def WOps (P : Program) (ops : Array Oper) : List Oper → (St → Prop) → St → Prop
  | [],K,s => K s
  | o :: os,K,s => WOp P .free ops o (WOps P ops os K) s

/-- the frame and the world are as the abstract state says -/
def CInv (w0 : World) (G0 : Gh) (s : St) (a : Act) (w : World) : Prop := ∃ G, SR w G a.tmps s.slots ∧ Inv w0 G0 s.heap s.own s.next w G ∧ a.defers = []

section
variable {P : Program} {w0 w w' : World} {G0 G G' : Gh} {s : St} {a : Act}

theorem SR.put {tmps : Array Value} {slots : List V} (h : SR w G tmps slots) {d : Nat} {v : Value} {x : V} (hr : Rep w G v x) : SR w G (tmps.setIfInBounds d v) (slots.set d x) := by
  refine ⟨by simp [h.len],fun t y hy => ?_⟩
  by_cases ht : d = t
  · subst ht
    have hl : d < slots.length := by
      have := (List.getElem?_eq_some_iff.1 hy).1
      simpa using this
    obtain rfl : x = y := by simpa [List.getElem?_set,hl] using hy
    have : (tmps.setIfInBounds d v).getD d undef = v := by
      have : d < tmps.size := by rw [h.len]; exact hl
      simp [this]
    rw [this]; exact hr
  · rw [List.getElem?_set_ne ht] at hy
    have := h.rep t y hy
    have e : (tmps.setIfInBounds d v).getD t undef = tmps.getD t undef := by
      rw [Array.getD_eq_getD_getElem?,Array.getElem?_setIfInBounds_ne ht,← Array.getD_eq_getD_getElem?]
    rw [e]; exact this

theorem CInv.put (hs : SR w G a.tmps s.slots) (I : Inv w0 G0 s.heap s.own s.next w G) (hd : a.defers = []) {dst : Option Tmp} {v : Value} {x : V} (hr : Rep w G v x) : CInv w0 G0 (s.put dst x) (a.put dst v) w := by
  cases dst with
  | none => exact ⟨G,hs,I,hd⟩
  | some d => exact ⟨G,hs.put hr,I,hd⟩

theorem fitsL_spec {ρ : List Nat} : ∀ {xs ys : List V}, fitsL ρ xs ys → xs.length = ys.length ∧ ∀ (k : Nat) x x', xs[k]? = some x → ys[k]? = some x' → Fits ρ x x'
  | [], [],_ => ⟨rfl,fun k x x' h => by simp at h⟩
  | x :: xs,y :: ys,h => by
    obtain ⟨h1,h2⟩ := fitsL_spec h.2
    refine ⟨by simp [h1],fun k z z' hz hz' => ?_⟩
    cases k with
    | zero =>
      obtain rfl : x = z := by simpa using hz
      obtain rfl : y = z' := by simpa using hz'
      exact h.1
    | succ k => exact h2 k z z' (by simpa using hz) (by simpa using hz')
  | [],_ :: _,h => h.elim
  | _ :: _, [],h => h.elim
theorem fitsCL_spec {ρ : List Nat} : ∀ {xs ys : List V}, fitsCL ρ xs ys → xs.length = ys.length ∧ ∀ (k : Nat) x x', xs[k]? = some x → ys[k]? = some x' → FitsC ρ x x'
  | [], [],_ => ⟨rfl,fun k x x' h => by simp at h⟩
  | x :: xs,y :: ys,h => by
    obtain ⟨h1,h2⟩ := fitsCL_spec h.2
    refine ⟨by simp [h1],fun k z z' hz hz' => ?_⟩
    cases k with
    | zero =>
      obtain rfl : x = z := by simpa using hz
      obtain rfl : y = z' := by simpa using hz'
      exact h.1
    | succ k => exact h2 k z z' (by simpa using hz) (by simpa using hz')
  | [],_ :: _,h => h.elim
  | _ :: _, [],h => h.elim
theorem fitsH_spec {heap : List (List V)} {ρ : List Nat} : ∀ {bs : List Nat} {hl : List (List V)}, fitsH heap ρ bs hl → hl.length = bs.length ∧ (∀ b ∈ bs, b < heap.length) ∧
    ∀ (i b : Nat) (cs' : List V),bs[i]? = some b → hl[i]? = some cs' → ∃ cs : List V,heap[b]? = some cs ∧ cs.length = cs'.length ∧ ∀ (k : Nat) x x',cs[k]? = some x → cs'[k]? = some x' → FitsC ρ x x'
  | [], [],_ => ⟨rfl,fun _ h => by simp at h,fun k x x' h => by simp at h⟩
  | b :: bs,cs' :: hl,h => by
    obtain ⟨h1,h2,h3⟩ := fitsH_spec h.2
    obtain ⟨⟨cs,hb,hc⟩,_⟩ := h
    refine ⟨by simp [h1],fun x hx => ?_,fun k z z' hz hz' => ?_⟩
    · rcases List.mem_cons.1 hx with rfl | hx
      · exact (List.getElem?_eq_some_iff.1 hb).1
      · exact h2 x hx
    · cases k with
      | zero =>
        obtain rfl : b = z := by simpa using hz
        obtain rfl : cs' = z' := by simpa using hz'
        exact ⟨cs,hb,fitsCL_spec hc⟩
      | succ k => exact h3 k z z' (by simpa using hz) (by simpa using hz')
  | [],_ :: _,h => h.elim
  | _ :: _, [],h => h.elim

theorem run_callFunc {f : FuncId} (h : Enters P f) (args : Array Value) (w : World) : (callFunc f args).run P w = .ok (.enter f args) w := by
  obtain ⟨fn,h1,h2,h3⟩ := h
  have h2' : ¬ (fn.name = "runtime.NumGoroutine") := by simpa using h2
  have h3' : ¬ (fn.body = none) := by
    intro h; rw [h] at h3; simp at h3
  unfold callFunc
  simp [h1,h2',h3']

theorem wFn_sound {lim : Lim} {f : FuncId} {xs : List V} {dst : Option Tmp} {K : St → Prop} (h : WFn P lim f xs (fun v s' => K (s'.put dst v)) s) (hs : SR w G a.tmps s.slots) (I : Inv w0 G0 s.heap s.own s.next w G) (hd : a.defers = [])
    {cargs : Array Value} (hl : LR w G cargs.toList xs) {N : Act → World → Prop} (hN : ∀ s' a' w',K s' → CInv w0 G0 s' a' w' → N a' w') {Q : Exit → Act → World → Prop} {o : Oper} (ho : o.dst = dst) :
    Enters P f ∧ Calls P f cargs w fun
      | .returned v,w'' => N (a.put o.dst v) w''
      | .panicked chain,w'' => Q (.panic chain) a w''
      | .outgrown,_ => LetsOut Q := by
  cases h with
  | pure r c hp hr hK =>
    refine ⟨c.1,(call_pure I c hl hp (fun r' _ h => by rw [h]; exact hr)).mono ?_⟩
    rintro e w' ⟨v,G',r',h',rfl,rfl,hrep,I',m'⟩
    rw [ho]
    exact hN _ _ _ hK (CInv.put (hs.mono m') I' hd hrep)
  | some_ R hlim c hp hK =>
    refine ⟨c.1,(call_pure I c hl hp (fun r' h' h => (hK r' h' h).1)).mono ?_⟩
    rintro e w' ⟨v,G',r',h',rfl,hR,hrep,I',m'⟩
    rw [ho]
    exact hN _ _ _ (hK r' h' hR).2 (CInv.put (hs.mono m') I' hd hrep)
  | ref ρ args' hl' R c hf hn hh hown hlim hne hK =>
    obtain ⟨h1,h2,h3⟩ := fitsH_spec hh
    refine ⟨c.1,(call_ref I c hl (fitsL_spec hf) hn h2 h1 h3 hown).mono ?_⟩
    rintro e w' ⟨v,G',r,h',n',rfl,hR,hnx,hle,hrep,I',m'⟩
    rw [ho]
    exact hN _ _ _ (hK r h' n' hR hnx hle) (CInv.put (s := { s with heap := heapAfter s.heap ρ h',own := ownAfter s.own (ownOf args' hl') (ownOf [r] h'),next := n' }) (hs.mono m') I' hd hrep)
  | lend ys r hlim c hy hr hK =>
    refine ⟨c.1,(call_lend I c hl hy hr).mono ?_⟩
    rintro e w' ⟨v,G',rfl,hrep,I',m'⟩
    rw [ho]
    exact hN _ _ _ hK (CInv.put (hs.mono m') I' hd hrep)
  | gen R hlim e c hK =>
    refine ⟨e,(c w0 G0 w G cargs hl I).mono ?_⟩
    rintro e w' ⟨v,G',r,h',ow',n',rfl,hR,hrep,I',m'⟩
    rw [ho]
    exact hN _ _ _ (hK r h' ow' n' hR) (CInv.put (s := { s with heap := h',own := ow',next := n' }) (hs.mono m') I' hd hrep)

theorem wOp1_sound {lim : Lim} {o : Oper} {K : St → Prop} (h : WOp1 P lim o K s) (c : CInv w0 G0 s a w) {N : Act → World → Prop} (hN : ∀ s' a' w', K s' → CInv w0 G0 s' a' w' → N a' w') {Q : Exit → Act → World → Prop} :
    o.wp P a w N Q := by
  obtain ⟨G,hs,I,hd⟩ := c
  unfold WOp1 WRun at h
  unfold Oper.wp
  split at h
  · rename_i v hv
    obtain ⟨r,w',G',hrun,hr,I',m'⟩ := opV_good I hs hv
    rw [hrun]
    exact hN _ _ _ h (CInv.put (hs.mono m') I' hd hr)
  · split at h
    · rename_i v hh ow nx hv
      obtain ⟨r,w',G',hrun,hr,I',m'⟩ := loudV_good I hs hv
      rcases hrun with hrun | ⟨hrun,rfl⟩
      · rw [hrun]
        exact hN _ _ _ h (CInv.put (s := { s with heap := hh,own := ow,next := nx }) (hs.mono m') I' hd hr)
      · rw [hrun]
        exact hN _ _ _ h (CInv.put (s := { s with heap := hh,own := ow,next := nx }) (hs.mono m') I' hd hr)
    · obtain ⟨dst,op,ty,pos,after,guard⟩ := o
      simp only at h ⊢
      cases op <;> first | exact h.elim | skip
      rename_i cl _ _
      obtain ⟨callee,args,ts⟩ := cl
      cases callee <;> first | exact h.elim | skip
      · rename_i f _ _
        obtain ⟨fid,caps,xs,hf,hxs,hw⟩ := h
        have hrf := ev_rep hs hf
        generalize hfv : a.eval f = fv at hrf
        cases hrf with
        | func fn _ cvs hcs hcr =>
        have hl := evL_rep hs hxs
        have hl2 : LR w G ((args.map a.eval) ++ cvs).toList (xs ++ caps) := by
          rw [Array.toList_append,Array.toList_map]
          exact hl.append ⟨by simpa using hcs,fun k y hk => by have := hcr k y hk; rwa [Array.getD_eq_getD_getElem?,← Array.getElem?_toList,← List.getD] at this⟩
        obtain ⟨hE,hC⟩ := wFn_sound (o := ⟨dst, .call { callee := .value f,args := args,argTypes := ts },ty,pos,after,guard⟩) hw hs I hd hl2 hN (Q := Q) rfl
        have hrun : (execOp a.eval ⟨dst, .call { callee := .value f,args := args,argTypes := ts },ty,pos,after,guard⟩).run P w = .ok (.enter fid ((args.map a.eval) ++ cvs)) w := by
          simp [execOp,resolve,hfv,Deferred.ofValue,invoke,run_callFunc hE]
        rw [hrun]
        exact hC

theorem yielded_at {ops : Array Oper} {j d : Nat} (hj : (ops[j]?).bind (·.dst) = some d) (hs : SR w G a.tmps s.slots) :
    (∀ b,s.slots[d]? = some (.bool b) → yielded ops a.tmps j = some b) ∧ (s.slots[d]? = some (.tup []) → yielded ops a.tmps j = none) := by
  constructor
  · intro b hb
    have hr := hs.rep d _ hb
    have hl := (List.getElem?_eq_some_iff.1 hb).1
    have : a.tmps[d]? = some (a.tmps.getD d undef) := by simp [show d < a.tmps.size from by rw [hs.len]; exact hl]
    generalize a.tmps.getD d undef = v at hr this
    cases hr
    simp [yielded,hj,this]
  · intro hb
    have hr := hs.rep d _ hb
    have hl := (List.getElem?_eq_some_iff.1 hb).1
    have : a.tmps[d]? = some (a.tmps.getD d undef) := by simp [show d < a.tmps.size from by rw [hs.len]; exact hl]
    generalize a.tmps.getD d undef = v at hr this
    cases hr
    simp [yielded,hj,this]

theorem wOp_sound {lim : Lim} {ops : Array Oper} {i : Nat} {o : Oper} (hi : ops[i]? = some o) {K : St → Prop} (h : WOp P lim ops o K s) (c : CInv w0 G0 s a w) {N : Act → World → Prop}
    (hN : ∀ s' a' w',K s' → CInv w0 G0 s' a' w' → N a' w') {Q : Exit → Act → World → Prop} : wpOp P ops Q i N a w := by
  unfold wpOp
  rw [hi]
  dsimp only
  have hskip : K (s.put o.dst (.tup [])) → N (a.put o.dst undef) w := fun hk => by
    obtain ⟨G,hs,I,hd⟩ := c
    exact hN _ _ _ hk (CInv.put hs I hd undef_rep)
  unfold WOp at h
  split at h
  · rename_i hg
    rw [if_pos (by simp [Region.wanted,hg])]
    exact .inl (wOp1_sound h c hN)
  · rename_i j want hg
    split at h
    · exact h.elim
    · rename_i d hd
      split at h
      · rename_i b hb
        have hy : yielded ops a.tmps j = some b := by
          obtain ⟨G,hs,I,_⟩ := c
          exact (yielded_at hd hs).1 b hb
        by_cases hw : b = want
        · rw [if_pos (by simp [Region.wanted,hg,hy,hw])]
          exact .inl (wOp1_sound (h.1 hw) c hN)
        · rw [if_neg (by simp [Region.wanted,hg,hy,hw])]
          exact hskip (h.2 hw)
      · rename_i hb
        have hy : yielded ops a.tmps j = none := by
          obtain ⟨G,hs,I,_⟩ := c
          exact (yielded_at hd hs).2 hb
        rw [if_neg (by simp [Region.wanted,hg,hy])]
        exact hskip h
      · exact h.elim

theorem wOps_sound {ops : Array Oper} {Q : Exit → Act → World → Prop} {K : St → Prop} (hQ : ∀ s' a' w', K s' → CInv w0 G0 s' a' w' → Q .normal a' w') : ∀ (os : List Oper) (k : Nat), (∀ j o, os[j]? = some o → ops[k + j]? = some o) → ∀ {s : St} {a : Act} {w : World},
    WOps P ops os K s → CInv w0 G0 s a w → wpOps P ops Q (List.range' k os.length) a w
  | [],k,_,s,a,w,h,c => hQ s a w h c
  | o :: os,k,hk,s,a,w,h,c => by
    rw [List.length_cons,List.range'_succ,wpOps_cons]
    refine wOp_sound (by simpa using hk 0 o rfl) h c (fun s' a' w' hK' c' => ?_)
    exact wOps_sound hQ os (k + 1) (fun j o' hj => by rw [show k + 1 + j = k + (j + 1) from by omega]; exact hk (j + 1) o' (by simpa using hj)) hK' c'

theorem wRegion_sound {id : Nat} {ops : Array Oper} {Q : Exit → Act → World → Prop} {K : St → Prop} (h : WOps P ops ops.toList K s) (c : CInv w0 G0 s a w) (hQ : ∀ s' a' w', K s' → CInv w0 G0 s' a' w' → Q .normal a' w') :
    (Code.region id ops false).wp P Q a w := by
  refine wp_region ?_
  have := wOps_sound hQ ops.toList 0 (fun j o hj => by simpa using hj) h c
  rwa [← List.range_eq_range',Array.length_toList] at this
end
end Go.PV
