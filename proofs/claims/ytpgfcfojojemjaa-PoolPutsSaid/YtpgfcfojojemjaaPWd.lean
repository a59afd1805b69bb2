/- Closed calls: an evaluator of the calculus, and that what it comes to holds. -/
import Derived.Test.YtpgfcfojojemjaaPWc
namespace Go.PV
set_option linter.unusedVariables false
set_option linter.unusedSimpArgs false

/-! ## one behind the other -/
section
variable {P : Program} {w0 w w' : World} {G0 G G' : Gh}
theorem Since.wr (a : Since w0 G0 w G) (m : Mono w0 G0 w G) {b o : Nat} (h : Wr G b o) : Wr G0 b o ∨ w0.heap.size ≤ b := by
  rcases h with ⟨i,hi,rfl⟩ | ⟨id,n,T,hT,rfl,hk⟩
  · rcases Nat.lt_or_ge i G0.nb with h0 | h0
    · exact .inl (.inl ⟨i,h0,(m.mu i h0).symm⟩)
    · exact .inr (a.newMu i h0 hi)
  · exact a.newTk id n T o hT hk
theorem Since.trans (a : Since w0 G0 w G) (m : Mono w0 G0 w G) (b : Since w G w' G') (m' : Mono w G w' G') : Since w0 G0 w' G' := by
  have hwr : ∀ k o,k < w0.heap.size → ¬ Wr G0 k o → ¬ Wr G k o := fun k o hk h h' => by
    rcases a.wr m h' with h1 | h1
    · exact h h1
    · omega
  refine ⟨b.os.trans a.os,b.tape.trans a.tape,b.output.trans a.output,Nat.le_trans a.size b.size,fun k hk hn => ?_,fun k arr e fr hk => ?_,fun x o h => ?_,fun x h1 h2 => ?_,fun id n T k hT hk => ?_,fun id n T hT => ?_,fun id hid hn => ?_⟩
  · rw [b.same k (Nat.lt_of_lt_of_le hk a.size) (fun o => hwr k o hk (hn o)),a.same k hk hn]
  · obtain ⟨a1,h1,h2,h3⟩ := a.part k arr e fr hk
    obtain ⟨a2,h4,h5,h6⟩ := b.part k a1 e fr h1
    exact ⟨a2,h4,h5.trans h2,fun o ho => (h6 o (hwr k o (some_lt hk) ho)).trans (h3 o ho)⟩
  · rcases b.newS x o h with h | h | h
    · exact a.newS x o h
    · exact .inr (a.wr m h)
    · exact .inr (.inr (Nat.le_trans a.size h))
  · rcases Nat.lt_or_ge x G.nb with h | h
    · rw [m'.mu x h]; exact a.newMu x h1 h
    · exact Nat.le_trans a.size (b.newMu x h h2)
  · rcases b.newTk id n T k hT hk with h | h
    · exact a.wr m h
    · exact .inr (Nat.le_trans a.size h)
  · rcases b.tkId id n T hT with ⟨n0,T0,h⟩ | h
    · exact a.tkId id n0 T0 h
    · exact .inr (Nat.le_trans m.nx h)
  · rw [b.mxKeep id (Nat.lt_of_lt_of_le hid m.nx) (fun n => ?_),a.mxKeep id hid hn]
    cases hT : G.tk id n with
    | none => rfl
    | some T =>
      rcases a.tkId id n T hT with ⟨n0,T0,h⟩ | h
      · rw [hn n0] at h; cases h
      · omega
theorem Inv.trans {h : List (List V)} {ow : List (Nat × Nat)} {nx : Nat} {h' : List (List V)} {ow' : List (Nat × Nat)} {nx' : Nat} (a : Inv w0 G0 h ow nx w G) (b : Inv w G h' ow' nx' w' G') : Inv w0 G0 h' ow' nx' w' G' :=
  ⟨b.heap,b.own,b.sok,a.since.trans a.mono b.since b.mono,a.mono.trans b.mono,b.nx⟩
end

/-! ## the evaluator -/
abbrev CR := V × List (List V) × List (Nat × Nat) × Nat
abbrev Callee1 := FuncId → List V → List (List V) → List (Nat × Nat) → Nat → Option CR

def tabOf : List (Nat × List TD) → Nat → Option (List TD)
  | [],_ => none
  | (k,x) :: r,t => if Nat.beq k t then some x else tabOf r t
def binX (P : Program) (tab : List (Nat × List TD)) (op : BinOp) (t : TypeId) (x y : V) : Option V :=
  match op,x,y with
  | .eql, .agg a, .agg b => match tabOf tab t with
    | some ks => (cellsEq ks a b).map .bool
    | none => none
  | .neq, .agg a, .agg b => match tabOf tab t with
    | some ks => (cellsEq ks a b).map fun b => .bool !b
    | none => none
  | op,x,y => binV P op t x y
def opX (P : Program) (tab : List (Nat × List TD)) (s : St) : Op → Option V
  | .binOp op t x y _ => match ev s x,ev s y with
    | some a,some b => binX P tab op t a b
    | _,_ => none
  | .call { callee := .value f,args,argTypes } => none
  | op => opV P s op

def xRun (P : Program) (tab : List (Nat × List TD)) (call : Callee1) (s : St) (op : Op) : Option CR :=
  match opX P tab s op with
  | some v => some (v,s.heap,s.own,s.next)
  | none => match op with
    | .call { callee := .value f,args, .. } => match ev s f,evL s args.toList with
      | some (.func (.func fid) caps),some xs => call fid (xs ++ caps) s.heap s.own s.next
      | _,_ => none
    | op => loudV P s op
def lentX (heap : List (List V)) : List V → Option (List V)
  | [] => some []
  | x :: xs => match lentX heap xs with
    | none => none
    | some ys => match x with
      | .ptr b o => match heap[b]? with
        | some cs => if cs.all (fun c => c.bareC.cleanC) then some (.rptr ((cs.drop o).map V.bareC) :: ys) else none
        | none => none
      | x => if x.noP then some (x.bare :: ys) else none
def xRunD (P : Program) (tab : List (Nat × List TD)) (call : Callee1) (mode : Nat) (N0 : Nat) (s : St) (op : Op) : Option CR :=
  match op with
  | .load t a => match ev s a with
    | some (.ptr b _) => if Nat.blt b N0 then (match opX P tab s (.load t a) with
      | some v => some (v,s.heap,s.own,s.next)
      | none => none) else none
    | _ => match opX P tab s (.load t a) with
      | some v => some (v,s.heap,s.own,s.next)
      | none => none
  | .store t a x => match ev s a with
    | some (.ptr b _) => if Nat.blt b s.heap.length then loudV P s (.store t a x) else none
    | _ => none
  | .call { callee := .value f,args, .. } => match ev s f,evL s args.toList with
      | some (.func (.func fid) caps),some xs => match mode with
        | 2 => if (xs ++ caps).all V.noP then
          (match call fid ((xs ++ caps).map V.bare) [] [] 0 with
           | some (r,_) => if r.noP then some (r.bare,s.heap,s.own,s.next) else none
           | none => none) else none
        | 1 => match lentX s.heap (xs ++ caps) with
          | some ys => (match call fid ys [] [] 0 with
            | some (r,_) => if r.pl then some (r,s.heap,s.own,s.next) else none
            | none => none)
          | none => none
        | 0 => (match call fid (xs ++ caps) s.heap s.own s.next with
           | some (r,h',ow',nx') => if Nat.ble s.heap.length h'.length then some (r,h',ow',nx') else none
           | none => none)
        | _ => none
      | _,_ => none
  | op => match opX P tab s op with
    | some v => some (v,s.heap,s.own,s.next)
    | none => loudV P s op
def St.next1 (s : St) (dst : Option Tmp) (r : CR) : St := ({ s with heap := r.2.1, own := r.2.2.1, next := r.2.2.2 } : St).put dst r.1

/-- by the guard: run it, or not -/
def xGuard (ops : Array Oper) (o : Oper) (s : St) (run : Option CR) : Option St :=
  match o.guard with
  | none => match run with
    | some r => some (s.next1 o.dst r)
    | none => none
  | some (j,want) => match (ops[j]?).bind (·.dst) with
    | none => none
    | some d => match s.slots[d]? with
      | some (.bool b) => if b == want then (match run with
        | some r => some (s.next1 o.dst r)
        | none => none) else some (s.put o.dst (.tup []))
      | some (.tup []) => some (s.put o.dst (.tup []))
      | _ => none
def xOps (P : Program) (tab : List (Nat × List TD)) (call : Callee1) (ops : Array Oper) : List Oper → St → Option St
  | [],s => some s
  | o :: os,s => match xGuard ops o s (xRun P tab call s o.op) with
    | some s' => xOps P tab call ops os s'
    | none => none
def xOpsD (P : Program) (tab : List (Nat × List TD)) (call : Callee1) (mode : Nat) (N0 : Nat) (ops : Array Oper) : List Oper → St → Option St
  | [],s => some s
  | o :: os,s => match xGuard ops o s (xRunD P tab call mode N0 s o.op) with
    | some s' => xOpsD P tab call mode N0 ops os s'
    | none => none

def flOf (mode : Nat) (o : Oper) : Nat := match kindOf o.op with
  | .C => mode
  | _ => 0
/-- the first of the modes in which it runs -/
def xAny (P : Program) (tab : List (Nat × List TD)) (call : Callee1) (ops : Array Oper) (s : St) : List Nat → Option St
  | [] => none
  | m :: ms => if drawOk ops (ops.toList.map (flOf m)) then
      (match xOpsD P tab call m s.heap.length ops ops.toList s with
       | some s' => some s'
       | none => xAny P tab call ops s ms) else xAny P tab call ops s ms
inductive XC
  | code (c : Code)
  | go (c : Code) (l : Nat)

def forceL {α : Type} : List V → (List V → α) → α
  | [],k => k []
  | v :: l,k => forceL l fun l' => k (v :: l')
theorem forceL_eq {α : Type} : ∀ (l : List V) (k : List V → α), forceL l k = k l
  | [],k => rfl
  | v :: l,k => forceL_eq l _
def xForce {α : Type} (s : St) (k : St → α) : α := forceL s.slots fun l => k { s with slots := l }
theorem xForce_eq {α : Type} (s : St) (k : St → α) : xForce s k = k s := by simp [xForce, forceL_eq]

def xCode (P : Program) (tab : List (Nat × List TD)) (call : Callee1) : Nat → XC → St → Option (Exit × St)
  | 0,_,_ => none
  | n + 1, .code c,s => match c with
    | .skip => some (.normal,s)
    | .label _ => some (.normal,s)
    | .region _ ops false => match xOps P tab call ops ops.toList s with
      | some s' => xForce s' fun s'' => some (.normal,s'')
      | none => none
    | .region _ ops true => match xAny P tab call ops s [2,1,0] with
      | some s' => xForce s' fun s'' => some (.normal,s'')
      | none => none
    | .seq a b => match xCode P tab call n (.code a) s with
      | some (.normal,s') => xCode P tab call n (.code b) s'
      | r => r
    | .cond c a b => match ev s c with
      | some (.bool true) => xCode P tab call n (.code a) s
      | some (.bool false) => xCode P tab call n (.code b) s
      | _ => none
    | .block id c => match xCode P tab call n (.code c) s with
      | some (.exit id',s') => if id' = id then some (.normal,s') else some (.exit id',s')
      | r => r
    | .loop c => match xCode P tab call n (.code c) s with
      | some (.normal,s') => xCode P tab call n (.code (.loop c)) s'
      | r => r
    | .exit id => some (.exit id,s)
    | .ret => some (.ret,s)
    | .goto l => some (.goto l,s)
    | .scope c => match xCode P tab call n (.code c) s with
      | some (.goto l,s') => xCode P tab call n (.go c l) s'
      | r => r
    | _ => none
  | n + 1, .go c l,s => match findLabel c l with
    | some rest => match xCode P tab call n (.code rest) s with
      | some (.goto l',s') => xCode P tab call n (.go c l') s'
      | r => r
    | none => none

def xCall (P : Program) (tab : List (Nat × List TD)) (m : Nat) : Nat → Callee1
  | 0,_,_,_,_,_ => none
  | n + 1,f,xs,h,ow,nx => match P.funcs[f]? with
    | none => none
    | some fn => match fn.body with
      | none => none
      | some c => match xCode P tab (xCall P tab m n) m (.code c) ⟨xs ++ List.replicate (fn.ntmps - xs.length) (.tup []),h,ow,nx⟩ with
        | some (.normal,s') => match resOf P s' fn.results.toList with
          | some x => some (x,s'.heap,s'.own,s'.next)
          | none => none
        | some (.ret,s') => match resOf P s' fn.results.toList with
          | some x => some (x,s'.heap,s'.own,s'.next)
          | none => none
        | _ => none

/-! ## it is right -/
def CallOk (P : Program) (call : Callee1) : Prop := ∀ f xs h ow nx r h' ow' nx', call f xs h ow nx = some (r, h', ow', nx') →
  Enters P f ∧ ∀ (w0 : World) (G0 : Gh) (w : World) (G : Gh) (cargs : Array Value),LR w G cargs.toList xs → Inv w0 G0 h ow nx w G →
    Calls P f cargs w fun e w' => ∃ v G',e = .returned v ∧ Rep w' G' v r ∧ Inv w0 G0 h' ow' nx' w' G' ∧ Mono w G w' G'

section
variable {P : Program} {tab : List (Nat × List TD)} {call : Callee1} {s s' : St}

theorem tabOf_mem : ∀ {tab : List (Nat × List TD)} {t : Nat} {ks : List TD}, tabOf tab t = some ks → (t, ks) ∈ tab
  | [],t,ks,h => by cases h
  | (k,x) :: r,t,ks,h => by
    unfold tabOf at h
    split at h
    · rename_i hk
      obtain rfl := Nat.eq_of_beq_eq_true hk
      obtain rfl := Option.some.inj h
      simp
    · exact List.mem_cons_of_mem _ (tabOf_mem h)
def TabOk (P : Program) (tab : List (Nat × List TD)) : Prop := ∀ q ∈ tab, (∃ fs sz by_ z, ti P q.1 = some ⟨.struct fs, sz, by_, z⟩) ∧ eqK P q.1 = some q.2 ∨ (∃ n e sz by_ z, ti P q.1 = some ⟨.arr n e, sz, by_, z⟩) ∧ eqK P q.1 = some q.2

theorem TabOk.eqlV (ht : TabOk P tab) {t : Nat} {ks : List TD} (h : tabOf tab t = some ks) (a b : List V) : Go.PV.eqlV P t (.agg a) (.agg b) = cellsEq ks a b := by
  rcases ht _ (tabOf_mem h) with ⟨⟨fs,sz,by_,z,h1⟩,h2⟩ | ⟨⟨n,e,sz,by_,z,h1⟩,h2⟩
  · simp only at h1 h2; simp only [Go.PV.eqlV,h1,h2]
  · simp only at h1 h2; simp only [Go.PV.eqlV,h1,h2]
theorem binX_ok (ht : TabOk P tab) {op : BinOp} {t : TypeId} {x y v : V} (h : binX P tab op t x y = some v) : binV P op t x y = some v := by
  unfold binX at h
  split at h
  · split at h
    · rename_i ks hks; simpa only [binV,ht.eqlV hks] using h
    · cases h
  · split at h
    · rename_i ks hks; simpa only [binV,ht.eqlV hks] using h
    · cases h
  · exact h
theorem opX_ok (ht : TabOk P tab) {op : Op} {v : V} (h : opX P tab s op = some v) : opV P s op = some v := by
  unfold opX at h
  split at h
  · simp only [opV]
    split at h
    · rename_i e1 e2
      rw [e1,e2]; exact binX_ok ht h
    · cases h
  · cases h
  · exact h

theorem xRun_ok (ht : TabOk P tab) (hc : CallOk P call) {op : Op} {r : CR} (h : xRun P tab call s op = some r) {K : V → St → Prop} (hK : K r.1 { s with heap := r.2.1, own := r.2.2.1, next := r.2.2.2 }) : WRun P .free op K s := by
  unfold xRun at h
  unfold WRun
  split at h
  · rename_i v hv
    obtain rfl := Option.some.inj h
    rw [opX_ok ht hv]; exact hK
  · split at h
    · rename_i hv f args ts _
      simp only [opV,loudV]
      split at h
      · rename_i fid caps xs h1 h2
        obtain ⟨v,h',ow',nx'⟩ := r
        obtain ⟨hE,hC⟩ := hc _ _ _ _ _ _ _ _ _ h
        refine ⟨fid,caps,xs,h1,h2, .gen (fun r1 h1 ow1 nx1 => r1 = v ∧ h1 = h' ∧ ow1 = ow' ∧ nx1 = nx') (.inl rfl) hE (fun w0 G0 w G cargs hl I => (hC w0 G0 w G cargs hl I).mono ?_) ?_⟩
        · rintro e w' ⟨v1,G',rfl,hr,I',m'⟩
          exact ⟨v1,G',_,_,_,_,rfl,⟨rfl,rfl,rfl,rfl⟩,hr,I',m'⟩
        · rintro r1 h1 ow1 nx1 ⟨rfl,rfl,rfl,rfl⟩
          exact hK
      · cases h
    · rename_i hv op' hne
      cases ho : opV P s op with
      | some v =>
        obtain ⟨v1,h',ow',nx'⟩ := r
        exfalso
        cases op <;> simp only [loudV] at h <;> first | (cases h; done) | skip
        all_goals first | (simp [opV] at ho; done) | skip
        rename_i cl
        obtain ⟨callee,args,ts⟩ := cl
        cases callee <;> first | (cases h; done) | skip
        rename_i b
        cases b <;> first | (cases h; done) | skip
        simp only [opV] at ho
        first | (cases ho; done) | (split at ho <;> simp_all)
      | none =>
        obtain ⟨v,h',ow',nx'⟩ := r
        simp only [h]
        exact hK

theorem xGuard_ok {ops : Array Oper} {o : Oper} {run : Option CR} (h : xGuard ops o s run = some s') {K : St → Prop} (hK : K s') (hr : ∀ r, run = some r → K (s.next1 o.dst r) → WOp1 P .free o K s) : WOp P .free ops o K s := by
  unfold xGuard at h
  unfold WOp
  split at h
  · rename_i hg
    simp only [hg]
    split at h
    · obtain rfl := Option.some.inj h
      exact hr _ rfl hK
    · cases h
  · rename_i j want hg
    simp only [hg]
    split at h
    · cases h
    · rename_i d hd
      split at h
      · rename_i b hb
        simp only [hd,hb]
        split at h
        · rename_i hbw
          have hbw : b = want := by simpa using hbw
          split at h
          · obtain rfl := Option.some.inj h
            exact ⟨fun _ => hr _ rfl hK,fun hn => absurd hbw hn⟩
          · cases h
        · rename_i hbw
          have hbw : ¬ b = want := by simpa using hbw
          obtain rfl := Option.some.inj h
          exact ⟨fun hn => absurd hn hbw,fun _ => hK⟩
      · rename_i hb
        obtain rfl := Option.some.inj h
        simp only [hd,hb]
        exact hK
      · cases h
theorem xOps_ok (ht : TabOk P tab) (hc : CallOk P call) {ops : Array Oper} {K : St → Prop} : ∀ {os : List Oper} {s s' : St}, xOps P tab call ops os s = some s' → K s' → WOps P ops os K s
  | [],s,s',h,hK => by obtain rfl := Option.some.inj h; exact hK
  | o :: os,s,s',h,hK => by
    unfold xOps at h
    split at h
    · rename_i s1 h1
      exact xGuard_ok h1 (xOps_ok ht hc h hK) (fun r hr hk => xRun_ok ht hc hr hk)
    · cases h

/-- a call of values alone -/
theorem CallOk.pure (hc : CallOk P call) {f : FuncId} {xs : List V} {r : V} {h' : List (List V)} {ow' : List (Nat × Nat)} {nx' : Nat} (h : call f xs [] [] 0 = some (r, h', ow', nx')) (hr : r.noP = true) (hb : ownOf xs [] = []) (hx : ∀ w G G' (cargs : List Value), Same w G w G' → LR w G cargs xs → LR w G' cargs xs) :
    VC P f xs [] (fun q _ => q = r.bare) := by
  obtain ⟨hE,hC⟩ := hc _ _ _ _ _ _ _ _ _ h
  refine ⟨hE,fun w G cargs hl hh ho hs => ?_⟩
  let Ge : Gh := { G with nb := 0,tk := fun _ _ => Option.none,nx := 0,mx := fun _ => 0 }
  have hnb : G.nb = 0 := hh.nb
  have I : Inv w Ge [] [] 0 w Ge := ⟨⟨rfl,fun b cs h => by simp at h,fun b b' h => by simp [Ge] at h,fun b o h => by simp [Ge] at h⟩,
    ⟨fun _ _ h => by simp at h,fun _ _ _ h => by simp [Ge] at h,fun _ _ _ h => by simp [Ge] at h,fun _ _ _ _ h => by simp [Ge] at h,fun _ _ _ _ _ h => by simp [Ge] at h,fun _ _ _ _ _ _ _ h => by simp [Ge] at h⟩,
    hs,Since.refl (fun _ _ => trivial),Mono.refl _ _,rfl⟩
  refine (hC w Ge w Ge cargs (hx w G Ge _ (fun _ _ h => ⟨h,rfl⟩) hl) I).mono ?_
  rintro e w' ⟨v,G1,rfl,hrep,I',m'⟩
  have hwr : ∀ b o, ¬ Wr Ge b o := by
    rintro b o (⟨i,hi,_⟩ | ⟨id,n,T,hT,_⟩)
    · simp [Ge] at hi
    · simp [Ge] at hT
  let G2 : Gh := { G with S := G1.S,tk := fun _ _ => Option.none }
  have hsi := I'.since
  refine ⟨v,G2,r.bare, [],rfl,rfl,Rep.to (G := G1) (G' := G2) (show Same w' G1 w' G2 from fun _ _ h => ⟨h,rfl⟩) hrep hr,⟨hnb,fun b cs h => by simp at h,fun b b' h => by simp [G2,hnb] at h,fun b o h => by simp [G2,hnb] at h⟩, ?_,I'.sok, ?_, ?_⟩
  · have : ownOf [r.bare] [] = [] := by simp [ownOf,toks_bare]
    rw [this]
    exact ⟨fun _ _ h => by simp at h,fun _ _ _ h => by simp [G2] at h,fun _ _ _ h => by simp [G2] at h,fun _ _ _ _ h => by simp [G2] at h,fun _ _ _ _ _ h => by simp [G2] at h,fun _ _ _ _ _ _ _ h => by simp [G2] at h⟩
  · refine ⟨hsi.os,hsi.tape,hsi.output,hsi.size,fun k hk _ => hsi.same k hk (hwr k),fun k arr e fr hk => ?_,fun b o h => ?_,fun b h1 h2 => by have h2' : b < G.nb := h2; omega,fun _ _ _ _ h => by simp [G2] at h,fun _ _ _ h => by simp [G2] at h,fun _ _ _ => rfl⟩
    · obtain ⟨a1,h1,h2,h3⟩ := hsi.part k arr e fr hk
      exact ⟨a1,h1,h2,fun o _ => h3 o (hwr k o)⟩
    · rcases hsi.newS b o h with h | h | h
      · exact .inl h
      · exact (hwr b o h).elim
      · exact .inr (.inr h)
  · exact ⟨fun b o h => m'.S b o h,Nat.le_refl _,fun _ _ => rfl,Nat.le_refl _,fun _ _ => Nat.le_refl _,fun _ _ _ _ _ h => by simp [G2] at h⟩
theorem bare_LR {xs : List V} (hp : xs.all V.noP = true) (w : World) (G G' : Gh) (cargs : List Value) (hS : Same w G w G') (hl : LR w G cargs (xs.map V.bare)) : LR w G' cargs (xs.map V.bare) := by
  refine ⟨hl.len,fun k y hk => ?_⟩
  have hr := hl.rep k y hk
  rw [List.getElem?_map,Option.map_eq_some_iff] at hk
  obtain ⟨z,hz,rfl⟩ := hk
  have hzp := List.all_eq_true.1 hp z (List.mem_of_getElem? hz)
  have := hr.to hS (by
    cases z <;> first | exact hzp | skip
    · rename_i cs
      simp only [V.bare,V.bare1,V.noP,V.noP1,List.all_map,List.all_eq_true] at hzp ⊢
      intro c hc
      have := hzp c hc
      cases c <;> first | exact this | rfl
    · rename_i vs
      simp only [V.bare,V.noP,List.all_map,List.all_eq_true] at hzp ⊢
      intro c hc
      have := hzp c hc
      cases c <;> first | exact this | skip
      rename_i cs
      simp only [V.bare1,V.noP1,List.all_map,List.all_eq_true,Function.comp] at this ⊢
      intro c hc
      have := this c hc
      cases c <;> first | exact this | rfl)
  have hbb : z.bare.bare = z.bare := by
    cases z <;> first | rfl | skip
    · simp only [V.bare,V.bare1,List.map_map]
      congr 1
      apply List.map_congr_left
      intro c _
      cases c <;> rfl
    · simp only [V.bare,List.map_map]
      congr 1
      apply List.map_congr_left
      intro c _
      cases c <;> first | rfl | skip
      simp only [Function.comp,V.bare1,List.map_map]
      congr 1
      apply List.map_congr_left
      intro c _
      cases c <;> rfl
  rwa [hbb] at this

theorem bare_bare (z : V) : z.bare.bare = z.bare := by
  cases z <;> first | rfl | skip
  · simp only [V.bare,V.bare1,List.map_map]
    congr 1
    apply List.map_congr_left
    intro c _
    cases c <;> rfl
  · simp only [V.bare,List.map_map]
    congr 1
    apply List.map_congr_left
    intro c _
    cases c <;> first | rfl | skip
    simp only [Function.comp,V.bare1,List.map_map]
    congr 1
    apply List.map_congr_left
    intro c _
    cases c <;> rfl
theorem bare_noP {z : V} (hz : z.noP = true) : z.bare.noP = true := by
  cases z <;> first | exact hz | skip
  · simp only [V.bare,V.bare1,V.noP,V.noP1,List.all_map,List.all_eq_true] at hz ⊢
    intro c hc
    have := hz c hc
    cases c <;> first | exact this | rfl
  · simp only [V.bare,V.noP,List.all_map,List.all_eq_true] at hz ⊢
    intro c hc
    have := hz c hc
    cases c <;> first | exact this | skip
    rename_i cs
    simp only [V.bare1,V.noP1,List.all_map,List.all_eq_true,Function.comp] at this ⊢
    intro c hc
    have := this c hc
    cases c <;> first | exact this | rfl
theorem nb_LR {ys : List V} (hy : ∀ y ∈ ys, y.noP = true ∧ y.bare = y) (w : World) (G G' : Gh) (cargs : List Value) (hS : Same w G w G') (hl : LR w G cargs ys) : LR w G' cargs ys := by
  refine ⟨hl.len,fun k y hk => ?_⟩
  obtain ⟨h1,h2⟩ := hy y (List.mem_of_getElem? hk)
  have := (hl.rep k y hk).to hS h1
  rwa [h2] at this
theorem lentX_spec {heap : List (List V)} : ∀ {xs ys : List V}, lentX heap xs = some ys → lentL heap xs ys ∧ ownOf ys [] = [] ∧ ∀ y ∈ ys, y.noP = true ∧ y.bare = y
  | [],ys,h => by obtain rfl := Option.some.inj h; exact ⟨trivial,rfl,by simp⟩
  | x :: xs,ys,h => by
    unfold lentX at h
    split at h
    · cases h
    · rename_i ys' h'
      obtain ⟨a1,a2,a3⟩ := lentX_spec h'
      have key : ∀ y,Lent heap x y → y.noP = true → y.bare = y → lentL heap (x :: xs) (y :: ys') ∧ ownOf (y :: ys') [] = [] ∧ ∀ z ∈ y :: ys',z.noP = true ∧ z.bare = z := fun y k1 k2 k3 => by
        refine ⟨⟨k1,a1⟩, ?_,fun z hz => ?_⟩
        · have := lent_toks k1
          simp only [ownOf,List.flatMap_nil,List.append_nil,List.flatMap_cons] at a2 ⊢
          rw [this,a2]; rfl
        · rcases List.mem_cons.1 hz with rfl | hz
          · exact ⟨k2,k3⟩
          · exact a3 z hz
      split at h
      · rename_i b o
        split at h
        · rename_i cs hcs
          split at h
          · rename_i hcl
            obtain rfl := Option.some.inj h
            exact key _ (.inr ⟨b,o,cs,rfl,hcs,rfl,fun c hc => List.all_eq_true.1 hcl c hc⟩) rfl rfl
          · cases h
        · cases h
      · split at h
        · rename_i hx
          obtain rfl := Option.some.inj h
          exact key _ (.inl ⟨hx,rfl⟩) (bare_noP hx) (bare_bare _)
        · cases h
theorem pl_noP {r : V} (h : r.pl = true) : r.noP = true := by
  cases r <;> first | rfl | (simp [V.pl,V.pl1,V.pl0] at h; done) | skip
  · simp only [V.pl,V.pl1,V.noP,V.noP1,List.all_eq_true] at h ⊢
    intro c hc
    have := h c hc
    cases c <;> first | rfl | (simp [V.pl0] at this)
  · simp only [V.pl,V.noP,List.all_eq_true] at h ⊢
    intro c hc
    have := h c hc
    cases c <;> first | rfl | (simp [V.pl1,V.pl0] at this; done) | skip
    simp only [V.pl1,V.noP1,List.all_eq_true] at this ⊢
    intro c hc
    have := this c hc
    cases c <;> first | rfl | (simp [V.pl0] at this)
theorem pl_bare {r : V} (h : r.pl = true) : r.bare = r := by
  cases r <;> first | rfl | (simp [V.pl,V.pl1,V.pl0] at h; done) | skip
  · rename_i cs
    simp only [V.pl,V.pl1,List.all_eq_true] at h
    simp only [V.bare,V.bare1]
    congr 1
    conv => rhs; rw [← List.map_id cs]
    apply List.map_congr_left
    intro c hc
    have := h c hc
    cases c <;> first | rfl | (simp [V.pl0] at this)
  · rename_i vs
    simp only [V.pl,List.all_eq_true] at h
    simp only [V.bare]
    congr 1
    conv => rhs; rw [← List.map_id vs]
    apply List.map_congr_left
    intro c hc
    have := h c hc
    cases c <;> first | rfl | (simp [V.pl1,V.pl0] at this; done) | skip
    rename_i cs
    simp only [V.pl1,List.all_eq_true] at this
    simp only [V.bare1,id]
    congr 1
    conv => rhs; rw [← List.map_id cs]
    apply List.map_congr_left
    intro c hc
    have := this c hc
    cases c <;> first | rfl | (simp [V.pl0] at this)
theorem Q_opV {op : Op} {v : V} {r : CR} (ho : opV P s op = some v) (h : loudV P s op = some r) : False := by
  obtain ⟨v1,h',ow',nx'⟩ := r
  cases op <;> simp only [loudV] at h <;> first | (cases h; done) | skip
  all_goals first | (simp [opV] at ho; done) | skip
  rename_i cl
  obtain ⟨callee,args,ts⟩ := cl
  cases callee <;> first | (cases h; done) | skip
  rename_i b
  cases b <;> first | (cases h; done) | skip
  simp only [opV] at ho
  first | (cases ho; done) | (split at ho <;> simp_all)
theorem WRun_opV {lim : Lim} {op : Op} {v : V} {K : V → St → Prop} (h : opV P s op = some v) (hK : K v s) : WRun P lim op K s := by unfold WRun; rw [h]; exact hK
theorem WRun_loud {lim : Lim} {op : Op} {r : CR} {K : V → St → Prop} (h : loudV P s op = some r) (hK : K r.1 { s with heap := r.2.1, own := r.2.2.1, next := r.2.2.2 }) : WRun P lim op K s := by
  unfold WRun
  cases ho : opV P s op with
  | some v => exact (Q_opV ho h).elim
  | none =>
    obtain ⟨v,h',ow',nx'⟩ := r
    simp only [h]; exact hK

theorem xRunD_ok (ht : TabOk P tab) (hc : CallOk P call) {mode : Nat} {N0 : Nat} {o : Oper} {r : CR} (h : xRunD P tab call mode N0 s o.op = some r) {K : V → St → Prop} (hK : K r.1 { s with heap := r.2.1, own := r.2.2.1, next := r.2.2.2 }) :
    memOk (limOf (flOf mode o) [] s.heap.length) [] N0 s o.op ∧ WRun P (limOf (flOf mode o) [] s.heap.length) o.op K s := by
  obtain ⟨dst,op,ty,pos,after,guard⟩ := o
  simp only at h ⊢
  unfold xRunD at h
  split at h
  · rename_i t a
    split at h
    · rename_i b off he
      split at h
      · rename_i hb
        split at h
        · rename_i v hv
          obtain rfl := Option.some.inj h
          refine ⟨?_,WRun_opV (opX_ok ht hv) hK⟩
          simp only [memOk,he,List.not_mem_nil,not_false_eq_true,true_and]
          simpa [Nat.blt_eq] using hb
        · cases h
      · cases h
    · rename_i hne
      split at h
      · rename_i v hv
        obtain rfl := Option.some.inj h
        refine ⟨?_,WRun_opV (opX_ok ht hv) hK⟩
        simp only [memOk]
      · cases h
  · rename_i t a x
    split at h
    · rename_i b off he
      split at h
      · rename_i hb
        refine ⟨?_,WRun_loud h hK⟩
        rw [show limOf (flOf mode ⟨dst, .store t a x,ty,pos,after,guard⟩) [] s.heap.length = .blocks (List.range s.heap.length) from rfl]
        simp only [memOk,he]
        intro c hc
        obtain rfl := List.mem_singleton.1 hc
        simpa [Nat.blt_eq] using hb
      · cases h
    · cases h
  · rename_i f args ts
    refine ⟨by simp [memOk], ?_⟩
    split at h
    · rename_i fid caps xs h1 h2
      split at h
      rotate_left
      · split at h
        · rename_i ys hys
          split at h
          · rename_i r1 rest hcall
            split at h
            · rename_i hr1
              obtain rfl := Option.some.inj h
              obtain ⟨h',ow',nx'⟩ := rest
              obtain ⟨l1,l2,l3⟩ := lentX_spec hys
              have hv := hc.pure hcall (pl_noP hr1) l2 (fun w G G' cargs hS hl => nb_LR l3 w G G' cargs hS hl)
              rw [pl_bare hr1] at hv
              rw [show limOf (flOf 1 ⟨dst, .call { callee := .value f,args := args,argTypes := ts },ty,pos,after,guard⟩) [] s.heap.length = .blocks [] from rfl]
              unfold WRun
              simp only [opV,loudV]
              exact ⟨fid,caps,xs,h1,h2, .lend ys r1 (by simp) hv l1 hr1 hK⟩
            · cases h
          · cases h
        · cases h
      · split at h
        · rename_i v h' ow' nx' hcall
          split at h
          · rename_i hle
            obtain rfl := Option.some.inj h
            have hle : s.heap.length ≤ h'.length := Nat.le_of_ble_eq_true hle
            rw [show limOf (flOf 0 ⟨dst, .call { callee := .value f,args := args,argTypes := ts },ty,pos,after,guard⟩) [] s.heap.length = .blocks (List.range s.heap.length) from rfl]
            unfold WRun
            simp only [opV,loudV]
            obtain ⟨hE,hC⟩ := hc _ _ _ _ _ _ _ _ _ hcall
            refine ⟨fid,caps,xs,h1,h2, .gen (fun r1 h1 ow1 nx1 => r1 = v ∧ h1 = h' ∧ ow1 = ow' ∧ nx1 = nx') (.inr ⟨⟨_,rfl,fun b hb => List.mem_range.2 hb⟩,⟨_,_,_,_,rfl,rfl,rfl,rfl⟩, ?_⟩) hE (fun w0 G0 w G cargs hl I => (hC w0 G0 w G cargs hl I).mono ?_) ?_⟩
            · rintro r1 h1 ow1 nx1 ⟨rfl,rfl,rfl,rfl⟩; exact hle
            · rintro e w' ⟨v1,G',rfl,hr,I',m'⟩
              exact ⟨v1,G',_,_,_,_,rfl,⟨rfl,rfl,rfl,rfl⟩,hr,I',m'⟩
            · rintro r1 h1 ow1 nx1 ⟨rfl,rfl,rfl,rfl⟩
              exact hK
          · cases h
        · cases h
      · cases h
      split at h
      · rename_i hp
        split at h
        · rename_i r1 rest hcall
          split at h
          · rename_i hr1
            obtain rfl := Option.some.inj h
            obtain ⟨h',ow',nx'⟩ := rest
            have hv := hc.pure hcall hr1 (ownOf_bare _) (fun w G G' cargs hS hl => bare_LR hp w G G' cargs hS hl)
            rw [show limOf (flOf 2 ⟨dst, .call { callee := .value f,args := args,argTypes := ts },ty,pos,after,guard⟩) [] s.heap.length = .only from rfl]
            unfold WRun
            simp only [opV,loudV]
            refine ⟨fid,caps,xs,h1,h2, .pure r1.bare hv hp ?_ ?_⟩
            · cases r1 <;> first | exact hr1 | skip
              · rename_i cs
                simp only [V.bare,V.bare1,V.noP,V.noP1,List.all_map,List.all_eq_true] at hr1 ⊢
                intro c hc
                have := hr1 c hc
                cases c <;> first | exact this | rfl
              · rename_i vs
                simp only [V.bare,V.noP,List.all_map,List.all_eq_true] at hr1 ⊢
                intro c hc
                have := hr1 c hc
                cases c <;> first | exact this | skip
                rename_i cs
                simp only [V.bare1,V.noP1,List.all_map,List.all_eq_true,Function.comp] at this ⊢
                intro c hc
                have := this c hc
                cases c <;> first | exact this | rfl
            · have hbb : r1.bare.bare = r1.bare := by
                cases r1 <;> first | rfl | skip
                · simp only [V.bare,V.bare1,List.map_map]
                  congr 1
                  apply List.map_congr_left
                  intro c _
                  cases c <;> rfl
                · simp only [V.bare,List.map_map]
                  congr 1
                  apply List.map_congr_left
                  intro c _
                  cases c <;> first | rfl | skip
                  simp only [Function.comp,V.bare1,List.map_map]
                  congr 1
                  apply List.map_congr_left
                  intro c _
                  cases c <;> rfl
              rw [hbb]; exact hK
          · cases h
        · cases h
      · cases h
    · cases h
  · rename_i hL hS hC
    refine ⟨?_, ?_⟩
    · cases op <;> first | trivial | skip
      · exact (hL _ _ rfl).elim
      · exact (hS _ _ _ rfl).elim
    · split at h
      · rename_i v hv
        obtain rfl := Option.some.inj h
        exact WRun_opV (opX_ok ht hv) hK
      · exact WRun_loud h hK

theorem xGuardD_ok {ops : Array Oper} {o : Oper} {run : Option CR} {fl N0 : Nat} (h : xGuard ops o s run = some s') {K : St → Prop} (hK : K s')
    (hr : ∀ r,run = some r → K (s.next1 o.dst r) → memOk (limOf fl [] s.heap.length) [] N0 s o.op ∧ WRun P (limOf fl [] s.heap.length) o.op (fun v s' => K (s'.put o.dst v)) s) :
    DRun P [] N0 ops o fl (fun v s' => K (s'.put o.dst v)) s := by
  unfold xGuard at h
  unfold DRun
  split at h
  · rename_i hg
    simp only [hg]
    split at h
    · obtain rfl := Option.some.inj h
      exact hr _ rfl hK
    · cases h
  · rename_i j want hg
    simp only [hg]
    split at h
    · cases h
    · rename_i d hd
      split at h
      · rename_i b hb
        simp only [hd,hb]
        split at h
        · rename_i hbw
          have hbw : b = want := by simpa using hbw
          split at h
          · obtain rfl := Option.some.inj h
            exact ⟨fun _ => hr _ rfl hK,fun hn => absurd hbw hn⟩
          · cases h
        · rename_i hbw
          have hbw : ¬ b = want := by simpa using hbw
          obtain rfl := Option.some.inj h
          exact ⟨fun hn => absurd hn hbw,fun _ => hK⟩
      · rename_i hb
        obtain rfl := Option.some.inj h
        simp only [hd,hb]
        exact hK
      · cases h
theorem xOpsD_ok (ht : TabOk P tab) (hc : CallOk P call) {mode : Nat} {ops : Array Oper} {N0 : Nat} {K : St → Prop} : ∀ {os : List Oper} {s s' : St}, xOpsD P tab call mode N0 ops os s = some s' → K s' → DOpsL P [] N0 ops os (os.map (flOf mode)) K s
  | [],s,s',h,hK => by obtain rfl := Option.some.inj h; exact hK
  | o :: os,s,s',h,hK => by
    unfold xOpsD at h
    split at h
    · rename_i s1 h1
      simp only [DOpsL,List.map_cons,List.headD_cons,List.tail_cons]
      exact xGuardD_ok h1 (xOpsD_ok ht hc h hK) (fun r hr hk => xRunD_ok ht hc hr hk)
    · cases h

theorem xAny_ok (hm : P.follows .mixedOrders = true) (ht : TabOk P tab) (hc : CallOk P call) {id : Nat} {ops : Array Oper} {K : Exit → St → Prop} : ∀ (ms : List Nat) {s s' : St}, xAny P tab call ops s ms = some s' → K .normal s' → WC P (.region id ops true) K s
  | [],s,s',h,hK => by cases h
  | m :: ms,s,s',h,hK => by
    unfold xAny at h
    split at h
    · rename_i hd
      split at h
      · rename_i s1 h1
        obtain rfl := Option.some.inj h
        exact WC_regionD hm [] _ hd (xOpsD_ok ht hc h1 hK)
      · exact xAny_ok hm ht hc ms h hK
    · exact xAny_ok hm ht hc ms h hK
theorem xCode_ok (hm : P.follows .mixedOrders = true) (ht : TabOk P tab) (hc : CallOk P call) : ∀ (n : Nat) (c : Code) (s : St) (e : Exit) (s' : St) (K : Exit → St → Prop), xCode P tab call n (.code c) s = some (e, s') → K e s' → WC P c K s := by
  intro n
  induction n using Nat.strongRecOn with
  | _ n ih =>
  intro c s e s' K h hK
  cases n with
  | zero => simp [xCode] at h
  | succ n =>
  have ihn := ih n (Nat.lt_succ_self n)
  cases c with
  | skip => simp only [xCode,Option.some.injEq,Prod.mk.injEq] at h; obtain ⟨rfl,rfl⟩ := h; exact WC_skip hK
  | label l => simp only [xCode,Option.some.injEq,Prod.mk.injEq] at h; obtain ⟨rfl,rfl⟩ := h; exact WC_label hK
  | exit id => simp only [xCode,Option.some.injEq,Prod.mk.injEq] at h; obtain ⟨rfl,rfl⟩ := h; exact WC_exit hK
  | ret => simp only [xCode,Option.some.injEq,Prod.mk.injEq] at h; obtain ⟨rfl,rfl⟩ := h; exact WC_ret hK
  | goto l => simp only [xCode,Option.some.injEq,Prod.mk.injEq] at h; obtain ⟨rfl,rfl⟩ := h; exact WC_goto hK
  | region id ops draw =>
    cases draw with
    | false =>
      simp only [xCode] at h
      split at h
      · rename_i s1 h1
        simp only [xForce_eq,Option.some.injEq,Prod.mk.injEq] at h
        obtain ⟨rfl,rfl⟩ := h
        exact WC_region (xOps_ok ht hc h1 hK)
      · cases h
    | true =>
      simp only [xCode] at h
      split at h
      · rename_i s1 h1
        simp only [xForce_eq,Option.some.injEq,Prod.mk.injEq] at h
        obtain ⟨rfl,rfl⟩ := h
        exact xAny_ok hm ht hc _ h1 hK
      · cases h
  | seq a b =>
    simp only [xCode] at h
    refine WC_seq ?_
    split at h
    · rename_i s1 h1
      exact ihn a s _ _ _ h1 (ihn b s1 e s' K h hK)
    · rename_i hne
      refine ihn a s e s' _ h ?_
      cases e <;> first | exact hK | exact (hne _ h).elim
  | cond c a b =>
    simp only [xCode] at h
    split at h
    · rename_i hb; exact WC_cond hb (fun _ => ihn a s e s' K h hK) (fun h => by cases h)
    · rename_i hb; exact WC_cond hb (fun h => by cases h) (fun _ => ihn b s e s' K h hK)
    · cases h
  | block id c =>
    simp only [xCode] at h
    refine WC_block ?_
    split at h
    · rename_i id' s1 h1
      refine ihn c s _ _ _ h1 ?_
      simp only [Exit.out]
      split at h
      · rename_i hid
        simp only [Option.some.injEq,Prod.mk.injEq] at h
        obtain ⟨rfl,rfl⟩ := h
        rw [if_pos hid]; exact hK
      · rename_i hid
        simp only [Option.some.injEq,Prod.mk.injEq] at h
        obtain ⟨rfl,rfl⟩ := h
        rw [if_neg hid]; exact hK
    · rename_i hne
      refine ihn c s e s' _ h ?_
      cases e <;> first | exact hK | exact (hne _ _ h).elim
  | loop c =>
    refine WC_loopG (σ := Nat) (fun t s1 => t ≤ n + 1 ∧ xCode P tab call t (.code (.loop c)) s1 = some (e,s')) (fun t => t) (n + 1) ⟨Nat.le_refl _,h⟩ (fun t s1 ⟨hle,hI⟩ => ?_)
    cases t with
    | zero => simp [xCode] at hI
    | succ t =>
      simp only [xCode] at hI
      have iht := ih t (by omega)
      split at hI
      · rename_i s2 h2
        exact iht c s1 _ _ _ h2 ⟨t,⟨by omega,hI⟩,by omega⟩
      · rename_i hne
        refine iht c s1 e s' _ hI ?_
        cases e <;> first | exact hK | exact (hne _ hI).elim
  | scope c =>
    simp only [xCode] at h
    refine WC_scope (σ := Nat) (fun l t s1 => t ≤ n ∧ xCode P tab call t (.go c l) s1 = some (e,s')) (fun _ t => t) ?_ (fun l t s1 ⟨hle,hI⟩ => ?_)
    · split at h
      · rename_i l s1 h1
        exact ihn c s _ _ _ h1 ⟨n,Nat.le_refl _,h⟩
      · rename_i hne
        refine ihn c s e s' _ h ?_
        cases e <;> first | exact hK | exact (hne _ _ h).elim
    · cases t with
      | zero => simp [xCode] at hI
      | succ t =>
        simp only [xCode] at hI
        split at hI
        · rename_i rest hrest
          refine ⟨rest,hrest, ?_⟩
          have iht := ih t (by omega)
          split at hI
          · rename_i l' s2 h2
            exact iht rest s1 _ _ _ h2 ⟨t,⟨by omega,hI⟩,by omega⟩
          · rename_i hne
            refine iht rest s1 e s' _ hI ?_
            cases e <;> first | exact hK | exact (hne _ _ hI).elim
        · cases hI
  | rangeFunc _ _ _ _ => simp [xCode] at h
  | refuse _ => simp [xCode] at h
end

def namesOk (P : Program) : Bool := P.funcs.toList.all fun fn => !(fn.name == "runtime.NumGoroutine")

theorem xCall_ok {P : Program} {tab : List (Nat × List TD)} {m : Nat} (hm : P.follows .mixedOrders = true) (hn : namesOk P = true) (ht : TabOk P tab) : ∀ n, CallOk P (xCall P tab m n)
  | 0 => fun f xs h ow nx r h' ow' nx' hr => by simp [xCall] at hr
  | n + 1 => fun f xs h ow nx r h' ow' nx' hr => by
    have ih := xCall_ok (m := m) hm hn ht n
    simp only [xCall] at hr
    split at hr
    · cases hr
    · rename_i fn hf
      split at hr
      · cases hr
      · rename_i c hb
        have hname : (fn.name == "runtime.NumGoroutine") = false := by
          have := List.all_eq_true.1 hn fn (List.mem_of_getElem? (by rw [Array.getElem?_toList]; exact hf))
          simpa using this
        have key : ∃ e s' x,(e = .normal ∨ e = .ret) ∧ xCode P tab (xCall P tab m n) m (.code c) ⟨xs ++ List.replicate (fn.ntmps - xs.length) (.tup []),h,ow,nx⟩ = some (e,s') ∧ resOf P s' fn.results.toList = some x ∧ x = r ∧ s'.heap = h' ∧ s'.own = ow' ∧ s'.next = nx' := by
          split at hr
          · rename_i s1 h1
            split at hr
            · rename_i x hx
              simp only [Option.some.injEq,Prod.mk.injEq] at hr
              exact ⟨_,s1,x, .inl rfl,h1,hx,hr.1,hr.2.1,hr.2.2.1,hr.2.2.2⟩
            · cases hr
          · rename_i s1 h1
            split at hr
            · rename_i x hx
              simp only [Option.some.injEq,Prod.mk.injEq] at hr
              exact ⟨_,s1,x, .inr rfl,h1,hx,hr.1,hr.2.1,hr.2.2.1,hr.2.2.2⟩
            · cases hr
          · cases hr
        clear hr
        obtain ⟨e0,s1,x,he0,hcode,hx,rfl,rfl,rfl,rfl⟩ := key
        refine ⟨⟨fn,hf,hname,by rw [hb]; rfl⟩,fun w0 G0 w G cargs hl I => ?_⟩
        refine calls_of_wp hf hb ?_
        have hsz : cargs.size = xs.length := by simpa using hl.len
        have hinv : Inv w G h ow nx w G := ⟨I.heap,I.own,I.sok,Since.refl (fun _ _ => trivial),Mono.refl _ _,I.nx⟩
        refine xCode_ok hm ht ih m c _ e0 s1 (fun e s => e = e0 ∧ s = s1) hcode ⟨rfl,rfl⟩ w G _ w _ ⟨G,⟨?_, ?_⟩,hinv,rfl⟩ ?_
        · simp [hsz]
        · intro t y hy
          simp only at hy
          rcases Nat.lt_or_ge t xs.length with htl | htl
          · rw [List.getElem?_append_left htl] at hy
            have := hl.rep t y hy
            have e : (cargs ++ Array.replicate (fn.ntmps - cargs.size) undef).getD t undef = cargs.toList.getD t undef := by
              rw [Array.getD_eq_getD_getElem?,Array.getElem?_append_left (by omega),← Array.getElem?_toList,← List.getD]
            rw [e]; exact this
          · rw [List.getElem?_append_right htl] at hy
            have hy' := List.mem_of_getElem? hy
            obtain rfl := List.eq_of_mem_replicate hy'
            have e : (cargs ++ Array.replicate (fn.ntmps - cargs.size) undef).getD t undef = undef := by
              rw [Array.getD_eq_getD_getElem?,Array.getElem?_append_right (by omega)]
              cases hq : (Array.replicate (fn.ntmps - cargs.size) undef)[t - cargs.size]? with
              | none => rfl
              | some v =>
                have := Array.getElem?_eq_some_iff.1 hq
                obtain ⟨h1,h2⟩ := this
                rw [← h2]; simp
            rw [e]; exact undef_rep
        · rintro e s a w' ⟨rfl,rfl⟩ hcv
          obtain ⟨G',hs',I',hd⟩ := hcv
          obtain ⟨v,hv,hvr⟩ := results_run hs' I' hx
          have hpost : (fun (e : Ending) (w' : World) => ∃ v G',e = .returned v ∧ Rep w' G' v x ∧ Inv w0 G0 s.heap s.own s.next w' G' ∧ Mono w G w' G') (.returned v) w' :=
            ⟨v,G',rfl,hvr,I.trans I',I'.mono⟩
          rcases he0 with rfl | rfl
          · exact ⟨hd,v,hv,hpost⟩
          · exact ⟨hd,v,hv,hpost⟩

/-- a closed call -/
theorem VC_exec {P : Program} {tab : List (Nat × List TD)} {m n : Nat} (hm : P.follows .mixedOrders = true) (hn : namesOk P = true) (ht : TabOk P tab) {f : FuncId} {r : V} {rest : List (List V) × List (Nat × Nat) × Nat}
    {xs : List V} (hx : xs.all V.noP = true) (hb : xs.map V.bare = xs) (h : xCall P tab m n f xs [] [] 0 = some (r,rest)) (hr : r.noP = true) : VC P f xs [] (fun q _ => q = r.bare) := by
  obtain ⟨h',ow',nx'⟩ := rest
  have hb' : xs = xs.map V.bare := hb.symm
  refine (xCall_ok hm hn ht n).pure h hr (by rw [hb']; exact ownOf_bare _) (fun w G G' cargs hS hl => ?_)
  rw [hb'] at hl ⊢
  exact bare_LR hx w G G' cargs hS hl
theorem VC_closed {P : Program} {tab : List (Nat × List TD)} (m n : Nat) (hm : P.follows .mixedOrders = true) (hn : namesOk P = true) (ht : TabOk P tab) {f : FuncId} {r : V}
    {xs : List V} (hx : xs.all V.noP = true) (hb : xs.map V.bare = xs) (hr : r.noP = true) (hrb : r.bare = r) (h : (xCall P tab m n f xs [] [] 0).map (·.1) = some r) : VC P f xs [] (fun q _ => q = r) := by
  obtain ⟨⟨r1,rest⟩,h1,rfl⟩ := Option.map_eq_some_iff.1 h
  have := VC_exec hm hn ht hx hb h1 hr
  simp only at hrb
  rwa [hrb] at this

/-! ## a call that is handed one block -/
section
variable {P : Program}
theorem renC_noP {ρ : List Nat} {x : V} (h : x.noP0 = true) : renC ρ x = x ∧ ∀ n, okC n x = true := by
  cases x <;> first | exact ⟨rfl,fun _ => rfl⟩ | (simp [V.noP0] at h; done) | skip
  rename_i fn caps
  cases caps with
  | nil => exact ⟨rfl,fun _ => rfl⟩
  | cons c cs => simp [V.noP0] at h
theorem map_renC {ρ : List Nat} {cs : List V} (h : ∀ c ∈ cs, c.noP0 = true) : cs.map (renC ρ) = cs := by
  conv => rhs; rw [← List.map_id cs]
  exact List.map_congr_left fun c hc => (renC_noP (h c hc)).1
theorem ren1_noP {ρ : List Nat} {x : V} (h : x.noP1 = true) : ren1 ρ x = x := by
  cases x with
  | agg cs =>
    simp only [V.noP1,List.all_eq_true] at h
    simp only [ren1,map_renC h]
  | ptr b o => simp [V.noP1,V.noP0] at h
  | tup cs => simp [V.noP1,V.noP0] at h
  | func fn caps => exact (renC_noP (x := .func fn caps) h).1
  | _ => rfl
theorem ren_noP {ρ : List Nat} {x : V} (h : x.noP = true) : ren ρ x = x := by
  cases x with
  | tup vs =>
    simp only [V.noP,List.all_eq_true] at h
    simp only [ren]
    congr 1
    conv => rhs; rw [← List.map_id vs]
    exact List.map_congr_left fun c hc => ren1_noP (h c hc)
  | agg cs => exact ren1_noP (x := .agg cs) h
  | ptr b o => simp [V.noP,V.noP1,V.noP0] at h
  | func fn caps => exact (renC_noP (x := .func fn caps) h).1
  | _ => rfl
theorem noP0_bareC {x : V} (h : x.noP0 = true) : x.bareC.noP0 = true := by cases x <;> first | exact h | rfl
theorem fits_bare {ρ : List Nat} {y : V} (h : y.noP1 = true) : Fits ρ y y.bare1 := by
  cases y with
  | agg cs =>
    simp only [V.noP1,List.all_eq_true] at h
    have h' : ∀ c ∈ cs.map V.bareC,c.noP0 = true := fun c hc => by
      obtain ⟨z,hz,rfl⟩ := List.mem_map.1 hc
      exact noP0_bareC (h z hz)
    refine ⟨?_, .inr ?_⟩
    · simp only [V.bare1,ok1,List.all_eq_true]
      exact fun c hc => (renC_noP (ρ := ρ) (h' c hc)).2 _
    · simp only [V.bare1,ren1,map_renC h']
  | ptr b o => simp [V.noP1,V.noP0] at h
  | tup cs => simp [V.noP1,V.noP0] at h
  | func fn caps =>
    cases caps with
    | nil => exact ⟨rfl, .inr rfl⟩
    | cons c cs => simp [V.noP1,V.noP0] at h
  | _ => exact ⟨rfl, .inr rfl⟩
theorem fitsL_bare {ρ : List Nat} : ∀ {ys : List V}, (∀ y ∈ ys, y.noP1 = true) → fitsL ρ ys (ys.map V.bare1)
  | [],_ => trivial
  | y :: ys,h => ⟨fits_bare (h y (by simp)),fitsL_bare fun z hz => h z (by simp [hz])⟩
theorem fitsCL_self {ρ : List Nat} : ∀ {cs : List V}, (∀ c ∈ cs, c.noP0 = true ∧ c.isCell = true) → fitsCL ρ cs cs
  | [],_ => trivial
  | c :: cs,h => ⟨⟨(renC_noP (ρ := ρ) (h c (by simp)).1).2 _,(h c (by simp)).2, .inl (renC_noP (h c (by simp)).1).1⟩,fitsCL_self fun z hz => h z (by simp [hz])⟩

theorem WFn_block {f : FuncId} {b o : Nat} {ys cs : List V} {R : V → List (List V) → Prop} {K : V → St → Prop} {s : St} (c : VC P f (.ptr 0 o :: ys.map V.bare1) [cs] R)
    (hb : s.heap[b]? = some cs) (hy : ∀ y ∈ ys,y.noP1 = true) (hc : ∀ c ∈ cs,c.noP0 = true ∧ c.isCell = true) (hown : ∀ q ∈ cs.flatMap V.tokC,q ∈ s.own)
    (k : ∀ r h' n',R r h' → s.next ≤ n' → ∃ cs',h' = [cs'] ∧ (∀ c ∈ cs',c.noP0 = true) ∧ r.noP = true ∧ K r { s with heap := s.heap.set b cs',own := ownAfter s.own (cs.flatMap V.tokC) (r.toks ++ cs'.flatMap V.tokC),next := n' }) :
    WFn P .free f (.ptr b o :: ys) K s := by
  have hto : ownOf (.ptr 0 o :: ys.map V.bare1) [cs] = cs.flatMap V.tokC := by
    simp only [ownOf,List.flatMap_cons,List.flatMap_nil,List.append_nil]
    have : (ys.map V.bare1).flatMap V.toks = [] := by
      simp only [List.flatMap_eq_nil_iff]
      intro y hy'
      obtain ⟨z,hz,rfl⟩ := List.mem_map.1 hy'
      have h1 := hy z hz
      cases z <;> first | rfl | (simp [V.noP1,V.noP0] at h1; done) | skip
      rename_i cs
      exact cells_bare1 (.agg cs)
    rw [this]; rfl
  refine .ref [b] (.ptr 0 o :: ys.map V.bare1) [cs] R c ⟨⟨by simp [ok1,okC,okP], .inl (by simp [ren1,renC,renP])⟩,fitsL_bare hy⟩ (by simp) ⟨⟨cs,hb,fitsCL_self hc⟩,trivial⟩ (by rw [hto]; exact hown) trivial (fun h => absurd rfl h) (fun r h' n' hR hn hle => ?_)
  obtain ⟨cs',rfl,hcs',hr,hk⟩ := k r h' n' hR hn
  have e1 : heapAfter s.heap [b] [cs'] = s.heap.set b cs' := by
    simp only [heapAfter,List.length_singleton,List.take_succ_cons,List.take_zero,List.map_cons,List.map_nil,map_renC hcs',setAll,List.drop_succ_cons,List.drop_zero,List.append_nil]
  rw [ren_noP hr,e1,hto]
  have e2 : ownOf [r] [cs'] = r.toks ++ cs'.flatMap V.tokC := by simp [ownOf]
  rw [e2]; exact hk
end

section
variable {P : Program} {W : List Nat} {N0 : Nat} {ops : Array Oper} {os : List Oper} {fl : Nat} {fls : List Nat} {K : St → Prop} {s : St} {dst : Option Tmp} {ty : TypeId} {pos : String} {after : Array Edge}
theorem D_callL {f : Operand} {args : Array Operand} {ts : Array TypeId} {xs ys : List V} {r : V} {fid : Nat} (c : VC P fid ys [] (fun q _ => q = r)) (hfl : fl ≤ 1) (hf : ev s f = some (.func (.func fid) [])) (hx : evL s args.toList = some xs)
    (hy : lentL s.heap xs ys) (hr : r.pl = true) (k : DOpsL P W N0 ops os fls K (s.put dst r)) : DOpsL P W N0 ops (⟨dst, .call ⟨.value f,args,ts⟩,ty,pos,after,none⟩ :: os) (fl :: fls) K s := by
  simp only [DOpsL,DRun,List.headD,List.tail,memOk,true_and]
  unfold WRun
  simp only [opV,loudV]
  refine ⟨fid, [],xs,hf,hx, .lend ys r ?_ c (by simpa using hy) hr k⟩
  unfold limOf
  split
  · simp
  · split
    · simp
    · omega
/-- a call that is handed the block b, by its first argument -/
theorem WOps_callH {f : Operand} {args : Array Operand} {ts : Array TypeId} {b o : Nat} {ys cs : List V} {R : V → List (List V) → Prop} {fid : Nat} (c : VC P fid (.ptr 0 o :: ys.map V.bare1) [cs] R) (hf : ev s f = some (.func (.func fid) []))
    (hx : evL s args.toList = some (.ptr b o :: ys)) (hb : s.heap[b]? = some cs) (hy : ∀ y ∈ ys,y.noP1 = true) (hc : ∀ c ∈ cs,c.noP0 = true ∧ c.isCell = true) (hown : ∀ q ∈ cs.flatMap V.tokC,q ∈ s.own)
    (k : ∀ r h' n',R r h' → s.next ≤ n' → ∃ cs',h' = [cs'] ∧ (∀ c ∈ cs',c.noP0 = true) ∧ r.noP = true ∧ WOps P ops os K (St.put ⟨s.slots,s.heap.set b cs',ownAfter s.own (cs.flatMap V.tokC) (r.toks ++ cs'.flatMap V.tokC),n'⟩ dst r)) :
    WOps P ops (⟨dst, .call ⟨.value f,args,ts⟩,ty,pos,after,none⟩ :: os) K s := by
  simp only [WOps,WOp,WOp1]
  unfold WRun
  simp only [opV,loudV]
  refine ⟨fid, [],_,hf,hx, ?_⟩
  rw [List.append_nil]
  exact WFn_block c hb hy hc hown k
end
end Go.PV
