/- Regions in which an order is drawn: each order comes to the same as the text's. -/
import Derived.Test.YtpgfcfojojemjaaPVv
import Derived.Orders
namespace Go.PV
set_option linter.unusedVariables false
set_option linter.unusedSimpArgs false

/-- what an operation may touch: loads keep off the blocks W that unordered writers have -/
def memOk (lim : Lim) (W : List Nat) (N0 : Nat) (s : St) : Op → Prop
  | .load _ a => match ev s a with
    | some (.ptr b _) => b ∉ W ∧ b < N0
    | _ => True
  | .store _ a _ => match ev s a with
    | some (.ptr b _) => lim.lets [b]
    | _ => True
  | _ => True
/-- the mark of an operation: 0: ordered with all loads; 1: else; 2: a call of values alone -/
def limOf (fl : Nat) (W : List Nat) (n : Nat) : Lim := if fl = 0 then .blocks (List.range n) else if fl = 1 then .blocks W else .only

def DRun (P : Program) (W : List Nat) (N0 : Nat) (ops : Array Oper) (o : Oper) (fl : Nat) (K : V → St → Prop) (s : St) : Prop :=
  match o.guard with
  | none => memOk (limOf fl W s.heap.length) W N0 s o.op ∧ WRun P (limOf fl W s.heap.length) o.op K s
  | some (j,want) => match (ops[j]?).bind (·.dst) with
    | none => False
    | some d => match s.slots[d]? with
      | some (.bool b) => (b = want → memOk (limOf fl W s.heap.length) W N0 s o.op ∧ WRun P (limOf fl W s.heap.length) o.op K s) ∧ (b ≠ want → K (.tup []) s)
      | some (.tup []) => K (.tup []) s
      | _ => False
inductive Kind | Q | L | S | A | C | X
deriving DecidableEq
def kindOf : Op → Kind
  | .load .. => .L
  | .store .. => .S
  | .alloc .. => .A
  | .box .. => .X
  | .makeSlice .. => .X
  | .select .. => .X
  | .call { callee := .builtin .append, .. } => .X
  | .call { callee := .value _, .. } => .C
  | _ => .Q
def wild (o : Oper) (fl : Nat) : Bool := (kindOf o.op == .C || kindOf o.op == .S) && fl == 0
def kindsOk (x : Oper) (fx : Nat) (o : Oper) (fo : Nat) : Bool :=
  if kindOf x.op = .Q ∨ kindOf o.op = .Q then true
  else if kindOf x.op = .L then !wild o fo
  else if kindOf o.op = .L then !wild x fx
  else kindOf x.op == .C && 2 ≤ fx && kindOf o.op == .A
def swapOk (ops : Array Oper) (x : Oper) (fx : Nat) (o : Oper) (fo : Nat) : Bool := x.apart ops o && kindsOk x fx o fo

/-- what an operation keeps -/
structure Keeps (W : List Nat) (s s' : St) : Prop where
  slots : s'.slots = s.slots
  le : s.heap.length ≤ s'.heap.length
  heap : ∀ b,b < s.heap.length → b ∉ W → s'.heap[b]? = s.heap[b]?
theorem Keeps.refl (W : List Nat) (s : St) : Keeps W s s := ⟨rfl, Nat.le_refl _, fun _ _ _ => rfl⟩

section
variable {P : Program} {W : List Nat} {N0 : Nat} {ops : Array Oper} {lim : Lim}

theorem put_slots (s : St) (d : Option Tmp) (v : V) : (s.put d v).heap = s.heap ∧ (s.put d v).own = s.own ∧ (s.put d v).next = s.next := by
  cases d <;> exact ⟨rfl,rfl,rfl⟩
theorem put_with (s : St) (d : Option Tmp) (v : V) (h : List (List V)) (ow : List (Nat × Nat)) (nx : Nat) :
    ({ s.put d v with heap := h,own := ow,next := nx } : St) = ({ s with heap := h,own := ow,next := nx } : St).put d v := by
  cases d <;> rfl
theorem put_comm (s : St) {x y : Option Tmp} (v u : V) (h : ∀ d, x = some d → y ≠ some d) : (s.put x v).put y u = (s.put y u).put x v := by
  cases x with
  | none => rfl
  | some d =>
    cases y with
    | none => rfl
    | some e =>
      have hne : d ≠ e := fun he => h d rfl (he ▸ rfl)
      simp only [St.put,St.mk.injEq,and_true]
      exact List.set_comm _ _ hne
theorem ev_put {s : St} {dst : Option Tmp} {v : V} {x : Operand} (h : ∀ d, dst = some d → x ≠ .tmp d) : ev (s.put dst v) x = ev s x := by
  cases dst with
  | none => rfl
  | some d =>
    cases x with
    | tmp t =>
      have hne : d ≠ t := fun e => h d rfl (e ▸ rfl)
      simp only [ev,St.put]
      exact List.getElem?_set_ne hne
    | _ => rfl

theorem evL_congr {s s' : St} : ∀ {xs : List Operand}, (∀ x ∈ xs, ev s x = ev s' x) → evL s xs = evL s' xs
  | [],_ => rfl
  | x :: xs,h => by
    simp only [evL,h x (by simp)]
    rw [evL_congr fun y hy => h y (by simp [hy])]
theorem evParts_congr {s s' : St} : ∀ {xs : List (Nat × Operand)}, (∀ x ∈ xs, ev s x.2 = ev s' x.2) → evParts s xs = evParts s' xs
  | [],_ => rfl
  | x :: xs,h => by
    obtain ⟨i,x⟩ := x
    have := h (i,x) (by simp)
    simp only [evParts] at this ⊢
    rw [this,evParts_congr fun y hy => h y (by simp [hy])]

theorem opV_congr {s s' : St} {op : Op} (h : ∀ x ∈ op.operands, ev s x = ev s' x) (hl : ∀ t a p, op = .load t a → ev s a = some p → cellsOf s p = cellsOf s' p) : opV P s op = opV P s' op := by
  cases op <;> simp only [Op.operands] at h <;> simp only [opV]
  case load t a =>
    have := h a (by simp)
    rw [← this]
    cases hp : ev s a with
    | none => cases ti P t <;> rfl
    | some p => cases ti P t <;> simp only [hl t a p rfl hp]
  case build t parts =>
    simp only [buildV]
    rw [evParts_congr (s := s) (s' := s')]
    intro x hx
    exact h _ (List.mem_toArray.2 (List.mem_map.2 ⟨x,hx,rfl⟩))
  case buildSlice t len parts =>
    simp only [buildSliceV]
    rw [evL_congr (s := s) (s' := s')]
    intro x hx
    obtain ⟨y,hy,rfl⟩ := List.mem_map.1 hx
    exact h _ (List.mem_toArray.2 (List.mem_map.2 ⟨y,hy,rfl⟩))
  case makeFunc fn first captured =>
    rw [evL_congr (s := s) (s' := s')]
    intro x hx
    exact h _ (Array.mem_append.2 (.inr (by simpa using hx)))
  case slice t x lo hi mx =>
    have h0 : ev s x = ev s' x := h x (by simp)
    have e : ∀ z : Option Operand,(∀ y,z = some y → ev s y = ev s' y) → evO s z = evO s' z := fun z hz => by
      cases z with
      | none => rfl
      | some y => simp only [evO,hz y rfl]
    rw [h0,e lo (fun y hy => h y (by subst hy; simp)),e hi (fun y hy => h y (by subst hy; simp)),e mx (fun y hy => h y (by subst hy; simp))]
  case call c =>
    obtain ⟨callee,args,ts⟩ := c
    cases callee
    case builtin b =>
      have hx : ∀ x ∈ args.toList,ev s x = ev s' x := fun x hx => h x (Array.mem_append.2 (.inr (by simpa using hx)))
      have hL := evL_congr (s := s) (s' := s') hx
      have h1 : ∀ x,args.toList = [x] → ev s x = ev s' x := fun x e => hx x (by rw [e]; simp)
      obtain ⟨as,has⟩ : ∃ as,args.toList = as := ⟨_,rfl⟩
      simp only [has] at h1 hL ⊢
      cases b
      case len =>
        match as,h1 with
        | [],_ => rfl
        | [x],h1 => simp only [h1 x rfl]
        | _ :: _ :: _,_ => rfl
      all_goals first | rfl | (simp only [hL]; done)
    all_goals rfl
  all_goals first | rfl | (simp only [h _ (by simp : _ ∈ (#[_] : Array Operand))]; done) | (rw [h _ (by simp)]; done) | (simp_all; done)

theorem opV_put {s : St} {o : Oper} {dst : Option Tmp} {u : V} (h : ∀ d, dst = some d → d ∉ o.looksAt ops) : opV P (s.put dst u) o.op = opV P s o.op :=
  opV_congr (fun x hx => ev_put fun d hd hxd => h d hd (by
    subst hxd
    exact List.mem_append_left _ (List.mem_filterMap.2 ⟨.tmp d,by simpa using hx,rfl⟩))) (fun t a p _ _ => by
      cases p <;> simp only [cellsOf,(put_slots s dst u).1])

theorem ev_op {s : St} {o : Oper} {dst : Option Tmp} {u : V} (h : ∀ d, dst = some d → d ∉ o.looksAt ops) : ∀ x ∈ o.op.operands, ev (s.put dst u) x = ev s x :=
  fun x hx => ev_put fun d hd hxd => h d hd (by
    subst hxd
    exact List.mem_append_left _ (List.mem_filterMap.2 ⟨.tmp d,by simpa using hx,rfl⟩))

theorem loudV_put {s : St} {o : Oper} {dst : Option Tmp} {u : V} (h : ∀ d, dst = some d → d ∉ o.looksAt ops) : loudV P (s.put dst u) o.op = loudV P s o.op := by
  have he := ev_op (s := s) (u := u) h
  obtain ⟨e1,e2,e3⟩ := put_slots s dst u
  obtain ⟨odst,op,ty,pos,after,guard⟩ := o
  simp only at he ⊢
  cases op <;> simp only [Op.operands] at he <;> simp only [loudV,e1,e2,e3]
  case box t x => rw [he x (by simp)]
  case store t a x => rw [he a (by simp),he x (by simp)]
  case makeSlice t a x => rw [he a (by simp),he x (by simp)]
  case call c =>
    obtain ⟨callee,args,ts⟩ := c
    cases callee
    case builtin b =>
      have hx : ∀ x ∈ args.toList,ev (s.put dst u) x = ev s x := fun x hx => he x (Array.mem_append.2 (.inr (by simpa using hx)))
      cases b
      case append =>
        obtain ⟨as,has⟩ : ∃ as,args.toList = as := ⟨_,rfl⟩
        obtain ⟨tl,htl⟩ : ∃ tl,ts.toList = tl := ⟨_,rfl⟩
        rw [has] at hx
        simp only [has,htl,e1,e2,e3]
        match as,tl,hx with
        | [x,y], [t,v],hx => simp only [hx x (by simp),hx y (by simp)]
        | [x,y], [],hx => rfl
        | [x,y], [_],hx => rfl
        | [x,y],_ :: _ :: _ :: _,hx => rfl
        | [],_,_ => rfl
        | [_],_,_ => rfl
        | _ :: _ :: _ :: _,_,_ => rfl
      all_goals rfl
    all_goals rfl

theorem WFn.put {s : St} {dst : Option Tmp} {u : V} {f : FuncId} {xs : List V} {K : V → St → Prop} (h : WFn P lim f xs K (s.put dst u)) : WFn P lim f xs (fun v s' => K v (s'.put dst u)) s := by
  obtain ⟨e1,e2,e3⟩ := put_slots s dst u
  cases h with
  | pure r c hp hr hK => exact .pure r c hp hr hK
  | some_ R hl c hp hK => exact .some_ R hl c hp hK
  | ref ρ args' hl R c hf hn hh hown hlim hne hK =>
    refine .ref ρ args' hl R c hf hn (by rw [← e1]; exact hh) (by rw [← e2]; exact hown) hlim hne (fun r h' n' hR hn' hle => ?_)
    have := hK r h' n' hR (by rw [e3]; exact hn') hle
    rw [e1,e2,put_with] at this
    exact this
  | lend ys r hl c hy hr hK => exact .lend ys r hl c (by rw [← e1]; exact hy) hr hK
  | gen R hl e c hK =>
    refine .gen R (by rw [← e1]; exact hl) e (by rw [← e1,← e2,← e3]; exact c) (fun r h' ow' n' hR => ?_)
    have := hK r h' ow' n' hR
    rwa [put_with] at this
theorem WFn.unput {s : St} {dst : Option Tmp} {u : V} {f : FuncId} {xs : List V} {K : V → St → Prop} (h : WFn P lim f xs (fun v s' => K v (s'.put dst u)) s) : WFn P lim f xs K (s.put dst u) := by
  obtain ⟨e1,e2,e3⟩ := put_slots s dst u
  cases h with
  | pure r c hp hr hK => exact .pure r c hp hr hK
  | some_ R hl c hp hK => exact .some_ R hl c hp hK
  | ref ρ args' hl R c hf hn hh hown hlim hne hK =>
    refine .ref ρ args' hl R c hf hn (by rw [e1]; exact hh) (by rw [e2]; exact hown) hlim hne (fun r h' n' hR hn' hle => ?_)
    have := hK r h' n' hR (by rw [e3] at hn'; exact hn') hle
    rw [e1,e2,put_with]
    exact this
  | lend ys r hl c hy hr hK => exact .lend ys r hl c (by rw [e1]; exact hy) hr hK
  | gen R hl e c hK =>
    refine .gen R (by rw [e1]; exact hl) e (by rw [e1,e2,e3]; exact c) (fun r h' ow' n' hR => ?_)
    have := hK r h' ow' n' hR
    rwa [put_with]
theorem WFn.mono {s : St} {f : FuncId} {xs : List V} {K K' : V → St → Prop} (h : WFn P lim f xs K s) (hk : ∀ v s', K v s' → K' v s') : WFn P lim f xs K' s := by
  cases h with
  | pure r c hp hr hK => exact .pure r c hp hr (hk _ _ hK)
  | some_ R hl c hp hK => exact .some_ R hl c hp (fun r h' hR => ⟨(hK r h' hR).1,hk _ _ (hK r h' hR).2⟩)
  | ref ρ args' hl R c hf hn hh hown hlim hne hK => exact .ref ρ args' hl R c hf hn hh hown hlim hne (fun r h' n' hR hn' hle => hk _ _ (hK r h' n' hR hn' hle))
  | lend ys r hl c hy hr hK => exact .lend ys r hl c hy hr (hk _ _ hK)
  | gen R hl e c hK => exact .gen R hl e c (fun r h' ow' n' hR => hk _ _ (hK r h' ow' n' hR))

theorem WRun.mono {s : St} {op : Op} {K K' : V → St → Prop} (h : WRun P lim op K s) (hk : ∀ v s', K v s' → K' v s') : WRun P lim op K' s := by
  unfold WRun at *
  split
  · rename_i v hv; simp only [hv] at h; exact hk _ _ h
  · rename_i hv
    simp only [hv] at h
    split
    · rename_i hl; simp only [hl] at h; exact hk _ _ h
    · rename_i hl
      simp only [hl] at h
      cases op <;> first | exact h.elim | skip
      rename_i c
      obtain ⟨callee,args,ts⟩ := c
      cases callee <;> first | exact h.elim | skip
      obtain ⟨fid,caps,xs,h1,h2,h3⟩ := h
      exact ⟨fid,caps,xs,h1,h2,h3.mono hk⟩

theorem WRun.put_iff {s : St} {o : Oper} {dst : Option Tmp} {u : V} (hd : ∀ d, dst = some d → d ∉ o.looksAt ops) {K : V → St → Prop} :
    WRun P lim o.op K (s.put dst u) ↔ WRun P lim o.op (fun v s' => K v (s'.put dst u)) s := by
  have he := ev_op (s := s) (u := u) hd
  have h1 := opV_put (P := P) (s := s) (u := u) hd
  have h2 := loudV_put (P := P) (s := s) (u := u) hd
  unfold WRun
  rw [h1,h2]
  obtain ⟨odst,op,ty,pos,after,guard⟩ := o
  simp only at he h1 h2 ⊢
  cases hv : opV P s op with
  | some v => exact Iff.rfl
  | none =>
    simp only
    cases hl : loudV P s op with
    | some q =>
      obtain ⟨v,h,ow,nx⟩ := q
      simp only
      rw [put_with]
    | none =>
      simp only
      cases op <;> try exact Iff.rfl
      rename_i c
      obtain ⟨callee,args,ts⟩ := c
      cases callee <;> try exact Iff.rfl
      rename_i f
      simp only
      have hf : ev (s.put dst u) f = ev s f := he f (by simp [Op.operands,Call.operands])
      have ha : evL (s.put dst u) args.toList = evL s args.toList := evL_congr fun x hx => he x (Array.mem_append.2 (.inr (by simpa using hx)))
      rw [hf,ha]
      constructor
      · rintro ⟨fid,caps,xs,h1,h2,h3⟩
        exact ⟨fid,caps,xs,h1,h2,h3.put⟩
      · rintro ⟨fid,caps,xs,h1,h2,h3⟩
        exact ⟨fid,caps,xs,h1,h2,h3.unput⟩
end
end Go.PV
