/- Steps for simp: states with their slots as a table; one operation after the other. -/
import Derived.Test.YtpgfcfojojemjaaPVz
namespace Go.PV
set_option linter.unusedVariables false
set_option linter.unusedSimpArgs false

def look : List (Nat × V) → Nat → V
  | [],_ => .dead
  | (i,v) :: r,t => if t = i then v else look r t
/-- n slots, those of the table; the others dead -/
def mkS (n : Nat) (ps : List (Nat × V)) : List V := (List.range n).map (look ps)

theorem mkS_length (n : Nat) (ps : List (Nat × V)) : (mkS n ps).length = n := by simp [mkS]
theorem mkS_get (n : Nat) (ps : List (Nat × V)) (t : Nat) : (mkS n ps)[t]? = if t < n then some (look ps t) else none := by
  unfold mkS
  rw [List.getElem?_map]
  split
  · rename_i h; simp [h]
  · rename_i h; simp [h]
theorem mkS_set (n : Nat) (ps : List (Nat × V)) (d : Nat) (v : V) : (mkS n ps).set d v = mkS n ((d, v) :: ps) := by
  apply List.ext_getElem?
  intro t
  rw [mkS_get,List.getElem?_set]
  simp only [mkS_length,mkS_get,look]
  by_cases h : d = t
  · subst h; simp
  · rw [if_neg h]
    rw [show (if t = d then v else look ps t) = look ps t from if_neg (fun e => h e.symm)]

theorem look_nil (t : Nat) : look [] t = .dead := rfl
theorem look_cons (i : Nat) (v : V) (r : List (Nat × V)) (t : Nat) : look ((i, v) :: r) t = if t = i then v else look r t := rfl

section
variable {P : Program} {n : Nat} {ps : List (Nat × V)} {h : List (List V)} {ow : List (Nat × Nat)} {nx : Nat}

theorem ev_tmp (t : Nat) : ev ⟨mkS n ps, h, ow, nx⟩ (.tmp t) = if t < n then some (look ps t) else none := mkS_get n ps t
theorem ev_bool (b : Bool) (s : St) : ev s (.const (.bool b)) = some (.bool b) := rfl
theorem ev_func (f : Nat) (s : St) : ev s (.func f) = some (.func (.func f) []) := rfl
theorem put_some (d : Nat) (v : V) : St.put ⟨mkS n ps, h, ow, nx⟩ (some d) v = ⟨mkS n ((d, v) :: ps), h, ow, nx⟩ := by simp only [St.put, mkS_set]
theorem put_none (s : St) (v : V) : St.put s none v = s := rfl
theorem slots_get (t : Nat) : (St.mk (mkS n ps) h ow nx).slots[t]? = if t < n then some (look ps t) else none := mkS_get n ps t
/-- slots that are wanted no more -/
theorem WC_drop {c : Code} {K : Exit → St → Prop} {qs : List (Nat × V)} (hq : ∀ t, look qs t = .dead ∨ look qs t = look ps t) (k : WC P c K ⟨mkS n qs, h, ow, nx⟩) : WC P c K ⟨mkS n ps, h, ow, nx⟩ := by
  intro w0 G0 a w Q hc hQ
  refine k w0 G0 a w Q ?_ hQ
  obtain ⟨G,hs,I,hd⟩ := hc
  refine ⟨G,⟨by simpa [mkS_length] using hs.len,fun t x hx => ?_⟩,I,hd⟩
  simp only [mkS_get] at hx
  split at hx
  · rename_i ht
    have := hs.rep t (look ps t) (by simp only [mkS_get]; rw [if_pos ht])
    obtain rfl := Option.some.inj hx
    rcases hq t with e | e
    · rw [e]; exact .dead _
    · rw [e]; exact this
  · cases hx
/-- the slots told, and no others -/
def keepK (ks : List Nat) (ps : List (Nat × V)) : List (Nat × V) := ks.map fun k => (k, look ps k)
theorem look_keepK (ps : List (Nat × V)) : ∀ (ks : List Nat) (t : Nat), look (keepK ks ps) t = if t ∈ ks then look ps t else .dead
  | [],t => rfl
  | k :: ks,t => by
    simp only [keepK,List.map_cons,look_cons]
    have := look_keepK ps ks t
    simp only [keepK] at this
    rw [this]
    by_cases h : t = k
    · subst h; simp
    · simp [h]
theorem WC_dropK (ks : List Nat) {c : Code} {K : Exit → St → Prop} (k : WC P c K ⟨mkS n (keepK ks ps), h, ow, nx⟩) : WC P c K ⟨mkS n ps, h, ow, nx⟩ :=
  WC_drop (fun t => by rw [look_keepK]; split <;> simp) k

/-- what the table has -/
def Has (ps : List (Nat × V)) : List (Nat × V) → Prop
  | [] => True
  | (i,v) :: r => look ps i = v ∧ Has ps r
theorem Has.look {ps : List (Nat × V)} : ∀ {qs : List (Nat × V)}, Has ps qs → ∀ t, Go.PV.look qs t = .dead ∨ Go.PV.look qs t = Go.PV.look ps t
  | [],_,t => .inl rfl
  | (i,v) :: r,h,t => by
    rw [look_cons]
    by_cases ht : t = i
    · rw [if_pos ht,ht]; exact .inr h.1.symm
    · rw [if_neg ht]; exact Has.look h.2 t
theorem WC_has {c : Code} {K : Exit → St → Prop} {qs : List (Nat × V)} (hq : Has ps qs) (k : WC P c K ⟨mkS n qs, h, ow, nx⟩) : WC P c K ⟨mkS n ps, h, ow, nx⟩ := WC_drop hq.look k
/-! ## one operation after the other -/
/-- a mark: simp doesn't look into what a later argument's type names -/
inductive Hold.{u} {α : Sort u} (a : α) : Type
  | mk
def stepO (o : Option V) (f : V → Prop) (g : Prop) (_ : Hold f) (_ : Hold g) : Prop := match o with
  | some v => f v
  | none => g
theorem stepO_some (v : V) (f : V → Prop) (g : Prop) (a : Hold f) (b : Hold g) : stepO (some v) f g a b = f v := rfl
def stepL (o : Option (V × List (List V) × List (Nat × Nat) × Nat)) (f : V → List (List V) → List (Nat × Nat) → Nat → Prop) (_ : Hold f) : Prop := match o with
  | some (v,h,ow,nx) => f v h ow nx
  | none => False
theorem stepL_some (v : V) (h : List (List V)) (ow : List (Nat × Nat)) (nx : Nat) (f : V → List (List V) → List (Nat × Nat) → Nat → Prop) (a : Hold f) : stepL (some (v, h, ow, nx)) f a = f v h ow nx := rfl
def stepB (o : Option V) (want : Bool) (f : Prop) (g : Prop) (_ : Hold f) (_ : Hold g) : Prop := match o with
  | some (.bool b) => (b = want → f) ∧ (b ≠ want → g)
  | some (.tup []) => g
  | _ => False
theorem stepB_skip (want : Bool) (f g : Prop) (a : Hold f) (b : Hold g) : stepB (some (.tup [])) want f g a b = g := rfl
theorem stepB_tt (f g : Prop) (a : Hold f) (b : Hold g) : stepB (some (.bool true)) true f g a b = f := by simp [stepB]
theorem stepB_ff (f g : Prop) (a : Hold f) (b : Hold g) : stepB (some (.bool false)) false f g a b = f := by simp [stepB]
theorem stepB_tf (f g : Prop) (a : Hold f) (b : Hold g) : stepB (some (.bool true)) false f g a b = g := by simp [stepB]
theorem stepB_ft (f g : Prop) (a : Hold f) (b : Hold g) : stepB (some (.bool false)) true f g a b = g := by simp [stepB]
theorem stepB_T {b : Bool} {f g : Prop} (h1 : b = true → f) (h2 : b = false → g) {x : Hold f} {y : Hold g} : stepB (some (.bool b)) true f g x y := by
  cases b
  · rw [stepB_ft]; exact h2 rfl
  · rw [stepB_tt]; exact h1 rfl
theorem stepB_F {b : Bool} {f g : Prop} (h1 : b = false → f) (h2 : b = true → g) {x : Hold f} {y : Hold g} : stepB (some (.bool b)) false f g x y := by
  cases b
  · rw [stepB_ff]; exact h1 rfl
  · rw [stepB_tf]; exact h2 rfl

variable {ops : Array Oper} {os : List Oper} {K : St → Prop} {s : St} {dst : Option Tmp} {op : Op} {ty : TypeId} {pos : String} {after : Array Edge}
theorem WOps_nil : WOps P ops [] K s = K s := rfl
/-- a quiet one -/
theorem WOps_q : WOps P ops (⟨dst, op, ty, pos, after, none⟩ :: os) K s = stepO (opV P s op) (fun v => WOps P ops os K (s.put dst v)) (WRun P .free op (fun v s' => WOps P ops os K (s'.put dst v)) s) .mk .mk := by
  simp only [WOps,WOp,WOp1]
  unfold WRun stepO
  cases opV P s op <;> rfl
theorem WOps_alloc (t : TypeId) : WOps P ops (⟨dst, .alloc t, ty, pos, after, none⟩ :: os) K s = stepL (loudV P s (.alloc t)) (fun v h ow nx => WOps P ops os K (St.put { s with heap := h, own := ow, next := nx } dst v)) .mk := by
  simp only [WOps,WOp,WOp1,WRun,stepL,opV]
  generalize loudV P s _ = q
  cases q <;> rfl
theorem WOps_box (t : TypeId) (x : Operand) : WOps P ops (⟨dst, .box t x, ty, pos, after, none⟩ :: os) K s = stepL (loudV P s (.box t x)) (fun v h ow nx => WOps P ops os K (St.put { s with heap := h, own := ow, next := nx } dst v)) .mk := by
  simp only [WOps,WOp,WOp1,WRun,stepL,opV]
  generalize loudV P s _ = q
  cases q <;> rfl
theorem WOps_store (t : TypeId) (x y : Operand) : WOps P ops (⟨dst, .store t x y, ty, pos, after, none⟩ :: os) K s = stepL (loudV P s (.store t x y)) (fun v h ow nx => WOps P ops os K (St.put { s with heap := h, own := ow, next := nx } dst v)) .mk := by
  simp only [WOps,WOp,WOp1,WRun,stepL,opV]
  generalize loudV P s _ = q
  cases q <;> rfl
theorem WOps_make (t : TypeId) (x y : Operand) : WOps P ops (⟨dst, .makeSlice t x y, ty, pos, after, none⟩ :: os) K s = stepL (loudV P s (.makeSlice t x y)) (fun v h ow nx => WOps P ops os K (St.put { s with heap := h, own := ow, next := nx } dst v)) .mk := by
  simp only [WOps,WOp,WOp1,WRun,stepL,opV]
  generalize loudV P s _ = q
  cases q <;> rfl
theorem WOps_append (args : Array Operand) (ts : Array TypeId) : WOps P ops (⟨dst, .call { callee := .builtin .append, args := args, argTypes := ts }, ty, pos, after, none⟩ :: os) K s = stepL (loudV P s (.call { callee := .builtin .append, args := args, argTypes := ts })) (fun v h ow nx => WOps P ops os K (St.put { s with heap := h, own := ow, next := nx } dst v)) .mk := by
  simp only [WOps,WOp,WOp1,WRun,stepL,opV]
  generalize loudV P s _ = q
  cases q <;> rfl
theorem WOps_move (x : Operand) : WOps P ops (⟨dst, .move x, ty, pos, after, none⟩ :: os) K s = stepO (opV P s (.move x)) (fun v => WOps P ops os K (s.put dst v)) (WRun P .free (.move x) (fun v s' => WOps P ops os K (s'.put dst v)) s) .mk .mk := WOps_q
theorem WOps_assign (x : Operand) : WOps P ops (⟨dst, .assign x, ty, pos, after, none⟩ :: os) K s = stepO (opV P s (.assign x)) (fun v => WOps P ops os K (s.put dst v)) (WRun P .free (.assign x) (fun v s' => WOps P ops os K (s'.put dst v)) s) .mk .mk := WOps_q
theorem WOps_pick (c x y : Operand) : WOps P ops (⟨dst, .pick c x y, ty, pos, after, none⟩ :: os) K s = stepO (opV P s (.pick c x y)) (fun v => WOps P ops os K (s.put dst v)) (WRun P .free (.pick c x y) (fun v s' => WOps P ops os K (s'.put dst v)) s) .mk .mk := WOps_q
theorem WOps_load (t : TypeId) (x : Operand) : WOps P ops (⟨dst, .load t x, ty, pos, after, none⟩ :: os) K s = stepO (opV P s (.load t x)) (fun v => WOps P ops os K (s.put dst v)) (WRun P .free (.load t x) (fun v s' => WOps P ops os K (s'.put dst v)) s) .mk .mk := WOps_q
theorem WOps_nilCheck (x : Operand) : WOps P ops (⟨dst, .nilCheck x, ty, pos, after, none⟩ :: os) K s = stepO (opV P s (.nilCheck x)) (fun v => WOps P ops os K (s.put dst v)) (WRun P .free (.nilCheck x) (fun v s' => WOps P ops os K (s'.put dst v)) s) .mk .mk := WOps_q
theorem WOps_binOp (o : BinOp) (t : TypeId) (x y : Operand) (u : TypeId) : WOps P ops (⟨dst, .binOp o t x y u, ty, pos, after, none⟩ :: os) K s = stepO (opV P s (.binOp o t x y u)) (fun v => WOps P ops os K (s.put dst v)) (WRun P .free (.binOp o t x y u) (fun v s' => WOps P ops os K (s'.put dst v)) s) .mk .mk := WOps_q
theorem WOps_unOp (o : UnOp) (t : TypeId) (x : Operand) : WOps P ops (⟨dst, .unOp o t x, ty, pos, after, none⟩ :: os) K s = stepO (opV P s (.unOp o t x)) (fun v => WOps P ops os K (s.put dst v)) (WRun P .free (.unOp o t x) (fun v s' => WOps P ops os K (s'.put dst v)) s) .mk .mk := WOps_q
theorem WOps_convert (t u : TypeId) (x : Operand) : WOps P ops (⟨dst, .convert t u x, ty, pos, after, none⟩ :: os) K s = stepO (opV P s (.convert t u x)) (fun v => WOps P ops os K (s.put dst v)) (WRun P .free (.convert t u x) (fun v s' => WOps P ops os K (s'.put dst v)) s) .mk .mk := WOps_q
theorem WOps_build (t : TypeId) (l : Array (Nat × Operand)) : WOps P ops (⟨dst, .build t l, ty, pos, after, none⟩ :: os) K s = stepO (opV P s (.build t l)) (fun v => WOps P ops os K (s.put dst v)) (WRun P .free (.build t l) (fun v s' => WOps P ops os K (s'.put dst v)) s) .mk .mk := WOps_q
theorem WOps_buildSlice (t : TypeId) (n : Nat) (l : Array (Nat × Operand)) : WOps P ops (⟨dst, .buildSlice t n l, ty, pos, after, none⟩ :: os) K s = stepO (opV P s (.buildSlice t n l)) (fun v => WOps P ops os K (s.put dst v)) (WRun P .free (.buildSlice t n l) (fun v s' => WOps P ops os K (s'.put dst v)) s) .mk .mk := WOps_q
theorem WOps_slice (t : TypeId) (x : Operand) (a b c : Option Operand) : WOps P ops (⟨dst, .slice t x a b c, ty, pos, after, none⟩ :: os) K s = stepO (opV P s (.slice t x a b c)) (fun v => WOps P ops os K (s.put dst v)) (WRun P .free (.slice t x a b c) (fun v s' => WOps P ops os K (s'.put dst v)) s) .mk .mk := WOps_q
theorem WOps_fieldAddr (t : TypeId) (x : Operand) (i : Nat) : WOps P ops (⟨dst, .fieldAddr t x i, ty, pos, after, none⟩ :: os) K s = stepO (opV P s (.fieldAddr t x i)) (fun v => WOps P ops os K (s.put dst v)) (WRun P .free (.fieldAddr t x i) (fun v s' => WOps P ops os K (s'.put dst v)) s) .mk .mk := WOps_q
theorem WOps_field (t : TypeId) (x : Operand) (i : Nat) : WOps P ops (⟨dst, .field t x i, ty, pos, after, none⟩ :: os) K s = stepO (opV P s (.field t x i)) (fun v => WOps P ops os K (s.put dst v)) (WRun P .free (.field t x i) (fun v s' => WOps P ops os K (s'.put dst v)) s) .mk .mk := WOps_q
theorem WOps_indexAddr (t : TypeId) (x y : Operand) : WOps P ops (⟨dst, .indexAddr t x y, ty, pos, after, none⟩ :: os) K s = stepO (opV P s (.indexAddr t x y)) (fun v => WOps P ops os K (s.put dst v)) (WRun P .free (.indexAddr t x y) (fun v s' => WOps P ops os K (s'.put dst v)) s) .mk .mk := WOps_q
theorem WOps_index (t : TypeId) (x y : Operand) : WOps P ops (⟨dst, .index t x y, ty, pos, after, none⟩ :: os) K s = stepO (opV P s (.index t x y)) (fun v => WOps P ops os K (s.put dst v)) (WRun P .free (.index t x y) (fun v s' => WOps P ops os K (s'.put dst v)) s) .mk .mk := WOps_q
theorem WOps_extract (x : Operand) (i : Nat) : WOps P ops (⟨dst, .extract x i, ty, pos, after, none⟩ :: os) K s = stepO (opV P s (.extract x i)) (fun v => WOps P ops os K (s.put dst v)) (WRun P .free (.extract x i) (fun v s' => WOps P ops os K (s'.put dst v)) s) .mk .mk := WOps_q
theorem WOps_makeFunc (g : Fn) (x y : Array Operand) : WOps P ops (⟨dst, .makeFunc g x y, ty, pos, after, none⟩ :: os) K s = stepO (opV P s (.makeFunc g x y)) (fun v => WOps P ops os K (s.put dst v)) (WRun P .free (.makeFunc g x y) (fun v s' => WOps P ops os K (s'.put dst v)) s) .mk .mk := WOps_q
theorem WOps_len (as : Array Operand) (ts : Array TypeId) : WOps P ops (⟨dst, .call ⟨.builtin .len, as, ts⟩, ty, pos, after, none⟩ :: os) K s = stepO (opV P s (.call ⟨.builtin .len, as, ts⟩)) (fun v => WOps P ops os K (s.put dst v)) (WRun P .free (.call ⟨.builtin .len, as, ts⟩) (fun v s' => WOps P ops os K (s'.put dst v)) s) .mk .mk := WOps_q
theorem WOps_max (as : Array Operand) (ts : Array TypeId) : WOps P ops (⟨dst, .call ⟨.builtin .max, as, ts⟩, ty, pos, after, none⟩ :: os) K s = stepO (opV P s (.call ⟨.builtin .max, as, ts⟩)) (fun v => WOps P ops os K (s.put dst v)) (WRun P .free (.call ⟨.builtin .max, as, ts⟩) (fun v s' => WOps P ops os K (s'.put dst v)) s) .mk .mk := WOps_q
theorem WOps_min (as : Array Operand) (ts : Array TypeId) : WOps P ops (⟨dst, .call ⟨.builtin .min, as, ts⟩, ty, pos, after, none⟩ :: os) K s = stepO (opV P s (.call ⟨.builtin .min, as, ts⟩)) (fun v => WOps P ops os K (s.put dst v)) (WRun P .free (.call ⟨.builtin .min, as, ts⟩) (fun v s' => WOps P ops os K (s'.put dst v)) s) .mk .mk := WOps_q
/-- the slot of a guard -/
def gsl : List Oper → Nat → Option Tmp
  | [],_ => none
  | o :: _,0 => o.dst
  | _ :: os,n + 1 => gsl os n
def gslot (ops : Array Oper) (j : Nat) : Option Tmp := gsl ops.toList j
theorem gsl_eq : ∀ (os : List Oper) (j : Nat), gsl os j = (os[j]?).bind (·.dst)
  | [],_ => rfl
  | o :: _,0 => rfl
  | _ :: os,n + 1 => gsl_eq os n
theorem gslot_eq (ops : Array Oper) (j : Nat) : gslot ops j = (ops[j]?).bind (·.dst) := by rw [gslot, gsl_eq]; simp
theorem gslot_mk (os : List Oper) (j : Nat) : gslot os.toArray j = gsl os j := rfl
theorem gsl_zero (o : Oper) (os : List Oper) : gsl (o :: os) 0 = o.dst := rfl
theorem gsl_succ (o : Oper) (os : List Oper) (j : Nat) : gsl (o :: os) (j + 1) = gsl os j := rfl
def gval (s : St) : Option Tmp → Option V
  | some d => s.slots[d]?
  | none => none
theorem gval_some (d : Nat) : gval ⟨mkS n ps, h, ow, nx⟩ (some d) = if d < n then some (look ps d) else none := mkS_get n ps d
/-- with a guard -/
theorem WOps_g (j : Nat) (want : Bool) : WOps P ops (⟨dst, op, ty, pos, after, some (j, want)⟩ :: os) K s =
    stepB (gval s (gslot ops j)) want (WOps P ops (⟨dst,op,ty,pos,after,none⟩ :: os) K s) (WOps P ops os K (s.put dst (.tup []))) .mk .mk := by
  simp only [WOps,WOp,stepB,gslot_eq,gval]
  cases hd : (ops[j]?).bind (·.dst) with
  | none => rfl
  | some d =>
    simp only [WOp1]
    cases s.slots[d]? with
    | none => rfl
    | some x => cases x <;> first | rfl | (rename_i l; cases l <;> rfl)

theorem ev_int (k : IntKind) (n : Int) (s : St) : ev s (.const (.int k n)) = some (.int k n) := rfl
theorem ev_nilp (s : St) : ev s (.const (.pointer none)) = some .nilp := rfl
theorem ev_nils (s : St) : ev s (.const (.slice none 0 0)) = some .nils := rfl
theorem ev_nilf (s : St) : ev s (.const .nilFunc) = some .nilf := rfl

/-! ## a function's beginning and end -/
def zipT : Nat → List V → List (Nat × V)
  | _, [] => []
  | k,v :: vs => (k,v) :: zipT (k + 1) vs
theorem look_zipT : ∀ (vs : List V) (k t : Nat), look (zipT k vs) t = if k ≤ t then (vs[t - k]?).getD .dead else .dead
  | [],k,t => by simp [zipT,look]
  | v :: vs,k,t => by
    rw [zipT,look_cons,look_zipT vs (k + 1) t]
    by_cases h : t = k
    · subst h; simp
    · rw [if_neg h]
      by_cases h2 : k ≤ t
      · rw [if_pos h2,if_pos (by omega),show t - k = (t - (k + 1)) + 1 from by omega]; simp
      · rw [if_neg h2,if_neg (by omega)]
/-- what a function ends with -/
def Kend (P : Program) (rs : List ResultVar) (n : Nat) (R : V → List (List V) → Prop) (e : Exit) (s : St) : Prop :=
  (e = .normal ∨ e = .ret) ∧ ∃ x m,resOf P s rs = some x ∧ n ≤ m ∧ m ≤ s.heap.length ∧
    (m = s.heap.length ∨ (okV m x && (s.heap.take m).all fun cs => cs.all (okC m)) = true) ∧ R (x.keep s.own) ((s.heap.take m).map fun cs => cs.map (V.keepC s.own))

theorem VC_enter {f : FuncId} {fn : Func} {c : Code} {nt : Nat} {rs : List ResultVar} {args : List V} {hp : List (List V)} {R : V → List (List V) → Prop} (hf : P.funcs[f]? = some fn) (hb : fn.body = some c)
    (hn : (fn.name == "runtime.NumGoroutine") = false) (hnt : fn.ntmps = nt) (hrs : fn.results.toList = rs) (hle : args.length ≤ nt) {ow : List (Nat × Nat)} (how : ownOf args hp = ow) {m : Nat} (hm : hp.length = m)
    (H : ∀ n,WC P c (Kend P rs m R) ⟨mkS nt (zipT 0 args),hp,ow,n⟩) : VC P f args hp R := by
  subst how hm
  refine VC_intro hf hb hn (fun n => ?_)
  intro w0 G0 a w Q hc hQ
  refine H n w0 G0 a w Q ?_ (fun e s' a' w' hK hc' => hQ e s' a' w' ?_ hc')
  · obtain ⟨G,hs,I,hd⟩ := hc
    refine ⟨G,⟨?_,fun t x hx => ?_⟩,I,hd⟩
    · have := hs.len
      simp only [St.begin,List.length_append,List.length_replicate,hnt] at this
      simp only [mkS_length]; omega
    · simp only [mkS_get] at hx
      split at hx
      · obtain rfl := Option.some.inj hx
        rw [look_zipT,if_pos (Nat.zero_le _),Nat.sub_zero]
        rcases Nat.lt_or_ge t args.length with ht | ht
        · rw [List.getElem?_eq_getElem ht]
          exact hs.rep t _ (by simp only [St.begin]; rw [List.getElem?_append_left ht,List.getElem?_eq_getElem ht]; rfl)
        · rw [List.getElem?_eq_none ht]; exact .dead _
      · cases hx
  · unfold Kend at hK
    unfold Ends
    rw [hrs]
    exact hK
end
end Go.PV
