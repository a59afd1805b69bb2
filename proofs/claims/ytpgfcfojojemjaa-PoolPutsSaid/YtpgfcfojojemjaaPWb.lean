/- Steps for simp, more: calls, conditions, ends, drawn regions. -/
import Derived.Test.YtpgfcfojojemjaaPWa
namespace Go.PV
set_option linter.unusedVariables false
set_option linter.unusedSimpArgs false

section
variable {P : Program} {s : St} {K : St → Prop} {ops : Array Oper} {os : List Oper} {dst : Option Tmp} {ty : TypeId} {pos : String} {after : Array Edge}

theorem WOps_callP {f : Operand} {args : Array Operand} {ts : Array TypeId} {xs ys : List V} {r r' : V} {fid : Nat} (c : VC P fid ys [] (fun q _ => q = r)) (hf : ev s f = some (.func (.func fid) [])) (hx : evL s args.toList = some xs)
    (hy : xs.map V.bare = ys) (hp : xs.all V.noP = true) (hr : r.noP = true) (hb : r.bare = r') (k : WOps P ops os K (s.put dst r')) : WOps P ops (⟨dst, .call ⟨.value f,args,ts⟩,ty,pos,after,none⟩ :: os) K s := by
  simp only [WOps,WOp,WOp1]
  unfold WRun
  simp only [opV,loudV]
  subst hy hb
  refine ⟨fid, [],xs,hf,hx, .pure r ?_ ?_ hr k⟩
  · simpa using c
  · simpa using hp
theorem WOps_callL {f : Operand} {args : Array Operand} {ts : Array TypeId} {xs ys : List V} {r : V} {fid : Nat} (c : VC P fid ys [] (fun q _ => q = r)) (hf : ev s f = some (.func (.func fid) [])) (hx : evL s args.toList = some xs)
    (hy : lentL s.heap xs ys) (hr : r.pl = true) (k : WOps P ops os K (s.put dst r)) : WOps P ops (⟨dst, .call ⟨.value f,args,ts⟩,ty,pos,after,none⟩ :: os) K s := by
  simp only [WOps,WOp,WOp1]
  unfold WRun
  simp only [opV,loudV]
  exact ⟨fid, [],xs,hf,hx, .lend ys r (by simp) c (by simpa using hy) hr k⟩
def stepC (o : Option V) (f : Bool → Prop) (_ : Hold f) : Prop := match o with
  | some (.bool b) => f b
  | _ => False
theorem stepC_bool (b : Bool) (f : Bool → Prop) (a : Hold f) : stepC (some (.bool b)) f a = f b := rfl
theorem WC_condE {K : Exit → St → Prop} {c : Operand} {x y : Code} (h : stepC (ev s c) (fun b => (b = true → WC P x K s) ∧ (b = false → WC P y K s)) .mk) : WC P (.cond c x y) K s := by
  unfold stepC at h
  split at h
  · rename_i b hb; exact WC_cond hb h.1 h.2
  · exact h.elim

theorem ev_str (s : St) (b : ByteArray) : ev s (.const (.string b)) = some (.str b.data.toList) := rfl
theorem bs_mk (l : List UInt8) : (ByteArray.mk l.toArray).data.toList = l := by simp
theorem int_load {k : IntKind} {b : Nat} {z : Option (List V)} {cs : List V} : loadV ⟨.int k, 1, b, z⟩ cs = cs.head? := rfl
theorem noP_int (k : IntKind) (n : Int) : (V.int k n).noP = true := rfl
theorem noP_str (l : List UInt8) : (V.str l).noP = true := rfl
theorem bare_bool (b : Bool) : (V.bool b).bare = .bool b := rfl
theorem bare_int (k : IntKind) (n : Int) : (V.int k n).bare = .int k n := rfl
theorem bare_str (l : List UInt8) : (V.str l).bare = .str l := rfl
theorem bare_nils : V.nils.bare = .nils := rfl
theorem bare_slice (sz : Nat) (l : List V) (ex : Bool) (t : Option Nat) : (V.slice sz l ex t).bare = .slice sz l ex none := rfl
theorem bare_tup (vs : List V) : (V.tup vs).bare = .tup (vs.map V.bare1) := rfl
theorem bare1_bool (b : Bool) : (V.bool b).bare1 = .bool b := rfl
theorem bare1_int (k : IntKind) (n : Int) : (V.int k n).bare1 = .int k n := rfl
theorem bare1_str (l : List UInt8) : (V.str l).bare1 = .str l := rfl
theorem bare1_nils : V.nils.bare1 = .nils := rfl
theorem bare1_slice (sz : Nat) (l : List V) (ex : Bool) (t : Option Nat) : (V.slice sz l ex t).bare1 = .slice sz l ex none := rfl
theorem lets0 (W : List Nat) (n b : Nat) : (limOf 0 W n).lets [b] = (b < n) := by simp [limOf, Lim.lets]
theorem lets1 (W : List Nat) (n b : Nat) : (limOf 1 W n).lets [b] = (b ∈ W) := by simp [limOf, Lim.lets]
theorem cells_int (k : IntKind) (n : Int) : (V.int k n).cells = [.int k n] := rfl
theorem cells_bool (b : Bool) : (V.bool b).cells = [.bool b] := rfl
theorem cells_str (l : List UInt8) : (V.str l).cells = [.str l] := rfl
theorem cells_nils : V.nils.cells = [.nils] := rfl
theorem cells_nilp : V.nilp.cells = [.nilp] := rfl
theorem cells_ptr (b o : Nat) : (V.ptr b o).cells = [.ptr b o] := rfl
theorem cells_slice (sz : Nat) (l : List V) (ex : Bool) (t : Option Nat) : (V.slice sz l ex t).cells = [.slice sz l ex t] := rfl
theorem cells_func (f : Fn) (l : List V) : (V.func f l).cells = [.func f l] := rfl
theorem isC_int (k : IntKind) (n : Int) : ([.int k n] : List V).all V.isCell = true := rfl
theorem isC_bool (b : Bool) : ([.bool b] : List V).all V.isCell = true := rfl
theorem isC_str (l : List UInt8) : ([.str l] : List V).all V.isCell = true := rfl
theorem isC_nils : ([.nils] : List V).all V.isCell = true := rfl
theorem isC_nilp : ([.nilp] : List V).all V.isCell = true := rfl
theorem isC_ptr (b o : Nat) : ([.ptr b o] : List V).all V.isCell = true := rfl
theorem isC_slice (sz : Nat) (l : List V) (ex : Bool) (t : Option Nat) : ([.slice sz l ex t] : List V).all V.isCell = true := rfl
theorem isC_func (f : Fn) (l : List V) : ([.func f l] : List V).all V.isCell = true := rfl
/-! ## types held against each other -/
theorem flatK_int {t : TypeId} {i : TypeInfo} {k : IntKind} {d : Nat} (h : P.underlying t = some (.int k)) (hi : P.info? t = some i) (hs : i.size = 1) : flatK P (d + 1) t = some [.int k] := by rw [flatK.eq_def]; simp only [h, hi, hs, if_true]
theorem flatK_str {t : TypeId} {i : TypeInfo} {d : Nat} (h : P.underlying t = some .string) (hi : P.info? t = some i) (hs : i.size = 1) : flatK P (d + 1) t = some [.str] := by rw [flatK.eq_def]; simp only [h, hi, hs, if_true]
theorem flatK_arr {t e : TypeId} {i : TypeInfo} {n d : Nat} {ks : List TD} (h : P.underlying t = some (.array n e)) (hi : P.info? t = some i) (he : flatK P d e = some ks) (hs : i.size = n * ks.length) : flatK P (d + 1) t = some ((List.range n).flatMap fun _ => ks) := by
  rw [flatK.eq_def]; simp only [h,hi,he,hs,if_true]
theorem flatK_struct {t : TypeId} {fs : Array Field} {i : TypeInfo} {d : Nat} {ks : List TD} (h : P.underlying t = some (.struct fs)) (hi : P.info? t = some i) (hst : P.stoodInHeld t = false) (hf : flatK.fields P d fs.toList 0 = some ks) (hs : ks.length = i.size) : flatK P (d + 1) t = some ks := by
  rw [flatK.eq_def]; simp only [h,hi,hst,hf,hs,if_true,Bool.false_eq_true,if_false]
theorem fields_nil (d o : Nat) : flatK.fields P d [] o = some [] := by rw [flatK.fields.eq_def]
theorem fields_cons {d o o' : Nat} {f : Field} {fs : List Field} {ks r : List TD} (hn : (f.name == "_") = false) (ho : f.offset = o) (hk : flatK P d f.type = some ks) (ho' : o + ks.length = o') (hr : flatK.fields P d fs o' = some r) : flatK.fields P d (f :: fs) o = some (ks ++ r) := by
  rw [flatK.fields.eq_def]
  have hn' : f.name ≠ "_" := by simpa using hn
  subst ho'
  simp only [hn',ho,ne_eq,not_true_eq_false,or_self,if_false,hk,hr]
theorem eqK_of {t : TypeId} {ks : List TD} (h : P.eqGuardType P.depth t = false) (hf : flatK P 64 t = some ks) : eqK P t = some ks := by rw [eqK, h, hf]; rfl
/-- what follows, under a name, shut under forgetting -/
def Shut (N : St → Prop) : Prop := ∀ (ks : List Nat) n ps h ow nx, N ⟨mkS n (keepK ks ps), h, ow, nx⟩ → N ⟨mkS n ps, h, ow, nx⟩
theorem WC_shut {c : Code} {K : Exit → St → Prop} : Shut (WC P c K) := fun ks n ps h ow nx hk => WC_dropK ks hk
theorem WC_seqN {x y : Code} {K : Exit → St → Prop} (h : ∀ N : St → Prop, (∀ s, WC P y K s → N s) → Shut N → WC P x (Exit.after N K) s) : WC P (.seq x y) K s := WC_seq (h _ (fun _ h => h) WC_shut)
theorem WC_seqR {id : Nat} {y : Code} {K : Exit → St → Prop} (h : ∀ N : St → Prop, (∀ s, WC P y K s → N s) → Shut N → WOps P ops ops.toList N s) : WC P (.seq (.region id ops false) y) K s :=
  WC_seqN fun N h1 h2 => WC_region (h N h1 h2)
theorem WC_seqD {id : Nat} {y : Code} {K : Exit → St → Prop} (hm : P.follows .mixedOrders = true) (W : List Nat) (fls : List Nat) (hd : drawOk ops fls = true)
    (h : ∀ N : St → Prop,(∀ s,WC P y K s → N s) → Shut N → DOpsL P W s.heap.length ops ops.toList fls N s) : WC P (.seq (.region id ops true) y) K s :=
  WC_seqN fun N h1 h2 => WC_regionD hm W fls hd (h N h1 h2)
theorem WC_regN {id : Nat} {K : Exit → St → Prop} (h : ∀ N : St → Prop, (∀ s, K .normal s → N s) → WOps P ops ops.toList N s) : WC P (.region id ops false) K s := WC_region (h _ fun _ h => h)
/-- tokens that are wanted no more -/
theorem WC_noOwn {c : Code} {K : Exit → St → Prop} {sl : List V} {h : List (List V)} {ow : List (Nat × Nat)} {nx : Nat} (k : WC P c K ⟨sl, h, [], nx⟩) : WC P c K ⟨sl, h, ow, nx⟩ := by
  intro w0 G0 a w Q hc hQ
  refine k w0 G0 a w Q ?_ hQ
  obtain ⟨G,hs,I,hd⟩ := hc
  exact ⟨G,hs,⟨I.heap,⟨fun id n hq => by simp at hq,I.own.ok,I.own.there,I.own.notS,I.own.notMu,I.own.apart⟩,I.sok,I.since,I.mono,I.nx⟩,hd⟩
theorem Kend_ret {rs : List ResultVar} {R : V → List (List V) → Prop} {x : V} (hx : resOf P s rs = some x) (hok : okV 0 x = true) (hR : R (x.keep s.own) []) : Kend P rs 0 R .ret s :=
  ⟨.inr rfl,x,0,hx,Nat.le_refl _,Nat.zero_le _, .inr (by simp [hok]),by simpa using hR⟩
theorem bin_add (k : IntKind) (t : TypeId) (a b : Int) : binV P .add t (.int k a) (.int k b) = some (.int k (k.wrap (a + b))) := by simp [binV, intOp]
theorem bin_sub (k : IntKind) (t : TypeId) (a b : Int) : binV P .sub t (.int k a) (.int k b) = some (.int k (k.wrap (a - b))) := by simp [binV, intOp]
theorem bin_mul (k : IntKind) (t : TypeId) (a b : Int) : binV P .mul t (.int k a) (.int k b) = some (.int k (k.wrap (a * b))) := by simp [binV, intOp]
theorem bin_quo (k : IntKind) (t : TypeId) (a b : Int) : binV P .quo t (.int k a) (.int k b) = if b = 0 then none else some (.int k (k.wrap (a.tdiv b))) := by simp [binV, intOp]
theorem bin_rem (k : IntKind) (t : TypeId) (a b : Int) : binV P .rem t (.int k a) (.int k b) = if b = 0 then none else some (.int k (a.tmod b)) := by simp [binV, intOp]
theorem bin_eql (k : IntKind) (t : TypeId) (a b : Int) : binV P .eql t (.int k a) (.int k b) = some (.bool (a == b)) := by simp [binV, intOp]
theorem bin_neq (k : IntKind) (t : TypeId) (a b : Int) : binV P .neq t (.int k a) (.int k b) = some (.bool (a != b)) := by simp [binV, intOp]
theorem bin_lss (k : IntKind) (t : TypeId) (a b : Int) : binV P .lss t (.int k a) (.int k b) = some (.bool (decide (a < b))) := by simp [binV, intOp]
theorem bin_leq (k : IntKind) (t : TypeId) (a b : Int) : binV P .leq t (.int k a) (.int k b) = some (.bool (decide (a ≤ b))) := by simp [binV, intOp]
theorem bin_gtr (k : IntKind) (t : TypeId) (a b : Int) : binV P .gtr t (.int k a) (.int k b) = some (.bool (decide (a > b))) := by simp [binV, intOp]
theorem bin_geq (k : IntKind) (t : TypeId) (a b : Int) : binV P .geq t (.int k a) (.int k b) = some (.bool (decide (a ≥ b))) := by simp [binV, intOp]
theorem bin_str (o : BinOp) (t : TypeId) (a b : List UInt8) : binV P o t (.str a) (.str b) = strOp o a b := rfl
theorem un_not (b : Bool) : unV .not (.bool b) = some (.bool !b) := rfl

/-! ## drawn regions, for simp -/
variable {W : List Nat} {N0 : Nat} {fl : Nat} {fls : List Nat} {op : Op}
theorem D_nil : DOpsL P W N0 ops [] fls K s = K s := rfl
theorem D_q : DOpsL P W N0 ops (⟨dst, op, ty, pos, after, none⟩ :: os) (fl :: fls) K s =
    (memOk (limOf fl W s.heap.length) W N0 s op ∧ stepO (opV P s op) (fun v => DOpsL P W N0 ops os fls K (s.put dst v)) (WRun P (limOf fl W s.heap.length) op (fun v s' => DOpsL P W N0 ops os fls K (s'.put dst v)) s) .mk .mk) := by
  simp only [DOpsL,DRun,List.headD,List.tail]
  unfold WRun stepO
  cases opV P s op <;> rfl
theorem D_g (j : Nat) (want : Bool) : DOpsL P W N0 ops (⟨dst, op, ty, pos, after, some (j, want)⟩ :: os) (fl :: fls) K s =
    stepB (gval s (gslot ops j)) want (DOpsL P W N0 ops (⟨dst,op,ty,pos,after,none⟩ :: os) (fl :: fls) K s) (DOpsL P W N0 ops os fls K (s.put dst (.tup []))) .mk .mk := by
  simp only [DOpsL,DRun,stepB,List.headD,List.tail,gslot_eq,gval]
  cases hd : (ops[j]?).bind (·.dst) with
  | none => rfl
  | some d =>
    simp only
    cases s.slots[d]? with
    | none => rfl
    | some x => cases x <;> first | rfl | (rename_i l; cases l <;> rfl)
theorem D_alloc (t : TypeId) : DOpsL P W N0 ops (⟨dst, .alloc t, ty, pos, after, none⟩ :: os) (fl :: fls) K s = stepL (loudV P s (.alloc t)) (fun v h ow nx => DOpsL P W N0 ops os fls K (St.put { s with heap := h, own := ow, next := nx } dst v)) .mk := by
  simp only [DOpsL,DRun,List.headD,List.tail,memOk,true_and,WRun,stepL,opV]
  generalize loudV P s _ = q
  cases q <;> rfl
theorem D_box (t : TypeId) (x : Operand) : DOpsL P W N0 ops (⟨dst, .box t x, ty, pos, after, none⟩ :: os) (fl :: fls) K s = stepL (loudV P s (.box t x)) (fun v h ow nx => DOpsL P W N0 ops os fls K (St.put { s with heap := h, own := ow, next := nx } dst v)) .mk := by
  simp only [DOpsL,DRun,List.headD,List.tail,memOk,true_and,WRun,stepL,opV]
  generalize loudV P s _ = q
  cases q <;> rfl
theorem D_make (t : TypeId) (x y : Operand) : DOpsL P W N0 ops (⟨dst, .makeSlice t x y, ty, pos, after, none⟩ :: os) (fl :: fls) K s = stepL (loudV P s (.makeSlice t x y)) (fun v h ow nx => DOpsL P W N0 ops os fls K (St.put { s with heap := h, own := ow, next := nx } dst v)) .mk := by
  simp only [DOpsL,DRun,List.headD,List.tail,memOk,true_and,WRun,stepL,opV]
  generalize loudV P s _ = q
  cases q <;> rfl
theorem D_store (t : TypeId) (x y : Operand) : DOpsL P W N0 ops (⟨dst, .store t x y, ty, pos, after, none⟩ :: os) (fl :: fls) K s = (memOk (limOf fl W s.heap.length) W N0 s (.store t x y) ∧ stepL (loudV P s (.store t x y)) (fun v h ow nx => DOpsL P W N0 ops os fls K (St.put { s with heap := h, own := ow, next := nx } dst v)) .mk) := by
  simp only [DOpsL,DRun,List.headD,List.tail,WRun,stepL,opV]
  generalize loudV P s _ = q
  cases q <;> rfl
theorem D_append (args : Array Operand) (ts : Array TypeId) : DOpsL P W N0 ops (⟨dst, .call { callee := .builtin .append, args := args, argTypes := ts }, ty, pos, after, none⟩ :: os) (fl :: fls) K s = stepL (loudV P s (.call { callee := .builtin .append, args := args, argTypes := ts })) (fun v h ow nx => DOpsL P W N0 ops os fls K (St.put { s with heap := h, own := ow, next := nx } dst v)) .mk := by
  simp only [DOpsL,DRun,List.headD,List.tail,memOk,true_and,WRun,stepL,opV]
  generalize loudV P s _ = q
  cases q <;> rfl
theorem D_callP {f : Operand} {args : Array Operand} {ts : Array TypeId} {xs ys : List V} {r r' : V} {fid : Nat} (c : VC P fid ys [] (fun q _ => q = r)) (hf : ev s f = some (.func (.func fid) [])) (hx : evL s args.toList = some xs)
    (hy : xs.map V.bare = ys) (hp : xs.all V.noP = true) (hr : r.noP = true) (hb : r.bare = r') (k : DOpsL P W N0 ops os fls K (s.put dst r')) : DOpsL P W N0 ops (⟨dst, .call ⟨.value f,args,ts⟩,ty,pos,after,none⟩ :: os) (fl :: fls) K s := by
  simp only [DOpsL,DRun,List.headD,List.tail,memOk,true_and]
  unfold WRun
  simp only [opV,loudV]
  subst hy hb
  refine ⟨fid, [],xs,hf,hx, .pure r ?_ ?_ hr k⟩
  · simpa using c
  · simpa using hp
theorem D_move (x : Operand) : DOpsL P W N0 ops (⟨dst, .move x, ty, pos, after, none⟩ :: os) (fl :: fls) K s = stepO (opV P s (.move x)) (fun v => DOpsL P W N0 ops os fls K (s.put dst v)) (WRun P (limOf fl W s.heap.length) (.move x) (fun v s' => DOpsL P W N0 ops os fls K (s'.put dst v)) s) .mk .mk := by rw [D_q]; simp only [memOk, true_and]
theorem D_assign (x : Operand) : DOpsL P W N0 ops (⟨dst, .assign x, ty, pos, after, none⟩ :: os) (fl :: fls) K s = stepO (opV P s (.assign x)) (fun v => DOpsL P W N0 ops os fls K (s.put dst v)) (WRun P (limOf fl W s.heap.length) (.assign x) (fun v s' => DOpsL P W N0 ops os fls K (s'.put dst v)) s) .mk .mk := by rw [D_q]; simp only [memOk, true_and]
theorem D_pick (c x y : Operand) : DOpsL P W N0 ops (⟨dst, .pick c x y, ty, pos, after, none⟩ :: os) (fl :: fls) K s = stepO (opV P s (.pick c x y)) (fun v => DOpsL P W N0 ops os fls K (s.put dst v)) (WRun P (limOf fl W s.heap.length) (.pick c x y) (fun v s' => DOpsL P W N0 ops os fls K (s'.put dst v)) s) .mk .mk := by rw [D_q]; simp only [memOk, true_and]
theorem D_nilCheck (x : Operand) : DOpsL P W N0 ops (⟨dst, .nilCheck x, ty, pos, after, none⟩ :: os) (fl :: fls) K s = stepO (opV P s (.nilCheck x)) (fun v => DOpsL P W N0 ops os fls K (s.put dst v)) (WRun P (limOf fl W s.heap.length) (.nilCheck x) (fun v s' => DOpsL P W N0 ops os fls K (s'.put dst v)) s) .mk .mk := by rw [D_q]; simp only [memOk, true_and]
theorem D_binOp (o : BinOp) (t : TypeId) (x y : Operand) (u : TypeId) : DOpsL P W N0 ops (⟨dst, .binOp o t x y u, ty, pos, after, none⟩ :: os) (fl :: fls) K s = stepO (opV P s (.binOp o t x y u)) (fun v => DOpsL P W N0 ops os fls K (s.put dst v)) (WRun P (limOf fl W s.heap.length) (.binOp o t x y u) (fun v s' => DOpsL P W N0 ops os fls K (s'.put dst v)) s) .mk .mk := by rw [D_q]; simp only [memOk, true_and]
theorem D_unOp (o : UnOp) (t : TypeId) (x : Operand) : DOpsL P W N0 ops (⟨dst, .unOp o t x, ty, pos, after, none⟩ :: os) (fl :: fls) K s = stepO (opV P s (.unOp o t x)) (fun v => DOpsL P W N0 ops os fls K (s.put dst v)) (WRun P (limOf fl W s.heap.length) (.unOp o t x) (fun v s' => DOpsL P W N0 ops os fls K (s'.put dst v)) s) .mk .mk := by rw [D_q]; simp only [memOk, true_and]
theorem D_convert (t u : TypeId) (x : Operand) : DOpsL P W N0 ops (⟨dst, .convert t u x, ty, pos, after, none⟩ :: os) (fl :: fls) K s = stepO (opV P s (.convert t u x)) (fun v => DOpsL P W N0 ops os fls K (s.put dst v)) (WRun P (limOf fl W s.heap.length) (.convert t u x) (fun v s' => DOpsL P W N0 ops os fls K (s'.put dst v)) s) .mk .mk := by rw [D_q]; simp only [memOk, true_and]
theorem D_build (t : TypeId) (l : Array (Nat × Operand)) : DOpsL P W N0 ops (⟨dst, .build t l, ty, pos, after, none⟩ :: os) (fl :: fls) K s = stepO (opV P s (.build t l)) (fun v => DOpsL P W N0 ops os fls K (s.put dst v)) (WRun P (limOf fl W s.heap.length) (.build t l) (fun v s' => DOpsL P W N0 ops os fls K (s'.put dst v)) s) .mk .mk := by rw [D_q]; simp only [memOk, true_and]
theorem D_buildSlice (t : TypeId) (n : Nat) (l : Array (Nat × Operand)) : DOpsL P W N0 ops (⟨dst, .buildSlice t n l, ty, pos, after, none⟩ :: os) (fl :: fls) K s = stepO (opV P s (.buildSlice t n l)) (fun v => DOpsL P W N0 ops os fls K (s.put dst v)) (WRun P (limOf fl W s.heap.length) (.buildSlice t n l) (fun v s' => DOpsL P W N0 ops os fls K (s'.put dst v)) s) .mk .mk := by rw [D_q]; simp only [memOk, true_and]
theorem D_slice (t : TypeId) (x : Operand) (a b c : Option Operand) : DOpsL P W N0 ops (⟨dst, .slice t x a b c, ty, pos, after, none⟩ :: os) (fl :: fls) K s = stepO (opV P s (.slice t x a b c)) (fun v => DOpsL P W N0 ops os fls K (s.put dst v)) (WRun P (limOf fl W s.heap.length) (.slice t x a b c) (fun v s' => DOpsL P W N0 ops os fls K (s'.put dst v)) s) .mk .mk := by rw [D_q]; simp only [memOk, true_and]
theorem D_fieldAddr (t : TypeId) (x : Operand) (i : Nat) : DOpsL P W N0 ops (⟨dst, .fieldAddr t x i, ty, pos, after, none⟩ :: os) (fl :: fls) K s = stepO (opV P s (.fieldAddr t x i)) (fun v => DOpsL P W N0 ops os fls K (s.put dst v)) (WRun P (limOf fl W s.heap.length) (.fieldAddr t x i) (fun v s' => DOpsL P W N0 ops os fls K (s'.put dst v)) s) .mk .mk := by rw [D_q]; simp only [memOk, true_and]
theorem D_field (t : TypeId) (x : Operand) (i : Nat) : DOpsL P W N0 ops (⟨dst, .field t x i, ty, pos, after, none⟩ :: os) (fl :: fls) K s = stepO (opV P s (.field t x i)) (fun v => DOpsL P W N0 ops os fls K (s.put dst v)) (WRun P (limOf fl W s.heap.length) (.field t x i) (fun v s' => DOpsL P W N0 ops os fls K (s'.put dst v)) s) .mk .mk := by rw [D_q]; simp only [memOk, true_and]
theorem D_indexAddr (t : TypeId) (x y : Operand) : DOpsL P W N0 ops (⟨dst, .indexAddr t x y, ty, pos, after, none⟩ :: os) (fl :: fls) K s = stepO (opV P s (.indexAddr t x y)) (fun v => DOpsL P W N0 ops os fls K (s.put dst v)) (WRun P (limOf fl W s.heap.length) (.indexAddr t x y) (fun v s' => DOpsL P W N0 ops os fls K (s'.put dst v)) s) .mk .mk := by rw [D_q]; simp only [memOk, true_and]
theorem D_index (t : TypeId) (x y : Operand) : DOpsL P W N0 ops (⟨dst, .index t x y, ty, pos, after, none⟩ :: os) (fl :: fls) K s = stepO (opV P s (.index t x y)) (fun v => DOpsL P W N0 ops os fls K (s.put dst v)) (WRun P (limOf fl W s.heap.length) (.index t x y) (fun v s' => DOpsL P W N0 ops os fls K (s'.put dst v)) s) .mk .mk := by rw [D_q]; simp only [memOk, true_and]
theorem D_extract (x : Operand) (i : Nat) : DOpsL P W N0 ops (⟨dst, .extract x i, ty, pos, after, none⟩ :: os) (fl :: fls) K s = stepO (opV P s (.extract x i)) (fun v => DOpsL P W N0 ops os fls K (s.put dst v)) (WRun P (limOf fl W s.heap.length) (.extract x i) (fun v s' => DOpsL P W N0 ops os fls K (s'.put dst v)) s) .mk .mk := by rw [D_q]; simp only [memOk, true_and]
theorem D_makeFunc (g : Fn) (x y : Array Operand) : DOpsL P W N0 ops (⟨dst, .makeFunc g x y, ty, pos, after, none⟩ :: os) (fl :: fls) K s = stepO (opV P s (.makeFunc g x y)) (fun v => DOpsL P W N0 ops os fls K (s.put dst v)) (WRun P (limOf fl W s.heap.length) (.makeFunc g x y) (fun v s' => DOpsL P W N0 ops os fls K (s'.put dst v)) s) .mk .mk := by rw [D_q]; simp only [memOk, true_and]
theorem D_load (t : TypeId) (x : Operand) : DOpsL P W N0 ops (⟨dst, .load t x, ty, pos, after, none⟩ :: os) (fl :: fls) K s = (memOk (limOf fl W s.heap.length) W N0 s (.load t x) ∧ stepO (opV P s (.load t x)) (fun v => DOpsL P W N0 ops os fls K (s.put dst v)) (WRun P (limOf fl W s.heap.length) (.load t x) (fun v s' => DOpsL P W N0 ops os fls K (s'.put dst v)) s) .mk .mk) := D_q
theorem D_len (as : Array Operand) (ts : Array TypeId) : DOpsL P W N0 ops (⟨dst, .call ⟨.builtin .len, as, ts⟩, ty, pos, after, none⟩ :: os) (fl :: fls) K s = stepO (opV P s (.call ⟨.builtin .len, as, ts⟩)) (fun v => DOpsL P W N0 ops os fls K (s.put dst v)) (WRun P (limOf fl W s.heap.length) (.call ⟨.builtin .len, as, ts⟩) (fun v s' => DOpsL P W N0 ops os fls K (s'.put dst v)) s) .mk .mk := by rw [D_q]; simp only [memOk, true_and]
theorem D_max (as : Array Operand) (ts : Array TypeId) : DOpsL P W N0 ops (⟨dst, .call ⟨.builtin .max, as, ts⟩, ty, pos, after, none⟩ :: os) (fl :: fls) K s = stepO (opV P s (.call ⟨.builtin .max, as, ts⟩)) (fun v => DOpsL P W N0 ops os fls K (s.put dst v)) (WRun P (limOf fl W s.heap.length) (.call ⟨.builtin .max, as, ts⟩) (fun v s' => DOpsL P W N0 ops os fls K (s'.put dst v)) s) .mk .mk := by rw [D_q]; simp only [memOk, true_and]
theorem D_min (as : Array Operand) (ts : Array TypeId) : DOpsL P W N0 ops (⟨dst, .call ⟨.builtin .min, as, ts⟩, ty, pos, after, none⟩ :: os) (fl :: fls) K s = stepO (opV P s (.call ⟨.builtin .min, as, ts⟩)) (fun v => DOpsL P W N0 ops os fls K (s.put dst v)) (WRun P (limOf fl W s.heap.length) (.call ⟨.builtin .min, as, ts⟩) (fun v s' => DOpsL P W N0 ops os fls K (s'.put dst v)) s) .mk .mk := by rw [D_q]; simp only [memOk, true_and]
end
end Go.PV
