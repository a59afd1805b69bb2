/- Pools: Put of any op; a pool that isn't there; calls that are run. -/
import Derived.Test.YtpgfcfojojemjaaT36
import Derived.Test.YtpgfcfojojemjaaT33
import Derived.Test.YtpgfcfojojemjaaPWc
import Derived.Test.YtpgfcfojojemjaaRows
import Derived.SizedLaws
namespace Go.PV
open Go.Proofs
set_option linter.unusedVariables false
set_option linter.unusedSimpArgs false
set_option maxRecDepth 10000
set_option maxHeartbeats 1000000

section
variable {ops : Array Oper} {os : List Oper} {K : St → Prop} {s : St} {dst : Option Tmp} {ty : TypeId} {pos : String} {after : Array Edge}
/-- a call that is run on the caller's own state -/
theorem WOps_callE {f : Operand} {args : Array Operand} {ts : Array TypeId} {xs : List V} {fid : Nat} (m n : Nat) {r : V} {h' : List (List V)} {ow' : List (Nat × Nat)} {nx' : Nat} (hf : ev s f = some (.func (.func fid) [])) (hx : evL s args.toList = some xs)
    (h : xCall Try.prog tab m n fid xs s.heap s.own s.next = some (r, h', ow', nx')) (k : WOps Try.prog ops os K (St.put ⟨s.slots, h', ow', nx'⟩ dst r)) :
    WOps Try.prog ops (⟨dst, .call ⟨.value f, args, ts⟩, ty, pos, after, none⟩ :: os) K s := by
  simp only [WOps, WOp, WOp1]
  unfold WRun
  simp only [opV, loudV]
  refine ⟨fid, [], _, hf, hx, ?_⟩
  rw [List.append_nil]
  obtain ⟨he, hc⟩ := xCall_ok (m := m) mixed names tabOk n _ _ _ _ _ _ _ _ _ h
  refine .gen (fun r2 h2 ow2 n2 => r2 = r ∧ h2 = h' ∧ ow2 = ow' ∧ n2 = nx') (.inl rfl) he (fun w0 G0 w G cargs hl hI => ?_) ?_
  · refine (hc w0 G0 w G cargs hl hI).mono ?_
    rintro e w' ⟨v, G', h1, h2, h3, h4⟩
    exact ⟨v, G', r, h', ow', nx', h1, ⟨rfl, rfl, rfl, rfl⟩, h2, h3, h4⟩
  · rintro r2 h2 ow2 n2 ⟨rfl, rfl, rfl, rfl⟩
    exact k
end
namespace N
theorem h__punnet_pool_Pool_Put (Ls : List (List OpS)) (cs : List V) (h : PCt Ls cs) (ha : Apart cs) (o : OpS) (hR : rightS o = false) (hL : o.dropsL.length ≤ 4611686018427387904) : VC Try.prog 30 [.ptr 0 0, opW o] [cs] (fun r hh => r = .int .i64 (putS Ls o).1 ∧ ∃ cs', hh = [cs'] ∧ PCt (putS Ls o).2 cs' ∧ Apart cs') := by
  refine VC_enter (nt := 60) (rs := [.tmp 4]) (ow := cs.flatMap V.tokC) (m := 1) Try.func30 rfl (by rfl) rfl rfl (by simp) (by simp only [ownOf, List.flatMap_cons, List.flatMap_nil, op_toks, List.append_nil]; rfl) rfl (fun n => ?_)
  simp only [zipT, Nat.zero_add]
  have cR := c_punnet_op_Right o hL
  rw [hR] at cR
  have hspec : putS Ls o = (5, Ls) := by rw [putS, if_pos hR]
  refine WC_seqR (fun N1 hN1 hD1 => ?_)
  simp only [sS, ↓sT, if_true, if_false, Nat.reduceLT, Nat.reduceEqDiff, ↓sO, ↓WOps_g, sG, opV, loudV, cellsOf, strOp, evL, Nat.reduceAdd, beq_self_eq_true, bne_self_eq_false, Int.reduceBEq, Int.reduceBNe, op_clean, op_len, op_cells, opCells, List.all_cons, List.all_nil, icell_int, icell_str, icell_bool, dropsW_isC, Bool.and_self, load_slice, load_int, load_str, load_bool, tag_load2, load15, int_load, List.drop_zero, Nat.le_refl, decide_true, decide_false]
  refine hN1 _ ?_; try clear hN1 hD1 N1
  refine WC_seqN (fun N2 hN2 hD2 => ?_)
  refine WC_seqR (fun N3 hN3 hD3 => ?_)
  simp only [sS, ↓sT, if_true, if_false, Nat.reduceLT, Nat.reduceEqDiff, ↓sO, ↓WOps_g, sG, opV, loudV, cellsOf, strOp, evL, Nat.reduceAdd, beq_self_eq_true, bne_self_eq_false, Int.reduceBEq, Int.reduceBNe, op_clean, op_len, op_cells, opCells, List.all_cons, List.all_nil, icell_int, icell_str, icell_bool, dropsW_isC, Bool.and_self, load_slice, load_int, load_str, load_bool, tag_load2, load15, int_load, List.drop_zero, Nat.le_refl, decide_true, decide_false]
  refine hN3 _ ?_; try clear hN3 hD3 N3
  refine WC_condE ?_
  simp only [sS, ↓sT, if_true, if_false, Nat.reduceLT, Nat.reduceEqDiff, ↓stepC_bool]
  refine ⟨fun hb4 => ?_, fun hb4 => ?_⟩
  · exact absurd hb4 (by simp)
  · refine WC_skip ?_
    refine hN2 _ ?_; try clear hN2 hD2 N2
    refine WC_seqN (fun N5 hN5 hD5 => ?_)
    refine WC_seqR (fun N6 hN6 hD6 => ?_)
    simp only [sS, ↓sT, if_true, if_false, Nat.reduceLT, Nat.reduceEqDiff, ↓sO, ↓WOps_g, sG, opV, loudV, cellsOf, strOp, evL, Nat.reduceAdd, beq_self_eq_true, bne_self_eq_false, Int.reduceBEq, Int.reduceBNe, ti49, op_clean, op_len, op_cells, opCells, List.all_cons, List.all_nil, icell_int, icell_str, icell_bool, dropsW_isC, Bool.and_self, load_slice, load_int, load_str, load_bool, tag_load2, load15, int_load, List.drop_zero, Nat.le_refl, hb4, decide_true, decide_false]
    refine WOps_callP cR (by simp only [ev_func]) (by simp only [evL, sS, ↓sT, if_true, if_false, Nat.reduceLT, Nat.reduceEqDiff]; rfl) (by first | rfl | (simp only [List.map, op_bare]; done) | (simp only [List.map, op_bare]; exact rfl)) (by first | rfl | simp [op_noP]) (by first | rfl | simp [op_noP]) (by first | exact op_bare _ | rfl) ?_
    simp only [sS, ↓sT, if_true, if_false, Nat.reduceLT, Nat.reduceEqDiff, ↓sO, ↓WOps_g, sG, opV, loudV, cellsOf, strOp, evL, Nat.reduceAdd, beq_self_eq_true, bne_self_eq_false, Int.reduceBEq, Int.reduceBNe, ti49, op_clean, op_len, op_cells, opCells, List.all_cons, List.all_nil, icell_int, icell_str, icell_bool, dropsW_isC, Bool.and_self, load_slice, load_int, load_str, load_bool, tag_load2, load15, int_load, List.drop_zero, Nat.le_refl, hb4, decide_true, decide_false]
    refine hN6 _ ?_; try clear hN6 hD6 N6
    refine WC_condE ?_
    simp only [sS, ↓sT, if_true, if_false, Nat.reduceLT, Nat.reduceEqDiff, ↓stepC_bool, hb4, Int.reduceBEq, Int.reduceBNe, beq_self_eq_true, bne_self_eq_false]
    refine ⟨fun hb7 => ?_, fun hb7 => ?_⟩
    · refine WC_seqR (fun N8 hN8 hD8 => ?_)
      simp only [sS, ↓sT, if_true, if_false, Nat.reduceLT, Nat.reduceEqDiff, ↓sO, ↓WOps_g, sG, opV, loudV, cellsOf, strOp, evL, Nat.reduceAdd, beq_self_eq_true, bne_self_eq_false, Int.reduceBEq, Int.reduceBNe, op_clean, op_len, op_cells, opCells, List.all_cons, List.all_nil, icell_int, icell_str, icell_bool, dropsW_isC, Bool.and_self, load_slice, load_int, load_str, load_bool, tag_load2, load15, int_load, List.drop_zero, Nat.le_refl, hb4, hb7, decide_true, decide_false]
      refine hN8 _ ?_; try clear hN8 hD8 N8
      refine WC_ret ?_; (try simp only [Exit.after, Exit.out]); refine Kend_ret1 (by simp only [resOf, resL, resV, mkS_get, slots_get, cellsOf, op_load, List.getElem?_cons_zero, List.getElem?_cons_succ, List.drop_zero, ti49, sS, ↓sT, if_true, if_false, Nat.reduceLT, Nat.reduceEqDiff]; rfl) rfl (by first | rfl | (simp only [op_load, List.getElem?_cons_zero, List.getElem?_cons_succ, List.drop_zero, ti49]; done)) (by exact h.noP) ?_
      clear hN5 hD5 N5
      rw [hspec]; exact ⟨rfl, cs, by rw [h.keep (fun q hq => hq)], h, ha⟩
    · exact absurd hb7 (by simp)
end N
/-- Put, whatever the op -/
theorem put_any {Ls : List (List OpS)} {cs : List V} (h : PCt Ls cs) (ha : Apart cs) (o : OpS) (hL : o.dropsL.length ≤ 4611686018427387904) (hd : ∀ l ∈ Ls, ∀ o ∈ l, o.drops.l.length ≤ maxApp) (hB : ∀ l ∈ Ls, l.length ≤ 400) :
    VC Try.prog 30 [.ptr 0 0, opW o] [cs] (fun r hh => r = .int .i64 (putS Ls o).1 ∧ ∃ cs', hh = [cs'] ∧ PCt (putS Ls o).2 cs' ∧ Apart cs') := by
  cases hR : rightS o with
  | true => exact h__punnet_pool_Pool_Put Ls cs h ha o hR hL hd hB
  | false => exact N.h__punnet_pool_Pool_Put Ls cs h ha o hR hL
theorem op_bare1 (o : OpS) : [opW o].map V.bare1 = [opW o] := by
  have h := op_bare o
  simp only [List.map_cons, List.map_nil]
  exact congrArg (fun x => [x]) h
theorem put_any1 {Ls : List (List OpS)} {cs : List V} (h : PCt Ls cs) (ha : Apart cs) (o : OpS) (hL : o.dropsL.length ≤ 4611686018427387904) (hd : ∀ l ∈ Ls, ∀ o ∈ l, o.drops.l.length ≤ maxApp) (hB : ∀ l ∈ Ls, l.length ≤ 400) :
    VC Try.prog 30 (.ptr 0 0 :: [opW o].map V.bare1) [cs] (fun r hh => r = .int .i64 (putS Ls o).1 ∧ ∃ cs', hh = [cs'] ∧ PCt (putS Ls o).2 cs' ∧ Apart cs') := by
  rw [op_bare1]; exact put_any h ha o hL hd hB
/-! ## a pool that isn't there -/
theorem nil_find (r t : Int) : VC Try.prog 39 [.nilp, tagV r t] [] (fun q _ => q = .tup [opW opZ, .int .i64 1]) :=
  VC_closed (tab := tab) 400 4 mixed names tabOk rfl rfl rfl rfl (by kernel_rfl)
theorem nil_put (o : OpS) : VC Try.prog 30 [.nilp, opW o] [] (fun q _ => q = .int .i64 1) := by
  refine VC_closed (tab := tab) 400 4 mixed names tabOk (by simp only [List.all_cons, op_noP]; rfl) (by simp only [List.map_cons, op_bare]; rfl) rfl rfl ?_
  obtain ⟨a0, a1, a2, a3, a4, a5, a6, a7, a8, a9, b0, b1, b2, b3, ⟨l, v, h⟩⟩ := o
  rcases h with ⟨rfl, rfl⟩ | ⟨ex, rfl⟩
  · kernel_rfl
  · kernel_rfl
theorem nil_ops : VC Try.prog 32 [.nilp] [] (fun q _ => q = .nils) :=
  VC_closed (tab := tab) 400 4 mixed names tabOk rfl rfl rfl rfl (by kernel_rfl)
theorem nil_since (v : List Int) (hv : v.length = 6) (n : Int) : VC Try.prog 38 [.nilp, vecV v, .int .i64 n] [] (fun q _ => q = .nils) := by
  refine VC_closed (tab := tab) 400 4 mixed names tabOk (by simp only [List.all_cons, vec_noP]; rfl) (by simp only [List.map_cons, vec_bare]; rfl) rfl rfl ?_
  obtain ⟨a, b, c, d, e, f, rfl⟩ : ∃ a b c d e f, v = [a, b, c, d, e, f] := by
    match v, hv with
    | [a, b, c, d, e, f], _ => exact ⟨a, b, c, d, e, f, rfl⟩
  kernel_rfl
theorem nil_have : VC Try.prog 35 [.nilp] [] (fun q _ => q = vecV zeroV) :=
  VC_closed (tab := tab) 400 4 mixed names tabOk rfl rfl rfl rfl (by kernel_rfl)
theorem nil_len : VC Try.prog 31 [.nilp] [] (fun q _ => q = .int .i64 0) :=
  VC_closed (tab := tab) 400 6 mixed names tabOk rfl rfl rfl rfl (by kernel_rfl)
theorem nil_clock : VC Try.prog 45 [.nilp] [] (fun q _ => q = .int .i64 0) :=
  VC_closed (tab := tab) 400 6 mixed names tabOk rfl rfl rfl rfl (by kernel_rfl)
theorem nil_copy : VC Try.prog 42 [.nilp] [] (fun q _ => q = .nilp) :=
  VC_closed (tab := tab) 400 6 mixed names tabOk rfl rfl rfl rfl (by kernel_rfl)
/-- the copy of a new pool -/
theorem run_copy (A B C : List V) (n : Nat) : xCall Try.prog tab 400 6 42 [.ptr 3 0] [A, B, C, newC] [] n = some (.ptr 4 0, [A, B, C, newC, newC, zeroV.map (V.int .i64)], [], n) := by kernel_rfl
end Go.PV
/- Arguments: ops, tags, vectors. -/
namespace Go.PV
open Go.Proofs
section
variable {H : Type} {enc : TypeId × Value → H} {W : World}
theorem so_int : ShC enc Try.prog W 3 (fun n : Int => [V.int .i64 n]) (fun n => (Lit.int .i64 n).wf = true) := ShC.int Try.underlying3
theorem so_int64 : ShC enc Try.prog W 2 (fun n : Int => [V.int .i64 n]) (fun n => (Lit.int .i64 n).wf = true) := ShC.int Try.underlying2
theorem so_bool : ShC enc Try.prog W 4 (fun b : Bool => [V.bool b]) (fun _ => True) := ShC.bool Try.underlying4
theorem so_str : ShC enc Try.prog W 9 (fun s : List UInt8 => [V.str s]) (fun s => s.length ≤ maxLen) := ShC.str Try.underlying9
theorem so_tag : ShC enc Try.prog W 25 (fun q : Int × Int => [V.int .i64 q.1, V.int .i64 q.2]) (fun _ => True) :=
  (ShC.struct (sz := 2) Try.underlying25 (by kernel_rfl) (ShF.cons (o := 0) (c := 1) (sz := 1) so_int rfl (by kernel_rfl) (ShF.cons (o := 1) (c := 1) (sz := 0) so_int rfl (by kernel_rfl) (ShF.nil 2)))).map
    (fun q => (q.1, q.2.1)) fun q _ => ⟨rfl, trivial⟩
theorem so_vec : ShC enc Try.prog W 23 (fun v : List Int => v.map (V.int .i64)) (fun v => v.length = 6) :=
  (ShC.arr so_int Try.underlying23 (by kernel_rfl)).map (fun v => v) fun v hv => ⟨by
    clear hv
    induction v with
    | nil => rfl
    | cons x v ih => simp only [List.flatMap_cons, List.map_cons, ih]; rfl, hv.1⟩
def drOf : Option (List (Int × Int)) → Dr
  | none => Dr.nil
  | some l => ⟨l, .slice 2 (l.map tagE) false none, .inr ⟨false, rfl⟩⟩
theorem so_tags : ShC enc Try.prog W 38 (fun q : Dr => [dropsW q]) (fun q => q.l.length ≤ maxLen) :=
  (ShC.slice so_tag (sz := 2) Try.underlying38 (by kernel_rfl) (by decide) tagE fun q _ => ⟨rfl, rfl, rfl⟩).map drOf fun q hq => by
    cases q with
    | none => exact ⟨rfl, by simp [drOf, Dr.nil]⟩
    | some l => exact ⟨rfl, (hq l rfl).1⟩
theorem so_ref : ShC enc Try.prog W 47 (fun q : Int × List UInt8 × List UInt8 × Unit => [V.int .i64 q.1] ++ ([V.str q.2.1] ++ ([V.str q.2.2.1] ++ []))) (fun q => (Lit.int .i64 q.1).wf = true ∧ q.2.1.length ≤ maxLen ∧ q.2.2.1.length ≤ maxLen ∧ True) :=
  (ShC.struct (sz := 3) Try.underlying47 (by kernel_rfl) (ShF.cons (o := 0) (c := 1) (sz := 2) so_int rfl (by kernel_rfl) (ShF.cons (o := 1) (c := 1) (sz := 1) so_str rfl (by kernel_rfl) (ShF.cons (o := 2) (c := 1) (sz := 0) so_str rfl (by kernel_rfl) (ShF.nil 3))))).map (fun q => q) fun q hq => ⟨rfl, hq⟩
theorem so_op : ShC enc Try.prog W 49 opCells OpOk :=
  (ShC.struct (sz := 15) Try.underlying49 (by kernel_rfl)
    (ShF.cons (o := 0) (c := 2) (sz := 13) so_tag rfl (by kernel_rfl)
    (ShF.cons (o := 2) (c := 2) (sz := 11) so_tag rfl (by kernel_rfl)
    (ShF.cons (o := 4) (c := 1) (sz := 10) so_int64 rfl (by kernel_rfl)
    (ShF.cons (o := 5) (c := 1) (sz := 9) so_str rfl (by kernel_rfl)
    (ShF.cons (o := 6) (c := 1) (sz := 8) so_int rfl (by kernel_rfl)
    (ShF.cons (o := 7) (c := 1) (sz := 7) so_str rfl (by kernel_rfl)
    (ShF.cons (o := 8) (c := 3) (sz := 4) so_ref rfl (by kernel_rfl)
    (ShF.cons (o := 11) (c := 1) (sz := 3) so_int64 rfl (by kernel_rfl)
    (ShF.cons (o := 12) (c := 1) (sz := 2) so_bool rfl (by kernel_rfl)
    (ShF.cons (o := 13) (c := 1) (sz := 1) so_str rfl (by kernel_rfl)
    (ShF.cons (o := 14) (c := 1) (sz := 0) so_tags rfl (by kernel_rfl) (ShF.nil 15))))))))))))).map
    (fun q => match q with | (i, s, t, c, k, m, r, d, h, x, p, _) => ⟨i.1, i.2, s.1, s.2, t, c, k, m, r.1, r.2.1, r.2.2.1, d, h, x, p⟩) fun q hq => by
      obtain ⟨i, s, t, c, k, m, r, d, h, x, p, u⟩ := q
      obtain ⟨_, _, _, h4, _, h6, h7, _, _, h10, h11, _⟩ := hq
      have hM : maxLen ≤ 9223372036854775807 := by decide
      exact ⟨rfl, ⟨Nat.le_trans h4 hM, Nat.le_trans h6 hM, Nat.le_trans h7.2.1 hM, Nat.le_trans h7.2.2.1 hM, Nat.le_trans h10 hM, Nat.le_trans h11 hM⟩⟩
end
def opZero : Value := .agg #[.int .i64 0, .int .i64 0, .int .i64 0, .int .i64 0, .int .i64 0, .string ByteArray.empty, .int .i64 0, .string ByteArray.empty, .int .i64 0, .string ByteArray.empty, .string ByteArray.empty, .int .i64 0, .bool false, .string ByteArray.empty, .slice none 0 0]
end Go.PV
/- Lists of ops as arguments: HeavyOps, SameOps. -/
namespace Go.PV
open Go.Proofs
set_option linter.unusedVariables false
set_option linter.unusedSimpArgs false
set_option maxRecDepth 10000
set_option maxHeartbeats 1000000

theorem PS.bare {l : List OpS} {c : V} (h : PS l c) : c.bare = c := by rcases h with ⟨rfl, rfl⟩ | ⟨ex, rfl⟩ <;> rfl
theorem PS.noP {l : List OpS} {c : V} (h : PS l c) : c.noP = true := by rcases h with ⟨rfl, rfl⟩ | ⟨ex, rfl⟩ <;> rfl
theorem PS.toks {l : List OpS} {c : V} (h : PS l c) : c.toks = [] := by rcases h with ⟨rfl, rfl⟩ | ⟨ex, rfl⟩ <;> rfl
theorem PS.len {l : List OpS} {c : V} (h : PS l c) : lenV Try.prog 52 c = some (.int .i64 l.length) := by
  rcases h with ⟨rfl, rfl⟩ | ⟨ex, rfl⟩ <;> simp [lenV, ti52]
theorem opsV_PS (l : List OpS) : PS l (opsV l) := by
  unfold opsV
  split
  · rename_i h; exact .inl ⟨List.isEmpty_iff.1 h, rfl⟩
  · exact .inr ⟨false, rfl⟩
def heavyOps (l : List OpS) (m : Int) : Bool := decide (m < (l.length : Int)) || l.any heavyB
theorem c_punnet_punnetref22_HeavyOps (l : List OpS) (x : V) (hx : PS l x) (m : Int) (hl : l.length ≤ maxLen) : VC Try.prog 33 [x, .int .i64 m] [] (fun r _ => r = .bool (heavyOps l m)) := by
  refine VC_enter (nt := 21) (rs := [.tmp 4]) (ow := []) (m := 0) Try.func33 rfl (by rfl) rfl rfl (by simp) (by simp only [ownOf, List.flatMap_cons, List.flatMap_nil, hx.toks, List.append_nil]; rfl) rfl (fun n => ?_)
  simp only [zipT, Nat.zero_add]
  have hx1 := True.intro
  have hi := True.intro
  have hw := True.intro
  refine WC_seqR (fun N1 hN1 hD1 => ?_)
  simp only [sS, ↓sT, if_true, if_false, Nat.reduceLT, Nat.reduceEqDiff, ↓sO, ↓WOps_g, sG, opV, loudV, cellsOf, strOp, evL, Nat.reduceAdd, beq_self_eq_true, bne_self_eq_false, Int.reduceBEq, Int.reduceBNe, hx.len, hx1, hi, hw, op_load, gt_iff_lt, ti3, ti49, decide_true, decide_false]
  refine hN1 _ ?_; try clear hN1 hD1 N1
  refine WC_seqN (fun N2 hN2 hD2 => ?_)
  refine WC_seqR (fun N3 hN3 hD3 => ?_)
  simp only [sS, ↓sT, if_true, if_false, Nat.reduceLT, Nat.reduceEqDiff, ↓sO, ↓WOps_g, sG, opV, loudV, cellsOf, strOp, evL, Nat.reduceAdd, beq_self_eq_true, bne_self_eq_false, Int.reduceBEq, Int.reduceBNe, ti52, hx.len, hx1, hi, hw, op_load, gt_iff_lt, ti3, ti49, decide_true, decide_false]
  refine hN3 _ ?_; try clear hN3 hD3 N3
  refine WC_condE ?_
  simp only [sS, ↓sT, if_true, if_false, Nat.reduceLT, Nat.reduceEqDiff, ↓stepC_bool]
  refine ⟨fun hb4 => ?_, fun hb4 => ?_⟩
  · refine WC_seqR (fun N5 hN5 hD5 => ?_)
    simp only [sS, ↓sT, if_true, if_false, Nat.reduceLT, Nat.reduceEqDiff, ↓sO, ↓WOps_g, sG, opV, loudV, cellsOf, strOp, evL, Nat.reduceAdd, beq_self_eq_true, bne_self_eq_false, Int.reduceBEq, Int.reduceBNe, hx.len, hx1, hi, hw, op_load, gt_iff_lt, ti3, ti49, decide_true, decide_false]
    refine hN5 _ ?_; try clear hN5 hD5 N5
    refine WC_ret ?_; (try simp only [Exit.after, Exit.out]); refine Kend_ret (by simp only [resOf, resL, resV, mkS_get, slots_get, cellsOf, op_load, ti3, ti52, ti49, sS, ↓sT, if_true, if_false, Nat.reduceLT, Nat.reduceEqDiff]; rfl) (by first | rfl | (simp only [op_load, ti3, ti52, ti49]; done) | (simp only [op_load, ti3, ti52, ti49, okV, ok1, okC, okP, List.all_cons, List.all_nil, Bool.and_true]; done)) ?_
    clear hN2 hD2 N2
    first
    | (rw [keep_bool, heavyOps, hb4]; rfl)
    | (rw [keep_bool, hspec]; congr 1; symm; exact List.any_eq_true.2 ⟨o, List.mem_of_getElem? ho, hb13⟩)
    | (rw [keep_bool, hspec]; congr 1
       have ht : t = l.length := by have := of_decide_eq_false hb10; omega
       rw [ht, List.take_length] at hh; exact hh.symm)
  · refine WC_skip ?_
    refine hN2 _ ?_; try clear hN2 hD2 N2
    refine WC_seqN (fun N6 hN6 hD6 => ?_)
    refine WC_seqR (fun N7 hN7 hD7 => ?_)
    simp only [sS, ↓sT, if_true, if_false, Nat.reduceLT, Nat.reduceEqDiff, ↓sO, ↓WOps_g, sG, opV, loudV, cellsOf, strOp, evL, Nat.reduceAdd, beq_self_eq_true, bne_self_eq_false, Int.reduceBEq, Int.reduceBNe, hx.len, hx1, hi, hw, op_load, gt_iff_lt, ti3, ti49, decide_true, decide_false]
    refine hN7 _ ?_; try clear hN7 hD7 N7
    refine WC_block ?_
    have hm : ¬ (m < (l.length : Int)) := of_decide_eq_false hb4
    have hspec : heavyOps l m = l.any heavyB := by rw [heavyOps, decide_eq_false hm, Bool.false_or]
    refine WC_loopG (σ := Nat) (fun t s => ∃ ps, s = ⟨mkS 21 ps, [], [], n⟩ ∧ Has ps [(0, x), (5, .int .i64 t)] ∧ t ≤ l.length ∧ (l.take t).any heavyB = false) (fun t => l.length - t) 0 ?_ (fun t s hI => ?_)
    · exact ⟨_, rfl, ⟨rfl, rfl, trivial⟩, Nat.zero_le _, rfl⟩
    obtain ⟨ps, rfl, hps, htl, hh⟩ := hI
    refine WC_has hps ?_; clear hps ps
    refine WC_seqN (fun N8 hN8 hD8 => ?_)
    refine WC_seqR (fun N9 hN9 hD9 => ?_)
    simp only [sS, ↓sT, if_true, if_false, Nat.reduceLT, Nat.reduceEqDiff, ↓sO, ↓WOps_g, sG, opV, loudV, cellsOf, strOp, evL, Nat.reduceAdd, beq_self_eq_true, bne_self_eq_false, Int.reduceBEq, Int.reduceBNe, ti52, hx.len, hx1, hi, hw, op_load, gt_iff_lt, ti3, ti49, decide_true, decide_false]
    refine hN9 _ ?_; try clear hN9 hD9 N9
    refine WC_condE ?_
    simp only [sS, ↓sT, if_true, if_false, Nat.reduceLT, Nat.reduceEqDiff, ↓stepC_bool]
    refine ⟨fun hb10 => ?_, fun hb10 => ?_⟩
    · have ht : t < l.length := by have := of_decide_eq_true hb10; omega
      obtain ⟨o, ho⟩ : ∃ o, l[t]? = some o := ⟨_, List.getElem?_eq_getElem ht⟩
      have hi := hx.ia ho
      have hw : IntKind.i64.wrap ((t : Int) + 1) = (t : Int) + 1 := wrapI (by unfold maxLen at hl; omega) (by unfold maxLen at hl; omega)
      refine WC_skip ?_
      refine hN8 _ ?_; try clear hN8 hD8 N8
      refine WC_seqN (fun N11 hN11 hD11 => ?_)
      refine WC_block ?_
      refine WC_seqR (fun N12 hN12 hD12 => ?_)
      simp only [sS, ↓sT, if_true, if_false, Nat.reduceLT, Nat.reduceEqDiff, ↓sO, ↓WOps_g, sG, opV, loudV, cellsOf, strOp, evL, Nat.reduceAdd, beq_self_eq_true, bne_self_eq_false, Int.reduceBEq, Int.reduceBNe, ti52, ti49, hx.len, hx1, hi, hw, op_load, gt_iff_lt, ti3, ti49, decide_true, decide_false]
      refine WOps_callP (c_punnet_punnetref20_Heavy o) (by simp only [ev_func]) (by simp only [evL, sS, ↓sT, if_true, if_false, Nat.reduceLT, Nat.reduceEqDiff]; rfl) (by first | rfl | (simp only [List.map, op_bare]; done) | (simp only [List.map, op_bare]; exact rfl)) (by first | rfl | simp [op_noP]) (by first | rfl | simp [op_noP]) rfl ?_
      simp only [sS, ↓sT, if_true, if_false, Nat.reduceLT, Nat.reduceEqDiff, ↓sO, ↓WOps_g, sG, opV, loudV, cellsOf, strOp, evL, Nat.reduceAdd, beq_self_eq_true, bne_self_eq_false, Int.reduceBEq, Int.reduceBNe, ti52, ti49, hx.len, hx1, hi, hw, op_load, gt_iff_lt, ti3, ti49, decide_true, decide_false]
      refine hN12 _ ?_; try clear hN12 hD12 N12
      refine WC_condE ?_
      simp only [sS, ↓sT, if_true, if_false, Nat.reduceLT, Nat.reduceEqDiff, ↓stepC_bool]
      refine ⟨fun hb13 => ?_, fun hb13 => ?_⟩
      · refine WC_seqR (fun N14 hN14 hD14 => ?_)
        simp only [sS, ↓sT, if_true, if_false, Nat.reduceLT, Nat.reduceEqDiff, ↓sO, ↓WOps_g, sG, opV, loudV, cellsOf, strOp, evL, Nat.reduceAdd, beq_self_eq_true, bne_self_eq_false, Int.reduceBEq, Int.reduceBNe, hx.len, hx1, hi, hw, op_load, gt_iff_lt, ti3, ti49, decide_true, decide_false]
        refine hN14 _ ?_; try clear hN14 hD14 N14
        refine WC_ret ?_; (try simp only [Exit.after, Exit.out]); refine Kend_ret (by simp only [resOf, resL, resV, mkS_get, slots_get, cellsOf, op_load, ti3, ti52, ti49, sS, ↓sT, if_true, if_false, Nat.reduceLT, Nat.reduceEqDiff]; rfl) (by first | rfl | (simp only [op_load, ti3, ti52, ti49]; done) | (simp only [op_load, ti3, ti52, ti49, okV, ok1, okC, okP, List.all_cons, List.all_nil, Bool.and_true]; done)) ?_
        clear hN11 hD11 N11 hN6 hD6 N6
        first
        | (rw [keep_bool, heavyOps, hb4]; rfl)
        | (rw [keep_bool, hspec]; congr 1; symm; exact List.any_eq_true.2 ⟨o, List.mem_of_getElem? ho, hb13⟩)
        | (rw [keep_bool, hspec]; congr 1
           have ht : t = l.length := by have := of_decide_eq_false hb10; omega
           rw [ht, List.take_length] at hh; exact hh.symm)
      · refine WC_skip ?_
        refine hN11 _ ?_; try clear hN11 hD11 N11
        refine WC_regN (fun N15 hN15 => ?_)
        simp only [sS, ↓sT, if_true, if_false, Nat.reduceLT, Nat.reduceEqDiff, ↓sO, ↓WOps_g, sG, opV, loudV, cellsOf, strOp, evL, Nat.reduceAdd, beq_self_eq_true, bne_self_eq_false, Int.reduceBEq, Int.reduceBNe, hx.len, hx1, hi, hw, op_load, gt_iff_lt, ti3, ti49, decide_true, decide_false]
        refine hN15 _ ?_; try clear hN15 N15
        refine ⟨t + 1, ⟨_, rfl, ⟨rfl, rfl, trivial⟩, ht, ?_⟩, by omega⟩
        rw [List.take_add_one, ho, Option.toList_some, List.any_append, hh, Bool.false_or, List.any_cons, List.any_nil, Bool.or_false]
        simpa using hb13
    · refine WC_exit ?_
      refine hN6 _ ?_; try clear hN6 hD6 N6
      refine WC_seqR (fun N16 hN16 hD16 => ?_)
      simp only [sS, ↓sT, if_true, if_false, Nat.reduceLT, Nat.reduceEqDiff, ↓sO, ↓WOps_g, sG, opV, loudV, cellsOf, strOp, evL, Nat.reduceAdd, beq_self_eq_true, bne_self_eq_false, Int.reduceBEq, Int.reduceBNe, hx.len, hx1, hi, hw, op_load, gt_iff_lt, ti3, ti49, decide_true, decide_false]
      refine hN16 _ ?_; try clear hN16 hD16 N16
      refine WC_ret ?_; (try simp only [Exit.after, Exit.out]); refine Kend_ret (by simp only [resOf, resL, resV, mkS_get, slots_get, cellsOf, op_load, ti3, ti52, ti49, sS, ↓sT, if_true, if_false, Nat.reduceLT, Nat.reduceEqDiff]; rfl) (by first | rfl | (simp only [op_load, ti3, ti52, ti49]; done) | (simp only [op_load, ti3, ti52, ti49, okV, ok1, okC, okP, List.all_cons, List.all_nil, Bool.and_true]; done)) ?_
      clear hN8 hD8 N8
      first
      | (rw [keep_bool, heavyOps, hb4]; rfl)
      | (rw [keep_bool, hspec]; congr 1; symm; exact List.any_eq_true.2 ⟨o, List.mem_of_getElem? ho, hb13⟩)
      | (rw [keep_bool, hspec]; congr 1
         have ht : t = l.length := by have := of_decide_eq_false hb10; omega
         rw [ht, List.take_length] at hh; exact hh.symm)
def sameOps (a b : List OpS) : Bool := (a.length == b.length) && (List.zipWith sameO a b).all id
theorem sameO_refl (o : OpS) : sameO o o = true := by simp [sameO]
theorem sameOps_refl (a : List OpS) : sameOps a a = true := by
  simp only [sameOps, beq_self_eq_true, Bool.true_and, List.all_eq_true]
  intro b hb
  rw [List.zipWith_self] at hb
  obtain ⟨o, _, rfl⟩ := List.mem_map.1 hb
  exact sameO_refl o
theorem c_punnet_punnetref20_SameOps (a b : List OpS) (x y : V) (hx : PS a x) (hy : PS b y) (hl : a.length ≤ maxLen) (hd : ∀ o ∈ a, o.dropsL.length ≤ 4611686018427387904) : VC Try.prog 34 [x, y] [] (fun r _ => r = .bool (sameOps a b)) := by
  refine VC_enter (nt := 27) (rs := [.tmp 4]) (ow := []) (m := 0) Try.func34 rfl (by rfl) rfl rfl (by simp) (by simp only [ownOf, List.flatMap_cons, List.flatMap_nil, hx.toks, hy.toks, List.append_nil]) rfl (fun n => ?_)
  simp only [zipT, Nat.zero_add]
  have hx1 := True.intro
  have hi := True.intro
  have hj := True.intro
  have hw := True.intro
  refine WC_seqR (fun N1 hN1 hD1 => ?_)
  simp only [sS, ↓sT, if_true, if_false, Nat.reduceLT, Nat.reduceEqDiff, ↓sO, ↓WOps_g, sG, opV, loudV, cellsOf, strOp, evL, Nat.reduceAdd, beq_self_eq_true, bne_self_eq_false, Int.reduceBEq, Int.reduceBNe, hx.len, hy.len, hx1, hi, hj, hw, op_load, ti3, ti49, decide_true, decide_false]
  refine hN1 _ ?_; try clear hN1 hD1 N1
  refine WC_seqN (fun N2 hN2 hD2 => ?_)
  refine WC_seqR (fun N3 hN3 hD3 => ?_)
  simp only [sS, ↓sT, if_true, if_false, Nat.reduceLT, Nat.reduceEqDiff, ↓sO, ↓WOps_g, sG, opV, loudV, cellsOf, strOp, evL, Nat.reduceAdd, beq_self_eq_true, bne_self_eq_false, Int.reduceBEq, Int.reduceBNe, ti52, hx.len, hy.len, hx1, hi, hj, hw, op_load, ti3, ti49, decide_true, decide_false]
  refine hN3 _ ?_; try clear hN3 hD3 N3
  refine WC_condE ?_
  simp only [sS, ↓sT, if_true, if_false, Nat.reduceLT, Nat.reduceEqDiff, ↓stepC_bool]
  refine ⟨fun hb4 => ?_, fun hb4 => ?_⟩
  · refine WC_seqR (fun N5 hN5 hD5 => ?_)
    simp only [sS, ↓sT, if_true, if_false, Nat.reduceLT, Nat.reduceEqDiff, ↓sO, ↓WOps_g, sG, opV, loudV, cellsOf, strOp, evL, Nat.reduceAdd, beq_self_eq_true, bne_self_eq_false, Int.reduceBEq, Int.reduceBNe, hx.len, hy.len, hx1, hi, hj, hw, op_load, ti3, ti49, decide_true, decide_false]
    refine hN5 _ ?_; try clear hN5 hD5 N5
    refine WC_ret ?_; (try simp only [Exit.after, Exit.out]); refine Kend_ret (by simp only [resOf, resL, resV, mkS_get, slots_get, cellsOf, op_load, ti3, ti52, ti49, sS, ↓sT, if_true, if_false, Nat.reduceLT, Nat.reduceEqDiff]; rfl) (by first | rfl | (simp only [op_load, ti3, ti52, ti49]; done) | (simp only [op_load, ti3, ti52, ti49, okV, ok1, okC, okP, List.all_cons, List.all_nil, Bool.and_true]; done)) ?_
    clear hN2 hD2 N2
    first
    | (rw [keep_bool]; congr 1; symm
       have h0 : (a.length == b.length) = false := by simp at hb4 ⊢; omega
       rw [sameOps, h0]; rfl)
    | (rw [keep_bool]; congr 1; symm
       rw [sameOps, Bool.and_eq_false_iff]; right; rw [List.all_eq_false]
       exact ⟨_, List.mem_of_getElem? hz, by simpa using hb13⟩)
    | (rw [keep_bool]; congr 1; symm
       have ht : t = a.length := by have := of_decide_eq_false hb10; omega
       rw [List.take_of_length_le (by rw [List.length_zipWith]; omega)] at hh
       rw [sameOps, hlen, hh]; simp)
  · refine WC_skip ?_
    refine hN2 _ ?_; try clear hN2 hD2 N2
    refine WC_seqN (fun N6 hN6 hD6 => ?_)
    refine WC_seqR (fun N7 hN7 hD7 => ?_)
    simp only [sS, ↓sT, if_true, if_false, Nat.reduceLT, Nat.reduceEqDiff, ↓sO, ↓WOps_g, sG, opV, loudV, cellsOf, strOp, evL, Nat.reduceAdd, beq_self_eq_true, bne_self_eq_false, Int.reduceBEq, Int.reduceBNe, hx.len, hy.len, hx1, hi, hj, hw, op_load, ti3, ti49, decide_true, decide_false]
    refine hN7 _ ?_; try clear hN7 hD7 N7
    refine WC_block ?_
    have hlen : a.length = b.length := by
      have h0 : ((a.length : Nat) : Int) = b.length := by simpa using hb4
      omega
    refine WC_loopG (σ := Nat) (fun t s => ∃ ps, s = ⟨mkS 27 ps, [], [], n⟩ ∧ Has ps [(0, x), (1, y), (5, .int .i64 t)] ∧ t ≤ a.length ∧ ((List.zipWith sameO a b).take t).all id = true) (fun t => a.length - t) 0 ?_ (fun t s hI => ?_)
    · exact ⟨_, rfl, ⟨rfl, rfl, rfl, trivial⟩, Nat.zero_le _, rfl⟩
    obtain ⟨ps, rfl, hps, htl, hh⟩ := hI
    refine WC_has hps ?_; clear hps ps
    refine WC_seqN (fun N8 hN8 hD8 => ?_)
    refine WC_seqR (fun N9 hN9 hD9 => ?_)
    simp only [sS, ↓sT, if_true, if_false, Nat.reduceLT, Nat.reduceEqDiff, ↓sO, ↓WOps_g, sG, opV, loudV, cellsOf, strOp, evL, Nat.reduceAdd, beq_self_eq_true, bne_self_eq_false, Int.reduceBEq, Int.reduceBNe, ti52, hx.len, hy.len, hx1, hi, hj, hw, op_load, ti3, ti49, decide_true, decide_false]
    refine hN9 _ ?_; try clear hN9 hD9 N9
    refine WC_condE ?_
    simp only [sS, ↓sT, if_true, if_false, Nat.reduceLT, Nat.reduceEqDiff, ↓stepC_bool]
    refine ⟨fun hb10 => ?_, fun hb10 => ?_⟩
    · have ht : t < a.length := by have := of_decide_eq_true hb10; omega
      obtain ⟨p, hp⟩ : ∃ o, a[t]? = some o := ⟨_, List.getElem?_eq_getElem ht⟩
      obtain ⟨q, hq⟩ : ∃ o, b[t]? = some o := ⟨_, List.getElem?_eq_getElem (hlen ▸ ht)⟩
      have hz : (List.zipWith sameO a b)[t]? = some (sameO p q) := by rw [List.getElem?_zipWith, hp, hq]
      have hi := hx.ia hp
      have hj := hy.ia hq
      have hw : IntKind.i64.wrap ((t : Int) + 1) = (t : Int) + 1 := wrapI (by unfold maxLen at hl; omega) (by unfold maxLen at hl; omega)
      refine WC_skip ?_
      refine hN8 _ ?_; try clear hN8 hD8 N8
      refine WC_seqN (fun N11 hN11 hD11 => ?_)
      refine WC_block ?_
      refine WC_seqD mixed [] [0, 0, 0, 0, 0, 0, 0, 0, 0, 0] (by decide +kernel) (fun N12 hN12 hD12 => ?_)
      simp only [sS, ↓sT, if_true, if_false, Nat.reduceLT, Nat.reduceEqDiff, ↓sD, ↓D_g, memOk, lets0, lets1, List.not_mem_nil, not_false_eq_true, true_and, and_true, sG, opV, loudV, cellsOf, strOp, evL, Nat.reduceAdd, beq_self_eq_true, bne_self_eq_false, Int.reduceBEq, Int.reduceBNe, ti52, ti49, hx.len, hy.len, hx1, hi, hj, hw, op_load, ti3, ti49, decide_true, decide_false]
      refine D_callP (c_punnet_punnetref20_Same p q (hd p (List.mem_of_getElem? hp))) (by simp only [ev_func]) (by simp only [evL, sS, ↓sT, if_true, if_false, Nat.reduceLT, Nat.reduceEqDiff]; rfl) (by first | rfl | (simp only [List.map, op_bare]; done) | (simp only [List.map, op_bare]; exact rfl)) (by first | rfl | simp [op_noP]) (by first | rfl | simp [op_noP]) rfl ?_
      simp only [sS, ↓sT, if_true, if_false, Nat.reduceLT, Nat.reduceEqDiff, ↓sD, ↓D_g, memOk, lets0, lets1, List.not_mem_nil, not_false_eq_true, true_and, and_true, sG, opV, loudV, cellsOf, strOp, evL, Nat.reduceAdd, beq_self_eq_true, bne_self_eq_false, Int.reduceBEq, Int.reduceBNe, ti52, ti49, hx.len, hy.len, hx1, hi, hj, hw, op_load, ti3, ti49, decide_true, decide_false]
      refine hN12 _ ?_; try clear hN12 hD12 N12
      refine WC_condE ?_
      simp only [sS, ↓sT, if_true, if_false, Nat.reduceLT, Nat.reduceEqDiff, ↓stepC_bool]
      refine ⟨fun hb13 => ?_, fun hb13 => ?_⟩
      · refine WC_seqR (fun N14 hN14 hD14 => ?_)
        simp only [sS, ↓sT, if_true, if_false, Nat.reduceLT, Nat.reduceEqDiff, ↓sO, ↓WOps_g, sG, opV, loudV, cellsOf, strOp, evL, Nat.reduceAdd, beq_self_eq_true, bne_self_eq_false, Int.reduceBEq, Int.reduceBNe, hx.len, hy.len, hx1, hi, hj, hw, op_load, ti3, ti49, decide_true, decide_false]
        refine hN14 _ ?_; try clear hN14 hD14 N14
        refine WC_ret ?_; (try simp only [Exit.after, Exit.out]); refine Kend_ret (by simp only [resOf, resL, resV, mkS_get, slots_get, cellsOf, op_load, ti3, ti52, ti49, sS, ↓sT, if_true, if_false, Nat.reduceLT, Nat.reduceEqDiff]; rfl) (by first | rfl | (simp only [op_load, ti3, ti52, ti49]; done) | (simp only [op_load, ti3, ti52, ti49, okV, ok1, okC, okP, List.all_cons, List.all_nil, Bool.and_true]; done)) ?_
        clear hN11 hD11 N11 hN6 hD6 N6
        first
        | (rw [keep_bool]; congr 1; symm
           have h0 : (a.length == b.length) = false := by simp at hb4 ⊢; omega
           rw [sameOps, h0]; rfl)
        | (rw [keep_bool]; congr 1; symm
           rw [sameOps, Bool.and_eq_false_iff]; right; rw [List.all_eq_false]
           exact ⟨_, List.mem_of_getElem? hz, by simpa using hb13⟩)
        | (rw [keep_bool]; congr 1; symm
           have ht : t = a.length := by have := of_decide_eq_false hb10; omega
           rw [List.take_of_length_le (by rw [List.length_zipWith]; omega)] at hh
           rw [sameOps, hlen, hh]; simp)
      · refine WC_skip ?_
        refine hN11 _ ?_; try clear hN11 hD11 N11
        refine WC_regN (fun N15 hN15 => ?_)
        simp only [sS, ↓sT, if_true, if_false, Nat.reduceLT, Nat.reduceEqDiff, ↓sO, ↓WOps_g, sG, opV, loudV, cellsOf, strOp, evL, Nat.reduceAdd, beq_self_eq_true, bne_self_eq_false, Int.reduceBEq, Int.reduceBNe, hx.len, hy.len, hx1, hi, hj, hw, op_load, ti3, ti49, decide_true, decide_false]
        refine hN15 _ ?_; try clear hN15 N15
        refine ⟨t + 1, ⟨_, rfl, ⟨rfl, rfl, rfl, trivial⟩, ht, ?_⟩, by omega⟩
        rw [List.take_add_one, hz, Option.toList_some, List.all_append, hh, Bool.true_and, List.all_cons, List.all_nil, Bool.and_true]
        simpa using hb13
    · refine WC_exit ?_
      refine hN6 _ ?_; try clear hN6 hD6 N6
      refine WC_seqR (fun N16 hN16 hD16 => ?_)
      simp only [sS, ↓sT, if_true, if_false, Nat.reduceLT, Nat.reduceEqDiff, ↓sO, ↓WOps_g, sG, opV, loudV, cellsOf, strOp, evL, Nat.reduceAdd, beq_self_eq_true, bne_self_eq_false, Int.reduceBEq, Int.reduceBNe, hx.len, hy.len, hx1, hi, hj, hw, op_load, ti3, ti49, decide_true, decide_false]
      refine hN16 _ ?_; try clear hN16 hD16 N16
      refine WC_ret ?_; (try simp only [Exit.after, Exit.out]); refine Kend_ret (by simp only [resOf, resL, resV, mkS_get, slots_get, cellsOf, op_load, ti3, ti52, ti49, sS, ↓sT, if_true, if_false, Nat.reduceLT, Nat.reduceEqDiff]; rfl) (by first | rfl | (simp only [op_load, ti3, ti52, ti49]; done) | (simp only [op_load, ti3, ti52, ti49, okV, ok1, okC, okP, List.all_cons, List.all_nil, Bool.and_true]; done)) ?_
      clear hN8 hD8 N8
      first
      | (rw [keep_bool]; congr 1; symm
         have h0 : (a.length == b.length) = false := by simp at hb4 ⊢; omega
         rw [sameOps, h0]; rfl)
      | (rw [keep_bool]; congr 1; symm
         rw [sameOps, Bool.and_eq_false_iff]; right; rw [List.all_eq_false]
         exact ⟨_, List.mem_of_getElem? hz, by simpa using hb13⟩)
      | (rw [keep_bool]; congr 1; symm
         have ht : t = a.length := by have := of_decide_eq_false hb10; omega
         rw [List.take_of_length_le (by rw [List.length_zipWith]; omega)] at hh
         rw [sameOps, hlen, hh]; simp)
end Go.PV
/- Pools: what Put does to the lists; ops of unlike replicas may be put in any order. -/
namespace Go.PV
open Go.Proofs
set_option linter.unusedVariables false
set_option linter.unusedSimpArgs false

theorem take_at {α : Type} {l : List α} {t : Nat} {o : α} (h : l[t]? = some o) : l.take (t + 1) = l.take t ++ [o] := by rw [List.take_add_one, h]; rfl
def putL (Ls : List (List OpS)) (o : OpS) : List (List OpS) := (putS Ls o).2
def puts (Ls : List (List OpS)) (l : List OpS) : List (List OpS) := l.foldl putL Ls
def tot (Ls : List (List OpS)) : Nat := (Ls.map List.length).sum
theorem tot_have (Ls : List (List OpS)) : (haveL Ls).sum = (tot Ls : Int) := by
  induction Ls with
  | nil => rfl
  | cons l Ls ih =>
    simp only [haveL, tot, List.map_cons, List.sum_cons] at ih ⊢
    rw [ih]; omega
theorem tot_not {Ls : List (List OpS)} (h : tot Ls < 400) : (sumS (haveL Ls)).1 ≠ 400 := by
  unfold sumS
  split
  · decide
  · rw [tot_have]; show (tot Ls : Int) ≠ 400; omega
theorem tot_set (x : OpS) : ∀ (Ls : List (List OpS)) (k : Nat), tot (Ls.set k (Ls.getD k [] ++ [x])) ≤ tot Ls + 1
  | [], k => by simp [tot]
  | l :: Ls, 0 => by simp [tot]; omega
  | l :: Ls, k + 1 => by
    have := tot_set x Ls k
    simp only [tot, List.getD_cons_succ, List.set_cons_succ, List.map_cons, List.sum_cons] at this ⊢
    omega
theorem len_tot {Ls : List (List OpS)} {l : List OpS} (h : l ∈ Ls) : l.length ≤ tot Ls := by
  induction Ls with
  | nil => cases h
  | cons a Ls ih =>
    simp only [tot, List.map_cons, List.sum_cons]
    rcases List.mem_cons.1 h with rfl | h
    · omega
    · have := ih h; unfold tot at this; omega
/-- what Put makes of the list of the op's replica -/
def growO (l : List OpS) (o : OpS) : List OpS := if o.idN = (l.length : Int) + 1 then l ++ [o.own] else l
theorem set_getD (Ls : List (List OpS)) (k : Nat) : Ls.set k (Ls.getD k []) = Ls := by
  apply List.ext_getElem?
  intro i
  rw [List.getElem?_set]
  split
  · rename_i h
    subst h
    split
    · rename_i h2; simp [List.getD, List.getElem?_eq_getElem h2]
    · rename_i h2; rw [List.getElem?_eq_none (by omega)]
  · rfl
theorem have_getD (Ls : List (List OpS)) (k : Nat) : (haveL Ls).getD k 0 = ((Ls.getD k []).length : Int) := by
  simp only [haveL, List.getD, List.getElem?_map]
  cases Ls[k]? <;> rfl
theorem putL_eq {Ls : List (List OpS)} {o : OpS} (h : tot Ls < 400) :
    putL Ls o = if rightS o = true then Ls.set (o.idR - 1).toNat (growO (Ls.getD (o.idR - 1).toNat []) o) else Ls := by
  unfold putL
  cases hR : rightS o with
  | false => simp [putS, hR]
  | true =>
    rw [putS_eq _ _ hR, if_pos rfl]
    by_cases hf : (findS Ls o.idR o.idN).2 = 0
    · rw [if_pos hf]
      have hh : hasB (haveL Ls) o.idR o.idN = true := by
        unfold findS at hf
        split at hf
        · assumption
        · exact absurd hf (by decide)
      simp only [hasB, Bool.and_eq_true, decide_eq_true_eq] at hh
      rw [have_getD] at hh
      show Ls = _
      rw [growO, if_neg (by omega), set_getD]
    · rw [if_neg hf]
      by_cases hn : o.idN = ((Ls.getD (o.idR - 1).toNat []).length : Int) + 1
      · rw [if_neg (by simpa using hn), if_neg (tot_not h), growO, if_pos hn]
      · rw [if_pos hn, growO, if_neg hn, set_getD]
theorem putL_tot (Ls : List (List OpS)) (o : OpS) : tot (putL Ls o) ≤ tot Ls + 1 := by
  unfold putL putS
  split
  · exact Nat.le_succ _
  · split
    · exact Nat.le_succ _
    · split
      · exact Nat.le_succ _
      · split
        · exact Nat.le_succ _
        · exact tot_set _ _ _
theorem putL_comm {Ls : List (List OpS)} {a b : OpS} (h : tot Ls + 1 < 400) (hne : a.idR ≠ b.idR) : putL (putL Ls a) b = putL (putL Ls b) a := by
  have ha := putL_tot Ls a
  have hb := putL_tot Ls b
  rw [putL_eq (Ls := putL Ls a) (by omega), putL_eq (Ls := putL Ls b) (by omega), putL_eq (o := a) (by omega : tot Ls < 400), putL_eq (o := b) (by omega : tot Ls < 400)]
  cases hA : rightS a with
  | false => cases hB : rightS b <;> simp
  | true =>
    cases hB : rightS b with
    | false => simp
    | true =>
      obtain ⟨a1, a6, _⟩ := right_facts hA
      obtain ⟨b1, b6, _⟩ := right_facts hB
      have hk : (a.idR - 1).toNat ≠ (b.idR - 1).toNat := by omega
      simp only [if_true]
      rw [show (Ls.set (a.idR - 1).toNat (growO (Ls.getD (a.idR - 1).toNat []) a)).getD (b.idR - 1).toNat [] = Ls.getD (b.idR - 1).toNat [] from by simp only [List.getD]; rw [List.getElem?_set_ne hk],
        show (Ls.set (b.idR - 1).toNat (growO (Ls.getD (b.idR - 1).toNat []) b)).getD (a.idR - 1).toNat [] = Ls.getD (a.idR - 1).toNat [] from by simp only [List.getD]; rw [List.getElem?_set_ne (Ne.symm hk)], List.set_comm _ _ hk]
theorem puts_tot (l : List OpS) : ∀ Ls, tot (puts Ls l) ≤ tot Ls + l.length := by
  induction l with
  | nil => intro Ls; exact Nat.le_refl _
  | cons o l ih =>
    intro Ls
    have h1 := ih (putL Ls o)
    have h2 := putL_tot Ls o
    simp only [puts, List.foldl_cons, List.length_cons] at h1 ⊢
    omega
theorem puts_snoc (Ls : List (List OpS)) (l : List OpS) (o : OpS) : puts Ls (l ++ [o]) = putL (puts Ls l) o := by simp [puts]
/-- an op of another replica may be put ahead of a list -/
theorem puts_comm {o : OpS} (l : List OpS) : ∀ {Ls : List (List OpS)}, (∀ x ∈ l, x.idR ≠ o.idR) → tot Ls + l.length < 400 → putL (puts Ls l) o = puts (putL Ls o) l := by
  induction l with
  | nil => intro Ls _ _; rfl
  | cons x l ih =>
    intro Ls h1 h2
    simp only [List.length_cons] at h2
    have hx := putL_tot Ls x
    have := ih (Ls := putL Ls x) (fun y hy => h1 y (List.mem_cons_of_mem _ hy)) (by omega)
    simp only [puts, List.foldl_cons] at this ⊢
    rw [this, putL_comm (by omega) (h1 x (by simp))]
/-- the lists, their ops' drops -/
def OkLs (Ls : List (List OpS)) : Prop := ∀ l ∈ Ls, ∀ o ∈ l, o.drops.l.length ≤ maxApp
theorem OkLs.put {Ls : List (List OpS)} {o : OpS} (h : OkLs Ls) (ho : o.drops.l.length ≤ maxApp) : OkLs (putL Ls o) := by
  have key : OkLs (Ls.set (o.idR - 1).toNat (Ls.getD (o.idR - 1).toNat [] ++ [o.own])) := by
    intro l hl x hx
    rcases List.mem_or_eq_of_mem_set hl with hl | rfl
    · exact h l hl x hx
    · rcases List.mem_append.1 hx with hx | hx
      · simp only [List.getD] at hx
        cases hk : Ls[(o.idR - 1).toNat]? with
        | none => rw [hk] at hx; cases hx
        | some l' => rw [hk] at hx; exact h l' (List.mem_of_getElem? hk) x hx
      · obtain rfl := List.mem_singleton.1 hx
        show (cloneD o.drops).l.length ≤ maxApp
        rw [cloneD_l]; exact ho
  unfold putL putS
  split
  · exact h
  · split
    · exact h
    · split
      · exact h
      · split
        · exact h
        · exact key
theorem OkLs.puts {l : List OpS} : ∀ {Ls : List (List OpS)}, OkLs Ls → (∀ o ∈ l, o.drops.l.length ≤ maxApp) → OkLs (puts Ls l) := by
  induction l with
  | nil => intro Ls h _; exact h
  | cons x l ih => intro Ls h hl; exact ih (h.put (hl x (by simp))) fun o ho => hl o (List.mem_cons_of_mem _ ho)
def emptyL : List (List OpS) := [[], [], [], [], [], []]
theorem okEmpty : OkLs emptyL := fun l hl o ho => by
  simp only [emptyL, List.mem_cons, List.not_mem_nil, or_false] at hl
  rcases hl with rfl | rfl | rfl | rfl | rfl | rfl <;> cases ho
theorem totEmpty : tot emptyL = 0 := rfl
/-- a merge of two lists of unlike replicas -/
theorem puts_left {a b : List OpS} {i k : Nat} {o : OpS} (hab : ∀ x ∈ a, ∀ y ∈ b, x.idR ≠ y.idR) (hl : a.length + b.length < 400) (ho : a[i]? = some o) :
    putL (puts (puts emptyL (a.take i)) (b.take k)) o = puts (puts emptyL (a.take (i + 1))) (b.take k) := by
  have hi := (List.getElem?_eq_some_iff.1 ho).1
  rw [take_at ho, puts_snoc]
  have := puts_tot (a.take i) emptyL
  rw [totEmpty, List.length_take] at this
  exact puts_comm _ (fun x hx => (hab o (List.mem_of_getElem? ho) x (List.mem_of_mem_take hx)).symm) (by rw [List.length_take]; omega)
theorem puts_right {Ls : List (List OpS)} {b : List OpS} {k : Nat} {o : OpS} (ho : b[k]? = some o) : putL (puts Ls (b.take k)) o = puts Ls (b.take (k + 1)) := by
  rw [take_at ho, puts_snoc]
end Go.PV
/- Pools: calls of Put, Ops, Have for callers. -/
namespace Go.PV
open Go.Proofs
set_option linter.unusedVariables false
set_option linter.unusedSimpArgs false
set_option maxRecDepth 10000
set_option maxHeartbeats 1000000

/-- a pool that may be put to -/
structure Pool (Ls : List (List OpS)) (cs : List V) (ow : List (Nat × Nat)) (n : Nat) : Prop where
  p : PCt Ls cs
  a : Apart cs
  o : ∀ q ∈ cs.flatMap V.tokC, q ∈ ow
  d : OkLs Ls
  t : tot Ls ≤ n
theorem Pool.new (ow : List (Nat × Nat)) : Pool emptyL newC ow 0 :=
  ⟨by have := new_PCt (f := 0) (by decide); rwa [lsts_zero (by decide)] at this, new_apart, fun q hq => (by rw [new_toks] at hq; cases hq), okEmpty, Nat.le_refl _⟩
theorem Pool.facts {Ls : List (List OpS)} {cs : List V} {ow : List (Nat × Nat)} {n : Nat} (h : Pool Ls cs ow n) : ∀ c ∈ cs, c.noP0 = true ∧ c.isCell = true := fun c hc => by
  obtain ⟨l, _, hl⟩ := h.p.mem hc; exact ⟨hl.facts.1, hl.facts.2.1⟩
theorem Pool.lens {Ls : List (List OpS)} {cs : List V} {ow : List (Nat × Nat)} {n : Nat} (h : Pool Ls cs ow n) (hn : n ≤ 400) : ∀ l ∈ Ls, l.length ≤ 400 := fun l hl => by
  have := len_tot hl; have := h.t; omega
theorem PCt.lentAt {Ls : List (List OpS)} {cs : List V} (h : PCt Ls cs) {heap : List (List V)} {b : Nat} (hh : heap[b]? = some cs) : lentL heap [.ptr b 0] [.rptr (cs.map V.bareC)] :=
  ⟨.inr ⟨b, 0, cs, rfl, hh, rfl, fun c hc => by obtain ⟨l, _, hl⟩ := h.mem hc; exact hl.facts.2.2⟩, trivial⟩
section
variable {ops : Array Oper} {os : List Oper} {K : St → Prop} {s : St} {dst : Option Tmp} {ty : TypeId} {pos : String} {after : Array Edge}
theorem WOps_put {f : Operand} {args : Array Operand} {ts : Array TypeId} {b n : Nat} {o : OpS} {Ls : List (List OpS)} {cs : List V} (hP : Pool Ls cs s.own n) (hn : n < 400) (ho : o.dropsL.length ≤ 200)
    (hf : ev s f = some (.func (.func 30) [])) (hx : evL s args.toList = some [.ptr b 0, opW o]) (hb : s.heap[b]? = some cs)
    (k : ∀ cs' ow' n', Pool (putL Ls o) cs' ow' (n + 1) → WOps Try.prog ops os K (St.put ⟨s.slots, s.heap.set b cs', ow', n'⟩ dst (.int .i64 (putS Ls o).1))) :
    WOps Try.prog ops (⟨dst, .call ⟨.value f, args, ts⟩, ty, pos, after, none⟩ :: os) K s := by
  refine WOps_callH (b := b) (o := 0) (ys := [opW o]) (cs := cs) (put_any1 hP.p hP.a o (by omega) hP.d (hP.lens (by omega))) hf hx hb (by intro y hy; obtain rfl := List.mem_singleton.1 hy; exact op_noP _) hP.facts hP.o ?_
  rintro _ _ n' ⟨rfl, cs', rfl, hP', hA'⟩ hnn
  refine ⟨cs', rfl, hP'.noP, rfl, k cs' _ n' ⟨hP', hA', fun q hq => ?_, hP.d.put (by show o.dropsL.length ≤ _; unfold maxApp; omega), ?_⟩⟩
  · exact List.mem_append_left _ (List.mem_append_right _ hq)
  · have := putL_tot Ls o; have := hP.t; omega
/-- Ops of a pool without tokens -/
theorem WOps_opsB {f : Operand} {args : Array Operand} {ts : Array TypeId} {b : Nat} {Ls : List (List OpS)} {cs : List V} (hP : PCt Ls cs) (h0 : cs.flatMap V.tokC = []) (hd : OkLs Ls) (hl : ∀ l ∈ Ls, l.length ≤ 400)
    (hf : ev s f = some (.func (.func 32) [])) (hx : evL s args.toList = some [.ptr b 0]) (hb : s.heap[b]? = some cs)
    (k : ∀ ow' n', (∀ q ∈ s.own, q ∈ ow') → WOps Try.prog ops os K (St.put ⟨s.slots, s.heap.set b cs, ow', n'⟩ dst (opsV (sinceL Ls zeroV 400)))) :
    WOps Try.prog ops (⟨dst, .call ⟨.value f, args, ts⟩, ty, pos, after, none⟩ :: os) K s := by
  refine WOps_callH (b := b) (o := 0) (ys := []) (cs := cs) (h__punnet_pool_Pool_Ops Ls cs hP hd hl) hf hx hb (fun y hy => absurd hy List.not_mem_nil) (fun c hc => by obtain ⟨l, _, hl⟩ := hP.mem hc; exact ⟨hl.facts.1, hl.facts.2.1⟩) (fun q hq => by rw [h0] at hq; cases hq) ?_
  rintro _ _ n' ⟨rfl, rfl⟩ hnn
  refine ⟨cs, rfl, hP.noP, (opsV_facts _).1, k _ n' fun q hq => ?_⟩
  rw [(opsV_facts _).2.1, List.nil_append, h0]
  exact List.mem_append_right _ (List.mem_filter.2 ⟨hq, by simp⟩)
end
theorem own_drops (o : OpS) : o.own.dropsL.length = o.dropsL.length := by
  show (cloneD o.drops).l.length = _
  rw [cloneD_l]; rfl
theorem part_mem {Ls : List (List OpS)} {v : List Int} {t : Nat} {o : OpS} (h : o ∈ partL Ls v t) : ∃ l ∈ Ls, ∃ p ∈ l, o = p.own := by
  obtain ⟨p, hp, rfl⟩ := List.mem_map.1 h
  obtain ⟨l, hl, hp⟩ := List.mem_flatten.1 (List.mem_filter.1 hp).1
  exact ⟨l, List.mem_of_mem_take hl, p, hp, rfl⟩
theorem since_mem {Ls : List (List OpS)} {v : List Int} {m : Int} {o : OpS} (h : o ∈ sinceL Ls v m) : ∃ l ∈ Ls, ∃ p ∈ l, o = p.own := part_mem (List.mem_of_mem_take h)
theorem since_drops {Ls : List (List OpS)} {v : List Int} {m : Int} (hd : OkLs Ls) : ∀ o ∈ sinceL Ls v m, o.dropsL.length ≤ 4611686018427387904 := fun o ho => by
  obtain ⟨l, hl, p, hp, rfl⟩ := since_mem ho
  rw [own_drops]
  have : p.dropsL.length ≤ maxApp := hd l hl p hp
  unfold maxApp at this; omega
theorem since_len (Ls : List (List OpS)) (v : List Int) : (sinceL Ls v 400).length ≤ maxLen := by
  have h : (sinceL Ls v 400).length ≤ 400 := by rw [sinceL, List.length_take]; exact Nat.min_le_left _ _
  unfold maxLen; omega
theorem heavy_ok {l : List OpS} {m : Int} (h : heavyOps l m = false) : (l.length : Int) ≤ m ∧ ∀ o ∈ l, o.dropsL.length ≤ 200 := by
  simp only [heavyOps, Bool.or_eq_false_iff, decide_eq_false_iff_not] at h
  refine ⟨by omega, fun o ho => ?_⟩
  have h2 : heavyB o = false := by
    cases hb : heavyB o with
    | false => rfl
    | true => rw [List.any_eq_true.2 ⟨o, ho, hb⟩] at h; exact absurd h.2 (by simp)
  simp only [heavyB, Bool.or_eq_false_iff, decide_eq_false_iff_not] at h2
  omega
end Go.PV
/- punnetlaw26.PoolOrders: the walk. -/
namespace Go.PV
open Go.Proofs
set_option linter.unusedVariables false
set_option linter.unusedSimpArgs false
set_option maxRecDepth 10000
set_option maxHeartbeats 1000000

theorem shr1 (t : TypeId) (k k' : IntKind) (a : Int) : binV Try.prog .shr t (.int k a) (.int k' 1) = some (.int k (a.fdiv (2 ^ min (Int.toNat 1) k.bits))) := rfl
theorem c_punnet_punnetlaw26_PoolOrders (A B : List OpS) (x y : V) (hx : PS A x) (hy : PS B y) (hA : A.length ≤ maxLen) (hB : B.length ≤ maxLen) (u : Int) : VC Try.prog 7 [x, y, .int .u64 u] [] (fun r _ => r = .bool true) := by
  refine VC_enter (nt := 129) (rs := [.tmp 6]) (ow := []) (m := 0) Try.func7 rfl (by rfl) rfl rfl (by simp) (by simp only [ownOf, List.flatMap_cons, List.flatMap_nil, hx.toks, hy.toks, List.append_nil]; rfl) rfl (fun n => ?_)
  simp only [zipT, Nat.zero_add]
  have hia := True.intro
  have hib := True.intro
  have hic := True.intro
  have hwi := True.intro
  have hwk := True.intro
  have hSb := True.intro
  have hSn := True.intro
  have hve := True.intro
  have hz2 : ((2 : Int) = 0) = False := by simp
  refine WC_seqR (fun N1 hN1 hD1 => ?_)
  simp only [sS, ↓sT, if_true, if_false, Nat.reduceLT, Nat.reduceEqDiff, ↓sO, ↓WOps_g, sG, opV, loudV, cellsOf, strOp, evL, Nat.reduceAdd, beq_self_eq_true, bne_self_eq_false, Int.reduceBEq, Int.reduceBNe, shr1, hve, hx.len, hy.len, hia, hib, hic, hwi, hwk, hz2, load15, opCells, load_int, List.drop_zero, ti3, ti49, ti25, decide_true, decide_false]
  refine hN1 _ ?_; try clear hN1 hD1 N1
  refine WC_seqN (fun N2 hN2 hD2 => ?_)
  refine WC_seqR (fun N3 hN3 hD3 => ?_)
  refine WOps_callP x_awake26 (by simp only [ev_func]) (by simp only [evL, sS, ↓sT, if_true, if_false, Nat.reduceLT, Nat.reduceEqDiff]; rfl) (by first | rfl | (simp only [List.map, op_bare, hx.bare, hy.bare, hSb]; done) | (simp only [List.map, op_bare, hx.bare, hy.bare, hSb]; exact rfl)) (by first | rfl | simp [hx.noP, hy.noP, noP_int, hSn]) (by first | rfl | simp [hx.noP, hy.noP, noP_int, hSn]) rfl ?_
  simp only [sS, ↓sT, if_true, if_false, Nat.reduceLT, Nat.reduceEqDiff, ↓sO, ↓WOps_g, sG, opV, loudV, cellsOf, strOp, evL, Nat.reduceAdd, beq_self_eq_true, bne_self_eq_false, Int.reduceBEq, Int.reduceBNe, shr1, hve, hx.len, hy.len, hia, hib, hic, hwi, hwk, hz2, load15, opCells, load_int, List.drop_zero, ti3, ti49, ti25, decide_true, decide_false]
  refine hN3 _ ?_; try clear hN3 hD3 N3
  refine WC_condE ?_
  simp only [sS, ↓sT, if_true, if_false, Nat.reduceLT, Nat.reduceEqDiff, ↓stepC_bool]
  refine ⟨fun hb4 => ?_, fun hb4 => ?_⟩
  · refine WC_seqR (fun N5 hN5 hD5 => ?_)
    simp only [sS, ↓sT, if_true, if_false, Nat.reduceLT, Nat.reduceEqDiff, ↓sO, ↓WOps_g, sG, opV, loudV, cellsOf, strOp, evL, Nat.reduceAdd, beq_self_eq_true, bne_self_eq_false, Int.reduceBEq, Int.reduceBNe, shr1, hve, hx.len, hy.len, hia, hib, hic, hwi, hwk, hz2, load15, opCells, load_int, List.drop_zero, ti3, ti49, ti25, hb4, decide_true, decide_false]
    refine hN5 _ ?_; try clear hN5 hD5 N5
    refine WC_ret ?_; (try simp only [Exit.after, Exit.out]); refine Kend_ret (by simp only [resOf, resL, resV, mkS_get, slots_get, cellsOf, load_str, load_bool, load_int, load_slice, ti3, sS, ↓sT, if_true, if_false, Nat.reduceLT, Nat.reduceEqDiff]; rfl) (by first | rfl | (simp only [load_str, load_bool, load_int, load_slice, ti3]; done) | (simp only [load_str, load_bool, load_int, load_slice, ti3, okV, ok1, okC, okP, List.all_cons, List.all_nil, Bool.and_true]; done)) ?_
    clear hN2 hD2 N2
    first
    | rfl
    | (cases hb4; done)
    | trace_state
  · refine WC_skip ?_
    refine hN2 _ ?_; try clear hN2 hD2 N2
    refine WC_seqN (fun N6 hN6 hD6 => ?_)
    refine WC_seqR (fun N7 hN7 hD7 => ?_)
    simp only [sS, ↓sT, if_true, if_false, Nat.reduceLT, Nat.reduceEqDiff, ↓sO, ↓WOps_g, sG, opV, loudV, cellsOf, strOp, evL, Nat.reduceAdd, beq_self_eq_true, bne_self_eq_false, Int.reduceBEq, Int.reduceBNe, shr1, hve, hx.len, hy.len, hia, hib, hic, hwi, hwk, hz2, load15, opCells, load_int, List.drop_zero, ti3, ti49, ti25, hb4, decide_true, decide_false]
    refine WOps_callP (c_punnet_punnetref22_HeavyOps A x hx 30 hA) (by simp only [ev_func]) (by simp only [evL, sS, ↓sT, if_true, if_false, Nat.reduceLT, Nat.reduceEqDiff]; rfl) (by first | rfl | (simp only [List.map, op_bare, hx.bare, hy.bare, hSb]; done) | (simp only [List.map, op_bare, hx.bare, hy.bare, hSb]; exact rfl)) (by first | rfl | simp [hx.noP, hy.noP, noP_int, hSn]) (by first | rfl | simp [hx.noP, hy.noP, noP_int, hSn]) rfl ?_
    simp only [sS, ↓sT, if_true, if_false, Nat.reduceLT, Nat.reduceEqDiff, ↓sO, ↓WOps_g, sG, opV, loudV, cellsOf, strOp, evL, Nat.reduceAdd, beq_self_eq_true, bne_self_eq_false, Int.reduceBEq, Int.reduceBNe, shr1, hve, hx.len, hy.len, hia, hib, hic, hwi, hwk, hz2, load15, opCells, load_int, List.drop_zero, ti3, ti49, ti25, hb4, decide_true, decide_false]
    refine stepB_F (fun hg7_2 => ?_) (fun hg7_2 => ?_)
    · simp only [sS, ↓sT, if_true, if_false, Nat.reduceLT, Nat.reduceEqDiff, ↓sO, ↓WOps_g, sG, opV, loudV, cellsOf, strOp, evL, Nat.reduceAdd, beq_self_eq_true, bne_self_eq_false, Int.reduceBEq, Int.reduceBNe, shr1, hve, hx.len, hy.len, hia, hib, hic, hwi, hwk, hz2, load15, opCells, load_int, List.drop_zero, ti3, ti49, ti25, hb4, hg7_2, decide_true, decide_false]
      refine WOps_callP (c_punnet_punnetref22_HeavyOps B y hy 30 hB) (by simp only [ev_func]) (by simp only [evL, sS, ↓sT, if_true, if_false, Nat.reduceLT, Nat.reduceEqDiff]; rfl) (by first | rfl | (simp only [List.map, op_bare, hx.bare, hy.bare, hSb]; done) | (simp only [List.map, op_bare, hx.bare, hy.bare, hSb]; exact rfl)) (by first | rfl | simp [hx.noP, hy.noP, noP_int, hSn]) (by first | rfl | simp [hx.noP, hy.noP, noP_int, hSn]) rfl ?_
      simp only [sS, ↓sT, if_true, if_false, Nat.reduceLT, Nat.reduceEqDiff, ↓sO, ↓WOps_g, sG, opV, loudV, cellsOf, strOp, evL, Nat.reduceAdd, beq_self_eq_true, bne_self_eq_false, Int.reduceBEq, Int.reduceBNe, shr1, hve, hx.len, hy.len, hia, hib, hic, hwi, hwk, hz2, load15, opCells, load_int, List.drop_zero, ti3, ti49, ti25, hb4, hg7_2, decide_true, decide_false]
      refine hN7 _ ?_; try clear hN7 hD7 N7
      refine WC_condE ?_
      simp only [sS, ↓sT, if_true, if_false, Nat.reduceLT, Nat.reduceEqDiff, ↓stepC_bool, hb4, hg7_2, Int.reduceBEq, Int.reduceBNe, beq_self_eq_true, bne_self_eq_false]
      refine ⟨fun hb8 => ?_, fun hb8 => ?_⟩
      · refine WC_seqR (fun N9 hN9 hD9 => ?_)
        simp only [sS, ↓sT, if_true, if_false, Nat.reduceLT, Nat.reduceEqDiff, ↓sO, ↓WOps_g, sG, opV, loudV, cellsOf, strOp, evL, Nat.reduceAdd, beq_self_eq_true, bne_self_eq_false, Int.reduceBEq, Int.reduceBNe, shr1, hve, hx.len, hy.len, hia, hib, hic, hwi, hwk, hz2, load15, opCells, load_int, List.drop_zero, ti3, ti49, ti25, hb4, hg7_2, hb8, decide_true, decide_false]
        refine hN9 _ ?_; try clear hN9 hD9 N9
        refine WC_ret ?_; (try simp only [Exit.after, Exit.out]); refine Kend_ret (by simp only [resOf, resL, resV, mkS_get, slots_get, cellsOf, load_str, load_bool, load_int, load_slice, ti3, sS, ↓sT, if_true, if_false, Nat.reduceLT, Nat.reduceEqDiff]; rfl) (by first | rfl | (simp only [load_str, load_bool, load_int, load_slice, ti3]; done) | (simp only [load_str, load_bool, load_int, load_slice, ti3, okV, ok1, okC, okP, List.all_cons, List.all_nil, Bool.and_true]; done)) ?_
        clear hN6 hD6 N6
        first
        | rfl
        | (cases hb4; done)
        | trace_state
      · refine WC_skip ?_
        refine hN6 _ ?_; try clear hN6 hD6 N6
        refine WC_seqN (fun N10 hN10 hD10 => ?_)
        refine WC_seqR (fun N11 hN11 hD11 => ?_)
        simp only [sS, ↓sT, if_true, if_false, Nat.reduceLT, Nat.reduceEqDiff, ↓sO, ↓WOps_g, sG, opV, loudV, cellsOf, strOp, evL, Nat.reduceAdd, beq_self_eq_true, bne_self_eq_false, Int.reduceBEq, Int.reduceBNe, shr1, hve, hx.len, hy.len, hia, hib, hic, hwi, hwk, hz2, load15, opCells, load_int, List.drop_zero, ti3, ti49, ti25, hb4, hg7_2, hb8, decide_true, decide_false]
        refine hN11 _ ?_; try clear hN11 hD11 N11
        refine WC_block ?_
        obtain ⟨hA3, hAd⟩ := heavy_ok hg7_2
        obtain ⟨hB3, hBd⟩ := heavy_ok hb8
        refine WC_loopG (σ := Nat) (fun i s => ∃ ps, s = ⟨mkS 129 ps, [], [], n⟩ ∧ Has ps [(0, x), (1, y), (2, .int .u64 u), (7, .int .i64 i)] ∧ i ≤ A.length ∧ ∀ o ∈ A.take i, ∀ p ∈ B, o.idR ≠ p.idR) (fun i => A.length - i) 0 ?_ (fun i s hI => ?_)
        · exact ⟨_, rfl, ⟨rfl, rfl, rfl, rfl, trivial⟩, Nat.zero_le _, fun o ho => by cases ho⟩
        obtain ⟨ps, rfl, hps, hi, hno⟩ := hI
        refine WC_has hps ?_; clear hps ps
        refine WC_seqN (fun N12 hN12 hD12 => ?_)
        refine WC_seqR (fun N13 hN13 hD13 => ?_)
        simp only [sS, ↓sT, if_true, if_false, Nat.reduceLT, Nat.reduceEqDiff, ↓sO, ↓WOps_g, sG, opV, loudV, cellsOf, strOp, evL, Nat.reduceAdd, beq_self_eq_true, bne_self_eq_false, Int.reduceBEq, Int.reduceBNe, ti52, shr1, hve, hx.len, hy.len, hia, hib, hic, hwi, hwk, hz2, load15, opCells, load_int, List.drop_zero, ti3, ti49, ti25, hb4, hg7_2, hb8, decide_true, decide_false]
        refine hN13 _ ?_; try clear hN13 hD13 N13
        refine WC_condE ?_
        simp only [sS, ↓sT, if_true, if_false, Nat.reduceLT, Nat.reduceEqDiff, ↓stepC_bool, hb4, hg7_2, hb8, Int.reduceBEq, Int.reduceBNe, beq_self_eq_true, bne_self_eq_false]
        refine ⟨fun hb14 => ?_, fun hb14 => ?_⟩
        · have hi2 : i < A.length := by have := of_decide_eq_true hb14; omega
          obtain ⟨o, ho⟩ : ∃ o, A[i]? = some o := ⟨_, List.getElem?_eq_getElem hi2⟩
          have hia := hx.ia ho
          have hwi : IntKind.i64.wrap ((i : Int) + 1) = (i : Int) + 1 := wrapI (by omega) (by omega)
          refine WC_skip ?_
          refine hN12 _ ?_; try clear hN12 hD12 N12
          refine WC_seqN (fun N15 hN15 hD15 => ?_)
          refine WC_block ?_
          refine WC_seqR (fun N16 hN16 hD16 => ?_)
          simp only [sS, ↓sT, if_true, if_false, Nat.reduceLT, Nat.reduceEqDiff, ↓sO, ↓WOps_g, sG, opV, loudV, cellsOf, strOp, evL, Nat.reduceAdd, beq_self_eq_true, bne_self_eq_false, Int.reduceBEq, Int.reduceBNe, shr1, hve, hx.len, hy.len, hia, hib, hic, hwi, hwk, hz2, load15, opCells, load_int, List.drop_zero, ti3, ti49, ti25, hb4, hg7_2, hb8, hb14, decide_true, decide_false]
          refine hN16 _ ?_; try clear hN16 hD16 N16
          refine WC_block ?_
          refine WC_loopG (σ := Nat) (fun k s => ∃ ps, s = ⟨mkS 129 ps, [], [], n⟩ ∧ Has ps [(0, x), (1, y), (2, .int .u64 u), (7, .int .i64 i), (8, .int .i64 k)] ∧ k ≤ B.length ∧ ∀ p ∈ B.take k, o.idR ≠ p.idR) (fun k => B.length - k) 0 ?_ (fun k s hI => ?_)
          · exact ⟨_, rfl, ⟨rfl, rfl, rfl, rfl, rfl, trivial⟩, Nat.zero_le _, fun o ho => by cases ho⟩
          obtain ⟨ps, rfl, hps, hk, hnk⟩ := hI
          refine WC_has hps ?_; clear hps ps
          refine WC_seqN (fun N17 hN17 hD17 => ?_)
          refine WC_seqR (fun N18 hN18 hD18 => ?_)
          simp only [sS, ↓sT, if_true, if_false, Nat.reduceLT, Nat.reduceEqDiff, ↓sO, ↓WOps_g, sG, opV, loudV, cellsOf, strOp, evL, Nat.reduceAdd, beq_self_eq_true, bne_self_eq_false, Int.reduceBEq, Int.reduceBNe, ti52, shr1, hve, hx.len, hy.len, hia, hib, hic, hwi, hwk, hz2, load15, opCells, load_int, List.drop_zero, ti3, ti49, ti25, hb4, hg7_2, hb8, hb14, decide_true, decide_false]
          refine hN18 _ ?_; try clear hN18 hD18 N18
          refine WC_condE ?_
          simp only [sS, ↓sT, if_true, if_false, Nat.reduceLT, Nat.reduceEqDiff, ↓stepC_bool, hb4, hg7_2, hb8, hb14, Int.reduceBEq, Int.reduceBNe, beq_self_eq_true, bne_self_eq_false]
          refine ⟨fun hb19 => ?_, fun hb19 => ?_⟩
          · have hk2 : k < B.length := by have := of_decide_eq_true hb19; omega
            obtain ⟨p, hp⟩ : ∃ o, B[k]? = some o := ⟨_, List.getElem?_eq_getElem hk2⟩
            have hib := hy.ia hp
            have hwk : IntKind.i64.wrap ((k : Int) + 1) = (k : Int) + 1 := wrapI (by omega) (by omega)
            refine WC_skip ?_
            refine hN17 _ ?_; try clear hN17 hD17 N17
            refine WC_seqN (fun N20 hN20 hD20 => ?_)
            refine WC_block ?_
            refine WC_seqD mixed [] [0, 0, 0, 0, 0, 0, 0, 0, 0, 0, 0, 0, 0] (by decide +kernel) (fun N21 hN21 hD21 => ?_)
            simp only [sS, ↓sT, if_true, if_false, Nat.reduceLT, Nat.reduceEqDiff, ↓sD, ↓D_g, memOk, lets0, lets1, List.not_mem_nil, not_false_eq_true, true_and, and_true, sG, opV, loudV, cellsOf, strOp, evL, Nat.reduceAdd, beq_self_eq_true, bne_self_eq_false, Int.reduceBEq, Int.reduceBNe, ti52, fa49_0, fr49_0, fv49_0, fa25_0, fr25_0, fv25_0, ti3, shr1, hve, hx.len, hy.len, hia, hib, hic, hwi, hwk, hz2, load15, opCells, load_int, List.drop_zero, ti3, ti49, ti25, hb4, hg7_2, hb8, hb14, hb19, decide_true, decide_false]
            refine hN21 _ ?_; try clear hN21 hD21 N21
            refine WC_condE ?_
            simp only [sS, ↓sT, if_true, if_false, Nat.reduceLT, Nat.reduceEqDiff, ↓stepC_bool, hb4, hg7_2, hb8, hb14, hb19, Int.reduceBEq, Int.reduceBNe, beq_self_eq_true, bne_self_eq_false]
            refine ⟨fun hb22 => ?_, fun hb22 => ?_⟩
            · refine WC_seqR (fun N23 hN23 hD23 => ?_)
              simp only [sS, ↓sT, if_true, if_false, Nat.reduceLT, Nat.reduceEqDiff, ↓sO, ↓WOps_g, sG, opV, loudV, cellsOf, strOp, evL, Nat.reduceAdd, beq_self_eq_true, bne_self_eq_false, Int.reduceBEq, Int.reduceBNe, shr1, hve, hx.len, hy.len, hia, hib, hic, hwi, hwk, hz2, load15, opCells, load_int, List.drop_zero, ti3, ti49, ti25, hb4, hg7_2, hb8, hb14, hb19, hb22, decide_true, decide_false]
              refine hN23 _ ?_; try clear hN23 hD23 N23
              refine WC_ret ?_; (try simp only [Exit.after, Exit.out]); refine Kend_ret (by simp only [resOf, resL, resV, mkS_get, slots_get, cellsOf, load_str, load_bool, load_int, load_slice, ti3, sS, ↓sT, if_true, if_false, Nat.reduceLT, Nat.reduceEqDiff]; rfl) (by first | rfl | (simp only [load_str, load_bool, load_int, load_slice, ti3]; done) | (simp only [load_str, load_bool, load_int, load_slice, ti3, okV, ok1, okC, okP, List.all_cons, List.all_nil, Bool.and_true]; done)) ?_
              clear hN20 hD20 N20 hN15 hD15 N15 hN10 hD10 N10
              first
              | rfl
              | (cases hb4; done)
              | trace_state
            · refine WC_skip ?_
              refine hN20 _ ?_; try clear hN20 hD20 N20
              refine WC_regN (fun N24 hN24 => ?_)
              simp only [sS, ↓sT, if_true, if_false, Nat.reduceLT, Nat.reduceEqDiff, ↓sO, ↓WOps_g, sG, opV, loudV, cellsOf, strOp, evL, Nat.reduceAdd, beq_self_eq_true, bne_self_eq_false, Int.reduceBEq, Int.reduceBNe, shr1, hve, hx.len, hy.len, hia, hib, hic, hwi, hwk, hz2, load15, opCells, load_int, List.drop_zero, ti3, ti49, ti25, hb4, hg7_2, hb8, hb14, hb19, hb22, decide_true, decide_false]
              refine hN24 _ ?_; try clear hN24 N24
              refine ⟨k + 1, ⟨_, rfl, ⟨rfl, rfl, rfl, rfl, rfl, trivial⟩, hk2, fun q hq => ?_⟩, by omega⟩
              rw [take_at hp] at hq
              rcases List.mem_append.1 hq with hq | hq
              · exact hnk q hq
              · obtain rfl := List.mem_singleton.1 hq
                simpa using hb22
          · have hk2 : k = B.length := by have := of_decide_eq_false hb19; omega
            rw [hk2, List.take_length] at hnk
            refine WC_exit ?_
            refine hN15 _ ?_; try clear hN15 hD15 N15
            refine WC_regN (fun N25 hN25 => ?_)
            simp only [sS, ↓sT, if_true, if_false, Nat.reduceLT, Nat.reduceEqDiff, ↓sO, ↓WOps_g, sG, opV, loudV, cellsOf, strOp, evL, Nat.reduceAdd, beq_self_eq_true, bne_self_eq_false, Int.reduceBEq, Int.reduceBNe, shr1, hve, hx.len, hy.len, hia, hib, hic, hwi, hwk, hz2, load15, opCells, load_int, List.drop_zero, ti3, ti49, ti25, hb4, hg7_2, hb8, hb14, hb19, decide_true, decide_false]
            refine hN25 _ ?_; try clear hN25 N25
            refine ⟨i + 1, ⟨_, rfl, ⟨rfl, rfl, rfl, rfl, trivial⟩, hi2, fun q hq => ?_⟩, by omega⟩
            rw [take_at ho] at hq
            rcases List.mem_append.1 hq with hq | hq
            · exact hno q hq
            · obtain rfl := List.mem_singleton.1 hq; exact hnk
        · have hi2 : i = A.length := by have := of_decide_eq_false hb14; omega
          rw [hi2, List.take_length] at hno
          refine WC_exit ?_
          refine hN10 _ ?_; try clear hN10 hD10 N10
          refine WC_seqR (fun N26 hN26 hD26 => ?_)
          refine WOps_callN c_new (by simp only [ev_func]) (by first | (simp only [evL, sS, ↓sT, if_true, if_false, Nat.reduceLT, Nat.reduceEqDiff]; done) | (simp only [evL, sS, ↓sT, if_true, if_false, Nat.reduceLT, Nat.reduceEqDiff]; rfl)) (fun c hc => by rw [newC_nil hc]; rfl) new_toks ?_
          intro n' hnn
          simp only [sS, ↓sT, if_true, if_false, Nat.reduceLT, Nat.reduceEqDiff, ↓sO, ↓WOps_g, sG, opV, loudV, cellsOf, strOp, evL, Nat.reduceAdd, beq_self_eq_true, bne_self_eq_false, Int.reduceBEq, Int.reduceBNe, shr1, hve, hx.len, hy.len, hia, hib, hic, hwi, hwk, hz2, load15, opCells, load_int, List.drop_zero, ti3, ti49, ti25, hb4, hg7_2, hb8, hb14, decide_true, decide_false]
          refine WOps_callN c_new (by simp only [ev_func]) (by first | (simp only [evL, sS, ↓sT, if_true, if_false, Nat.reduceLT, Nat.reduceEqDiff]; done) | (simp only [evL, sS, ↓sT, if_true, if_false, Nat.reduceLT, Nat.reduceEqDiff]; rfl)) (fun c hc => by rw [newC_nil hc]; rfl) new_toks ?_
          intro n' hnn
          simp only [sS, ↓sT, if_true, if_false, Nat.reduceLT, Nat.reduceEqDiff, ↓sO, ↓WOps_g, sG, opV, loudV, cellsOf, strOp, evL, Nat.reduceAdd, beq_self_eq_true, bne_self_eq_false, Int.reduceBEq, Int.reduceBNe, shr1, hve, hx.len, hy.len, hia, hib, hic, hwi, hwk, hz2, load15, opCells, load_int, List.drop_zero, ti3, ti49, ti25, hb4, hg7_2, hb8, hb14, decide_true, decide_false]
          refine hN26 _ ?_; try clear hN26 hD26 N26
          refine WC_seqN (fun N27 hN27 hD27 => ?_)
          refine WC_seqR (fun N28 hN28 hD28 => ?_)
          simp only [sS, ↓sT, if_true, if_false, Nat.reduceLT, Nat.reduceEqDiff, ↓sO, ↓WOps_g, sG, opV, loudV, cellsOf, strOp, evL, Nat.reduceAdd, beq_self_eq_true, bne_self_eq_false, Int.reduceBEq, Int.reduceBNe, shr1, hve, hx.len, hy.len, hia, hib, hic, hwi, hwk, hz2, load15, opCells, load_int, List.drop_zero, ti3, ti49, ti25, hb4, hg7_2, hb8, hb14, decide_true, decide_false]
          refine hN28 _ ?_; try clear hN28 hD28 N28
          refine WC_block ?_
          refine WC_loopG (σ := Nat) (fun i s => ∃ ps cs ow nx, s = ⟨mkS 129 ps, [cs, newC], ow, nx⟩ ∧ Has ps [(0, x), (1, y), (2, .int .u64 u), (9, .ptr 0 0), (10, .ptr 1 0), (11, .int .i64 i)] ∧ i ≤ A.length ∧ Pool (puts emptyL (A.take i)) cs ow i) (fun i => A.length - i) 0 ?_ (fun i s hI => ?_)
          · exact ⟨_, newC, [], _, rfl, ⟨rfl, rfl, rfl, rfl, rfl, rfl, trivial⟩, Nat.zero_le _, Pool.new _⟩
          obtain ⟨ps, cs, ow, nx, rfl, hps, hi, hP⟩ := hI
          refine WC_has hps ?_; clear hps ps
          refine WC_seqN (fun N29 hN29 hD29 => ?_)
          refine WC_seqR (fun N30 hN30 hD30 => ?_)
          simp only [sS, ↓sT, if_true, if_false, Nat.reduceLT, Nat.reduceEqDiff, ↓sO, ↓WOps_g, sG, opV, loudV, cellsOf, strOp, evL, Nat.reduceAdd, beq_self_eq_true, bne_self_eq_false, Int.reduceBEq, Int.reduceBNe, ti52, shr1, hve, hx.len, hy.len, hia, hib, hic, hwi, hwk, hz2, load15, opCells, load_int, List.drop_zero, ti3, ti49, ti25, hb4, hg7_2, hb8, hb14, decide_true, decide_false]
          refine hN30 _ ?_; try clear hN30 hD30 N30
          refine WC_condE ?_
          simp only [sS, ↓sT, if_true, if_false, Nat.reduceLT, Nat.reduceEqDiff, ↓stepC_bool, hb4, hg7_2, hb8, hb14, Int.reduceBEq, Int.reduceBNe, beq_self_eq_true, bne_self_eq_false]
          refine ⟨fun hb31 => ?_, fun hb31 => ?_⟩
          · have hi3 : i < A.length := by have := of_decide_eq_true hb31; omega
            obtain ⟨o, ho⟩ : ∃ o, A[i]? = some o := ⟨_, List.getElem?_eq_getElem hi3⟩
            have hia := hx.ia ho
            have hwi : IntKind.i64.wrap ((i : Int) + 1) = (i : Int) + 1 := wrapI (by omega) (by omega)
            refine WC_skip ?_
            refine hN29 _ ?_; try clear hN29 hD29 N29
            refine WC_seqN (fun N32 hN32 hD32 => ?_)
            refine WC_block ?_
            refine WC_regN (fun N33 hN33 => ?_)
            simp only [sS, ↓sT, if_true, if_false, Nat.reduceLT, Nat.reduceEqDiff, ↓sO, ↓WOps_g, sG, opV, loudV, cellsOf, strOp, evL, Nat.reduceAdd, beq_self_eq_true, bne_self_eq_false, Int.reduceBEq, Int.reduceBNe, ti52, ti49, shr1, hve, hx.len, hy.len, hia, hib, hic, hwi, hwk, hz2, load15, opCells, load_int, List.drop_zero, ti3, ti49, ti25, hb4, hg7_2, hb8, hb14, hb31, decide_true, decide_false]
            refine WOps_put (b := 0) (o := o) hP (by omega) (hAd o (List.mem_of_getElem? ho)) (by simp only [ev_func]) (by first | (simp only [evL, sS, ↓sT, if_true, if_false, Nat.reduceLT, Nat.reduceEqDiff]; done) | (simp only [evL, sS, ↓sT, if_true, if_false, Nat.reduceLT, Nat.reduceEqDiff]; rfl)) rfl (fun cs' ow' n' hP' => ?_)
            generalize (putS (puts emptyL (A.take i)) o).1 = c1
            simp only [sS, ↓sT, if_true, if_false, Nat.reduceLT, Nat.reduceEqDiff, ↓sO, ↓WOps_g, sG, opV, loudV, cellsOf, strOp, evL, Nat.reduceAdd, beq_self_eq_true, bne_self_eq_false, Int.reduceBEq, Int.reduceBNe, ti52, ti49, shr1, hve, hx.len, hy.len, hia, hib, hic, hwi, hwk, hz2, load15, opCells, load_int, List.drop_zero, ti3, ti49, ti25, hb4, hg7_2, hb8, hb14, hb31, decide_true, decide_false]
            refine hN33 _ ?_; try clear hN33 N33
            refine hN32 _ ?_; try clear hN32 hD32 N32
            refine WC_regN (fun N34 hN34 => ?_)
            simp only [sS, ↓sT, if_true, if_false, Nat.reduceLT, Nat.reduceEqDiff, ↓sO, ↓WOps_g, sG, opV, loudV, cellsOf, strOp, evL, Nat.reduceAdd, beq_self_eq_true, bne_self_eq_false, Int.reduceBEq, Int.reduceBNe, shr1, hve, hx.len, hy.len, hia, hib, hic, hwi, hwk, hz2, load15, opCells, load_int, List.drop_zero, ti3, ti49, ti25, hb4, hg7_2, hb8, hb14, hb31, decide_true, decide_false]
            refine hN34 _ ?_; try clear hN34 N34
            refine ⟨i + 1, ⟨_, cs', ow', _, rfl, ⟨rfl, rfl, rfl, rfl, rfl, rfl, trivial⟩, hi3, ?_⟩, by omega⟩
            rw [← puts_right ho]; exact hP'
          · have hi3 : i = A.length := by have := of_decide_eq_false hb31; omega
            rw [hi3, List.take_length] at hP
            refine WC_exit ?_
            refine hN27 _ ?_; try clear hN27 hD27 N27
            refine WC_seqN (fun N35 hN35 hD35 => ?_)
            refine WC_seqR (fun N36 hN36 hD36 => ?_)
            simp only [sS, ↓sT, if_true, if_false, Nat.reduceLT, Nat.reduceEqDiff, ↓sO, ↓WOps_g, sG, opV, loudV, cellsOf, strOp, evL, Nat.reduceAdd, beq_self_eq_true, bne_self_eq_false, Int.reduceBEq, Int.reduceBNe, shr1, hve, hx.len, hy.len, hia, hib, hic, hwi, hwk, hz2, load15, opCells, load_int, List.drop_zero, ti3, ti49, ti25, hb4, hg7_2, hb8, hb14, hb31, decide_true, decide_false]
            refine hN36 _ ?_; try clear hN36 hD36 N36
            refine WC_block ?_
            refine WC_loopG (σ := Nat) (fun k s => ∃ ps cs ow nx, s = ⟨mkS 129 ps, [cs, newC], ow, nx⟩ ∧ Has ps [(0, x), (1, y), (2, .int .u64 u), (9, .ptr 0 0), (10, .ptr 1 0), (12, .int .i64 k)] ∧ k ≤ B.length ∧ Pool (puts (puts emptyL A) (B.take k)) cs ow (A.length + k)) (fun k => B.length - k) 0 ?_ (fun k s hI => ?_)
            · exact ⟨_, cs, ow, _, rfl, ⟨rfl, rfl, rfl, rfl, rfl, rfl, trivial⟩, Nat.zero_le _, hP⟩
            clear hP
            obtain ⟨ps, cs, ow, nx, rfl, hps, hk, hP⟩ := hI
            refine WC_has hps ?_; clear hps ps
            refine WC_seqN (fun N37 hN37 hD37 => ?_)
            refine WC_seqR (fun N38 hN38 hD38 => ?_)
            simp only [sS, ↓sT, if_true, if_false, Nat.reduceLT, Nat.reduceEqDiff, ↓sO, ↓WOps_g, sG, opV, loudV, cellsOf, strOp, evL, Nat.reduceAdd, beq_self_eq_true, bne_self_eq_false, Int.reduceBEq, Int.reduceBNe, ti52, shr1, hve, hx.len, hy.len, hia, hib, hic, hwi, hwk, hz2, load15, opCells, load_int, List.drop_zero, ti3, ti49, ti25, hb4, hg7_2, hb8, hb14, hb31, decide_true, decide_false]
            refine hN38 _ ?_; try clear hN38 hD38 N38
            refine WC_condE ?_
            simp only [sS, ↓sT, if_true, if_false, Nat.reduceLT, Nat.reduceEqDiff, ↓stepC_bool, hb4, hg7_2, hb8, hb14, hb31, Int.reduceBEq, Int.reduceBNe, beq_self_eq_true, bne_self_eq_false]
            refine ⟨fun hb39 => ?_, fun hb39 => ?_⟩
            · have hk3 : k < B.length := by have := of_decide_eq_true hb39; omega
              obtain ⟨p, hp⟩ : ∃ o, B[k]? = some o := ⟨_, List.getElem?_eq_getElem hk3⟩
              have hib := hy.ia hp
              have hwk : IntKind.i64.wrap ((k : Int) + 1) = (k : Int) + 1 := wrapI (by omega) (by omega)
              refine WC_skip ?_
              refine hN37 _ ?_; try clear hN37 hD37 N37
              refine WC_seqN (fun N40 hN40 hD40 => ?_)
              refine WC_block ?_
              refine WC_regN (fun N41 hN41 => ?_)
              simp only [sS, ↓sT, if_true, if_false, Nat.reduceLT, Nat.reduceEqDiff, ↓sO, ↓WOps_g, sG, opV, loudV, cellsOf, strOp, evL, Nat.reduceAdd, beq_self_eq_true, bne_self_eq_false, Int.reduceBEq, Int.reduceBNe, ti52, ti49, shr1, hve, hx.len, hy.len, hia, hib, hic, hwi, hwk, hz2, load15, opCells, load_int, List.drop_zero, ti3, ti49, ti25, hb4, hg7_2, hb8, hb14, hb31, hb39, decide_true, decide_false]
              refine WOps_put (b := 0) (o := p) hP (by omega) (hBd p (List.mem_of_getElem? hp)) (by simp only [ev_func]) (by first | (simp only [evL, sS, ↓sT, if_true, if_false, Nat.reduceLT, Nat.reduceEqDiff]; done) | (simp only [evL, sS, ↓sT, if_true, if_false, Nat.reduceLT, Nat.reduceEqDiff]; rfl)) rfl (fun cs' ow' n' hP' => ?_)
              generalize (putS _ p).1 = c1
              simp only [sS, ↓sT, if_true, if_false, Nat.reduceLT, Nat.reduceEqDiff, ↓sO, ↓WOps_g, sG, opV, loudV, cellsOf, strOp, evL, Nat.reduceAdd, beq_self_eq_true, bne_self_eq_false, Int.reduceBEq, Int.reduceBNe, ti52, ti49, shr1, hve, hx.len, hy.len, hia, hib, hic, hwi, hwk, hz2, load15, opCells, load_int, List.drop_zero, ti3, ti49, ti25, hb4, hg7_2, hb8, hb14, hb31, hb39, decide_true, decide_false]
              refine hN41 _ ?_; try clear hN41 N41
              refine hN40 _ ?_; try clear hN40 hD40 N40
              refine WC_regN (fun N42 hN42 => ?_)
              simp only [sS, ↓sT, if_true, if_false, Nat.reduceLT, Nat.reduceEqDiff, ↓sO, ↓WOps_g, sG, opV, loudV, cellsOf, strOp, evL, Nat.reduceAdd, beq_self_eq_true, bne_self_eq_false, Int.reduceBEq, Int.reduceBNe, shr1, hve, hx.len, hy.len, hia, hib, hic, hwi, hwk, hz2, load15, opCells, load_int, List.drop_zero, ti3, ti49, ti25, hb4, hg7_2, hb8, hb14, hb31, hb39, decide_true, decide_false]
              refine hN42 _ ?_; try clear hN42 N42
              refine ⟨k + 1, ⟨_, cs', ow', _, rfl, ⟨rfl, rfl, rfl, rfl, rfl, rfl, trivial⟩, hk3, ?_⟩, by omega⟩
              rw [← puts_right hp]; exact hP'
            · have hk3 : k = B.length := by have := of_decide_eq_false hb39; omega
              rw [hk3, List.take_length] at hP
              refine WC_exit ?_
              refine hN35 _ ?_; try clear hN35 hD35 N35
              refine WC_seqR (fun N43 hN43 hD43 => ?_)
              simp only [sS, ↓sT, if_true, if_false, Nat.reduceLT, Nat.reduceEqDiff, ↓sO, ↓WOps_g, sG, opV, loudV, cellsOf, strOp, evL, Nat.reduceAdd, beq_self_eq_true, bne_self_eq_false, Int.reduceBEq, Int.reduceBNe, shr1, hve, hx.len, hy.len, hia, hib, hic, hwi, hwk, hz2, load15, opCells, load_int, List.drop_zero, ti3, ti49, ti25, hb4, hg7_2, hb8, hb14, hb31, hb39, decide_true, decide_false]
              refine hN43 _ ?_; try clear hN43 hD43 N43
              refine WC_seqN (fun N44 hN44 hD44 => ?_)
              refine WC_block ?_
              refine WC_bare (b := 0) (cs := cs) rfl ?_
              have hPb := hP.p.bareW
              have hP0 := bareW_toks hP.p
              generalize cs.map V.bareC = ds at hPb hP0
              refine WC_loopG (σ := Nat × Nat) (fun t s => ∃ ps es ow nx z, s = ⟨mkS 129 ps, [ds, es], ow, nx⟩ ∧ Has ps [(0, x), (1, y), (2, .int .u64 z), (9, .ptr 0 0), (10, .ptr 1 0), (13, .int .i64 t.1), (14, .int .i64 t.2)] ∧ t.1 ≤ A.length ∧ t.2 ≤ B.length ∧ Pool (puts (puts emptyL (A.take t.1)) (B.take t.2)) es ow (t.1 + t.2)) (fun t => (A.length - t.1) + (B.length - t.2)) (0, 0) ?_ (fun t s hI => ?_)
              · exact ⟨_, newC, ow, _, _, rfl, ⟨rfl, rfl, rfl, rfl, rfl, rfl, rfl, trivial⟩, Nat.zero_le _, Nat.zero_le _, Pool.new _⟩
              obtain ⟨i, k⟩ := t
              obtain ⟨ps, es, ow, nx, z, rfl, hps, hi4, hk4, hQ⟩ := hI
              simp only at hi4 hk4 hQ hps
              refine WC_has hps ?_; clear hps ps
              obtain ⟨o, ho⟩ : ∃ o, i < A.length → A[i]? = some o := ⟨A.getD i opZ, fun h => by simp [List.getD, List.getElem?_eq_getElem h]⟩
              obtain ⟨p, hp⟩ : ∃ o, k < B.length → B[k]? = some o := ⟨B.getD k opZ, fun h => by simp [List.getD, List.getElem?_eq_getElem h]⟩
              have hia : decide ((i : Int) < (A.length : Int)) = true → indexAddrV Try.prog 52 x (.int .i64 i) = some (.rptr (opCells o)) := fun h => hx.ia (ho (by have := of_decide_eq_true h; omega))
              have hib : decide ((k : Int) < (B.length : Int)) = true → indexAddrV Try.prog 52 y (.int .i64 k) = some (.rptr (opCells p)) := fun h => hy.ia (hp (by have := of_decide_eq_true h; omega))
              have hic : ((k : Int) == (B.length : Int)) = false → indexAddrV Try.prog 52 y (.int .i64 k) = some (.rptr (opCells p)) := fun h => hy.ia (hp (by simp at h; omega))
              have hwi : IntKind.i64.wrap ((i : Int) + 1) = (i : Int) + 1 := wrapI (by omega) (by omega)
              have hwk : IntKind.i64.wrap ((k : Int) + 1) = (k : Int) + 1 := wrapI (by omega) (by omega)
              refine WC_seqN (fun N45 hN45 hD45 => ?_)
              refine WC_seqR (fun N46 hN46 hD46 => ?_)
              simp only [sS, ↓sT, if_true, if_false, Nat.reduceLT, Nat.reduceEqDiff, ↓sO, ↓WOps_g, sG, opV, loudV, cellsOf, strOp, evL, Nat.reduceAdd, beq_self_eq_true, bne_self_eq_false, Int.reduceBEq, Int.reduceBNe, ti52, shr1, hve, hx.len, hy.len, hia, hib, hic, hwi, hwk, hz2, load15, opCells, load_int, List.drop_zero, ti3, ti49, ti25, hb4, hg7_2, hb8, hb14, hb31, hb39, decide_true, decide_false]
              refine stepB_F (fun hg46_4 => ?_) (fun hg46_4 => ?_)
              · simp only [sS, ↓sT, if_true, if_false, Nat.reduceLT, Nat.reduceEqDiff, ↓sO, ↓WOps_g, sG, opV, loudV, cellsOf, strOp, evL, Nat.reduceAdd, beq_self_eq_true, bne_self_eq_false, Int.reduceBEq, Int.reduceBNe, ti52, shr1, hve, hx.len, hy.len, hia, hib, hic, hwi, hwk, hz2, load15, opCells, load_int, List.drop_zero, ti3, ti49, ti25, hb4, hg7_2, hb8, hb14, hb31, hb39, hg46_4, decide_true, decide_false]
                refine hN46 _ ?_; try clear hN46 hD46 N46
                refine WC_condE ?_
                simp only [sS, ↓sT, if_true, if_false, Nat.reduceLT, Nat.reduceEqDiff, ↓stepC_bool, hb4, hg7_2, hb8, hb14, hb31, hb39, hg46_4, Int.reduceBEq, Int.reduceBNe, beq_self_eq_true, bne_self_eq_false]
                refine ⟨fun hb47 => ?_, fun hb47 => ?_⟩
                · refine WC_skip ?_
                  refine hN45 _ ?_; try clear hN45 hD45 N45
                  refine WC_block ?_
                  refine WC_seqN (fun N48 hN48 hD48 => ?_)
                  refine WC_seqR (fun N49 hN49 hD49 => ?_)
                  simp only [sS, ↓sT, if_true, if_false, Nat.reduceLT, Nat.reduceEqDiff, ↓sO, ↓WOps_g, sG, opV, loudV, cellsOf, strOp, evL, Nat.reduceAdd, beq_self_eq_true, bne_self_eq_false, Int.reduceBEq, Int.reduceBNe, ti52, shr1, hve, hx.len, hy.len, hia, hib, hic, hwi, hwk, hz2, load15, opCells, load_int, List.drop_zero, ti3, ti49, ti25, hb4, hg7_2, hb8, hb14, hb31, hb39, hg46_4, hb47, decide_true, decide_false]
                  refine hN49 _ ?_; try clear hN49 hD49 N49
                  refine WC_condE ?_
                  simp only [sS, ↓sT, if_true, if_false, Nat.reduceLT, Nat.reduceEqDiff, ↓stepC_bool, hb4, hg7_2, hb8, hb14, hb31, hb39, hg46_4, hb47, Int.reduceBEq, Int.reduceBNe, beq_self_eq_true, bne_self_eq_false]
                  refine ⟨fun hb => (by cases hb), fun hb => ?_⟩
                  refine WC_seqR (fun N50 hN50 hD50 => ?_)
                  simp only [sS, ↓sT, if_true, if_false, Nat.reduceLT, Nat.reduceEqDiff, ↓sO, ↓WOps_g, sG, opV, loudV, cellsOf, strOp, evL, Nat.reduceAdd, beq_self_eq_true, bne_self_eq_false, Int.reduceBEq, Int.reduceBNe, ti52, ti49, shr1, hve, hx.len, hy.len, hia, hib, hic, hwi, hwk, hz2, load15, opCells, load_int, List.drop_zero, ti3, ti49, ti25, hb4, hg7_2, hb8, hb14, hb31, hb39, hg46_4, hb47, decide_true, decide_false]
                  have hkb : k < B.length := by first | (have h := of_decide_eq_true hb47; omega) | (have h := hb56; simp at h; omega)
                  refine WOps_put (b := 1) (o := p) hQ (by omega) (hBd p (List.mem_of_getElem? (hp hkb))) (by simp only [ev_func]) (by first | (simp only [evL, sS, ↓sT, if_true, if_false, Nat.reduceLT, Nat.reduceEqDiff]; done) | (simp only [evL, sS, ↓sT, if_true, if_false, Nat.reduceLT, Nat.reduceEqDiff]; rfl)) rfl (fun es' ow' n' hQ' => ?_)
                  rw [puts_right (hp hkb)] at hQ'
                  generalize (putS _ p).1 = c1
                  simp only [sS, ↓sT, if_true, if_false, Nat.reduceLT, Nat.reduceEqDiff, ↓sO, ↓WOps_g, sG, opV, loudV, cellsOf, strOp, evL, Nat.reduceAdd, beq_self_eq_true, bne_self_eq_false, Int.reduceBEq, Int.reduceBNe, ti52, ti49, shr1, hve, hx.len, hy.len, hia, hib, hic, hwi, hwk, hz2, load15, opCells, load_int, List.drop_zero, ti3, ti49, ti25, hb4, hg7_2, hb8, hb14, hb31, hb39, hg46_4, hb47, decide_true, decide_false]
                  refine hN50 _ ?_; try clear hN50 hD50 N50
                  refine WC_regN (fun N51 hN51 => ?_)
                  simp only [sS, ↓sT, if_true, if_false, Nat.reduceLT, Nat.reduceEqDiff, ↓sO, ↓WOps_g, sG, opV, loudV, cellsOf, strOp, evL, Nat.reduceAdd, beq_self_eq_true, bne_self_eq_false, Int.reduceBEq, Int.reduceBNe, shr1, hve, hx.len, hy.len, hia, hib, hic, hwi, hwk, hz2, load15, opCells, load_int, List.drop_zero, ti3, ti49, ti25, hb4, hg7_2, hb8, hb14, hb31, hb39, hg46_4, hb47, decide_true, decide_false]
                  refine hN51 _ ?_; try clear hN51 N51
                  refine hN48 _ ?_; try clear hN48 hD48 N48
                  refine WC_regN (fun N52 hN52 => ?_)
                  simp only [sS, ↓sT, if_true, if_false, Nat.reduceLT, Nat.reduceEqDiff, ↓sO, ↓WOps_g, sG, opV, loudV, cellsOf, strOp, evL, Nat.reduceAdd, beq_self_eq_true, bne_self_eq_false, Int.reduceBEq, Int.reduceBNe, shr1, hve, hx.len, hy.len, hia, hib, hic, hwi, hwk, hz2, load15, opCells, load_int, List.drop_zero, ti3, ti49, ti25, hb4, hg7_2, hb8, hb14, hb31, hb39, hg46_4, hb47, decide_true, decide_false]
                  refine hN52 _ ?_; try clear hN52 N52
                  first
                  | (refine ⟨(i + 1, k), ⟨_, es', ow', _, z.fdiv (2 ^ min (Int.toNat 1) IntKind.u64.bits), rfl, ?_, hia2, hk4, ⟨hQ'.p, hQ'.a, hQ'.o, hQ'.d, ?_⟩⟩, ?_⟩
                     · exact ⟨rfl, rfl, rfl, rfl, rfl, rfl, rfl, trivial⟩
                     · exact Nat.le_trans hQ'.t (Nat.le_of_eq (by show i + k + 1 = (i + 1) + k; omega))
                     · show (A.length - (i + 1)) + (B.length - k) < (A.length - i) + (B.length - k); omega)
                  | (refine ⟨(i, k + 1), ⟨_, es', ow', _, z.fdiv (2 ^ min (Int.toNat 1) IntKind.u64.bits), rfl, ?_, hi4, hkb, ⟨hQ'.p, hQ'.a, hQ'.o, hQ'.d, hQ'.t⟩⟩, ?_⟩
                     · exact ⟨rfl, rfl, rfl, rfl, rfl, rfl, rfl, trivial⟩
                     · show (A.length - i) + (B.length - (k + 1)) < (A.length - i) + (B.length - k); omega)
                · have hi5 : i = A.length := by have := of_decide_eq_false hg46_4; omega
                  have hk5 : k = B.length := by have := of_decide_eq_false hb47; omega
                  subst hi5
                  subst hk5
                  rw [List.take_length, List.take_length] at hQ
                  refine WC_bare (b := 1) (cs := es) rfl ?_
                  have hQb := hQ.p.bareW
                  have hQ0 := bareW_toks hQ.p
                  have hQd := hQ.d
                  have hQl := hQ.lens (by omega)
                  clear hQ hP
                  generalize es.map V.bareC = fs at hQb hQ0
                  generalize puts (puts emptyL A) B = Ls at hPb hQb hQd hQl
                  have hSb := (opsV_PS (sinceL Ls zeroV 400)).bare
                  have hSn := (opsV_PS (sinceL Ls zeroV 400)).noP
                  have hve := vec_eq (a := haveL Ls) (b := haveL Ls) hPb.bare.len hPb.bare.len
                  have cS := c_punnet_punnetref20_SameOps _ _ _ _ (opsV_PS (sinceL Ls zeroV 400)) (opsV_PS (sinceL Ls zeroV 400)) (since_len _ _) (since_drops hQd)
                  rw [sameOps_refl] at cS
                  refine WC_exit ?_
                  refine hN44 _ ?_; try clear hN44 hD44 N44
                  refine WC_seqR (fun N53 hN53 hD53 => ?_)
                  simp only [sS, ↓sT, if_true, if_false, Nat.reduceLT, Nat.reduceEqDiff, ↓sO, ↓WOps_g, sG, opV, loudV, cellsOf, strOp, evL, Nat.reduceAdd, beq_self_eq_true, bne_self_eq_false, Int.reduceBEq, Int.reduceBNe, shr1, hve, hx.len, hy.len, hia, hib, hic, hwi, hwk, hz2, load15, opCells, load_int, List.drop_zero, ti3, ti49, ti25, hb4, hg7_2, hb8, hb14, hb31, hb39, hg46_4, hb47, decide_true, decide_false]
                  refine WOps_opsB (b := 0) (cs := ds) hPb hP0 hQd hQl (by simp only [ev_func]) (by first | (simp only [evL, sS, ↓sT, if_true, if_false, Nat.reduceLT, Nat.reduceEqDiff]; done) | (simp only [evL, sS, ↓sT, if_true, if_false, Nat.reduceLT, Nat.reduceEqDiff]; rfl)) rfl (fun ow' n' hsub => ?_)
                  simp only [sS, ↓sT, if_true, if_false, Nat.reduceLT, Nat.reduceEqDiff, ↓sO, ↓WOps_g, sG, opV, loudV, cellsOf, strOp, evL, Nat.reduceAdd, beq_self_eq_true, bne_self_eq_false, Int.reduceBEq, Int.reduceBNe, shr1, hve, hx.len, hy.len, hia, hib, hic, hwi, hwk, hz2, load15, opCells, load_int, List.drop_zero, ti3, ti49, ti25, hb4, hg7_2, hb8, hb14, hb31, hb39, hg46_4, hb47, decide_true, decide_false]
                  refine WOps_opsB (b := 1) (cs := fs) hQb hQ0 hQd hQl (by simp only [ev_func]) (by first | (simp only [evL, sS, ↓sT, if_true, if_false, Nat.reduceLT, Nat.reduceEqDiff]; done) | (simp only [evL, sS, ↓sT, if_true, if_false, Nat.reduceLT, Nat.reduceEqDiff]; rfl)) rfl (fun ow' n' hsub => ?_)
                  simp only [sS, ↓sT, if_true, if_false, Nat.reduceLT, Nat.reduceEqDiff, ↓sO, ↓WOps_g, sG, opV, loudV, cellsOf, strOp, evL, Nat.reduceAdd, beq_self_eq_true, bne_self_eq_false, Int.reduceBEq, Int.reduceBNe, shr1, hve, hx.len, hy.len, hia, hib, hic, hwi, hwk, hz2, load15, opCells, load_int, List.drop_zero, ti3, ti49, ti25, hb4, hg7_2, hb8, hb14, hb31, hb39, hg46_4, hb47, decide_true, decide_false]
                  refine WOps_callP cS (by simp only [ev_func]) (by simp only [evL, sS, ↓sT, if_true, if_false, Nat.reduceLT, Nat.reduceEqDiff]; rfl) (by first | rfl | (simp only [List.map, op_bare, hx.bare, hy.bare, hSb]; done) | (simp only [List.map, op_bare, hx.bare, hy.bare, hSb]; exact rfl)) (by first | rfl | simp [hx.noP, hy.noP, noP_int, hSn]) (by first | rfl | simp [hx.noP, hy.noP, noP_int, hSn]) rfl ?_
                  simp only [sS, ↓sT, if_true, if_false, Nat.reduceLT, Nat.reduceEqDiff, ↓sO, ↓WOps_g, sG, opV, loudV, cellsOf, strOp, evL, Nat.reduceAdd, beq_self_eq_true, bne_self_eq_false, Int.reduceBEq, Int.reduceBNe, shr1, hve, hx.len, hy.len, hia, hib, hic, hwi, hwk, hz2, load15, opCells, load_int, List.drop_zero, ti3, ti49, ti25, hb4, hg7_2, hb8, hb14, hb31, hb39, hg46_4, hb47, decide_true, decide_false]
                  refine WOps_callL (c_have hPb.bare) (by simp only [ev_func]) (by first | (simp only [evL, sS, ↓sT, if_true, if_false, Nat.reduceLT, Nat.reduceEqDiff]; done) | (simp only [evL, sS, ↓sT, if_true, if_false, Nat.reduceLT, Nat.reduceEqDiff]; rfl)) (hPb.lentAt (b := 0) rfl) (vec_pl _) ?_
                  simp only [sS, ↓sT, if_true, if_false, Nat.reduceLT, Nat.reduceEqDiff, ↓sO, ↓WOps_g, sG, opV, loudV, cellsOf, strOp, evL, Nat.reduceAdd, beq_self_eq_true, bne_self_eq_false, Int.reduceBEq, Int.reduceBNe, shr1, hve, hx.len, hy.len, hia, hib, hic, hwi, hwk, hz2, load15, opCells, load_int, List.drop_zero, ti3, ti49, ti25, hb4, hg7_2, hb8, hb14, hb31, hb39, hg46_4, hb47, decide_true, decide_false]
                  refine WOps_callL (c_have hQb.bare) (by simp only [ev_func]) (by first | (simp only [evL, sS, ↓sT, if_true, if_false, Nat.reduceLT, Nat.reduceEqDiff]; done) | (simp only [evL, sS, ↓sT, if_true, if_false, Nat.reduceLT, Nat.reduceEqDiff]; rfl)) (hQb.lentAt (b := 1) rfl) (vec_pl _) ?_
                  simp only [sS, ↓sT, if_true, if_false, Nat.reduceLT, Nat.reduceEqDiff, ↓sO, ↓WOps_g, sG, opV, loudV, cellsOf, strOp, evL, Nat.reduceAdd, beq_self_eq_true, bne_self_eq_false, Int.reduceBEq, Int.reduceBNe, shr1, hve, hx.len, hy.len, hia, hib, hic, hwi, hwk, hz2, load15, opCells, load_int, List.drop_zero, ti3, ti49, ti25, hb4, hg7_2, hb8, hb14, hb31, hb39, hg46_4, hb47, decide_true, decide_false]
                  refine hN53 _ ?_; try clear hN53 hD53 N53
                  refine WC_ret ?_; (try simp only [Exit.after, Exit.out]); refine Kend_ret (by simp only [resOf, resL, resV, mkS_get, slots_get, cellsOf, load_str, load_bool, load_int, load_slice, ti3, sS, ↓sT, if_true, if_false, Nat.reduceLT, Nat.reduceEqDiff]; rfl) (by first | rfl | (simp only [load_str, load_bool, load_int, load_slice, ti3]; done) | (simp only [load_str, load_bool, load_int, load_slice, ti3, okV, ok1, okC, okP, List.all_cons, List.all_nil, Bool.and_true]; done)) ?_
                  clear hN45 hD45 N45 hN37 hD37 N37 hN29 hD29 N29 hN12 hD12 N12
                  first
                  | rfl
                  | (cases hb4; done)
                  | trace_state
              · simp only [sS, ↓sT, if_true, if_false, Nat.reduceLT, Nat.reduceEqDiff, ↓sO, ↓WOps_g, sG, opV, loudV, cellsOf, strOp, evL, Nat.reduceAdd, beq_self_eq_true, bne_self_eq_false, Int.reduceBEq, Int.reduceBNe, ti52, shr1, hve, hx.len, hy.len, hia, hib, hic, hwi, hwk, hz2, load15, opCells, load_int, List.drop_zero, ti3, ti49, ti25, hb4, hg7_2, hb8, hb14, hb31, hb39, hg46_4, decide_true, decide_false]
                refine hN46 _ ?_; try clear hN46 hD46 N46
                refine WC_condE ?_
                simp only [sS, ↓sT, if_true, if_false, Nat.reduceLT, Nat.reduceEqDiff, ↓stepC_bool, hb4, hg7_2, hb8, hb14, hb31, hb39, hg46_4, Int.reduceBEq, Int.reduceBNe, beq_self_eq_true, bne_self_eq_false]
                refine ⟨fun hb => ?_, fun hb => (by cases hb)⟩
                refine WC_skip ?_
                refine hN45 _ ?_; try clear hN45 hD45 N45
                refine WC_block ?_
                refine WC_seqN (fun N54 hN54 hD54 => ?_)
                refine WC_seqR (fun N55 hN55 hD55 => ?_)
                simp only [sS, ↓sT, if_true, if_false, Nat.reduceLT, Nat.reduceEqDiff, ↓sO, ↓WOps_g, sG, opV, loudV, cellsOf, strOp, evL, Nat.reduceAdd, beq_self_eq_true, bne_self_eq_false, Int.reduceBEq, Int.reduceBNe, ti52, shr1, hve, hx.len, hy.len, hia, hib, hic, hwi, hwk, hz2, load15, opCells, load_int, List.drop_zero, ti3, ti49, ti25, hb4, hg7_2, hb8, hb14, hb31, hb39, hg46_4, decide_true, decide_false]
                refine stepB_F (fun hg55_8 => ?_) (fun hg55_8 => ?_)
                · simp only [sS, ↓sT, if_true, if_false, Nat.reduceLT, Nat.reduceEqDiff, ↓sO, ↓WOps_g, sG, opV, loudV, cellsOf, strOp, evL, Nat.reduceAdd, beq_self_eq_true, bne_self_eq_false, Int.reduceBEq, Int.reduceBNe, ti52, shr1, hve, hx.len, hy.len, hia, hib, hic, hwi, hwk, hz2, load15, opCells, load_int, List.drop_zero, ti3, ti49, ti25, hb4, hg7_2, hb8, hb14, hb31, hb39, hg46_4, hg55_8, decide_true, decide_false]
                  refine hN55 _ ?_; try clear hN55 hD55 N55
                  refine WC_condE ?_
                  simp only [sS, ↓sT, if_true, if_false, Nat.reduceLT, Nat.reduceEqDiff, ↓stepC_bool, hb4, hg7_2, hb8, hb14, hb31, hb39, hg46_4, hg55_8, Int.reduceBEq, Int.reduceBNe, beq_self_eq_true, bne_self_eq_false]
                  refine ⟨fun hb56 => ?_, fun hb56 => ?_⟩
                  · refine WC_seqR (fun N57 hN57 hD57 => ?_)
                    simp only [sS, ↓sT, if_true, if_false, Nat.reduceLT, Nat.reduceEqDiff, ↓sO, ↓WOps_g, sG, opV, loudV, cellsOf, strOp, evL, Nat.reduceAdd, beq_self_eq_true, bne_self_eq_false, Int.reduceBEq, Int.reduceBNe, ti52, ti49, shr1, hve, hx.len, hy.len, hia, hib, hic, hwi, hwk, hz2, load15, opCells, load_int, List.drop_zero, ti3, ti49, ti25, hb4, hg7_2, hb8, hb14, hb31, hb39, hg46_4, hg55_8, hb56, decide_true, decide_false]
                    have hia2 : i < A.length := by have h := of_decide_eq_true hg46_4; omega
                    refine WOps_put (b := 1) (o := o) hQ (by omega) (hAd o (List.mem_of_getElem? (ho hia2))) (by simp only [ev_func]) (by first | (simp only [evL, sS, ↓sT, if_true, if_false, Nat.reduceLT, Nat.reduceEqDiff]; done) | (simp only [evL, sS, ↓sT, if_true, if_false, Nat.reduceLT, Nat.reduceEqDiff]; rfl)) rfl (fun es' ow' n' hQ' => ?_)
                    rw [puts_left hno (by omega) (ho hia2)] at hQ'
                    generalize (putS _ o).1 = c1
                    simp only [sS, ↓sT, if_true, if_false, Nat.reduceLT, Nat.reduceEqDiff, ↓sO, ↓WOps_g, sG, opV, loudV, cellsOf, strOp, evL, Nat.reduceAdd, beq_self_eq_true, bne_self_eq_false, Int.reduceBEq, Int.reduceBNe, ti52, ti49, shr1, hve, hx.len, hy.len, hia, hib, hic, hwi, hwk, hz2, load15, opCells, load_int, List.drop_zero, ti3, ti49, ti25, hb4, hg7_2, hb8, hb14, hb31, hb39, hg46_4, hg55_8, hb56, decide_true, decide_false]
                    refine hN57 _ ?_; try clear hN57 hD57 N57
                    refine WC_regN (fun N58 hN58 => ?_)
                    simp only [sS, ↓sT, if_true, if_false, Nat.reduceLT, Nat.reduceEqDiff, ↓sO, ↓WOps_g, sG, opV, loudV, cellsOf, strOp, evL, Nat.reduceAdd, beq_self_eq_true, bne_self_eq_false, Int.reduceBEq, Int.reduceBNe, shr1, hve, hx.len, hy.len, hia, hib, hic, hwi, hwk, hz2, load15, opCells, load_int, List.drop_zero, ti3, ti49, ti25, hb4, hg7_2, hb8, hb14, hb31, hb39, hg46_4, hg55_8, hb56, decide_true, decide_false]
                    refine hN58 _ ?_; try clear hN58 N58
                    refine hN54 _ ?_; try clear hN54 hD54 N54
                    refine WC_regN (fun N59 hN59 => ?_)
                    simp only [sS, ↓sT, if_true, if_false, Nat.reduceLT, Nat.reduceEqDiff, ↓sO, ↓WOps_g, sG, opV, loudV, cellsOf, strOp, evL, Nat.reduceAdd, beq_self_eq_true, bne_self_eq_false, Int.reduceBEq, Int.reduceBNe, shr1, hve, hx.len, hy.len, hia, hib, hic, hwi, hwk, hz2, load15, opCells, load_int, List.drop_zero, ti3, ti49, ti25, hb4, hg7_2, hb8, hb14, hb31, hb39, hg46_4, hg55_8, hb56, decide_true, decide_false]
                    refine hN59 _ ?_; try clear hN59 N59
                    first
                    | (refine ⟨(i + 1, k), ⟨_, es', ow', _, z.fdiv (2 ^ min (Int.toNat 1) IntKind.u64.bits), rfl, ?_, hia2, hk4, ⟨hQ'.p, hQ'.a, hQ'.o, hQ'.d, ?_⟩⟩, ?_⟩
                       · exact ⟨rfl, rfl, rfl, rfl, rfl, rfl, rfl, trivial⟩
                       · exact Nat.le_trans hQ'.t (Nat.le_of_eq (by show i + k + 1 = (i + 1) + k; omega))
                       · show (A.length - (i + 1)) + (B.length - k) < (A.length - i) + (B.length - k); omega)
                    | (refine ⟨(i, k + 1), ⟨_, es', ow', _, z.fdiv (2 ^ min (Int.toNat 1) IntKind.u64.bits), rfl, ?_, hi4, hkb, ⟨hQ'.p, hQ'.a, hQ'.o, hQ'.d, hQ'.t⟩⟩, ?_⟩
                       · exact ⟨rfl, rfl, rfl, rfl, rfl, rfl, rfl, trivial⟩
                       · show (A.length - i) + (B.length - (k + 1)) < (A.length - i) + (B.length - k); omega)
                  · refine WC_seqR (fun N60 hN60 hD60 => ?_)
                    simp only [sS, ↓sT, if_true, if_false, Nat.reduceLT, Nat.reduceEqDiff, ↓sO, ↓WOps_g, sG, opV, loudV, cellsOf, strOp, evL, Nat.reduceAdd, beq_self_eq_true, bne_self_eq_false, Int.reduceBEq, Int.reduceBNe, ti52, ti49, shr1, hve, hx.len, hy.len, hia, hib, hic, hwi, hwk, hz2, load15, opCells, load_int, List.drop_zero, ti3, ti49, ti25, hb4, hg7_2, hb8, hb14, hb31, hb39, hg46_4, hg55_8, hb56, decide_true, decide_false]
                    have hkb : k < B.length := by first | (have h := of_decide_eq_true hb47; omega) | (have h := hb56; simp at h; omega)
                    refine WOps_put (b := 1) (o := p) hQ (by omega) (hBd p (List.mem_of_getElem? (hp hkb))) (by simp only [ev_func]) (by first | (simp only [evL, sS, ↓sT, if_true, if_false, Nat.reduceLT, Nat.reduceEqDiff]; done) | (simp only [evL, sS, ↓sT, if_true, if_false, Nat.reduceLT, Nat.reduceEqDiff]; rfl)) rfl (fun es' ow' n' hQ' => ?_)
                    rw [puts_right (hp hkb)] at hQ'
                    generalize (putS _ p).1 = c1
                    simp only [sS, ↓sT, if_true, if_false, Nat.reduceLT, Nat.reduceEqDiff, ↓sO, ↓WOps_g, sG, opV, loudV, cellsOf, strOp, evL, Nat.reduceAdd, beq_self_eq_true, bne_self_eq_false, Int.reduceBEq, Int.reduceBNe, ti52, ti49, shr1, hve, hx.len, hy.len, hia, hib, hic, hwi, hwk, hz2, load15, opCells, load_int, List.drop_zero, ti3, ti49, ti25, hb4, hg7_2, hb8, hb14, hb31, hb39, hg46_4, hg55_8, hb56, decide_true, decide_false]
                    refine hN60 _ ?_; try clear hN60 hD60 N60
                    refine WC_regN (fun N61 hN61 => ?_)
                    simp only [sS, ↓sT, if_true, if_false, Nat.reduceLT, Nat.reduceEqDiff, ↓sO, ↓WOps_g, sG, opV, loudV, cellsOf, strOp, evL, Nat.reduceAdd, beq_self_eq_true, bne_self_eq_false, Int.reduceBEq, Int.reduceBNe, shr1, hve, hx.len, hy.len, hia, hib, hic, hwi, hwk, hz2, load15, opCells, load_int, List.drop_zero, ti3, ti49, ti25, hb4, hg7_2, hb8, hb14, hb31, hb39, hg46_4, hg55_8, hb56, decide_true, decide_false]
                    refine hN61 _ ?_; try clear hN61 N61
                    refine hN54 _ ?_; try clear hN54 hD54 N54
                    refine WC_regN (fun N62 hN62 => ?_)
                    simp only [sS, ↓sT, if_true, if_false, Nat.reduceLT, Nat.reduceEqDiff, ↓sO, ↓WOps_g, sG, opV, loudV, cellsOf, strOp, evL, Nat.reduceAdd, beq_self_eq_true, bne_self_eq_false, Int.reduceBEq, Int.reduceBNe, shr1, hve, hx.len, hy.len, hia, hib, hic, hwi, hwk, hz2, load15, opCells, load_int, List.drop_zero, ti3, ti49, ti25, hb4, hg7_2, hb8, hb14, hb31, hb39, hg46_4, hg55_8, hb56, decide_true, decide_false]
                    refine hN62 _ ?_; try clear hN62 N62
                    first
                    | (refine ⟨(i + 1, k), ⟨_, es', ow', _, z.fdiv (2 ^ min (Int.toNat 1) IntKind.u64.bits), rfl, ?_, hia2, hk4, ⟨hQ'.p, hQ'.a, hQ'.o, hQ'.d, ?_⟩⟩, ?_⟩
                       · exact ⟨rfl, rfl, rfl, rfl, rfl, rfl, rfl, trivial⟩
                       · exact Nat.le_trans hQ'.t (Nat.le_of_eq (by show i + k + 1 = (i + 1) + k; omega))
                       · show (A.length - (i + 1)) + (B.length - k) < (A.length - i) + (B.length - k); omega)
                    | (refine ⟨(i, k + 1), ⟨_, es', ow', _, z.fdiv (2 ^ min (Int.toNat 1) IntKind.u64.bits), rfl, ?_, hi4, hkb, ⟨hQ'.p, hQ'.a, hQ'.o, hQ'.d, hQ'.t⟩⟩, ?_⟩
                       · exact ⟨rfl, rfl, rfl, rfl, rfl, rfl, rfl, trivial⟩
                       · show (A.length - i) + (B.length - (k + 1)) < (A.length - i) + (B.length - k); omega)
                · have ehg55_8 := eq_of_beq hg55_8
                  simp only [sS, ↓sT, if_true, if_false, Nat.reduceLT, Nat.reduceEqDiff, ↓sO, ↓WOps_g, sG, opV, loudV, cellsOf, strOp, evL, Nat.reduceAdd, beq_self_eq_true, bne_self_eq_false, Int.reduceBEq, Int.reduceBNe, ti52, shr1, hve, hx.len, hy.len, hia, hib, hic, hwi, hwk, hz2, load15, opCells, load_int, List.drop_zero, ti3, ti49, ti25, hb4, hg7_2, hb8, hb14, hb31, hb39, hg46_4, ehg55_8, decide_true, decide_false]
                  refine hN55 _ ?_; try clear hN55 hD55 N55
                  refine WC_condE ?_
                  simp only [sS, ↓sT, if_true, if_false, Nat.reduceLT, Nat.reduceEqDiff, ↓stepC_bool, hb4, hg7_2, hb8, hb14, hb31, hb39, hg46_4, ehg55_8, Int.reduceBEq, Int.reduceBNe, beq_self_eq_true, bne_self_eq_false]
                  refine ⟨fun hb => ?_, fun hb => (by cases hb)⟩
                  refine WC_seqR (fun N63 hN63 hD63 => ?_)
                  simp only [sS, ↓sT, if_true, if_false, Nat.reduceLT, Nat.reduceEqDiff, ↓sO, ↓WOps_g, sG, opV, loudV, cellsOf, strOp, evL, Nat.reduceAdd, beq_self_eq_true, bne_self_eq_false, Int.reduceBEq, Int.reduceBNe, ti52, ti49, shr1, hve, hx.len, hy.len, hia, hib, hic, hwi, hwk, hz2, load15, opCells, load_int, List.drop_zero, ti3, ti49, ti25, hb4, hg7_2, hb8, hb14, hb31, hb39, hg46_4, ehg55_8, decide_true, decide_false]
                  have hia2 : i < A.length := by have h := of_decide_eq_true hg46_4; omega
                  refine WOps_put (b := 1) (o := o) hQ (by omega) (hAd o (List.mem_of_getElem? (ho hia2))) (by simp only [ev_func]) (by first | (simp only [evL, sS, ↓sT, if_true, if_false, Nat.reduceLT, Nat.reduceEqDiff]; done) | (simp only [evL, sS, ↓sT, if_true, if_false, Nat.reduceLT, Nat.reduceEqDiff]; rfl)) rfl (fun es' ow' n' hQ' => ?_)
                  rw [puts_left hno (by omega) (ho hia2)] at hQ'
                  generalize (putS _ o).1 = c1
                  simp only [sS, ↓sT, if_true, if_false, Nat.reduceLT, Nat.reduceEqDiff, ↓sO, ↓WOps_g, sG, opV, loudV, cellsOf, strOp, evL, Nat.reduceAdd, beq_self_eq_true, bne_self_eq_false, Int.reduceBEq, Int.reduceBNe, ti52, ti49, shr1, hve, hx.len, hy.len, hia, hib, hic, hwi, hwk, hz2, load15, opCells, load_int, List.drop_zero, ti3, ti49, ti25, hb4, hg7_2, hb8, hb14, hb31, hb39, hg46_4, ehg55_8, decide_true, decide_false]
                  refine hN63 _ ?_; try clear hN63 hD63 N63
                  refine WC_regN (fun N64 hN64 => ?_)
                  simp only [sS, ↓sT, if_true, if_false, Nat.reduceLT, Nat.reduceEqDiff, ↓sO, ↓WOps_g, sG, opV, loudV, cellsOf, strOp, evL, Nat.reduceAdd, beq_self_eq_true, bne_self_eq_false, Int.reduceBEq, Int.reduceBNe, shr1, hve, hx.len, hy.len, hia, hib, hic, hwi, hwk, hz2, load15, opCells, load_int, List.drop_zero, ti3, ti49, ti25, hb4, hg7_2, hb8, hb14, hb31, hb39, hg46_4, ehg55_8, decide_true, decide_false]
                  refine hN64 _ ?_; try clear hN64 N64
                  refine hN54 _ ?_; try clear hN54 hD54 N54
                  refine WC_regN (fun N65 hN65 => ?_)
                  simp only [sS, ↓sT, if_true, if_false, Nat.reduceLT, Nat.reduceEqDiff, ↓sO, ↓WOps_g, sG, opV, loudV, cellsOf, strOp, evL, Nat.reduceAdd, beq_self_eq_true, bne_self_eq_false, Int.reduceBEq, Int.reduceBNe, shr1, hve, hx.len, hy.len, hia, hib, hic, hwi, hwk, hz2, load15, opCells, load_int, List.drop_zero, ti3, ti49, ti25, hb4, hg7_2, hb8, hb14, hb31, hb39, hg46_4, ehg55_8, decide_true, decide_false]
                  refine hN65 _ ?_; try clear hN65 N65
                  first
                  | (refine ⟨(i + 1, k), ⟨_, es', ow', _, z.fdiv (2 ^ min (Int.toNat 1) IntKind.u64.bits), rfl, ?_, hia2, hk4, ⟨hQ'.p, hQ'.a, hQ'.o, hQ'.d, ?_⟩⟩, ?_⟩
                     · exact ⟨rfl, rfl, rfl, rfl, rfl, rfl, rfl, trivial⟩
                     · exact Nat.le_trans hQ'.t (Nat.le_of_eq (by show i + k + 1 = (i + 1) + k; omega))
                     · show (A.length - (i + 1)) + (B.length - k) < (A.length - i) + (B.length - k); omega)
                  | (refine ⟨(i, k + 1), ⟨_, es', ow', _, z.fdiv (2 ^ min (Int.toNat 1) IntKind.u64.bits), rfl, ?_, hi4, hkb, ⟨hQ'.p, hQ'.a, hQ'.o, hQ'.d, hQ'.t⟩⟩, ?_⟩
                     · exact ⟨rfl, rfl, rfl, rfl, rfl, rfl, rfl, trivial⟩
                     · show (A.length - i) + (B.length - (k + 1)) < (A.length - i) + (B.length - k); omega)
    · simp only [sS, ↓sT, if_true, if_false, Nat.reduceLT, Nat.reduceEqDiff, ↓sO, ↓WOps_g, sG, opV, loudV, cellsOf, strOp, evL, Nat.reduceAdd, beq_self_eq_true, bne_self_eq_false, Int.reduceBEq, Int.reduceBNe, shr1, hve, hx.len, hy.len, hia, hib, hic, hwi, hwk, hz2, load15, opCells, load_int, List.drop_zero, ti3, ti49, ti25, hb4, hg7_2, decide_true, decide_false]
      refine hN7 _ ?_; try clear hN7 hD7 N7
      refine WC_condE ?_
      simp only [sS, ↓sT, if_true, if_false, Nat.reduceLT, Nat.reduceEqDiff, ↓stepC_bool, hb4, hg7_2, Int.reduceBEq, Int.reduceBNe, beq_self_eq_true, bne_self_eq_false]
      refine ⟨fun hb => ?_, fun hb => (by cases hb)⟩
      refine WC_seqR (fun N66 hN66 hD66 => ?_)
      simp only [sS, ↓sT, if_true, if_false, Nat.reduceLT, Nat.reduceEqDiff, ↓sO, ↓WOps_g, sG, opV, loudV, cellsOf, strOp, evL, Nat.reduceAdd, beq_self_eq_true, bne_self_eq_false, Int.reduceBEq, Int.reduceBNe, shr1, hve, hx.len, hy.len, hia, hib, hic, hwi, hwk, hz2, load15, opCells, load_int, List.drop_zero, ti3, ti49, ti25, hb4, hg7_2, decide_true, decide_false]
      refine hN66 _ ?_; try clear hN66 hD66 N66
      refine WC_ret ?_; (try simp only [Exit.after, Exit.out]); refine Kend_ret (by simp only [resOf, resL, resV, mkS_get, slots_get, cellsOf, load_str, load_bool, load_int, load_slice, ti3, sS, ↓sT, if_true, if_false, Nat.reduceLT, Nat.reduceEqDiff]; rfl) (by first | rfl | (simp only [load_str, load_bool, load_int, load_slice, ti3]; done) | (simp only [load_str, load_bool, load_int, load_slice, ti3, okV, ok1, okC, okP, List.all_cons, List.all_nil, Bool.and_true]; done)) ?_
      clear hN6 hD6 N6
      first
      | rfl
      | (cases hb4; done)
      | trace_state
end Go.PV
/- Arguments: lists of ops. -/
namespace Go.PV
open Go.Proofs
section
variable {H : Type} {enc : TypeId × Value → H} {W : World}
theorem okWide_slice {P : Program} {r : Reach} {base : Nat} {t e : TypeId} {v : Value} (hu : P.underlying t = some (.slice e)) (h : Value.okWide P W r base t v) : ∃ a n m, v = .slice a n m := by
  unfold Value.okWide at h
  simp only [hu] at h
  unfold Cell.okWide at h
  simp only [hu] at h
  unfold Cell.ok at h
  simp only [hu] at h
  cases v <;> first | exact ⟨_, _, _, rfl⟩ | exact h.elim | (simp at h)
/-- an argument that is a slice -/
theorem arg_slice {P : Program} {t e : TypeId} {v : Value} {d : DataW H} {ps : List MemPlace} {base : Nat} {α : Type} {emb : α → List V} {ok : α → Prop} (hs : ShC enc P W t emb ok) (hu : P.underlying t = some (.slice e))
    (hv : Value.okWide P W .any base t v) (hd : DataW.Trod enc P W 0 (fun _ => true) true t v d ps) : ∃ a, ok a ∧ LR W (G0 W) [v] (emb a) := by
  obtain ⟨a, n, m, rfl⟩ := okWide_slice hu hv
  obtain ⟨fuel, hf⟩ := hd
  exact hs _ _ _ hf
def opsOf : Option (List OpS) → List OpS × V
  | none => ([], .nils)
  | some l => (l, .slice 15 (l.map opW) false none)
theorem so_ops : ShC enc Try.prog W 52 (fun q : List OpS × V => [q.2]) (fun q => PS q.1 q.2 ∧ q.1.length ≤ maxLen) :=
  (ShC.slice so_op (sz := 15) Try.underlying52 (by kernel_rfl) (by decide) opW fun o _ => ⟨op_cells o, rfl, op_clean o⟩).map opsOf fun q hq => by
    cases q with
    | none => exact ⟨rfl, .inl ⟨rfl, rfl⟩, Nat.zero_le _⟩
    | some l => exact ⟨rfl, .inr ⟨false, rfl⟩, (hq l rfl).1⟩
theorem arg_ops {v : Value} {d : DataW H} {ps : List MemPlace} {base : Nat} (hv : Value.okWide Try.prog W .any base 52 v) (hd : DataW.Trod enc Try.prog W 0 (fun _ => true) true 52 v d ps) :
    ∃ q : List OpS × V, (PS q.1 q.2 ∧ q.1.length ≤ maxLen) ∧ Rep W (G0 W) v q.2 := by
  obtain ⟨q, hq, hr⟩ := arg_slice so_ops Try.underlying52 hv hd
  have h := hr.rep 0 _ rfl
  simp only [List.getD_cons_zero] at h
  exact ⟨q, hq, h⟩
end
end Go.PV
/- PoolOrders: from the walk to the row. -/
namespace Go.Proofs.Ytpgfcfojojemjaa.poolOrders
open Go.ChangeShapes Go.WideShapes Go.ChangeAt Go.RowKit Go.PV
theorem own : ownKnob Try.prog.godebug = none := by kernel_rfl
theorem laidOut : laidOutB Try.prog = true := by kernel_rfl
set_option maxRecDepth 100000 in
theorem lifted (os : Os) (started : os.Started) (H : Type) (enc : TypeId × Value → H) :
    ReturnsInHanded {} Try.checked os 7 .any (Rows.poolOrdersSpec.pre6 enc Try.prog Try.f7 Rows.poolOrdersRow.domain false) (Rows.poolOrdersSpec.post enc Try.prog Try.f7 false true false false) := by
  refine returnsInHanded_of_change_sized (C := Try.checked) own started (by kernel_rfl) Try.func7
    (ChangeSpec.witness6 (enc := enc) (C := Try.checked) false ⟨#[], #[.slice none 0 0, .slice none 0 0, .int .u64 0], []⟩ 8 (by kernel_rfl) (by kernel_rfl) (by kernel_rfl) (by kernel_rfl)) ?_
  intro W base args ds gs before hval0 hW hcnd hsz0 _
  have hval : ∀ (j : Nat) t v, Try.f7.params[j]? = some t → args[j]? = some v → Value.okWide Try.prog W .any base t v := hval0
  have hW' := hW
  obtain ⟨p, q, hA0, hV, rfl, hfz, hnd⟩ := hW
  have hA : DataW.TrodAll enc Try.prog W 0 (fun _ => true) true Try.f7.params.toList args.toList ds p := hA0
  rw [Try.params7] at hA hval
  obtain ⟨v0, vs0, d0, ds0, p0, q0, hargs, rfl, rfl, h0, r0⟩ := trodAll_cons hA
  obtain ⟨v1, vs1, d1, ds1, p1, q1, rfl, rfl, rfl, h1, r1⟩ := trodAll_cons r0
  obtain ⟨v2, vs2, d2, ds2, p2, q2, rfl, rfl, rfl, h2, r2⟩ := trodAll_cons r1
  obtain ⟨rfl, rfl, rfl⟩ := trodAll_nil r2
  obtain rfl : args = #[v0, v1, v2] := by cases args; simp_all
  obtain ⟨rfl, rfl⟩ := trodVars_none hV
  have lt0 : ∀ x ∈ p0, x.block < W.heap.size := by obtain ⟨m, hm⟩ := h0; exact DataW.trod_lt m _ _ _ hm
  have lt1 : ∀ x ∈ p1, x.block < W.heap.size := by obtain ⟨m, hm⟩ := h1; exact DataW.trod_lt m _ _ _ hm
  have lt2 : ∀ x ∈ p2, x.block < W.heap.size := by obtain ⟨m, hm⟩ := h2; exact DataW.trod_lt m _ _ _ hm
  have k0 := h0
  obtain ⟨a0, w0, e0⟩ := arg_ops (hval 0 _ v0 rfl rfl) h0
  have k1 := h1
  obtain ⟨a1, w1, e1⟩ := arg_ops (hval 1 _ v1 rfl rfl) h1
  have k2 := h2
  obtain ⟨a2, rfl, rfl, rfl, w2⟩ := open_int Try.underlying55 (hval 2 _ v2 rfl rfl) h2
  clear hA0 hval0 hsz0
  refine (calls_end (c_punnet_punnetlaw26_PoolOrders a0.1 a1.1 a0.2 a1.2 w0.1 w1.1 w0.2 w1.2 a2) ⟨rfl, fun k y hk => ?_⟩ (by simp only [ownOf, List.flatMap_cons, List.flatMap_nil, w0.1.toks, w1.1.toks, List.append_nil]; rfl)).mono fun e W' ⟨he, bel⟩ => ?_
  · match k, hk with
    | 0, hk => obtain rfl := Option.some.inj hk; exact e0
    | 1, hk => obtain rfl := Option.some.inj hk; exact e1
    | 2, hk => obtain rfl := Option.some.inj hk; exact .int _ _
    | k + 3, hk => simp at hk
  subst he
  exact ⟨_, rfl, _, _, _, [], _, [], hW', trodAll_mk1 (shut_bool Try.underlying4 _),
    (trodAll_cons_mk (Below.trod laidOut (by kernel_rfl) (of_decide_eq_true (by kernel_rfl)) k0 bel lt0) (trodAll_cons_mk (Below.trod laidOut (by kernel_rfl) (of_decide_eq_true (by kernel_rfl)) k1 bel lt1) (trodAll_cons_mk (Below.trod laidOut (by kernel_rfl) (of_decide_eq_true (by kernel_rfl)) k2 bel lt2) trodAll_mk0))), rfl, bel.frame _, fun h => by cases h⟩
end Go.Proofs.Ytpgfcfojojemjaa.poolOrders
