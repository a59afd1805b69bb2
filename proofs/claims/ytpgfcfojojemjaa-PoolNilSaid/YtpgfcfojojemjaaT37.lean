/- Pools: Put of any op; a pool that isn't there; calls that are run. -/
import Derived.Test.YtpgfcfojojemjaaT36
import Derived.Test.YtpgfcfojojemjaaT33
import Derived.Test.YtpgfcfojojemjaaPWc
import Derived.Test.YtpgfcfojojemjaaRows
import Derived.SizedLaws
namespace Go.PV
open Go.Proofs
set_option linter.unusedVariables false
set_option linter.unusedSimpArgs false
set_option maxRecDepth 10000
set_option maxHeartbeats 1000000

section
variable {ops : Array Oper} {os : List Oper} {K : St → Prop} {s : St} {dst : Option Tmp} {ty : TypeId} {pos : String} {after : Array Edge}
/-- a call that is run on the caller's own state -/
theorem WOps_callE {f : Operand} {args : Array Operand} {ts : Array TypeId} {xs : List V} {fid : Nat} (m n : Nat) {r : V} {h' : List (List V)} {ow' : List (Nat × Nat)} {nx' : Nat} (hf : ev s f = some (.func (.func fid) [])) (hx : evL s args.toList = some xs)
    (h : xCall Try.prog tab m n fid xs s.heap s.own s.next = some (r, h', ow', nx')) (k : WOps Try.prog ops os K (St.put ⟨s.slots, h', ow', nx'⟩ dst r)) :
    WOps Try.prog ops (⟨dst, .call ⟨.value f, args, ts⟩, ty, pos, after, none⟩ :: os) K s := by
  simp only [WOps, WOp, WOp1]
  unfold WRun
  simp only [opV, loudV]
  refine ⟨fid, [], _, hf, hx, ?_⟩
  rw [List.append_nil]
  obtain ⟨he, hc⟩ := xCall_ok (m := m) mixed names tabOk n _ _ _ _ _ _ _ _ _ h
  refine .gen (fun r2 h2 ow2 n2 => r2 = r ∧ h2 = h' ∧ ow2 = ow' ∧ n2 = nx') (.inl rfl) he (fun w0 G0 w G cargs hl hI => ?_) ?_
  · refine (hc w0 G0 w G cargs hl hI).mono ?_
    rintro e w' ⟨v, G', h1, h2, h3, h4⟩
    exact ⟨v, G', r, h', ow', nx', h1, ⟨rfl, rfl, rfl, rfl⟩, h2, h3, h4⟩
  · rintro r2 h2 ow2 n2 ⟨rfl, rfl, rfl, rfl⟩
    exact k
end
namespace N
theorem h__punnet_pool_Pool_Put (Ls : List (List OpS)) (cs : List V) (h : PCt Ls cs) (ha : Apart cs) (o : OpS) (hR : rightS o = false) (hL : o.dropsL.length ≤ 4611686018427387904) : VC Try.prog 30 [.ptr 0 0, opW o] [cs] (fun r hh => r = .int .i64 (putS Ls o).1 ∧ ∃ cs', hh = [cs'] ∧ PCt (putS Ls o).2 cs' ∧ Apart cs') := by
  refine VC_enter (nt := 60) (rs := [.tmp 4]) (ow := cs.flatMap V.tokC) (m := 1) Try.func30 rfl (by rfl) rfl rfl (by simp) (by simp only [ownOf, List.flatMap_cons, List.flatMap_nil, op_toks, List.append_nil]; rfl) rfl (fun n => ?_)
  simp only [zipT, Nat.zero_add]
  have cR := c_punnet_op_Right o hL
  rw [hR] at cR
  have hspec : putS Ls o = (5, Ls) := by rw [putS, if_pos hR]
  refine WC_seqR (fun N1 hN1 hD1 => ?_)
  simp only [sS, ↓sT, if_true, if_false, Nat.reduceLT, Nat.reduceEqDiff, ↓sO, ↓WOps_g, sG, opV, loudV, cellsOf, strOp, evL, Nat.reduceAdd, beq_self_eq_true, bne_self_eq_false, Int.reduceBEq, Int.reduceBNe, op_clean, op_len, op_cells, opCells, List.all_cons, List.all_nil, icell_int, icell_str, icell_bool, dropsW_isC, Bool.and_self, load_slice, load_int, load_str, load_bool, tag_load2, load15, int_load, List.drop_zero, Nat.le_refl, decide_true, decide_false]
  refine hN1 _ ?_; try clear hN1 hD1 N1
  refine WC_seqN (fun N2 hN2 hD2 => ?_)
  refine WC_seqR (fun N3 hN3 hD3 => ?_)
  simp only [sS, ↓sT, if_true, if_false, Nat.reduceLT, Nat.reduceEqDiff, ↓sO, ↓WOps_g, sG, opV, loudV, cellsOf, strOp, evL, Nat.reduceAdd, beq_self_eq_true, bne_self_eq_false, Int.reduceBEq, Int.reduceBNe, op_clean, op_len, op_cells, opCells, List.all_cons, List.all_nil, icell_int, icell_str, icell_bool, dropsW_isC, Bool.and_self, load_slice, load_int, load_str, load_bool, tag_load2, load15, int_load, List.drop_zero, Nat.le_refl, decide_true, decide_false]
  refine hN3 _ ?_; try clear hN3 hD3 N3
  refine WC_condE ?_
  simp only [sS, ↓sT, if_true, if_false, Nat.reduceLT, Nat.reduceEqDiff, ↓stepC_bool]
  refine ⟨fun hb4 => ?_, fun hb4 => ?_⟩
  · exact absurd hb4 (by simp)
  · refine WC_skip ?_
    refine hN2 _ ?_; try clear hN2 hD2 N2
    refine WC_seqN (fun N5 hN5 hD5 => ?_)
    refine WC_seqR (fun N6 hN6 hD6 => ?_)
    simp only [sS, ↓sT, if_true, if_false, Nat.reduceLT, Nat.reduceEqDiff, ↓sO, ↓WOps_g, sG, opV, loudV, cellsOf, strOp, evL, Nat.reduceAdd, beq_self_eq_true, bne_self_eq_false, Int.reduceBEq, Int.reduceBNe, ti49, op_clean, op_len, op_cells, opCells, List.all_cons, List.all_nil, icell_int, icell_str, icell_bool, dropsW_isC, Bool.and_self, load_slice, load_int, load_str, load_bool, tag_load2, load15, int_load, List.drop_zero, Nat.le_refl, hb4, decide_true, decide_false]
    refine WOps_callP cR (by simp only [ev_func]) (by simp only [evL, sS, ↓sT, if_true, if_false, Nat.reduceLT, Nat.reduceEqDiff]; rfl) (by first | rfl | (simp only [List.map, op_bare]; done) | (simp only [List.map, op_bare]; exact rfl)) (by first | rfl | simp [op_noP]) (by first | rfl | simp [op_noP]) (by first | exact op_bare _ | rfl) ?_
    simp only [sS, ↓sT, if_true, if_false, Nat.reduceLT, Nat.reduceEqDiff, ↓sO, ↓WOps_g, sG, opV, loudV, cellsOf, strOp, evL, Nat.reduceAdd, beq_self_eq_true, bne_self_eq_false, Int.reduceBEq, Int.reduceBNe, ti49, op_clean, op_len, op_cells, opCells, List.all_cons, List.all_nil, icell_int, icell_str, icell_bool, dropsW_isC, Bool.and_self, load_slice, load_int, load_str, load_bool, tag_load2, load15, int_load, List.drop_zero, Nat.le_refl, hb4, decide_true, decide_false]
    refine hN6 _ ?_; try clear hN6 hD6 N6
    refine WC_condE ?_
    simp only [sS, ↓sT, if_true, if_false, Nat.reduceLT, Nat.reduceEqDiff, ↓stepC_bool, hb4, Int.reduceBEq, Int.reduceBNe, beq_self_eq_true, bne_self_eq_false]
    refine ⟨fun hb7 => ?_, fun hb7 => ?_⟩
    · refine WC_seqR (fun N8 hN8 hD8 => ?_)
      simp only [sS, ↓sT, if_true, if_false, Nat.reduceLT, Nat.reduceEqDiff, ↓sO, ↓WOps_g, sG, opV, loudV, cellsOf, strOp, evL, Nat.reduceAdd, beq_self_eq_true, bne_self_eq_false, Int.reduceBEq, Int.reduceBNe, op_clean, op_len, op_cells, opCells, List.all_cons, List.all_nil, icell_int, icell_str, icell_bool, dropsW_isC, Bool.and_self, load_slice, load_int, load_str, load_bool, tag_load2, load15, int_load, List.drop_zero, Nat.le_refl, hb4, hb7, decide_true, decide_false]
      refine hN8 _ ?_; try clear hN8 hD8 N8
      refine WC_ret ?_; (try simp only [Exit.after, Exit.out]); refine Kend_ret1 (by simp only [resOf, resL, resV, mkS_get, slots_get, cellsOf, op_load, List.getElem?_cons_zero, List.getElem?_cons_succ, List.drop_zero, ti49, sS, ↓sT, if_true, if_false, Nat.reduceLT, Nat.reduceEqDiff]; rfl) rfl (by first | rfl | (simp only [op_load, List.getElem?_cons_zero, List.getElem?_cons_succ, List.drop_zero, ti49]; done)) (by exact h.noP) ?_
      clear hN5 hD5 N5
      rw [hspec]; exact ⟨rfl, cs, by rw [h.keep (fun q hq => hq)], h, ha⟩
    · exact absurd hb7 (by simp)
end N
/-- Put, whatever the op -/
theorem put_any {Ls : List (List OpS)} {cs : List V} (h : PCt Ls cs) (ha : Apart cs) (o : OpS) (hL : o.dropsL.length ≤ 4611686018427387904) (hd : ∀ l ∈ Ls, ∀ o ∈ l, o.drops.l.length ≤ maxApp) (hB : ∀ l ∈ Ls, l.length ≤ 400) :
    VC Try.prog 30 [.ptr 0 0, opW o] [cs] (fun r hh => r = .int .i64 (putS Ls o).1 ∧ ∃ cs', hh = [cs'] ∧ PCt (putS Ls o).2 cs' ∧ Apart cs') := by
  cases hR : rightS o with
  | true => exact h__punnet_pool_Pool_Put Ls cs h ha o hR hL hd hB
  | false => exact N.h__punnet_pool_Pool_Put Ls cs h ha o hR hL
theorem op_bare1 (o : OpS) : [opW o].map V.bare1 = [opW o] := by
  have h := op_bare o
  simp only [List.map_cons, List.map_nil]
  exact congrArg (fun x => [x]) h
theorem put_any1 {Ls : List (List OpS)} {cs : List V} (h : PCt Ls cs) (ha : Apart cs) (o : OpS) (hL : o.dropsL.length ≤ 4611686018427387904) (hd : ∀ l ∈ Ls, ∀ o ∈ l, o.drops.l.length ≤ maxApp) (hB : ∀ l ∈ Ls, l.length ≤ 400) :
    VC Try.prog 30 (.ptr 0 0 :: [opW o].map V.bare1) [cs] (fun r hh => r = .int .i64 (putS Ls o).1 ∧ ∃ cs', hh = [cs'] ∧ PCt (putS Ls o).2 cs' ∧ Apart cs') := by
  rw [op_bare1]; exact put_any h ha o hL hd hB
/-! ## a pool that isn't there -/
theorem nil_find (r t : Int) : VC Try.prog 39 [.nilp, tagV r t] [] (fun q _ => q = .tup [opW opZ, .int .i64 1]) :=
  VC_closed (tab := tab) 400 4 mixed names tabOk rfl rfl rfl rfl (by kernel_rfl)
theorem nil_put (o : OpS) : VC Try.prog 30 [.nilp, opW o] [] (fun q _ => q = .int .i64 1) := by
  refine VC_closed (tab := tab) 400 4 mixed names tabOk (by simp only [List.all_cons, op_noP]; rfl) (by simp only [List.map_cons, op_bare]; rfl) rfl rfl ?_
  obtain ⟨a0, a1, a2, a3, a4, a5, a6, a7, a8, a9, b0, b1, b2, b3, ⟨l, v, h⟩⟩ := o
  rcases h with ⟨rfl, rfl⟩ | ⟨ex, rfl⟩
  · kernel_rfl
  · kernel_rfl
theorem nil_ops : VC Try.prog 32 [.nilp] [] (fun q _ => q = .nils) :=
  VC_closed (tab := tab) 400 4 mixed names tabOk rfl rfl rfl rfl (by kernel_rfl)
theorem nil_since (v : List Int) (hv : v.length = 6) (n : Int) : VC Try.prog 38 [.nilp, vecV v, .int .i64 n] [] (fun q _ => q = .nils) := by
  refine VC_closed (tab := tab) 400 4 mixed names tabOk (by simp only [List.all_cons, vec_noP]; rfl) (by simp only [List.map_cons, vec_bare]; rfl) rfl rfl ?_
  obtain ⟨a, b, c, d, e, f, rfl⟩ : ∃ a b c d e f, v = [a, b, c, d, e, f] := by
    match v, hv with
    | [a, b, c, d, e, f], _ => exact ⟨a, b, c, d, e, f, rfl⟩
  kernel_rfl
theorem nil_have : VC Try.prog 35 [.nilp] [] (fun q _ => q = vecV zeroV) :=
  VC_closed (tab := tab) 400 4 mixed names tabOk rfl rfl rfl rfl (by kernel_rfl)
theorem nil_len : VC Try.prog 31 [.nilp] [] (fun q _ => q = .int .i64 0) :=
  VC_closed (tab := tab) 400 6 mixed names tabOk rfl rfl rfl rfl (by kernel_rfl)
theorem nil_clock : VC Try.prog 45 [.nilp] [] (fun q _ => q = .int .i64 0) :=
  VC_closed (tab := tab) 400 6 mixed names tabOk rfl rfl rfl rfl (by kernel_rfl)
theorem nil_copy : VC Try.prog 42 [.nilp] [] (fun q _ => q = .nilp) :=
  VC_closed (tab := tab) 400 6 mixed names tabOk rfl rfl rfl rfl (by kernel_rfl)
/-- the copy of a new pool -/
theorem run_copy (A B C : List V) (n : Nat) : xCall Try.prog tab 400 6 42 [.ptr 3 0] [A, B, C, newC] [] n = some (.ptr 4 0, [A, B, C, newC, newC, zeroV.map (V.int .i64)], [], n) := by kernel_rfl
end Go.PV
/- punnetlaw26.PoolNil: the walk. -/
namespace Go.PV
open Go.Proofs
set_option linter.unusedVariables false
set_option linter.unusedSimpArgs false
set_option maxRecDepth 10000
set_option maxHeartbeats 1000000

theorem opZ_bare1 : (opW opZ).bare1 = opW opZ := rfl
theorem heavy_drops {o : OpS} (h : heavyB o = false) : o.dropsL.length ≤ 4611686018427387904 := by
  simp only [heavyB, Bool.or_eq_false_iff, decide_eq_false_iff_not] at h
  omega
theorem nilp_eql : binV Try.prog .eql 44 V.nilp.bare V.nilp = some (.bool true) := by kernel_rfl
theorem nilp_noP : V.nilp.noP = true := rfl
theorem sameZ : sameO opZ opZ = true := rfl
theorem have_zero : binV Try.prog .eql 23 (vecV zeroV) (vecV zeroV) = some (.bool true) := by rw [vec_eq rfl rfl]; rfl
theorem new_PC0 : PCt [[], [], [], [], [], []] newC := new_PCt (f := 0) (by decide)
theorem newC_facts : ∀ c ∈ newC, c.noP0 = true ∧ c.isCell = true := fun c hc => by
  simp only [newC, List.mem_cons, List.not_mem_nil, or_false] at hc
  rcases hc with rfl | rfl | rfl | rfl | rfl | rfl <;> exact ⟨rfl, rfl⟩
theorem new_lent {heap : List (List V)} {b : Nat} (hh : heap[b]? = some newC) : lentL heap [.ptr b 0] [.rptr (newC.map V.bareC)] :=
  ⟨.inr ⟨b, 0, newC, rfl, hh, rfl, fun c hc => by obtain ⟨l, _, hl⟩ := new_PC0.mem hc; exact hl.facts.2.2⟩, trivial⟩
theorem c_punnet_punnetlaw26_PoolNil (o : OpS) (v : List Int) (hv : v.length = 6) : VC Try.prog 10 [opW o, vecV v] [] (fun r _ => r = .bool true) := by
  refine VC_enter (nt := 79) (rs := [.tmp 4]) (ow := []) (m := 0) Try.func10 rfl (by rfl) rfl rfl (by simp) (by simp only [ownOf, List.flatMap_cons, List.flatMap_nil, op_toks, vec_toks, List.append_nil]) rfl (fun n => ?_)
  simp only [zipT, Nat.zero_add]
  try simp only [List.append_eq, List.cons_append, List.nil_append]
  refine WC_seqR (fun N1 hN1 hD1 => ?_)
  simp only [sS, ↓sT, if_true, if_false, Nat.reduceLT, Nat.reduceEqDiff, ↓sO, ↓WOps_g, sG, opV, loudV, cellsOf, strOp, evL, Nat.reduceAdd, beq_self_eq_true, bne_self_eq_false, Int.reduceBEq, Int.reduceBNe, nilp_eql, ti2, ti9, ti47, ti4, ti38, load15, opZ_bare1, wr15, vec_cells, all_ints, (vec_load hv), op_cells, op_isC, op_full, op_len, tag_load2, opCells, List.all_cons, List.all_nil, icell_int, icell_str, icell_bool, dropsW_isC, Bool.and_self, sameZ, have_zero, zero_vec, opZ_w, ti3, ti49, ti25, ti23, decide_true, decide_false]
  refine hN1 _ ?_; try clear hN1 hD1 N1
  refine WC_seqN (fun N2 hN2 hD2 => ?_)
  refine WC_seqR (fun N3 hN3 hD3 => ?_)
  refine WOps_callP x_awake26 (by simp only [ev_func]) (by simp only [evL, sS, ↓sT, if_true, if_false, Nat.reduceLT, Nat.reduceEqDiff]; rfl) (by first | rfl | (simp only [List.map, op_bare, vec_bare]; done) | (simp only [List.map, op_bare, vec_bare]; exact rfl)) (by first | rfl | simp [op_noP, vec_noP, nilp_noP, noP_int]) (by first | rfl | simp [op_noP, vec_noP, nilp_noP, noP_int]) (by first | exact op_bare _ | exact vec_bare _ | rfl) ?_
  simp only [sS, ↓sT, if_true, if_false, Nat.reduceLT, Nat.reduceEqDiff, ↓sO, ↓WOps_g, sG, opV, loudV, cellsOf, strOp, evL, Nat.reduceAdd, beq_self_eq_true, bne_self_eq_false, Int.reduceBEq, Int.reduceBNe, nilp_eql, ti2, ti9, ti47, ti4, ti38, load15, opZ_bare1, wr15, vec_cells, all_ints, (vec_load hv), op_cells, op_isC, op_full, op_len, tag_load2, opCells, List.all_cons, List.all_nil, icell_int, icell_str, icell_bool, dropsW_isC, Bool.and_self, sameZ, have_zero, zero_vec, opZ_w, ti3, ti49, ti25, ti23, decide_true, decide_false]
  refine hN3 _ ?_; try clear hN3 hD3 N3
  refine WC_condE ?_
  simp only [sS, ↓sT, if_true, if_false, Nat.reduceLT, Nat.reduceEqDiff, ↓stepC_bool]
  refine ⟨fun hb4 => ?_, fun hb4 => ?_⟩
  · refine WC_seqR (fun N5 hN5 hD5 => ?_)
    simp only [sS, ↓sT, if_true, if_false, Nat.reduceLT, Nat.reduceEqDiff, ↓sO, ↓WOps_g, sG, opV, loudV, cellsOf, strOp, evL, Nat.reduceAdd, beq_self_eq_true, bne_self_eq_false, Int.reduceBEq, Int.reduceBNe, nilp_eql, ti2, ti9, ti47, ti4, ti38, load15, opZ_bare1, wr15, vec_cells, all_ints, (vec_load hv), op_cells, op_isC, op_full, op_len, tag_load2, opCells, List.all_cons, List.all_nil, icell_int, icell_str, icell_bool, dropsW_isC, Bool.and_self, sameZ, have_zero, zero_vec, opZ_w, ti3, ti49, ti25, ti23, hb4, decide_true, decide_false]
    refine hN5 _ ?_; try clear hN5 hD5 N5
    refine WC_ret ?_; (try simp only [Exit.after, Exit.out]); refine Kend_ret (by simp only [resOf, resL, resV, mkS_get, slots_get, cellsOf, load_str, load_bool, load_int, load_slice, ti3, sS, ↓sT, if_true, if_false, Nat.reduceLT, Nat.reduceEqDiff]; rfl) (by first | rfl | (simp only [load_str, load_bool, load_int, load_slice, ti3]; done) | (simp only [load_str, load_bool, load_int, load_slice, ti3, okV, ok1, okC, okP, List.all_cons, List.all_nil, Bool.and_true]; done)) ?_
    clear hN2 hD2 N2
    first
    | rfl
    | (cases hb4; done)
    | (cases hb8; done)
  · refine WC_skip ?_
    refine hN2 _ ?_; try clear hN2 hD2 N2
    refine WC_seqN (fun N6 hN6 hD6 => ?_)
    refine WC_seqR (fun N7 hN7 hD7 => ?_)
    simp only [sS, ↓sT, if_true, if_false, Nat.reduceLT, Nat.reduceEqDiff, ↓sO, ↓WOps_g, sG, opV, loudV, cellsOf, strOp, evL, Nat.reduceAdd, beq_self_eq_true, bne_self_eq_false, Int.reduceBEq, Int.reduceBNe, ti49, nilp_eql, ti2, ti9, ti47, ti4, ti38, load15, opZ_bare1, wr15, vec_cells, all_ints, (vec_load hv), op_cells, op_isC, op_full, op_len, tag_load2, opCells, List.all_cons, List.all_nil, icell_int, icell_str, icell_bool, dropsW_isC, Bool.and_self, sameZ, have_zero, zero_vec, opZ_w, ti3, ti49, ti25, ti23, hb4, decide_true, decide_false]
    refine WOps_callP (c_punnet_punnetref20_Heavy o) (by simp only [ev_func]) (by simp only [evL, sS, ↓sT, if_true, if_false, Nat.reduceLT, Nat.reduceEqDiff]; rfl) (by first | rfl | (simp only [List.map, op_bare, vec_bare]; done) | (simp only [List.map, op_bare, vec_bare]; exact rfl)) (by first | rfl | simp [op_noP, vec_noP, nilp_noP, noP_int]) (by first | rfl | simp [op_noP, vec_noP, nilp_noP, noP_int]) (by first | exact op_bare _ | exact vec_bare _ | rfl) ?_
    simp only [sS, ↓sT, if_true, if_false, Nat.reduceLT, Nat.reduceEqDiff, ↓sO, ↓WOps_g, sG, opV, loudV, cellsOf, strOp, evL, Nat.reduceAdd, beq_self_eq_true, bne_self_eq_false, Int.reduceBEq, Int.reduceBNe, ti49, nilp_eql, ti2, ti9, ti47, ti4, ti38, load15, opZ_bare1, wr15, vec_cells, all_ints, (vec_load hv), op_cells, op_isC, op_full, op_len, tag_load2, opCells, List.all_cons, List.all_nil, icell_int, icell_str, icell_bool, dropsW_isC, Bool.and_self, sameZ, have_zero, zero_vec, opZ_w, ti3, ti49, ti25, ti23, hb4, decide_true, decide_false]
    refine hN7 _ ?_; try clear hN7 hD7 N7
    refine WC_condE ?_
    simp only [sS, ↓sT, if_true, if_false, Nat.reduceLT, Nat.reduceEqDiff, ↓stepC_bool, hb4, Int.reduceBEq, Int.reduceBNe, beq_self_eq_true, bne_self_eq_false]
    refine ⟨fun hb8 => ?_, fun hb8 => ?_⟩
    · refine WC_seqR (fun N9 hN9 hD9 => ?_)
      simp only [sS, ↓sT, if_true, if_false, Nat.reduceLT, Nat.reduceEqDiff, ↓sO, ↓WOps_g, sG, opV, loudV, cellsOf, strOp, evL, Nat.reduceAdd, beq_self_eq_true, bne_self_eq_false, Int.reduceBEq, Int.reduceBNe, nilp_eql, ti2, ti9, ti47, ti4, ti38, load15, opZ_bare1, wr15, vec_cells, all_ints, (vec_load hv), op_cells, op_isC, op_full, op_len, tag_load2, opCells, List.all_cons, List.all_nil, icell_int, icell_str, icell_bool, dropsW_isC, Bool.and_self, sameZ, have_zero, zero_vec, opZ_w, ti3, ti49, ti25, ti23, hb4, hb8, decide_true, decide_false]
      refine hN9 _ ?_; try clear hN9 hD9 N9
      refine WC_ret ?_; (try simp only [Exit.after, Exit.out]); refine Kend_ret (by simp only [resOf, resL, resV, mkS_get, slots_get, cellsOf, load_str, load_bool, load_int, load_slice, ti3, sS, ↓sT, if_true, if_false, Nat.reduceLT, Nat.reduceEqDiff]; rfl) (by first | rfl | (simp only [load_str, load_bool, load_int, load_slice, ti3]; done) | (simp only [load_str, load_bool, load_int, load_slice, ti3, okV, ok1, okC, okP, List.all_cons, List.all_nil, Bool.and_true]; done)) ?_
      clear hN6 hD6 N6
      first
      | rfl
      | (cases hb4; done)
      | (cases hb8; done)
    · refine WC_skip ?_
      refine hN6 _ ?_; try clear hN6 hD6 N6
      refine WC_seqR (fun N10 hN10 hD10 => ?_)
      simp only [sS, ↓sT, if_true, if_false, Nat.reduceLT, Nat.reduceEqDiff, ↓sO, ↓WOps_g, sG, opV, loudV, cellsOf, strOp, evL, Nat.reduceAdd, beq_self_eq_true, bne_self_eq_false, Int.reduceBEq, Int.reduceBNe, nilp_eql, ti2, ti9, ti47, ti4, ti38, load15, opZ_bare1, wr15, vec_cells, all_ints, (vec_load hv), op_cells, op_isC, op_full, op_len, tag_load2, opCells, List.all_cons, List.all_nil, icell_int, icell_str, icell_bool, dropsW_isC, Bool.and_self, sameZ, have_zero, zero_vec, opZ_w, ti3, ti49, ti25, ti23, hb4, hb8, decide_true, decide_false]
      refine hN10 _ ?_; try clear hN10 hD10 N10
      refine WC_seqR (fun N11 hN11 hD11 => ?_)
      simp only [sS, ↓sT, if_true, if_false, Nat.reduceLT, Nat.reduceEqDiff, ↓sO, ↓WOps_g, sG, opV, loudV, cellsOf, strOp, evL, Nat.reduceAdd, beq_self_eq_true, bne_self_eq_false, Int.reduceBEq, Int.reduceBNe, fa49_0, fr49_0, fv49_0, ti25, ti49, nilp_eql, ti2, ti9, ti47, ti4, ti38, load15, opZ_bare1, wr15, vec_cells, all_ints, (vec_load hv), op_cells, op_isC, op_full, op_len, tag_load2, opCells, List.all_cons, List.all_nil, icell_int, icell_str, icell_bool, dropsW_isC, Bool.and_self, sameZ, have_zero, zero_vec, opZ_w, ti3, ti49, ti25, ti23, hb4, hb8, decide_true, decide_false]
      refine WOps_callP (nil_find o.idR o.idN) (by simp only [ev_func]) (by simp only [evL, sS, ↓sT, if_true, if_false, Nat.reduceLT, Nat.reduceEqDiff]; rfl) (by first | rfl | (simp only [List.map, op_bare, vec_bare]; done) | (simp only [List.map, op_bare, vec_bare]; exact rfl)) (by first | rfl | simp [op_noP, vec_noP, nilp_noP, noP_int]) (by first | rfl | simp [op_noP, vec_noP, nilp_noP, noP_int]) (by first | exact op_bare _ | exact vec_bare _ | rfl) ?_
      simp only [sS, ↓sT, if_true, if_false, Nat.reduceLT, Nat.reduceEqDiff, ↓sO, ↓WOps_g, sG, opV, loudV, cellsOf, strOp, evL, Nat.reduceAdd, beq_self_eq_true, bne_self_eq_false, Int.reduceBEq, Int.reduceBNe, fa49_0, fr49_0, fv49_0, ti25, ti49, nilp_eql, ti2, ti9, ti47, ti4, ti38, load15, opZ_bare1, wr15, vec_cells, all_ints, (vec_load hv), op_cells, op_isC, op_full, op_len, tag_load2, opCells, List.all_cons, List.all_nil, icell_int, icell_str, icell_bool, dropsW_isC, Bool.and_self, sameZ, have_zero, zero_vec, opZ_w, ti3, ti49, ti25, ti23, hb4, hb8, decide_true, decide_false]
      refine hN11 _ ?_; try clear hN11 hD11 N11
      refine WC_seqR (fun N12 hN12 hD12 => ?_)
      refine WOps_callN c_new (by simp only [ev_func]) (by first | (simp only [evL, sS, ↓sT, if_true, if_false, Nat.reduceLT, Nat.reduceEqDiff]; done) | (simp only [evL, sS, ↓sT, if_true, if_false, Nat.reduceLT, Nat.reduceEqDiff]; rfl)) (fun c hc => (newC_facts c hc).1) new_toks ?_
      intro n' hnn
      simp only [sS, ↓sT, if_true, if_false, Nat.reduceLT, Nat.reduceEqDiff, ↓sO, ↓WOps_g, sG, opV, loudV, cellsOf, strOp, evL, Nat.reduceAdd, beq_self_eq_true, bne_self_eq_false, Int.reduceBEq, Int.reduceBNe, nilp_eql, ti2, ti9, ti47, ti4, ti38, load15, opZ_bare1, wr15, vec_cells, all_ints, (vec_load hv), op_cells, op_isC, op_full, op_len, tag_load2, opCells, List.all_cons, List.all_nil, icell_int, icell_str, icell_bool, dropsW_isC, Bool.and_self, sameZ, have_zero, zero_vec, opZ_w, ti3, ti49, ti25, ti23, hb4, hb8, decide_true, decide_false]
      refine hN12 _ ?_; try clear hN12 hD12 N12
      refine WC_seqR (fun N13 hN13 hD13 => ?_)
      simp only [sS, ↓sT, if_true, if_false, Nat.reduceLT, Nat.reduceEqDiff, ↓sO, ↓WOps_g, sG, opV, loudV, cellsOf, strOp, evL, Nat.reduceAdd, beq_self_eq_true, bne_self_eq_false, Int.reduceBEq, Int.reduceBNe, nilp_eql, ti2, ti9, ti47, ti4, ti38, load15, opZ_bare1, wr15, vec_cells, all_ints, (vec_load hv), op_cells, op_isC, op_full, op_len, tag_load2, opCells, List.all_cons, List.all_nil, icell_int, icell_str, icell_bool, dropsW_isC, Bool.and_self, sameZ, have_zero, zero_vec, opZ_w, ti3, ti49, ti25, ti23, hb4, hb8, decide_true, decide_false]
      refine WOps_callE (fid := 42) 400 6 (by simp only [ev_func]) (by first | (simp only [evL, sS, ↓sT, if_true, if_false, Nat.reduceLT, Nat.reduceEqDiff]; done) | (simp only [evL, sS, ↓sT, if_true, if_false, Nat.reduceLT, Nat.reduceEqDiff]; rfl)) (run_copy _ _ _ n') ?_
      simp only [sS, ↓sT, if_true, if_false, Nat.reduceLT, Nat.reduceEqDiff, ↓sO, ↓WOps_g, sG, opV, loudV, cellsOf, strOp, evL, Nat.reduceAdd, beq_self_eq_true, bne_self_eq_false, Int.reduceBEq, Int.reduceBNe, nilp_eql, ti2, ti9, ti47, ti4, ti38, load15, opZ_bare1, wr15, vec_cells, all_ints, (vec_load hv), op_cells, op_isC, op_full, op_len, tag_load2, opCells, List.all_cons, List.all_nil, icell_int, icell_str, icell_bool, dropsW_isC, Bool.and_self, sameZ, have_zero, zero_vec, opZ_w, ti3, ti49, ti25, ti23, hb4, hb8, decide_true, decide_false]
      refine hN13 _ ?_; try clear hN13 hD13 N13
      refine WC_seqR (fun N14 hN14 hD14 => ?_)
      simp only [sS, ↓sT, if_true, if_false, Nat.reduceLT, Nat.reduceEqDiff, ↓sO, ↓WOps_g, sG, opV, loudV, cellsOf, strOp, evL, Nat.reduceAdd, beq_self_eq_true, bne_self_eq_false, Int.reduceBEq, Int.reduceBNe, ti49, nilp_eql, ti2, ti9, ti47, ti4, ti38, load15, opZ_bare1, wr15, vec_cells, all_ints, (vec_load hv), op_cells, op_isC, op_full, op_len, tag_load2, opCells, List.all_cons, List.all_nil, icell_int, icell_str, icell_bool, dropsW_isC, Bool.and_self, sameZ, have_zero, zero_vec, opZ_w, ti3, ti49, ti25, ti23, hb4, hb8, decide_true, decide_false]
      refine WOps_callH (fid := 30) (b := 4) (o := 0) (ys := [opW o]) (cs := newC) (put_any1 new_PC0 new_apart o (heavy_drops hb8) (fun l hl o ho => by simp only [List.mem_cons, List.not_mem_nil, or_false] at hl; rcases hl with rfl | rfl | rfl | rfl | rfl | rfl <;> cases ho) (fun l hl => by simp only [List.mem_cons, List.not_mem_nil, or_false] at hl; rcases hl with rfl | rfl | rfl | rfl | rfl | rfl <;> exact Nat.zero_le _)) (by simp only [ev_func]) (by first | (simp only [evL, sS, ↓sT, if_true, if_false, Nat.reduceLT, Nat.reduceEqDiff]; done) | (simp only [evL, sS, ↓sT, if_true, if_false, Nat.reduceLT, Nat.reduceEqDiff]; rfl)) rfl (by intro y hy; obtain rfl := List.mem_singleton.1 hy; exact op_noP _) newC_facts (fun q hq => by rw [new_toks] at hq; cases hq) ?_
      rintro _ _ n2 ⟨rfl, cs', rfl, hP', hA'⟩ hnn2
      refine ⟨cs', rfl, hP'.noP, rfl, ?_⟩
      simp only [List.set_cons_zero, List.set_cons_succ]
      generalize ownAfter _ _ _ = ow'
      generalize (putS [[], [], [], [], [], []] o).1 = c'
      simp only [sS, ↓sT, if_true, if_false, Nat.reduceLT, Nat.reduceEqDiff, ↓sO, ↓WOps_g, sG, opV, loudV, cellsOf, strOp, evL, Nat.reduceAdd, beq_self_eq_true, bne_self_eq_false, Int.reduceBEq, Int.reduceBNe, ti49, nilp_eql, ti2, ti9, ti47, ti4, ti38, load15, opZ_bare1, wr15, vec_cells, all_ints, (vec_load hv), op_cells, op_isC, op_full, op_len, tag_load2, opCells, List.all_cons, List.all_nil, icell_int, icell_str, icell_bool, dropsW_isC, Bool.and_self, sameZ, have_zero, zero_vec, opZ_w, ti3, ti49, ti25, ti23, hb4, hb8, decide_true, decide_false]
      refine hN14 _ ?_; try clear hN14 hD14 N14
      refine WC_seqR (fun N15 hN15 hD15 => ?_)
      simp only [sS, ↓sT, if_true, if_false, Nat.reduceLT, Nat.reduceEqDiff, ↓sO, ↓WOps_g, sG, opV, loudV, cellsOf, strOp, evL, Nat.reduceAdd, beq_self_eq_true, bne_self_eq_false, Int.reduceBEq, Int.reduceBNe, ti49, buildV, evParts, V.isCell, List.all_cons, List.all_nil, Bool.and_self, if_true, placesOf, fillV, List.getElem?_cons_zero, List.getElem?_cons_succ, List.length_cons, List.length_nil, Nat.zero_add, Nat.reduceAdd, ne_eq, not_true_eq_false, false_or, gt_iff_lt, Nat.reduceLT, if_false, wrL, Option.map_some, List.set_cons_zero, List.set_cons_succ, lenV, ti52, ti23, nilp_eql, ti2, ti9, ti47, ti4, ti38, load15, opZ_bare1, wr15, vec_cells, all_ints, (vec_load hv), op_cells, op_isC, op_full, op_len, tag_load2, opCells, List.all_cons, List.all_nil, icell_int, icell_str, icell_bool, dropsW_isC, Bool.and_self, sameZ, have_zero, zero_vec, opZ_w, ti3, ti49, ti25, ti23, hb4, hb8, decide_true, decide_false]
      refine WOps_callP (nil_put o) (by simp only [ev_func]) (by simp only [evL, sS, ↓sT, if_true, if_false, Nat.reduceLT, Nat.reduceEqDiff]; rfl) (by first | rfl | (simp only [List.map, op_bare, vec_bare]; done) | (simp only [List.map, op_bare, vec_bare]; exact rfl)) (by first | rfl | simp [op_noP, vec_noP, nilp_noP, noP_int]) (by first | rfl | simp [op_noP, vec_noP, nilp_noP, noP_int]) (by first | exact op_bare _ | exact vec_bare _ | rfl) ?_
      simp only [sS, ↓sT, if_true, if_false, Nat.reduceLT, Nat.reduceEqDiff, ↓sO, ↓WOps_g, sG, opV, loudV, cellsOf, strOp, evL, Nat.reduceAdd, beq_self_eq_true, bne_self_eq_false, Int.reduceBEq, Int.reduceBNe, ti49, buildV, evParts, V.isCell, List.all_cons, List.all_nil, Bool.and_self, if_true, placesOf, fillV, List.getElem?_cons_zero, List.getElem?_cons_succ, List.length_cons, List.length_nil, Nat.zero_add, Nat.reduceAdd, ne_eq, not_true_eq_false, false_or, gt_iff_lt, Nat.reduceLT, if_false, wrL, Option.map_some, List.set_cons_zero, List.set_cons_succ, lenV, ti52, ti23, nilp_eql, ti2, ti9, ti47, ti4, ti38, load15, opZ_bare1, wr15, vec_cells, all_ints, (vec_load hv), op_cells, op_isC, op_full, op_len, tag_load2, opCells, List.all_cons, List.all_nil, icell_int, icell_str, icell_bool, dropsW_isC, Bool.and_self, sameZ, have_zero, zero_vec, opZ_w, ti3, ti49, ti25, ti23, hb4, hb8, decide_true, decide_false]
      refine WOps_callP (c_punnet_punnetref20_Same opZ opZ (by decide)) (by simp only [ev_func]) (by simp only [evL, sS, ↓sT, if_true, if_false, Nat.reduceLT, Nat.reduceEqDiff]; rfl) (by first | rfl | (simp only [List.map, op_bare, vec_bare]; done) | (simp only [List.map, op_bare, vec_bare]; exact rfl)) (by first | rfl | simp [op_noP, vec_noP, nilp_noP, noP_int]) (by first | rfl | simp [op_noP, vec_noP, nilp_noP, noP_int]) (by first | exact op_bare _ | exact vec_bare _ | rfl) ?_
      simp only [sS, ↓sT, if_true, if_false, Nat.reduceLT, Nat.reduceEqDiff, ↓sO, ↓WOps_g, sG, opV, loudV, cellsOf, strOp, evL, Nat.reduceAdd, beq_self_eq_true, bne_self_eq_false, Int.reduceBEq, Int.reduceBNe, ti49, buildV, evParts, V.isCell, List.all_cons, List.all_nil, Bool.and_self, if_true, placesOf, fillV, List.getElem?_cons_zero, List.getElem?_cons_succ, List.length_cons, List.length_nil, Nat.zero_add, Nat.reduceAdd, ne_eq, not_true_eq_false, false_or, gt_iff_lt, Nat.reduceLT, if_false, wrL, Option.map_some, List.set_cons_zero, List.set_cons_succ, lenV, ti52, ti23, nilp_eql, ti2, ti9, ti47, ti4, ti38, load15, opZ_bare1, wr15, vec_cells, all_ints, (vec_load hv), op_cells, op_isC, op_full, op_len, tag_load2, opCells, List.all_cons, List.all_nil, icell_int, icell_str, icell_bool, dropsW_isC, Bool.and_self, sameZ, have_zero, zero_vec, opZ_w, ti3, ti49, ti25, ti23, hb4, hb8, decide_true, decide_false]
      refine WOps_callP nil_ops (by simp only [ev_func]) (by simp only [evL, sS, ↓sT, if_true, if_false, Nat.reduceLT, Nat.reduceEqDiff]; rfl) (by first | rfl | (simp only [List.map, op_bare, vec_bare]; done) | (simp only [List.map, op_bare, vec_bare]; exact rfl)) (by first | rfl | simp [op_noP, vec_noP, nilp_noP, noP_int]) (by first | rfl | simp [op_noP, vec_noP, nilp_noP, noP_int]) (by first | exact op_bare _ | exact vec_bare _ | rfl) ?_
      simp only [sS, ↓sT, if_true, if_false, Nat.reduceLT, Nat.reduceEqDiff, ↓sO, ↓WOps_g, sG, opV, loudV, cellsOf, strOp, evL, Nat.reduceAdd, beq_self_eq_true, bne_self_eq_false, Int.reduceBEq, Int.reduceBNe, ti49, buildV, evParts, V.isCell, List.all_cons, List.all_nil, Bool.and_self, if_true, placesOf, fillV, List.getElem?_cons_zero, List.getElem?_cons_succ, List.length_cons, List.length_nil, Nat.zero_add, Nat.reduceAdd, ne_eq, not_true_eq_false, false_or, gt_iff_lt, Nat.reduceLT, if_false, wrL, Option.map_some, List.set_cons_zero, List.set_cons_succ, lenV, ti52, ti23, nilp_eql, ti2, ti9, ti47, ti4, ti38, load15, opZ_bare1, wr15, vec_cells, all_ints, (vec_load hv), op_cells, op_isC, op_full, op_len, tag_load2, opCells, List.all_cons, List.all_nil, icell_int, icell_str, icell_bool, dropsW_isC, Bool.and_self, sameZ, have_zero, zero_vec, opZ_w, ti3, ti49, ti25, ti23, hb4, hb8, decide_true, decide_false]
      refine WOps_callP (nil_since v hv 9) (by simp only [ev_func]) (by simp only [evL, sS, ↓sT, if_true, if_false, Nat.reduceLT, Nat.reduceEqDiff]; rfl) (by first | rfl | (simp only [List.map, op_bare, vec_bare]; done) | (simp only [List.map, op_bare, vec_bare]; exact rfl)) (by first | rfl | simp [op_noP, vec_noP, nilp_noP, noP_int]) (by first | rfl | simp [op_noP, vec_noP, nilp_noP, noP_int]) (by first | exact op_bare _ | exact vec_bare _ | rfl) ?_
      simp only [sS, ↓sT, if_true, if_false, Nat.reduceLT, Nat.reduceEqDiff, ↓sO, ↓WOps_g, sG, opV, loudV, cellsOf, strOp, evL, Nat.reduceAdd, beq_self_eq_true, bne_self_eq_false, Int.reduceBEq, Int.reduceBNe, ti49, buildV, evParts, V.isCell, List.all_cons, List.all_nil, Bool.and_self, if_true, placesOf, fillV, List.getElem?_cons_zero, List.getElem?_cons_succ, List.length_cons, List.length_nil, Nat.zero_add, Nat.reduceAdd, ne_eq, not_true_eq_false, false_or, gt_iff_lt, Nat.reduceLT, if_false, wrL, Option.map_some, List.set_cons_zero, List.set_cons_succ, lenV, ti52, ti23, nilp_eql, ti2, ti9, ti47, ti4, ti38, load15, opZ_bare1, wr15, vec_cells, all_ints, (vec_load hv), op_cells, op_isC, op_full, op_len, tag_load2, opCells, List.all_cons, List.all_nil, icell_int, icell_str, icell_bool, dropsW_isC, Bool.and_self, sameZ, have_zero, zero_vec, opZ_w, ti3, ti49, ti25, ti23, hb4, hb8, decide_true, decide_false]
      refine WOps_callP nil_have (by simp only [ev_func]) (by simp only [evL, sS, ↓sT, if_true, if_false, Nat.reduceLT, Nat.reduceEqDiff]; rfl) (by first | rfl | (simp only [List.map, op_bare, vec_bare]; done) | (simp only [List.map, op_bare, vec_bare]; exact rfl)) (by first | rfl | simp [op_noP, vec_noP, nilp_noP, noP_int]) (by first | rfl | simp [op_noP, vec_noP, nilp_noP, noP_int]) (by first | exact op_bare _ | exact vec_bare _ | rfl) ?_
      simp only [sS, ↓sT, if_true, if_false, Nat.reduceLT, Nat.reduceEqDiff, ↓sO, ↓WOps_g, sG, opV, loudV, cellsOf, strOp, evL, Nat.reduceAdd, beq_self_eq_true, bne_self_eq_false, Int.reduceBEq, Int.reduceBNe, ti49, buildV, evParts, V.isCell, List.all_cons, List.all_nil, Bool.and_self, if_true, placesOf, fillV, List.getElem?_cons_zero, List.getElem?_cons_succ, List.length_cons, List.length_nil, Nat.zero_add, Nat.reduceAdd, ne_eq, not_true_eq_false, false_or, gt_iff_lt, Nat.reduceLT, if_false, wrL, Option.map_some, List.set_cons_zero, List.set_cons_succ, lenV, ti52, ti23, nilp_eql, ti2, ti9, ti47, ti4, ti38, load15, opZ_bare1, wr15, vec_cells, all_ints, (vec_load hv), op_cells, op_isC, op_full, op_len, tag_load2, opCells, List.all_cons, List.all_nil, icell_int, icell_str, icell_bool, dropsW_isC, Bool.and_self, sameZ, have_zero, zero_vec, opZ_w, ti3, ti49, ti25, ti23, hb4, hb8, decide_true, decide_false]
      refine WOps_callP nil_len (by simp only [ev_func]) (by simp only [evL, sS, ↓sT, if_true, if_false, Nat.reduceLT, Nat.reduceEqDiff]; rfl) (by first | rfl | (simp only [List.map, op_bare, vec_bare]; done) | (simp only [List.map, op_bare, vec_bare]; exact rfl)) (by first | rfl | simp [op_noP, vec_noP, nilp_noP, noP_int]) (by first | rfl | simp [op_noP, vec_noP, nilp_noP, noP_int]) (by first | exact op_bare _ | exact vec_bare _ | rfl) ?_
      simp only [sS, ↓sT, if_true, if_false, Nat.reduceLT, Nat.reduceEqDiff, ↓sO, ↓WOps_g, sG, opV, loudV, cellsOf, strOp, evL, Nat.reduceAdd, beq_self_eq_true, bne_self_eq_false, Int.reduceBEq, Int.reduceBNe, ti49, buildV, evParts, V.isCell, List.all_cons, List.all_nil, Bool.and_self, if_true, placesOf, fillV, List.getElem?_cons_zero, List.getElem?_cons_succ, List.length_cons, List.length_nil, Nat.zero_add, Nat.reduceAdd, ne_eq, not_true_eq_false, false_or, gt_iff_lt, Nat.reduceLT, if_false, wrL, Option.map_some, List.set_cons_zero, List.set_cons_succ, lenV, ti52, ti23, nilp_eql, ti2, ti9, ti47, ti4, ti38, load15, opZ_bare1, wr15, vec_cells, all_ints, (vec_load hv), op_cells, op_isC, op_full, op_len, tag_load2, opCells, List.all_cons, List.all_nil, icell_int, icell_str, icell_bool, dropsW_isC, Bool.and_self, sameZ, have_zero, zero_vec, opZ_w, ti3, ti49, ti25, ti23, hb4, hb8, decide_true, decide_false]
      refine WOps_callP nil_clock (by simp only [ev_func]) (by simp only [evL, sS, ↓sT, if_true, if_false, Nat.reduceLT, Nat.reduceEqDiff]; rfl) (by first | rfl | (simp only [List.map, op_bare, vec_bare]; done) | (simp only [List.map, op_bare, vec_bare]; exact rfl)) (by first | rfl | simp [op_noP, vec_noP, nilp_noP, noP_int]) (by first | rfl | simp [op_noP, vec_noP, nilp_noP, noP_int]) (by first | exact op_bare _ | exact vec_bare _ | rfl) ?_
      simp only [sS, ↓sT, if_true, if_false, Nat.reduceLT, Nat.reduceEqDiff, ↓sO, ↓WOps_g, sG, opV, loudV, cellsOf, strOp, evL, Nat.reduceAdd, beq_self_eq_true, bne_self_eq_false, Int.reduceBEq, Int.reduceBNe, ti49, buildV, evParts, V.isCell, List.all_cons, List.all_nil, Bool.and_self, if_true, placesOf, fillV, List.getElem?_cons_zero, List.getElem?_cons_succ, List.length_cons, List.length_nil, Nat.zero_add, Nat.reduceAdd, ne_eq, not_true_eq_false, false_or, gt_iff_lt, Nat.reduceLT, if_false, wrL, Option.map_some, List.set_cons_zero, List.set_cons_succ, lenV, ti52, ti23, nilp_eql, ti2, ti9, ti47, ti4, ti38, load15, opZ_bare1, wr15, vec_cells, all_ints, (vec_load hv), op_cells, op_isC, op_full, op_len, tag_load2, opCells, List.all_cons, List.all_nil, icell_int, icell_str, icell_bool, dropsW_isC, Bool.and_self, sameZ, have_zero, zero_vec, opZ_w, ti3, ti49, ti25, ti23, hb4, hb8, decide_true, decide_false]
      refine WOps_callP nil_copy (by simp only [ev_func]) (by simp only [evL, sS, ↓sT, if_true, if_false, Nat.reduceLT, Nat.reduceEqDiff]; rfl) (by first | rfl | (simp only [List.map, op_bare, vec_bare]; done) | (simp only [List.map, op_bare, vec_bare]; exact rfl)) (by first | rfl | simp [op_noP, vec_noP, nilp_noP, noP_int]) (by first | rfl | simp [op_noP, vec_noP, nilp_noP, noP_int]) (by first | exact op_bare _ | exact vec_bare _ | rfl) ?_
      simp only [sS, ↓sT, if_true, if_false, Nat.reduceLT, Nat.reduceEqDiff, ↓sO, ↓WOps_g, sG, opV, loudV, cellsOf, strOp, evL, Nat.reduceAdd, beq_self_eq_true, bne_self_eq_false, Int.reduceBEq, Int.reduceBNe, ti49, buildV, evParts, V.isCell, List.all_cons, List.all_nil, Bool.and_self, if_true, placesOf, fillV, List.getElem?_cons_zero, List.getElem?_cons_succ, List.length_cons, List.length_nil, Nat.zero_add, Nat.reduceAdd, ne_eq, not_true_eq_false, false_or, gt_iff_lt, Nat.reduceLT, if_false, wrL, Option.map_some, List.set_cons_zero, List.set_cons_succ, lenV, ti52, ti23, nilp_eql, ti2, ti9, ti47, ti4, ti38, load15, opZ_bare1, wr15, vec_cells, all_ints, (vec_load hv), op_cells, op_isC, op_full, op_len, tag_load2, opCells, List.all_cons, List.all_nil, icell_int, icell_str, icell_bool, dropsW_isC, Bool.and_self, sameZ, have_zero, zero_vec, opZ_w, ti3, ti49, ti25, ti23, hb4, hb8, decide_true, decide_false]
      refine WOps_callL (c__punnet_pool_Pool_Len [[], [], [], [], [], []] (newC.map V.bareC) new_PC0.bare) (by simp only [ev_func]) (by first | (simp only [evL, sS, ↓sT, if_true, if_false, Nat.reduceLT, Nat.reduceEqDiff]; done) | (simp only [evL, sS, ↓sT, if_true, if_false, Nat.reduceLT, Nat.reduceEqDiff]; rfl)) (new_lent (b := 3) rfl) (by first | rfl | exact rfl) ?_
      simp only [sS, ↓sT, if_true, if_false, Nat.reduceLT, Nat.reduceEqDiff, ↓sO, ↓WOps_g, sG, opV, loudV, cellsOf, strOp, evL, Nat.reduceAdd, beq_self_eq_true, bne_self_eq_false, Int.reduceBEq, Int.reduceBNe, ti49, buildV, evParts, V.isCell, List.all_cons, List.all_nil, Bool.and_self, if_true, placesOf, fillV, List.getElem?_cons_zero, List.getElem?_cons_succ, List.length_cons, List.length_nil, Nat.zero_add, Nat.reduceAdd, ne_eq, not_true_eq_false, false_or, gt_iff_lt, Nat.reduceLT, if_false, wrL, Option.map_some, List.set_cons_zero, List.set_cons_succ, lenV, ti52, ti23, nilp_eql, ti2, ti9, ti47, ti4, ti38, load15, opZ_bare1, wr15, vec_cells, all_ints, (vec_load hv), op_cells, op_isC, op_full, op_len, tag_load2, opCells, List.all_cons, List.all_nil, icell_int, icell_str, icell_bool, dropsW_isC, Bool.and_self, sameZ, have_zero, zero_vec, opZ_w, ti3, ti49, ti25, ti23, hb4, hb8, decide_true, decide_false]
      refine hN15 _ ?_; try clear hN15 hD15 N15
      refine WC_ret ?_; (try simp only [Exit.after, Exit.out]); refine Kend_ret (by simp only [resOf, resL, resV, mkS_get, slots_get, cellsOf, load_str, load_bool, load_int, load_slice, ti3, sS, ↓sT, if_true, if_false, Nat.reduceLT, Nat.reduceEqDiff]; rfl) (by first | rfl | (simp only [load_str, load_bool, load_int, load_slice, ti3]; done) | (simp only [load_str, load_bool, load_int, load_slice, ti3, okV, ok1, okC, okP, List.all_cons, List.all_nil, Bool.and_true]; done)) ?_
      first
      | rfl
      | (cases hb4; done)
      | (cases hb8; done)
end Go.PV
/- Arguments: ops, tags, vectors. -/
namespace Go.PV
open Go.Proofs
section
variable {H : Type} {enc : TypeId × Value → H} {W : World}
theorem so_int : ShC enc Try.prog W 3 (fun n : Int => [V.int .i64 n]) (fun n => (Lit.int .i64 n).wf = true) := ShC.int Try.underlying3
theorem so_int64 : ShC enc Try.prog W 2 (fun n : Int => [V.int .i64 n]) (fun n => (Lit.int .i64 n).wf = true) := ShC.int Try.underlying2
theorem so_bool : ShC enc Try.prog W 4 (fun b : Bool => [V.bool b]) (fun _ => True) := ShC.bool Try.underlying4
theorem so_str : ShC enc Try.prog W 9 (fun s : List UInt8 => [V.str s]) (fun s => s.length ≤ maxLen) := ShC.str Try.underlying9
theorem so_tag : ShC enc Try.prog W 25 (fun q : Int × Int => [V.int .i64 q.1, V.int .i64 q.2]) (fun _ => True) :=
  (ShC.struct (sz := 2) Try.underlying25 (by kernel_rfl) (ShF.cons (o := 0) (c := 1) (sz := 1) so_int rfl (by kernel_rfl) (ShF.cons (o := 1) (c := 1) (sz := 0) so_int rfl (by kernel_rfl) (ShF.nil 2)))).map
    (fun q => (q.1, q.2.1)) fun q _ => ⟨rfl, trivial⟩
theorem fl_int : Flat enc Try.prog W 3 := Flat.int Try.underlying3
theorem fl_tag : Flat enc Try.prog W 25 :=
  Flat.struct (sz := 2) Try.underlying25 (by kernel_rfl) (FlF.cons (o := 0) (c := 1) (sz := 1) fl_int rfl (by kernel_rfl) (FlF.cons (o := 1) (c := 1) (sz := 0) fl_int rfl (by kernel_rfl) (FlF.nil 2)))
theorem so_vec : ShC enc Try.prog W 23 (fun v : List Int => v.map (V.int .i64)) (fun v => v.length = 6) :=
  (ShC.arr so_int Try.underlying23 (by kernel_rfl)).map (fun v => v) fun v hv => ⟨by
    clear hv
    induction v with
    | nil => rfl
    | cons x v ih => simp only [List.flatMap_cons, List.map_cons, ih]; rfl, hv.1⟩
def drOf : Option (List (Int × Int)) → Dr
  | none => Dr.nil
  | some l => ⟨l, .slice 2 (l.map tagE) false none, .inr ⟨false, rfl⟩⟩
theorem so_tags : ShC enc Try.prog W 38 (fun q : Dr => [dropsW q]) (fun q => q.l.length ≤ maxLen) :=
  (ShC.slice so_tag fl_tag (sz := 2) Try.underlying38 (by kernel_rfl) (by decide) tagE fun q _ => ⟨rfl, rfl, rfl⟩).map drOf fun q hq => by
    cases q with
    | none => exact ⟨rfl, by simp [drOf, Dr.nil]⟩
    | some l => exact ⟨rfl, (hq l rfl).1⟩
theorem so_ref : ShC enc Try.prog W 47 (fun q : Int × List UInt8 × List UInt8 × Unit => [V.int .i64 q.1] ++ ([V.str q.2.1] ++ ([V.str q.2.2.1] ++ []))) (fun q => (Lit.int .i64 q.1).wf = true ∧ q.2.1.length ≤ maxLen ∧ q.2.2.1.length ≤ maxLen ∧ True) :=
  (ShC.struct (sz := 3) Try.underlying47 (by kernel_rfl) (ShF.cons (o := 0) (c := 1) (sz := 2) so_int rfl (by kernel_rfl) (ShF.cons (o := 1) (c := 1) (sz := 1) so_str rfl (by kernel_rfl) (ShF.cons (o := 2) (c := 1) (sz := 0) so_str rfl (by kernel_rfl) (ShF.nil 3))))).map (fun q => q) fun q hq => ⟨rfl, hq⟩
theorem so_op : ShC enc Try.prog W 49 opCells OpOk :=
  (ShC.struct (sz := 15) Try.underlying49 (by kernel_rfl)
    (ShF.cons (o := 0) (c := 2) (sz := 13) so_tag rfl (by kernel_rfl)
    (ShF.cons (o := 2) (c := 2) (sz := 11) so_tag rfl (by kernel_rfl)
    (ShF.cons (o := 4) (c := 1) (sz := 10) so_int64 rfl (by kernel_rfl)
    (ShF.cons (o := 5) (c := 1) (sz := 9) so_str rfl (by kernel_rfl)
    (ShF.cons (o := 6) (c := 1) (sz := 8) so_int rfl (by kernel_rfl)
    (ShF.cons (o := 7) (c := 1) (sz := 7) so_str rfl (by kernel_rfl)
    (ShF.cons (o := 8) (c := 3) (sz := 4) so_ref rfl (by kernel_rfl)
    (ShF.cons (o := 11) (c := 1) (sz := 3) so_int64 rfl (by kernel_rfl)
    (ShF.cons (o := 12) (c := 1) (sz := 2) so_bool rfl (by kernel_rfl)
    (ShF.cons (o := 13) (c := 1) (sz := 1) so_str rfl (by kernel_rfl)
    (ShF.cons (o := 14) (c := 1) (sz := 0) so_tags rfl (by kernel_rfl) (ShF.nil 15))))))))))))).map
    (fun q => match q with | (i, s, t, c, k, m, r, d, h, x, p, _) => ⟨i.1, i.2, s.1, s.2, t, c, k, m, r.1, r.2.1, r.2.2.1, d, h, x, p⟩) fun q hq => by
      obtain ⟨i, s, t, c, k, m, r, d, h, x, p, u⟩ := q
      obtain ⟨_, _, _, h4, _, h6, h7, _, _, h10, h11, _⟩ := hq
      have hM : maxLen ≤ 9223372036854775807 := by decide
      exact ⟨rfl, ⟨Nat.le_trans h4 hM, Nat.le_trans h6 hM, Nat.le_trans h7.2.1 hM, Nat.le_trans h7.2.2.1 hM, Nat.le_trans h10 hM, Nat.le_trans h11 hM⟩⟩
end
def opZero : Value := .agg #[.int .i64 0, .int .i64 0, .int .i64 0, .int .i64 0, .int .i64 0, .string ByteArray.empty, .int .i64 0, .string ByteArray.empty, .int .i64 0, .string ByteArray.empty, .string ByteArray.empty, .int .i64 0, .bool false, .string ByteArray.empty, .slice none 0 0]
end Go.PV
/- PoolNil: from the walk to the row. -/
namespace Go.Proofs.Ytpgfcfojojemjaa.poolNil
open Go.ChangeShapes Go.WideShapes Go.ChangeAt Go.RowKit Go.PV
theorem own : ownKnob Try.prog.godebug = none := by kernel_rfl
theorem laidOut : laidOutB Try.prog = true := by kernel_rfl
set_option maxRecDepth 100000 in
theorem lifted (os : Os) (started : os.Started) (H : Type) (enc : TypeId × Value → H) :
    ReturnsInHanded {} Try.checked os 10 .any (Rows.poolNilSpec.pre6 enc Try.prog Try.f10 Rows.poolNilRow.domain false) (Rows.poolNilSpec.post enc Try.prog Try.f10 false true false false) := by
  refine returnsInHanded_of_change_sized (C := Try.checked) own started (by kernel_rfl) Try.func10
    (ChangeSpec.witness6 (enc := enc) (C := Try.checked) false ⟨#[], #[opZero, .agg #[.int .i64 0, .int .i64 0, .int .i64 0, .int .i64 0, .int .i64 0, .int .i64 0]], []⟩ 8 (by kernel_rfl) (by kernel_rfl) (by kernel_rfl) (by kernel_rfl)) ?_
  intro W base args ds gs before hval0 hW hcnd hsz0 _
  have hval : ∀ (j : Nat) t v, Try.f10.params[j]? = some t → args[j]? = some v → Value.okWide Try.prog W .any base t v := hval0
  have hW' := hW
  obtain ⟨p, q, hA0, hV, rfl, hfz, hnd⟩ := hW
  have hA : DataW.TrodAll enc Try.prog W 0 (fun _ => true) true Try.f10.params.toList args.toList ds p := hA0
  rw [Try.params10] at hA hval
  obtain ⟨v0, vs0, d0, ds0, p0, q0, hargs, rfl, rfl, h0, r0⟩ := trodAll_cons hA
  obtain ⟨v1, vs1, d1, ds1, p1, q1, rfl, rfl, rfl, h1, r1⟩ := trodAll_cons r0
  obtain ⟨rfl, rfl, rfl⟩ := trodAll_nil r1
  obtain rfl : args = #[v0, v1] := by cases args; simp_all
  obtain ⟨rfl, rfl⟩ := trodVars_none hV
  have lt0 : ∀ x ∈ p0, x.block < W.heap.size := by obtain ⟨m, hm⟩ := h0; exact DataW.trod_lt m _ _ _ hm
  have lt1 : ∀ x ∈ p1, x.block < W.heap.size := by obtain ⟨m, hm⟩ := h1; exact DataW.trod_lt m _ _ _ hm
  have k0 := h0
  obtain ⟨a0, w0, e0⟩ := arg_agg so_op (.inl ⟨_, Try.underlying49⟩) (hval 0 _ v0 rfl rfl) h0
  have k1 := h1
  obtain ⟨a1, w1, e1⟩ := arg_agg so_vec (.inr ⟨_, _, Try.underlying23⟩) (hval 1 _ v1 rfl rfl) h1
  clear hA0 hval0 hsz0
  refine (calls_end (c_punnet_punnetlaw26_PoolNil a0 a1 w1) ⟨rfl, fun k y hk => ?_⟩ (by simp only [ownOf, List.flatMap_cons, List.flatMap_nil, op_toks, vec_toks, List.append_nil])).mono fun e W' ⟨he, bel⟩ => ?_
  · match k, hk with
    | 0, hk => obtain rfl := Option.some.inj hk; exact e0
    | 1, hk => obtain rfl := Option.some.inj hk; exact e1
    | k + 2, hk => simp at hk
  subst he
  exact ⟨_, rfl, _, _, _, [], _, [], hW', trodAll_mk1 (shut_bool Try.underlying4 _),
    (trodAll_cons_mk (Below.trod laidOut (by kernel_rfl) (of_decide_eq_true (by kernel_rfl)) k0 bel lt0) (trodAll_cons_mk (Below.trod laidOut (by kernel_rfl) (of_decide_eq_true (by kernel_rfl)) k1 bel lt1) trodAll_mk0)), rfl, bel.frame _, fun h => by cases h⟩
end Go.Proofs.Ytpgfcfojojemjaa.poolNil
