/- punnetref25.Next. -/
import Derived.Test.YtpgfcfojojemjaaT31
namespace Go.PV
open Go.Proofs
set_option linter.unusedVariables false
set_option linter.unusedSimpArgs false
set_option maxRecDepth 10000

theorem has_of {v : List Int} {r n : Int} (hr : 1 ≤ r ∧ r ≤ 6) (hn : 1 ≤ n ∧ n ≤ 401) : hasB v r n = decide (n ≤ v.getD (r - 1).toNat 0) := by
  have : tagB r n = true := tagB_iff.2 (by omega)
  simp [hasB, this]
theorem c_punnet_punnetref25_Next (v : List Int) (hv : v.length = 6) (r : Int) : VC Try.prog 13 [vecV v, .int .i64 r] [] (fun q _ => q = tagC (nextS v r)) := by
  refine VC_enter (nt := 32) (rs := [.cell 4 25, .tmp 5]) (ow := []) (m := 0) Try.func13 rfl (by rfl) rfl rfl (by simp) (by simp only [ownOf, List.flatMap_cons, vec_toks]; rfl) rfl (fun n => ?_)
  simp only [zipT, Nat.zero_add]
  -- live behind: [1, 2, 4, 14, 15]
  refine WC_seqR (fun N1 hN1 hD1 => ?_)
  simp only [sS, ↓sT, if_true, if_false, Nat.reduceLT, Nat.reduceEqDiff, ↓sO, ↓WOps_g, sG, opV, loudV, cellsOf, strOp, evL, Nat.reduceAdd, beq_self_eq_true, bne_self_eq_false, Int.reduceBEq, Int.reduceBNe, vec_load hv, tag_load, vec_cells, all_ints, tag_cells, tag_isC, ti25, ti23, ti3, List.getElem?_cons_zero, List.getElem?_cons_succ, List.drop_zero, ti25]
  refine hN1 _ ?_; try clear hN1 hD1 N1
  -- live behind: [1, 2, 4, 14, 15]
  refine WC_seqN (fun N2 hN2 hD2 => ?_)
  -- live behind: [1, 2, 4, 9, 14, 15]
  refine WC_seqR (fun N3 hN3 hD3 => ?_)
  simp only [sS, ↓sT, if_true, if_false, Nat.reduceLT, Nat.reduceEqDiff, ↓sO, ↓WOps_g, sG, opV, loudV, cellsOf, strOp, evL, Nat.reduceAdd, beq_self_eq_true, bne_self_eq_false, Int.reduceBEq, Int.reduceBNe, vec_load hv, tag_load, vec_cells, all_ints, tag_cells, tag_isC, ti25, ti23, ti3, List.getElem?_cons_zero, List.getElem?_cons_succ, List.drop_zero, ti23]
  refine WOps_callP (c_punnet_punnetref25_Right v hv) (by simp only [ev_func]) (by simp only [evL, sS, ↓sT, if_true, if_false, Nat.reduceLT, Nat.reduceEqDiff]; rfl) (by simp only [List.map, vec_bare, tag_bare]) (by simp [vec_noP, tag_noP]) rfl rfl ?_
  simp only [sS, ↓sT, if_true, if_false, Nat.reduceLT, Nat.reduceEqDiff, ↓sO, ↓WOps_g, sG, opV, loudV, cellsOf, strOp, evL, Nat.reduceAdd, beq_self_eq_true, bne_self_eq_false, Int.reduceBEq, Int.reduceBNe, vec_load hv, tag_load, vec_cells, all_ints, tag_cells, tag_isC, ti25, ti23, ti3, List.getElem?_cons_zero, List.getElem?_cons_succ, List.drop_zero, ti23]
  refine hN3 _ ?_; try clear hN3 hD3 N3
  refine WC_condE ?_
  simp only [sS, ↓sT, if_true, if_false, Nat.reduceLT, Nat.reduceEqDiff, ↓stepC_bool]
  refine ⟨fun hb => ?_, fun hb => ?_⟩
  · -- live behind: [4, 5]
    refine WC_seqR (fun N4 hN4 hD4 => ?_)
    simp only [sS, ↓sT, if_true, if_false, Nat.reduceLT, Nat.reduceEqDiff, ↓sO, ↓WOps_g, sG, opV, loudV, cellsOf, strOp, evL, Nat.reduceAdd, beq_self_eq_true, bne_self_eq_false, Int.reduceBEq, Int.reduceBNe, vec_load hv, tag_load, vec_cells, all_ints, tag_cells, tag_isC, ti25, ti23, ti3, List.getElem?_cons_zero, List.getElem?_cons_succ, List.drop_zero, buildV, evParts, V.isCell, List.all_cons, List.all_nil, Bool.and_self, if_true, placesOf, fillV, List.getElem?_cons_zero, List.getElem?_cons_succ, List.length_cons, List.length_nil, Nat.zero_add, Nat.reduceAdd, ne_eq, not_true_eq_false, false_or, gt_iff_lt, Nat.reduceLT, if_false, wrL, Option.map_some, List.set_cons_zero, List.set_cons_succ, ti25]
    refine hN4 _ ?_; try clear hN4 hD4 N4
    refine WC_ret ?_; (try simp only [Exit.after, Exit.out]); refine Kend_ret (by simp only [resOf, resL, resV, mkS_get, slots_get, cellsOf, vec_load hv, tag_load, vec_cells, all_ints, tag_cells, tag_isC, ti25, ti23, ti3, List.getElem?_cons_zero, List.getElem?_cons_succ, List.drop_zero, sS, ↓sT, if_true, if_false, Nat.reduceLT, Nat.reduceEqDiff]; rfl) (by first | rfl | (simp only [vec_load hv, tag_load, vec_cells, all_ints, tag_cells, tag_isC, ti25, ti23, ti3, List.getElem?_cons_zero, List.getElem?_cons_succ, List.drop_zero]; done) | (simp only [vec_load hv, tag_load, vec_cells, all_ints, tag_cells, tag_isC, ti25, ti23, ti3, List.getElem?_cons_zero, List.getElem?_cons_succ, List.drop_zero, okV, ok1, okC, okP, List.all_cons, List.all_nil, Bool.and_true]; done)) ?_
    have hr : rightB v = false := by simpa using hb
    simp only [nextS, hr]; rfl
  · refine WC_skip ?_
    refine hN2 _ ?_; try clear hN2 hD2 N2
    have hr : rightB v = true := by simpa using hb
    clear hb
    refine WC_seqN (fun N5 hN5 hD5 => ?_)
    refine WC_seqR (fun N6 hN6 hD6 => ?_)
    have J : ∀ b, b = (decide (r < 1) || decide (r > 6)) → N6 ⟨mkS 32 [(16, .bool b), (4, .ptr 1 0), (2, .ptr 0 0), (1, .int .i64 r)], [v.map (V.int .i64), [.int .i64 0, .int .i64 0]], [], n⟩ := by
      intro b hbb
      refine hN6 _ ?_; try clear hN6 hD6 N6
      refine WC_condE ?_
      simp only [sS, ↓sT, if_true, if_false, Nat.reduceLT, Nat.reduceEqDiff, ↓stepC_bool]
      refine ⟨fun hb => ?_, fun hb => ?_⟩
      · refine WC_seqR (fun N7 hN7 hD7 => ?_)
        simp only [sS, ↓sT, if_true, if_false, Nat.reduceLT, Nat.reduceEqDiff, ↓sO, ↓WOps_g, sG, opV, loudV, cellsOf, strOp, evL, Nat.reduceAdd, beq_self_eq_true, bne_self_eq_false, Int.reduceBEq, Int.reduceBNe, vec_load hv, tag_load, vec_cells, all_ints, tag_cells, tag_isC, ti25, ti23, ti3, List.getElem?_cons_zero, List.getElem?_cons_succ, List.drop_zero, buildV, evParts, V.isCell, List.all_cons, List.all_nil, Bool.and_self, if_true, placesOf, fillV, List.getElem?_cons_zero, List.getElem?_cons_succ, List.length_cons, List.length_nil, Nat.zero_add, Nat.reduceAdd, ne_eq, not_true_eq_false, false_or, gt_iff_lt, Nat.reduceLT, if_false, wrL, Option.map_some, List.set_cons_zero, List.set_cons_succ]
        refine hN7 _ ?_; try clear hN7 hD7 N7
        refine WC_ret ?_; (try simp only [Exit.after, Exit.out]); refine Kend_ret (by simp only [resOf, resL, resV, mkS_get, slots_get, cellsOf, vec_load hv, tag_load, vec_cells, all_ints, tag_cells, tag_isC, ti25, ti23, ti3, List.getElem?_cons_zero, List.getElem?_cons_succ, List.drop_zero, sS, ↓sT, if_true, if_false, Nat.reduceLT, Nat.reduceEqDiff]; rfl) (by first | rfl | (simp only [vec_load hv, tag_load, vec_cells, all_ints, tag_cells, tag_isC, ti25, ti23, ti3, List.getElem?_cons_zero, List.getElem?_cons_succ, List.drop_zero]; done) | (simp only [vec_load hv, tag_load, vec_cells, all_ints, tag_cells, tag_isC, ti25, ti23, ti3, List.getElem?_cons_zero, List.getElem?_cons_succ, List.drop_zero, okV, ok1, okC, okP, List.all_cons, List.all_nil, Bool.and_true]; done)) ?_
        have : r < 1 ∨ r > 6 := by subst hb; simpa using hbb
        simp only [nextS, hr, if_pos this]; rfl
      · have hrr : ¬ (r < 1 ∨ r > 6) := by subst hb; simpa using hbb.symm
        clear hb hbb
        obtain ⟨x, hx⟩ : ∃ x, v.getD (r - 1).toNat 0 = x := ⟨_, rfl⟩
        have hxb : 0 ≤ x ∧ x ≤ 400 := hx ▸ right_get hr (r - 1).toNat
        refine WC_skip ?_
        refine hN5 _ ?_; try clear hN5 hD5 N5
        refine WC_seqN (fun N8 hN8 hD8 => ?_)
        refine WC_seqR (fun N9 hN9 hD9 => ?_)
        simp only [sS, ↓sT, if_true, if_false, Nat.reduceLT, Nat.reduceEqDiff, ↓sO, ↓WOps_g, sG, opV, loudV, cellsOf, strOp, evL, Nat.reduceAdd, beq_self_eq_true, bne_self_eq_false, Int.reduceBEq, Int.reduceBNe, vec_load hv, tag_load, vec_cells, all_ints, tag_cells, tag_isC, ti25, ti23, ti3, List.getElem?_cons_zero, List.getElem?_cons_succ, List.drop_zero]
        refine hN9 _ ?_; try clear hN9 hD9 N9
        refine WC_block ?_
        refine WC_loopG (σ := Nat) (fun t s => ∃ ps, s = ⟨mkS 32 ps, [v.map (V.int .i64), [.int .i64 0, .int .i64 0]], [], n⟩ ∧ Has ps [(6, .int .i64 ((t : Int) + 1)), (4, .ptr 1 0), (2, .ptr 0 0), (1, .int .i64 r)] ∧ (t : Int) ≤ x) (fun t => 400 - t) 0 ?_ (fun t s hI => ?_)
        · exact ⟨_, rfl, ⟨rfl, rfl, rfl, rfl, trivial⟩, by omega⟩
        obtain ⟨ps, rfl, hps, hI⟩ := hI
        refine WC_has hps ?_; clear hps ps
        refine WC_seqN (fun N10 hN10 hD10 => ?_)
        refine WC_seqR (fun N11 hN11 hD11 => ?_)
        simp only [sS, ↓sT, if_true, if_false, Nat.reduceLT, Nat.reduceEqDiff, ↓sO, ↓WOps_g, sG, opV, loudV, cellsOf, strOp, evL, Nat.reduceAdd, beq_self_eq_true, bne_self_eq_false, Int.reduceBEq, Int.reduceBNe, vec_load hv, tag_load, vec_cells, all_ints, tag_cells, tag_isC, ti25, ti23, ti3, List.getElem?_cons_zero, List.getElem?_cons_succ, List.drop_zero]
        refine hN11 _ ?_; try clear hN11 hD11 N11
        refine WC_condE ?_
        simp only [sS, ↓sT, if_true, if_false, Nat.reduceLT, Nat.reduceEqDiff, ↓stepC_bool]
        refine ⟨fun hb => ?_, fun hb => ?_⟩
        · have hlt : (t : Int) + 1 < 401 := of_decide_eq_true hb
          refine WC_skip ?_
          refine hN10 _ ?_; try clear hN10 hD10 N10
          refine WC_seqN (fun N12 hN12 hD12 => ?_)
          refine WC_block ?_
          refine WC_seqR (fun N13 hN13 hD13 => ?_)
          simp only [sS, ↓sT, if_true, if_false, Nat.reduceLT, Nat.reduceEqDiff, ↓sO, ↓WOps_g, sG, opV, loudV, cellsOf, strOp, evL, Nat.reduceAdd, beq_self_eq_true, bne_self_eq_false, Int.reduceBEq, Int.reduceBNe, vec_load hv, tag_load, vec_cells, all_ints, tag_cells, tag_isC, ti25, ti23, ti3, List.getElem?_cons_zero, List.getElem?_cons_succ, List.drop_zero, buildV, evParts, V.isCell, List.all_cons, List.all_nil, Bool.and_self, if_true, placesOf, fillV, List.getElem?_cons_zero, List.getElem?_cons_succ, List.length_cons, List.length_nil, Nat.zero_add, Nat.reduceAdd, ne_eq, not_true_eq_false, false_or, gt_iff_lt, Nat.reduceLT, if_false, wrL, Option.map_some, List.set_cons_zero, List.set_cons_succ]
          refine WOps_callP (c_punnet_punnetref25_Has v hv r ((t : Int) + 1)) (by simp only [ev_func]) (by simp only [evL, sS, ↓sT, if_true, if_false, Nat.reduceLT, Nat.reduceEqDiff]; rfl) (by simp only [List.map, vec_bare, tag_fold, tag_bare]) (by simp [vec_noP, tag_noP, tag_fold]) rfl rfl ?_
          rw [has_of (by omega) (by omega), hx]
          simp only [sS, ↓sT, if_true, if_false, Nat.reduceLT, Nat.reduceEqDiff, ↓sO, ↓WOps_g, sG, opV, loudV, cellsOf, strOp, evL, Nat.reduceAdd, beq_self_eq_true, bne_self_eq_false, Int.reduceBEq, Int.reduceBNe, vec_load hv, tag_load, vec_cells, all_ints, tag_cells, tag_isC, ti25, ti23, ti3, List.getElem?_cons_zero, List.getElem?_cons_succ, List.drop_zero, buildV, evParts, V.isCell, List.all_cons, List.all_nil, Bool.and_self, if_true, placesOf, fillV, List.getElem?_cons_zero, List.getElem?_cons_succ, List.length_cons, List.length_nil, Nat.zero_add, Nat.reduceAdd, ne_eq, not_true_eq_false, false_or, gt_iff_lt, Nat.reduceLT, if_false, wrL, Option.map_some, List.set_cons_zero, List.set_cons_succ]
          refine hN13 _ ?_; try clear hN13 hD13 N13
          refine WC_condE ?_
          simp only [sS, ↓sT, if_true, if_false, Nat.reduceLT, Nat.reduceEqDiff, ↓stepC_bool]
          refine ⟨fun hb => ?_, fun hb => ?_⟩
          · refine WC_seqR (fun N14 hN14 hD14 => ?_)
            simp only [sS, ↓sT, if_true, if_false, Nat.reduceLT, Nat.reduceEqDiff, ↓sO, ↓WOps_g, sG, opV, loudV, cellsOf, strOp, evL, Nat.reduceAdd, beq_self_eq_true, bne_self_eq_false, Int.reduceBEq, Int.reduceBNe, vec_load hv, tag_load, vec_cells, all_ints, tag_cells, tag_isC, ti25, ti23, ti3, List.getElem?_cons_zero, List.getElem?_cons_succ, List.drop_zero, buildV, evParts, V.isCell, List.all_cons, List.all_nil, Bool.and_self, if_true, placesOf, fillV, List.getElem?_cons_zero, List.getElem?_cons_succ, List.length_cons, List.length_nil, Nat.zero_add, Nat.reduceAdd, ne_eq, not_true_eq_false, false_or, gt_iff_lt, Nat.reduceLT, if_false, wrL, Option.map_some, List.set_cons_zero, List.set_cons_succ]
            refine hN14 _ ?_; try clear hN14 hD14 N14
            refine WC_ret ?_; (try simp only [Exit.after, Exit.out]); refine Kend_ret (by simp only [resOf, resL, resV, mkS_get, slots_get, cellsOf, vec_load hv, tag_load, vec_cells, all_ints, tag_cells, tag_isC, ti25, ti23, ti3, List.getElem?_cons_zero, List.getElem?_cons_succ, List.drop_zero, sS, ↓sT, if_true, if_false, Nat.reduceLT, Nat.reduceEqDiff]; rfl) (by first | rfl | (simp only [vec_load hv, tag_load, vec_cells, all_ints, tag_cells, tag_isC, ti25, ti23, ti3, List.getElem?_cons_zero, List.getElem?_cons_succ, List.drop_zero]; done) | (simp only [vec_load hv, tag_load, vec_cells, all_ints, tag_cells, tag_isC, ti25, ti23, ti3, List.getElem?_cons_zero, List.getElem?_cons_succ, List.drop_zero, okV, ok1, okC, okP, List.all_cons, List.all_nil, Bool.and_true]; done)) ?_
            have h1 : ¬ (t : Int) + 1 ≤ x := by simpa using hb
            have h2 : x = t := by omega
            have h3 : ¬ x = 400 := by omega
            simp only [nextS, hr, if_neg hrr, hx, if_neg h3]; rw [h2]; rfl
          · have h1 : (t : Int) + 1 ≤ x := by simpa using hb
            refine WC_skip ?_
            refine hN12 _ ?_; try clear hN12 hD12 N12
            refine WC_regN (fun N15 hN15 => ?_)
            simp only [sS, ↓sT, if_true, if_false, Nat.reduceLT, Nat.reduceEqDiff, ↓sO, ↓WOps_g, sG, opV, loudV, cellsOf, strOp, evL, Nat.reduceAdd, beq_self_eq_true, bne_self_eq_false, Int.reduceBEq, Int.reduceBNe, vec_load hv, tag_load, vec_cells, all_ints, tag_cells, tag_isC, ti25, ti23, ti3, List.getElem?_cons_zero, List.getElem?_cons_succ, List.drop_zero]
            refine hN15 _ ?_; try clear hN15 N15
            refine ⟨t + 1, ⟨_, rfl, ?_, ?_⟩, ?_⟩
            · rw [wrapI (by omega) (by omega)]; exact ⟨rfl, rfl, rfl, rfl, trivial⟩
            · omega
            · omega
        · have hge : ¬ (t : Int) + 1 < 401 := of_decide_eq_false hb
          refine WC_exit ?_
          refine hN8 _ ?_; try clear hN8 hD8 N8
          refine WC_seqR (fun N16 hN16 hD16 => ?_)
          simp only [sS, ↓sT, if_true, if_false, Nat.reduceLT, Nat.reduceEqDiff, ↓sO, ↓WOps_g, sG, opV, loudV, cellsOf, strOp, evL, Nat.reduceAdd, beq_self_eq_true, bne_self_eq_false, Int.reduceBEq, Int.reduceBNe, vec_load hv, tag_load, vec_cells, all_ints, tag_cells, tag_isC, ti25, ti23, ti3, List.getElem?_cons_zero, List.getElem?_cons_succ, List.drop_zero, buildV, evParts, V.isCell, List.all_cons, List.all_nil, Bool.and_self, if_true, placesOf, fillV, List.getElem?_cons_zero, List.getElem?_cons_succ, List.length_cons, List.length_nil, Nat.zero_add, Nat.reduceAdd, ne_eq, not_true_eq_false, false_or, gt_iff_lt, Nat.reduceLT, if_false, wrL, Option.map_some, List.set_cons_zero, List.set_cons_succ]
          refine hN16 _ ?_; try clear hN16 hD16 N16
          refine WC_ret ?_; (try simp only [Exit.after, Exit.out]); refine Kend_ret (by simp only [resOf, resL, resV, mkS_get, slots_get, cellsOf, vec_load hv, tag_load, vec_cells, all_ints, tag_cells, tag_isC, ti25, ti23, ti3, List.getElem?_cons_zero, List.getElem?_cons_succ, List.drop_zero, sS, ↓sT, if_true, if_false, Nat.reduceLT, Nat.reduceEqDiff]; rfl) (by first | rfl | (simp only [vec_load hv, tag_load, vec_cells, all_ints, tag_cells, tag_isC, ti25, ti23, ti3, List.getElem?_cons_zero, List.getElem?_cons_succ, List.drop_zero]; done) | (simp only [vec_load hv, tag_load, vec_cells, all_ints, tag_cells, tag_isC, ti25, ti23, ti3, List.getElem?_cons_zero, List.getElem?_cons_succ, List.drop_zero, okV, ok1, okC, okP, List.all_cons, List.all_nil, Bool.and_true]; done)) ?_
          simp only [nextS, hr, if_neg hrr, hx, if_pos (show x = 400 by omega)]; rfl
    simp only [sS, ↓sT, if_true, if_false, Nat.reduceLT, Nat.reduceEqDiff, ↓sO, ↓WOps_g, sG, opV, loudV, cellsOf, strOp, evL, Nat.reduceAdd, beq_self_eq_true, bne_self_eq_false, Int.reduceBEq, Int.reduceBNe, vec_load hv, tag_load, vec_cells, all_ints, tag_cells, tag_isC, ti25, ti23, ti3, List.getElem?_cons_zero, List.getElem?_cons_succ, List.drop_zero]
    refine stepB_F (fun hg2 => ?_) (fun hg2 => ?_)  -- guard 2
    all_goals simp only [sS, ↓sT, if_true, if_false, Nat.reduceLT, Nat.reduceEqDiff, ↓sO, ↓WOps_g, sG, opV, loudV, cellsOf, strOp, evL, Nat.reduceAdd, beq_self_eq_true, bne_self_eq_false, Int.reduceBEq, Int.reduceBNe, vec_load hv, tag_load, vec_cells, all_ints, tag_cells, tag_isC, ti25, ti23, ti3, List.getElem?_cons_zero, List.getElem?_cons_succ, List.drop_zero, hg2]
    all_goals (refine hD6 [16, 4, 2, 1] _ _ _ _ _ (J _ ?_); clear J hN6 hD6 hN5 hD5; rw [Bool.eq_iff_iff]; simp_all; try omega)
end Go.PV
/- punnetref25.With. -/
namespace Go.PV
open Go.Proofs
set_option linter.unusedVariables false
set_option linter.unusedSimpArgs false
set_option maxRecDepth 10000

theorem c_punnet_punnetref25_With (v : List Int) (hv : v.length = 6) (r t : Int) : VC Try.prog 15 [vecV v, tagV r t] [] (fun q _ => q = vecC (withS v r t)) := by
  refine VC_enter (nt := 44) (rs := [.cell 4 23, .tmp 5]) (ow := []) (m := 0) Try.func15 rfl (by rfl) rfl rfl (by simp) (by simp only [ownOf, List.flatMap_cons, vec_toks, tag_toks]; rfl) rfl (fun n => ?_)
  simp only [zipT, Nat.zero_add]
  -- live behind: [2, 3, 4, 22, 23, 24, 25, 26, 27, 28, 29, 30]
  refine WC_seqR (fun N1 hN1 hD1 => ?_)
  simp only [sS, ↓sT, if_true, if_false, Nat.reduceLT, Nat.reduceEqDiff, ↓sO, ↓WOps_g, sG, opV, loudV, cellsOf, strOp, evL, Nat.reduceAdd, beq_self_eq_true, bne_self_eq_false, Int.reduceBEq, Int.reduceBNe, vec_load hv, tag_load, vec_cells, all_ints, tag_cells, tag_isC, ti25, ti23, ti3, List.getElem?_cons_zero, List.getElem?_cons_succ, List.drop_zero, ti23]
  refine hN1 _ ?_; try clear hN1 hD1 N1
  -- live behind: [2, 3, 4, 22, 23, 24, 25, 26, 27, 28, 29, 30]
  refine WC_seqN (fun N2 hN2 hD2 => ?_)
  -- live behind: [2, 3, 4, 8, 22, 23, 24, 25, 26, 27, 28, 29, 30]
  refine WC_seqR (fun N3 hN3 hD3 => ?_)
  simp only [sS, ↓sT, if_true, if_false, Nat.reduceLT, Nat.reduceEqDiff, ↓sO, ↓WOps_g, sG, opV, loudV, cellsOf, strOp, evL, Nat.reduceAdd, beq_self_eq_true, bne_self_eq_false, Int.reduceBEq, Int.reduceBNe, vec_load hv, tag_load, vec_cells, all_ints, tag_cells, tag_isC, ti25, ti23, ti3, List.getElem?_cons_zero, List.getElem?_cons_succ, List.drop_zero, ti23]
  refine WOps_callP (c_punnet_punnetref25_Right v hv) (by simp only [ev_func]) (by simp only [evL, sS, ↓sT, if_true, if_false, Nat.reduceLT, Nat.reduceEqDiff]; rfl) (by simp only [List.map, vec_bare, tag_bare]) (by simp [vec_noP, tag_noP]) rfl rfl ?_
  simp only [sS, ↓sT, if_true, if_false, Nat.reduceLT, Nat.reduceEqDiff, ↓sO, ↓WOps_g, sG, opV, loudV, cellsOf, strOp, evL, Nat.reduceAdd, beq_self_eq_true, bne_self_eq_false, Int.reduceBEq, Int.reduceBNe, vec_load hv, tag_load, vec_cells, all_ints, tag_cells, tag_isC, ti25, ti23, ti3, List.getElem?_cons_zero, List.getElem?_cons_succ, List.drop_zero, ti23]
  refine hN3 _ ?_; try clear hN3 hD3 N3
  refine WC_condE ?_
  simp only [sS, ↓sT, if_true, if_false, Nat.reduceLT, Nat.reduceEqDiff, ↓stepC_bool]
  refine ⟨fun hb => ?_, fun hb => ?_⟩
  · -- live behind: [4, 5]
    refine WC_seqR (fun N4 hN4 hD4 => ?_)
    simp only [sS, ↓sT, if_true, if_false, Nat.reduceLT, Nat.reduceEqDiff, ↓sO, ↓WOps_g, sG, opV, loudV, cellsOf, strOp, evL, Nat.reduceAdd, beq_self_eq_true, bne_self_eq_false, Int.reduceBEq, Int.reduceBNe, vec_load hv, tag_load, vec_cells, all_ints, tag_cells, tag_isC, ti25, ti23, ti3, List.getElem?_cons_zero, List.getElem?_cons_succ, List.drop_zero, buildV, evParts, V.isCell, List.all_cons, List.all_nil, Bool.and_self, if_true, placesOf, fillV, List.getElem?_cons_zero, List.getElem?_cons_succ, List.length_cons, List.length_nil, Nat.zero_add, Nat.reduceAdd, ne_eq, not_true_eq_false, false_or, gt_iff_lt, Nat.reduceLT, if_false, wrL, Option.map_some, List.set_cons_zero, List.set_cons_succ, ti23]
    refine hN4 _ ?_; try clear hN4 hD4 N4
    refine WC_ret ?_; (try simp only [Exit.after, Exit.out]); refine Kend_ret (by simp only [resOf, resL, resV, mkS_get, slots_get, cellsOf, vec_load hv, tag_load, vec_cells, all_ints, tag_cells, tag_isC, ti25, ti23, ti3, List.getElem?_cons_zero, List.getElem?_cons_succ, List.drop_zero, sS, ↓sT, if_true, if_false, Nat.reduceLT, Nat.reduceEqDiff]; rfl) (by first | rfl | (simp only [vec_load hv, tag_load, vec_cells, all_ints, tag_cells, tag_isC, ti25, ti23, ti3, List.getElem?_cons_zero, List.getElem?_cons_succ, List.drop_zero]; done) | (simp only [vec_load hv, tag_load, vec_cells, all_ints, tag_cells, tag_isC, ti25, ti23, ti3, List.getElem?_cons_zero, List.getElem?_cons_succ, List.drop_zero, okV, ok1, okC, okP, List.all_cons, List.all_nil, Bool.and_true]; done)) ?_
    have hr : rightB v = false := by simpa using hb
    simp only [withS, hr]; rfl
  · refine WC_skip ?_
    refine hN2 _ ?_; try clear hN2 hD2 N2
    have hr : rightB v = true := by simpa using hb
    clear hb
    -- live behind: [2, 3, 4, 22, 23, 24, 25, 26, 27, 28, 29, 30]
    refine WC_seqN (fun N5 hN5 hD5 => ?_)
    -- live behind: [2, 3, 4, 12, 22, 23, 24, 25, 26, 27, 28, 29, 30]
    refine WC_seqR (fun N6 hN6 hD6 => ?_)
    simp only [sS, ↓sT, if_true, if_false, Nat.reduceLT, Nat.reduceEqDiff, ↓sO, ↓WOps_g, sG, opV, loudV, cellsOf, strOp, evL, Nat.reduceAdd, beq_self_eq_true, bne_self_eq_false, Int.reduceBEq, Int.reduceBNe, vec_load hv, tag_load, vec_cells, all_ints, tag_cells, tag_isC, ti25, ti23, ti3, List.getElem?_cons_zero, List.getElem?_cons_succ, List.drop_zero, ti25]
    refine WOps_callP (c_punnet_punnetref17_Tag r t) (by simp only [ev_func]) (by simp only [evL, sS, ↓sT, if_true, if_false, Nat.reduceLT, Nat.reduceEqDiff]; rfl) (by simp only [List.map, vec_bare, tag_bare]) (by simp [vec_noP, tag_noP]) rfl rfl ?_
    simp only [sS, ↓sT, if_true, if_false, Nat.reduceLT, Nat.reduceEqDiff, ↓sO, ↓WOps_g, sG, opV, loudV, cellsOf, strOp, evL, Nat.reduceAdd, beq_self_eq_true, bne_self_eq_false, Int.reduceBEq, Int.reduceBNe, vec_load hv, tag_load, vec_cells, all_ints, tag_cells, tag_isC, ti25, ti23, ti3, List.getElem?_cons_zero, List.getElem?_cons_succ, List.drop_zero, ti25]
    refine hN6 _ ?_; try clear hN6 hD6 N6
    refine WC_condE ?_
    simp only [sS, ↓sT, if_true, if_false, Nat.reduceLT, Nat.reduceEqDiff, ↓stepC_bool]
    refine ⟨fun hb => ?_, fun hb => ?_⟩
    · -- live behind: [4, 5]
      refine WC_seqR (fun N7 hN7 hD7 => ?_)
      simp only [sS, ↓sT, if_true, if_false, Nat.reduceLT, Nat.reduceEqDiff, ↓sO, ↓WOps_g, sG, opV, loudV, cellsOf, strOp, evL, Nat.reduceAdd, beq_self_eq_true, bne_self_eq_false, Int.reduceBEq, Int.reduceBNe, vec_load hv, tag_load, vec_cells, all_ints, tag_cells, tag_isC, ti25, ti23, ti3, List.getElem?_cons_zero, List.getElem?_cons_succ, List.drop_zero, buildV, evParts, V.isCell, List.all_cons, List.all_nil, Bool.and_self, if_true, placesOf, fillV, List.getElem?_cons_zero, List.getElem?_cons_succ, List.length_cons, List.length_nil, Nat.zero_add, Nat.reduceAdd, ne_eq, not_true_eq_false, false_or, gt_iff_lt, Nat.reduceLT, if_false, wrL, Option.map_some, List.set_cons_zero, List.set_cons_succ, ti23]
      refine hN7 _ ?_; try clear hN7 hD7 N7
      refine WC_ret ?_; (try simp only [Exit.after, Exit.out]); refine Kend_ret (by simp only [resOf, resL, resV, mkS_get, slots_get, cellsOf, vec_load hv, tag_load, vec_cells, all_ints, tag_cells, tag_isC, ti25, ti23, ti3, List.getElem?_cons_zero, List.getElem?_cons_succ, List.drop_zero, sS, ↓sT, if_true, if_false, Nat.reduceLT, Nat.reduceEqDiff]; rfl) (by first | rfl | (simp only [vec_load hv, tag_load, vec_cells, all_ints, tag_cells, tag_isC, ti25, ti23, ti3, List.getElem?_cons_zero, List.getElem?_cons_succ, List.drop_zero]; done) | (simp only [vec_load hv, tag_load, vec_cells, all_ints, tag_cells, tag_isC, ti25, ti23, ti3, List.getElem?_cons_zero, List.getElem?_cons_succ, List.drop_zero, okV, ok1, okC, okP, List.all_cons, List.all_nil, Bool.and_true]; done)) ?_
      have ht : tagB r t = false := by simpa using hb
      simp only [withS, hr, ht]; rfl
    · refine WC_skip ?_
      refine hN5 _ ?_; try clear hN5 hD5 N5
      have ht : tagB r t = true := by simpa using hb
      clear hb
      -- live behind: [2, 3, 4, 22, 23, 24, 25, 26, 27, 28, 29, 30]
      refine WC_seqN (fun N8 hN8 hD8 => ?_)
      -- live behind: [2, 3, 4, 16, 22, 23, 24, 25, 26, 27, 28, 29, 30]
      refine WC_seqR (fun N9 hN9 hD9 => ?_)
      simp only [sS, ↓sT, if_true, if_false, Nat.reduceLT, Nat.reduceEqDiff, ↓sO, ↓WOps_g, sG, opV, loudV, cellsOf, strOp, evL, Nat.reduceAdd, beq_self_eq_true, bne_self_eq_false, Int.reduceBEq, Int.reduceBNe, vec_load hv, tag_load, vec_cells, all_ints, tag_cells, tag_isC, ti25, ti23, ti3, List.getElem?_cons_zero, List.getElem?_cons_succ, List.drop_zero, ti23, ti25]
      refine WOps_callP (c_punnet_punnetref25_Has v hv r t) (by simp only [ev_func]) (by simp only [evL, sS, ↓sT, if_true, if_false, Nat.reduceLT, Nat.reduceEqDiff]; rfl) (by simp only [List.map, vec_bare, tag_bare]) (by simp [vec_noP, tag_noP]) rfl rfl ?_
      simp only [sS, ↓sT, if_true, if_false, Nat.reduceLT, Nat.reduceEqDiff, ↓sO, ↓WOps_g, sG, opV, loudV, cellsOf, strOp, evL, Nat.reduceAdd, beq_self_eq_true, bne_self_eq_false, Int.reduceBEq, Int.reduceBNe, vec_load hv, tag_load, vec_cells, all_ints, tag_cells, tag_isC, ti25, ti23, ti3, List.getElem?_cons_zero, List.getElem?_cons_succ, List.drop_zero, ti23, ti25]
      refine hN9 _ ?_; try clear hN9 hD9 N9
      refine WC_condE ?_
      simp only [sS, ↓sT, if_true, if_false, Nat.reduceLT, Nat.reduceEqDiff, ↓stepC_bool]
      refine ⟨fun hb => ?_, fun hb => ?_⟩
      · -- live behind: [4, 5]
        refine WC_seqR (fun N10 hN10 hD10 => ?_)
        simp only [sS, ↓sT, if_true, if_false, Nat.reduceLT, Nat.reduceEqDiff, ↓sO, ↓WOps_g, sG, opV, loudV, cellsOf, strOp, evL, Nat.reduceAdd, beq_self_eq_true, bne_self_eq_false, Int.reduceBEq, Int.reduceBNe, vec_load hv, tag_load, vec_cells, all_ints, tag_cells, tag_isC, ti25, ti23, ti3, List.getElem?_cons_zero, List.getElem?_cons_succ, List.drop_zero, buildV, evParts, V.isCell, List.all_cons, List.all_nil, Bool.and_self, if_true, placesOf, fillV, List.getElem?_cons_zero, List.getElem?_cons_succ, List.length_cons, List.length_nil, Nat.zero_add, Nat.reduceAdd, ne_eq, not_true_eq_false, false_or, gt_iff_lt, Nat.reduceLT, if_false, wrL, Option.map_some, List.set_cons_zero, List.set_cons_succ, ti23]
        refine hN10 _ ?_; try clear hN10 hD10 N10
        refine WC_ret ?_; (try simp only [Exit.after, Exit.out]); refine Kend_ret (by simp only [resOf, resL, resV, mkS_get, slots_get, cellsOf, vec_load hv, tag_load, vec_cells, all_ints, tag_cells, tag_isC, ti25, ti23, ti3, List.getElem?_cons_zero, List.getElem?_cons_succ, List.drop_zero, sS, ↓sT, if_true, if_false, Nat.reduceLT, Nat.reduceEqDiff]; rfl) (by first | rfl | (simp only [vec_load hv, tag_load, vec_cells, all_ints, tag_cells, tag_isC, ti25, ti23, ti3, List.getElem?_cons_zero, List.getElem?_cons_succ, List.drop_zero]; done) | (simp only [vec_load hv, tag_load, vec_cells, all_ints, tag_cells, tag_isC, ti25, ti23, ti3, List.getElem?_cons_zero, List.getElem?_cons_succ, List.drop_zero, okV, ok1, okC, okP, List.all_cons, List.all_nil, Bool.and_true]; done)) ?_
        simp only [withS, hr, ht, hb]; rfl
      · refine WC_skip ?_
        refine hN8 _ ?_; try clear hN8 hD8 N8
        have hh : hasB v r t = false := hb
        obtain ⟨q1, q2, q3, q4⟩ := tagB_iff.1 ht
        have hi : 0 ≤ r - 1 ∧ r - 1 < 6 := by omega
        obtain ⟨x, hx⟩ : ∃ x, v.getD (r - 1).toNat 0 = x := ⟨_, rfl⟩
        have hxb : 0 ≤ x ∧ x ≤ 400 := hx ▸ right_get hr (r - 1).toNat
        have hg := vec_get (v := v) (k := (r - 1).toNat) (by omega)
        rw [hx] at hg
        have hk : (r - 1).toNat + 1 ≤ 6 := by omega
        have hnx : x < t := by
          simp only [hasB, ht, hx, Bool.true_and, decide_eq_false_iff_not] at hh; omega
        refine WC_seqN (fun N11 hN11 hD11 => ?_)
        refine WC_seqR (fun N12 hN12 hD12 => ?_)
        have J : ∀ b, b = decide (t ≠ x + 1) → N12 ⟨mkS 44 [(31, .bool b), (4, .ptr 2 0), (3, .ptr 1 0), (2, .ptr 0 0)], [v.map (V.int .i64), [.int .i64 r, .int .i64 t], vec0.map (V.int .i64)], [], n⟩ := by
          intro b hbb
          refine hN12 _ ?_; try clear hN12 hD12 N12
          refine WC_condE ?_
          simp only [sS, ↓sT, if_true, if_false, Nat.reduceLT, Nat.reduceEqDiff, ↓stepC_bool]
          refine ⟨fun hb1 => ?_, fun hb1 => ?_⟩
          · refine WC_seqR (fun N13 hN13 hD13 => ?_)
            simp only [sS, ↓sT, if_true, if_false, Nat.reduceLT, Nat.reduceEqDiff, ↓sO, ↓WOps_g, sG, opV, loudV, cellsOf, strOp, evL, Nat.reduceAdd, beq_self_eq_true, bne_self_eq_false, Int.reduceBEq, Int.reduceBNe, vec_load hv, tag_load, vec_cells, all_ints, tag_cells, tag_isC, ti25, ti23, ti3, List.getElem?_cons_zero, List.getElem?_cons_succ, List.drop_zero, buildV, evParts, V.isCell, List.all_cons, List.all_nil, Bool.and_self, if_true, placesOf, fillV, List.getElem?_cons_zero, List.getElem?_cons_succ, List.length_cons, List.length_nil, Nat.zero_add, Nat.reduceAdd, ne_eq, not_true_eq_false, false_or, gt_iff_lt, Nat.reduceLT, if_false, wrL, Option.map_some, List.set_cons_zero, List.set_cons_succ]
            refine hN13 _ ?_; try clear hN13 hD13 N13
            refine WC_ret ?_; (try simp only [Exit.after, Exit.out]); refine Kend_ret (by simp only [resOf, resL, resV, mkS_get, slots_get, cellsOf, vec_load hv, tag_load, vec_cells, all_ints, tag_cells, tag_isC, ti25, ti23, ti3, List.getElem?_cons_zero, List.getElem?_cons_succ, List.drop_zero, sS, ↓sT, if_true, if_false, Nat.reduceLT, Nat.reduceEqDiff]; rfl) (by first | rfl | (simp only [vec_load hv, tag_load, vec_cells, all_ints, tag_cells, tag_isC, ti25, ti23, ti3, List.getElem?_cons_zero, List.getElem?_cons_succ, List.drop_zero]; done) | (simp only [vec_load hv, tag_load, vec_cells, all_ints, tag_cells, tag_isC, ti25, ti23, ti3, List.getElem?_cons_zero, List.getElem?_cons_succ, List.drop_zero, okV, ok1, okC, okP, List.all_cons, List.all_nil, Bool.and_true]; done)) ?_
            have h1 : t ≠ x + 1 := by subst hb1; simpa using hbb
            simp only [withS, hr, ht, hh, hx, if_pos h1]; rfl
          · have h1 : ¬ t ≠ x + 1 := by subst hb1; simpa using hbb.symm
            refine WC_skip ?_
            refine hN11 _ ?_; try clear hN11 hD11 N11
            refine WC_seqN (fun N14 hN14 hD14 => ?_)
            refine WC_seqR (fun N15 hN15 hD15 => ?_)
            simp only [sS, ↓sT, if_true, if_false, Nat.reduceLT, Nat.reduceEqDiff, ↓sO, ↓WOps_g, sG, opV, loudV, cellsOf, strOp, evL, Nat.reduceAdd, beq_self_eq_true, bne_self_eq_false, Int.reduceBEq, Int.reduceBNe, vec_load hv, tag_load, vec_cells, all_ints, tag_cells, tag_isC, ti25, ti23, ti3, List.getElem?_cons_zero, List.getElem?_cons_succ, List.drop_zero, fa25_1, fr25_1, fv25_1]
            refine hN15 _ ?_; try clear hN15 hD15 N15
            refine WC_condE ?_
            simp only [sS, ↓sT, if_true, if_false, Nat.reduceLT, Nat.reduceEqDiff, ↓stepC_bool]
            refine ⟨fun hb2 => ?_, fun hb2 => ?_⟩
            · refine WC_seqR (fun N16 hN16 hD16 => ?_)
              simp only [sS, ↓sT, if_true, if_false, Nat.reduceLT, Nat.reduceEqDiff, ↓sO, ↓WOps_g, sG, opV, loudV, cellsOf, strOp, evL, Nat.reduceAdd, beq_self_eq_true, bne_self_eq_false, Int.reduceBEq, Int.reduceBNe, vec_load hv, tag_load, vec_cells, all_ints, tag_cells, tag_isC, ti25, ti23, ti3, List.getElem?_cons_zero, List.getElem?_cons_succ, List.drop_zero, buildV, evParts, V.isCell, List.all_cons, List.all_nil, Bool.and_self, if_true, placesOf, fillV, List.getElem?_cons_zero, List.getElem?_cons_succ, List.length_cons, List.length_nil, Nat.zero_add, Nat.reduceAdd, ne_eq, not_true_eq_false, false_or, gt_iff_lt, Nat.reduceLT, if_false, wrL, Option.map_some, List.set_cons_zero, List.set_cons_succ]
              refine hN16 _ ?_; try clear hN16 hD16 N16
              refine WC_ret ?_; (try simp only [Exit.after, Exit.out]); refine Kend_ret (by simp only [resOf, resL, resV, mkS_get, slots_get, cellsOf, vec_load hv, tag_load, vec_cells, all_ints, tag_cells, tag_isC, ti25, ti23, ti3, List.getElem?_cons_zero, List.getElem?_cons_succ, List.drop_zero, sS, ↓sT, if_true, if_false, Nat.reduceLT, Nat.reduceEqDiff]; rfl) (by first | rfl | (simp only [vec_load hv, tag_load, vec_cells, all_ints, tag_cells, tag_isC, ti25, ti23, ti3, List.getElem?_cons_zero, List.getElem?_cons_succ, List.drop_zero]; done) | (simp only [vec_load hv, tag_load, vec_cells, all_ints, tag_cells, tag_isC, ti25, ti23, ti3, List.getElem?_cons_zero, List.getElem?_cons_succ, List.drop_zero, okV, ok1, okC, okP, List.all_cons, List.all_nil, Bool.and_true]; done)) ?_
              have h2 : t > 400 := of_decide_eq_true hb2
              have h3 : x = 400 := by omega
              simp only [withS, hr, ht, hh, hx, if_neg h1, if_pos h3]; rfl
            · have h2 : ¬ t > 400 := of_decide_eq_false hb2
              have h3 : ¬ x = 400 := by omega
              refine WC_skip ?_
              refine hN14 _ ?_; try clear hN14 hD14 N14
              refine WC_seqR (fun N17 hN17 hD17 => ?_)
              simp only [sS, ↓sT, if_true, if_false, Nat.reduceLT, Nat.reduceEqDiff, ↓sO, ↓WOps_g, sG, opV, loudV, cellsOf, strOp, evL, Nat.reduceAdd, beq_self_eq_true, bne_self_eq_false, Int.reduceBEq, Int.reduceBNe, vec_load hv, tag_load, vec_cells, all_ints, tag_cells, tag_isC, ti25, ti23, ti3, List.getElem?_cons_zero, List.getElem?_cons_succ, List.drop_zero, fa25_0, fr25_0, fv25_0, fa25_1, fr25_1, fv25_1, vec_ia, wrapI (x := r - 1) (by omega) (by omega), hi, hv, hk, vec_set]
              refine hN17 _ ?_; try clear hN17 hD17 N17
              have hl : (v.set (r - 1).toNat t).length = 6 := by simp [hv]
              have h0 : vec0.length = 6 := rfl
              refine WC_seqR (fun N18 hN18 hD18 => ?_)
              simp only [sS, ↓sT, if_true, if_false, Nat.reduceLT, Nat.reduceEqDiff, ↓sO, ↓WOps_g, sG, opV, loudV, cellsOf, strOp, evL, Nat.reduceAdd, beq_self_eq_true, bne_self_eq_false, Int.reduceBEq, Int.reduceBNe, vec_load hv, tag_load, vec_cells, all_ints, tag_cells, tag_isC, ti25, ti23, ti3, List.getElem?_cons_zero, List.getElem?_cons_succ, List.drop_zero, vec_load hl, hl, h0, wrL_full (cs := vec0.map (V.int .i64)) (ys := (v.set (r - 1).toNat t).map (V.int .i64)) (by simp [hv, h0]), Nat.le_refl]
              refine hN18 _ ?_; try clear hN18 hD18 N18
              refine WC_ret ?_; (try simp only [Exit.after, Exit.out]); refine Kend_ret (by simp only [resOf, resL, resV, mkS_get, cellsOf, vec_load hv, tag_load, vec_cells, all_ints, tag_cells, tag_isC, ti25, ti23, ti3, List.getElem?_cons_zero, List.getElem?_cons_succ, List.drop_zero, vec_load hl, sS, ↓sT, if_true, if_false, Nat.reduceLT, Nat.reduceEqDiff]; rfl) ?_ ?_
              · simp only [okV, List.all_cons, List.all_nil, Bool.and_true, vec_ok1]; rfl
              simp only [withS, hr, ht, hh, hx, if_neg h1, if_neg h3]
              simp only [V.keep, List.map_cons, List.map_nil, vec_keep1]; rfl
        simp only [sS, ↓sT, if_true, if_false, Nat.reduceLT, Nat.reduceEqDiff, ↓sO, ↓WOps_g, sG, opV, loudV, cellsOf, strOp, evL, Nat.reduceAdd, beq_self_eq_true, bne_self_eq_false, Int.reduceBEq, Int.reduceBNe, vec_load hv, tag_load, vec_cells, all_ints, tag_cells, tag_isC, ti25, ti23, ti3, List.getElem?_cons_zero, List.getElem?_cons_succ, List.drop_zero, buildV, evParts, V.isCell, List.all_cons, List.all_nil, Bool.and_self, if_true, placesOf, fillV, List.getElem?_cons_zero, List.getElem?_cons_succ, List.length_cons, List.length_nil, Nat.zero_add, Nat.reduceAdd, ne_eq, not_true_eq_false, false_or, gt_iff_lt, Nat.reduceLT, if_false, wrL, Option.map_some, List.set_cons_zero, List.set_cons_succ, fa25_0, fr25_0, fv25_0, fa25_1, fr25_1, fv25_1]
        refine stepB_T (fun hg3 => ?_) (fun hg3 => ?_)  -- guard 3
        all_goals simp only [sS, ↓sT, if_true, if_false, Nat.reduceLT, Nat.reduceEqDiff, ↓sO, ↓WOps_g, sG, opV, loudV, cellsOf, strOp, evL, Nat.reduceAdd, beq_self_eq_true, bne_self_eq_false, Int.reduceBEq, Int.reduceBNe, vec_load hv, tag_load, vec_cells, all_ints, tag_cells, tag_isC, ti25, ti23, ti3, List.getElem?_cons_zero, List.getElem?_cons_succ, List.drop_zero, buildV, evParts, V.isCell, List.all_cons, List.all_nil, Bool.and_self, if_true, placesOf, fillV, List.getElem?_cons_zero, List.getElem?_cons_succ, List.length_cons, List.length_nil, Nat.zero_add, Nat.reduceAdd, ne_eq, not_true_eq_false, false_or, gt_iff_lt, Nat.reduceLT, if_false, wrL, Option.map_some, List.set_cons_zero, List.set_cons_succ, fa25_0, fr25_0, fv25_0, fa25_1, fr25_1, fv25_1, hg3]
        · have hgt : t > 1 := of_decide_eq_true hg3
          simp only [wrapI (x := t - 1) (by omega) (by omega)]
          refine WOps_callP (c_punnet_punnetref25_Has v hv r (t - 1)) (by simp only [ev_func]) (by simp only [evL, sS, ↓sT, if_true, if_false, Nat.reduceLT, Nat.reduceEqDiff]; rfl) (by simp only [List.map, vec_bare, tag_fold, tag_bare]) (by simp [vec_noP, tag_noP, tag_fold]) rfl rfl ?_
          have hq : hasB v r (t - 1) = decide (t - 1 ≤ x) := by
            have : tagB r (t - 1) = true := tagB_iff.2 (by omega)
            simp [hasB, this, ← hx]
          rw [hq]
          simp only [sS, ↓sT, if_true, if_false, Nat.reduceLT, Nat.reduceEqDiff, ↓sO, ↓WOps_g, sG, opV, loudV, cellsOf, strOp, evL, Nat.reduceAdd, beq_self_eq_true, bne_self_eq_false, Int.reduceBEq, Int.reduceBNe, vec_load hv, tag_load, vec_cells, all_ints, tag_cells, tag_isC, ti25, ti23, ti3, List.getElem?_cons_zero, List.getElem?_cons_succ, List.drop_zero, buildV, evParts, V.isCell, List.all_cons, List.all_nil, Bool.and_self, if_true, placesOf, fillV, List.getElem?_cons_zero, List.getElem?_cons_succ, List.length_cons, List.length_nil, Nat.zero_add, Nat.reduceAdd, ne_eq, not_true_eq_false, false_or, gt_iff_lt, Nat.reduceLT, if_false, wrL, Option.map_some, List.set_cons_zero, List.set_cons_succ, fa25_0, fr25_0, fv25_0, fa25_1, fr25_1, fv25_1, hg3]
          refine hD12 [31, 4, 3, 2] _ _ _ _ _ (J _ ?_); clear J hN12 hD12 hN11 hD11; rw [Bool.eq_iff_iff]; simp; omega
        · have hgt : ¬ t > 1 := of_decide_eq_false hg3
          refine hD12 [31, 4, 3, 2] _ _ _ _ _ (J _ ?_); clear J hN12 hD12 hN11 hD11; rw [Bool.eq_iff_iff]; simp; omega
end Go.PV
/- punnetlaw25.awake. -/
namespace Go.PV
open Go.Proofs
set_option linter.unusedVariables false
set_option linter.unusedSimpArgs false
set_option maxRecDepth 10000

theorem tagC_bare (q : (Int × Int) × Int) : (tagC q).bare = .tup [tagV q.1.1 q.1.2, .int .i64 q.2] := rfl
theorem vecC_bare (q : List Int × Int) : (vecC q).bare = .tup [vecV q.1, .int .i64 q.2] := by
  simp [vecC, bare_tup, vec_bare1, bare1_int]
theorem c_punnet_punnetlaw25_awake : VC Try.prog 11 [] [] (fun r _ => r = .bool true) := by
  refine VC_enter (nt := 29) (rs := [.tmp 0]) (ow := []) (m := 0) Try.func11 rfl (by rfl) rfl rfl (by simp) rfl rfl (fun n => ?_)
  simp only [zipT]
  have e1 : nextS [2, 0, 0, 0, 0, 0] 1 = ((1, 3), 0) := by decide
  have e2 : withS [2, 0, 0, 0, 0, 0] 1 4 = (vec0, 17) := by decide
  have c1 := c_punnet_dot_Next [2, 0, 0, 0, 0, 0] rfl 1
  have c2 := c_punnet_dot_With [2, 0, 0, 0, 0, 0] rfl 1 4
  rw [e1] at c1
  rw [e2] at c2
  refine WC_seqR (fun N1 hN1 hD1 => ?_)
  simp only [sS, ↓sT, if_true, if_false, Nat.reduceLT, Nat.reduceEqDiff, ↓sO, ↓WOps_g, sG, opV, loudV, cellsOf, strOp, evL, Nat.reduceAdd, beq_self_eq_true, bne_self_eq_false, Int.reduceBEq, Int.reduceBNe]
  refine hN1 _ ?_; try clear hN1 hD1 N1
  refine WC_seqR (fun N2 hN2 hD2 => ?_)
  simp only [sS, ↓sT, if_true, if_false, Nat.reduceLT, Nat.reduceEqDiff, ↓sO, ↓WOps_g, sG, opV, loudV, cellsOf, strOp, evL, Nat.reduceAdd, beq_self_eq_true, bne_self_eq_false, Int.reduceBEq, Int.reduceBNe, buildV, evParts, V.isCell, List.all_cons, List.all_nil, Bool.and_self, if_true, placesOf, fillV, List.getElem?_cons_zero, List.getElem?_cons_succ, List.length_cons, List.length_nil, Nat.zero_add, Nat.reduceAdd, ne_eq, not_true_eq_false, false_or, gt_iff_lt, Nat.reduceLT, if_false, wrL, Option.map_some, List.set_cons_zero, List.set_cons_succ, ti23, ti3]
  refine hN2 _ ?_; try clear hN2 hD2 N2
  refine WC_seqR (fun N3 hN3 hD3 => ?_)
  simp only [sS, ↓sT, if_true, if_false, Nat.reduceLT, Nat.reduceEqDiff, ↓sO, ↓WOps_g, sG, opV, loudV, cellsOf, strOp, evL, Nat.reduceAdd, beq_self_eq_true, bne_self_eq_false, Int.reduceBEq, Int.reduceBNe, loadV, TD.agg, List.take, Nat.le_refl, ti23, ti25]
  refine WOps_callP c1 (by simp only [ev_func]) (by simp only [evL, sS, ↓sT, if_true, if_false, Nat.reduceLT, Nat.reduceEqDiff]; rfl) rfl rfl rfl (tagC_bare _) ?_
  simp only [sS, ↓sT, if_true, if_false, Nat.reduceLT, Nat.reduceEqDiff, ↓sO, ↓WOps_g, sG, opV, loudV, cellsOf, strOp, evL, Nat.reduceAdd, beq_self_eq_true, bne_self_eq_false, Int.reduceBEq, Int.reduceBNe, ti23, ti25, tag_cells, tag_isC]
  refine hN3 _ ?_; try clear hN3 hD3 N3
  refine WC_seqR (fun N4 hN4 hD4 => ?_)
  simp only [sS, ↓sT, if_true, if_false, Nat.reduceLT, Nat.reduceEqDiff, ↓sO, ↓WOps_g, sG, opV, loudV, cellsOf, strOp, evL, Nat.reduceAdd, beq_self_eq_true, bne_self_eq_false, Int.reduceBEq, Int.reduceBNe, buildV, evParts, V.isCell, List.all_cons, List.all_nil, Bool.and_self, if_true, placesOf, fillV, List.getElem?_cons_zero, List.getElem?_cons_succ, List.length_cons, List.length_nil, Nat.zero_add, Nat.reduceAdd, ne_eq, not_true_eq_false, false_or, gt_iff_lt, Nat.reduceLT, if_false, wrL, Option.map_some, List.set_cons_zero, List.set_cons_succ, loadV, TD.agg, List.take, Nat.le_refl, ti23, ti25, ti3]
  refine WOps_callP c2 (by simp only [ev_func]) (by simp only [evL, sS, ↓sT, if_true, if_false, Nat.reduceLT, Nat.reduceEqDiff]; rfl) rfl rfl (by simp [vecC, V.noP, V.noP1, V.noP0, vecV]) (vecC_bare _) ?_
  simp only [sS, ↓sT, if_true, if_false, Nat.reduceLT, Nat.reduceEqDiff, ↓sO, ↓WOps_g, sG, opV, loudV, cellsOf, strOp, evL, Nat.reduceAdd, beq_self_eq_true, bne_self_eq_false, Int.reduceBEq, Int.reduceBNe, ti23, buildV, evParts, V.isCell, List.all_cons, List.all_nil, Bool.and_self, if_true, placesOf, fillV, List.getElem?_cons_zero, List.getElem?_cons_succ, List.length_cons, List.length_nil, Nat.zero_add, Nat.reduceAdd, ne_eq, not_true_eq_false, false_or, gt_iff_lt, Nat.reduceLT, if_false, wrL, Option.map_some, List.set_cons_zero, List.set_cons_succ, ti25, vec_cells]
  refine hN4 _ ?_; try clear hN4 hD4 N4
  refine WC_seqR (fun N5 hN5 hD5 => ?_)
  simp only [sS, ↓sT, if_true, if_false, Nat.reduceLT, Nat.reduceEqDiff, ↓sO, ↓WOps_g, sG, opV, loudV, cellsOf, strOp, evL, Nat.reduceAdd, beq_self_eq_true, bne_self_eq_false, Int.reduceBEq, Int.reduceBNe, buildV, evParts, V.isCell, List.all_cons, List.all_nil, Bool.and_self, if_true, placesOf, fillV, List.getElem?_cons_zero, List.getElem?_cons_succ, List.length_cons, List.length_nil, Nat.zero_add, Nat.reduceAdd, ne_eq, not_true_eq_false, false_or, gt_iff_lt, Nat.reduceLT, if_false, wrL, Option.map_some, List.set_cons_zero, List.set_cons_succ, ti25, ti3, tag_load, tag_fold, tag_eql]
  refine hN5 _ ?_; try clear hN5 hD5 N5
  have hv : vec0.length = 6 := rfl
  refine WC_ret ?_; (try simp only [Exit.after, Exit.out]); refine Kend_ret (by simp only [resOf, resL, resV, mkS_get, slots_get, cellsOf, vec_load hv, tag_load, vec_cells, all_ints, tag_cells, tag_isC, ti25, ti23, ti3, List.getElem?_cons_zero, List.getElem?_cons_succ, List.drop_zero, sS, ↓sT, if_true, if_false, Nat.reduceLT, Nat.reduceEqDiff]; rfl) (by first | rfl | (simp only [vec_load hv, tag_load, vec_cells, all_ints, tag_cells, tag_isC, ti25, ti23, ti3, List.getElem?_cons_zero, List.getElem?_cons_succ, List.drop_zero]; done) | (simp only [vec_load hv, tag_load, vec_cells, all_ints, tag_cells, tag_isC, ti25, ti23, ti3, List.getElem?_cons_zero, List.getElem?_cons_succ, List.drop_zero, okV, ok1, okC, okP, List.all_cons, List.all_nil, Bool.and_true]; done)) ?_
  rfl
end Go.PV
/- punnetlaw25.DotTags: the walk. -/
namespace Go.PV
open Go.Proofs
set_option linter.unusedVariables false
set_option linter.unusedSimpArgs false
set_option maxRecDepth 10000

theorem with_len {v : List Int} (hv : v.length = 6) (r n : Int) : (withS v r n).1.length = 6 := by
  unfold withS
  repeat' split
  all_goals first | rfl | simp [hv]
theorem next_fine {v : List Int} {r : Int} (hv : v.length = 6) (h : (nextS v r).2 = 0) : rightB v = true ∧ 1 ≤ r ∧ r ≤ 6 ∧ (nextS v r).1.1 = r ∧ ∃ x, v.getD (r - 1).toNat 0 = x ∧ 0 ≤ x ∧ x < 400 ∧ (nextS v r).1.2 = x + 1 := by
  unfold nextS at h ⊢
  split at h
  · cases h
  · rename_i h1
    have hr : rightB v = true := by simpa using h1
    split at h
    · cases h
    · rename_i h2
      split at h
      · cases h
      · rename_i h3
        have := right_get hr (r - 1).toNat
        rw [if_neg h1, if_neg h2, if_neg h3]
        exact ⟨hr, by omega, by omega, rfl, _, rfl, by omega, by omega, rfl⟩
theorem with_next {v : List Int} {r x : Int} (hv : v.length = 6) (hr : rightB v = true) (h1 : 1 ≤ r) (h6 : r ≤ 6) (hx : v.getD (r - 1).toNat 0 = x) (h0 : 0 ≤ x) (hl : x < 400) :
    withS v r (x + 1) = (v.set (r - 1).toNat (x + 1), 0) ∧ hasB v r (x + 1) = false := by
  have ht : tagB r (x + 1) = true := tagB_iff.2 (by omega)
  have hh : hasB v r (x + 1) = false := by simp only [hasB, ht, hx, Bool.true_and]; exact decide_eq_false (by omega)
  refine ⟨?_, hh⟩
  unfold withS
  rw [hr, ht, hh, hx, if_neg (by simp), if_neg (by simp), if_neg (by simp), if_neg (by simp), if_neg (by omega)]
theorem set_facts {v : List Int} {r x : Int} (hv : v.length = 6) (hr : rightB v = true) (h1 : 1 ≤ r) (h6 : r ≤ 6) (hx : v.getD (r - 1).toNat 0 = x) (h0 : 0 ≤ x) (hl : x < 400) :
    hasB (v.set (r - 1).toNat (x + 1)) r (x + 1) = true ∧ covB (v.set (r - 1).toNat (x + 1)) v = true ∧ rightB (v.set (r - 1).toNat (x + 1)) = true := by
  have ht : tagB r (x + 1) = true := tagB_iff.2 (by omega)
  have hk : (r - 1).toNat < v.length := by omega
  have hl' : (v.set (r - 1).toNat (x + 1)).length = 6 := by simp [hv]
  have hg : ∀ k, (v.set (r - 1).toNat (x + 1)).getD k 0 = if (r - 1).toNat = k then x + 1 else v.getD k 0 := fun k => by
    generalize (r - 1).toNat = j at hk ⊢
    simp only [List.getD, List.getElem?_set]
    by_cases h : j = k
    · subst h; simp only [if_true, hk, Option.getD_some]
    · simp only [if_neg h]
  refine ⟨?_, (cov_iff hl' hv).2 fun i hi => ?_, right_true fun k y hy => ?_⟩
  · simp only [hasB, ht, hg, if_true, Bool.true_and]; exact decide_eq_true (by omega)
  · rw [hg]
    split
    · rename_i h; rw [← h, hx]; omega
    · omega
  · rw [List.getElem?_set] at hy
    split at hy
    · obtain rfl := Option.some.inj hy; omega
    · exact right_iff.1 hr k y hy

theorem c_punnet_punnetlaw25_DotTags (v : List Int) (hv : v.length = 6) (r t p : Int) : VC Try.prog 3 [vecV v, tagV r t, .int .i64 p] [] (fun q _ => q = .bool true) := by
  refine VC_enter (nt := 107) (rs := [.tmp 6]) (ow := []) (m := 0) Try.func3 rfl (by rfl) rfl rfl (by simp) (by simp only [ownOf, List.flatMap_cons, vec_toks, tag_toks]; rfl) rfl (fun n => ?_)
  simp only [zipT, Nat.zero_add]
  have hw := with_len hv r t
  refine WC_seqR (fun N1 hN1 hD1 => ?_)
  simp only [sS, ↓sT, if_true, if_false, Nat.reduceLT, Nat.reduceEqDiff, ↓sO, ↓WOps_g, sG, opV, loudV, cellsOf, strOp, evL, Nat.reduceAdd, beq_self_eq_true, bne_self_eq_false, Int.reduceBEq, Int.reduceBNe, vec_load hv, tag_load, tag_full, vec_cells, all_ints, tag_cells, tag_isC, ti25, ti23, ti3, List.getElem?_cons_zero, List.getElem?_cons_succ, List.drop_zero, bne_self_eq_false, bool_neq, vec_ne hw hw, vec_load hw, vec_full hw, hw, Nat.le_refl]
  refine hN1 _ ?_; try clear hN1 hD1 N1
  refine WC_seqN (fun N2 hN2 hD2 => ?_)
  refine WC_seqR (fun N3 hN3 hD3 => ?_)
  refine WOps_callP (c_punnet_punnetlaw25_awake) (by simp only [ev_func]) rfl rfl rfl rfl rfl ?_
  simp only [sS, ↓sT, if_true, if_false, Nat.reduceLT, Nat.reduceEqDiff, ↓sO, ↓WOps_g, sG, opV, loudV, cellsOf, strOp, evL, Nat.reduceAdd, beq_self_eq_true, bne_self_eq_false, Int.reduceBEq, Int.reduceBNe, vec_load hv, tag_load, tag_full, vec_cells, all_ints, tag_cells, tag_isC, ti25, ti23, ti3, List.getElem?_cons_zero, List.getElem?_cons_succ, List.drop_zero, bne_self_eq_false, bool_neq, vec_ne hw hw, vec_load hw, vec_full hw, hw, Nat.le_refl]
  refine hN3 _ ?_; try clear hN3 hD3 N3
  refine WC_condE ?_
  simp only [sS, ↓sT, if_true, if_false, Nat.reduceLT, Nat.reduceEqDiff, ↓stepC_bool]
  refine ⟨fun hb => ?_, fun hb => ?_⟩
  · cases hb
  · refine WC_skip ?_
    refine hN2 _ ?_; try clear hN2 hD2 N2
    refine WC_seqR (fun N5 hN5 hD5 => ?_)
    simp only [sS, ↓sT, if_true, if_false, Nat.reduceLT, Nat.reduceEqDiff, ↓sO, ↓WOps_g, sG, opV, loudV, cellsOf, strOp, evL, Nat.reduceAdd, beq_self_eq_true, bne_self_eq_false, Int.reduceBEq, Int.reduceBNe, vec_load hv, tag_load, tag_full, vec_cells, all_ints, tag_cells, tag_isC, ti25, ti23, ti3, List.getElem?_cons_zero, List.getElem?_cons_succ, List.drop_zero, bne_self_eq_false, bool_neq, vec_ne hw hw, vec_load hw, vec_full hw, hw, Nat.le_refl, ti23, ti25]
    refine WOps_callP (c_punnet_dot_Next v hv p) (by simp only [ev_func]) (by simp only [evL, sS, ↓sT, if_true, if_false, Nat.reduceLT, Nat.reduceEqDiff]; rfl) (by simp only [List.map, vec_bare, tag_bare, bare_int]) (by simp [vec_noP, noP_int]) rfl (tagC_bare _) ?_
    simp only [sS, ↓sT, if_true, if_false, Nat.reduceLT, Nat.reduceEqDiff, ↓sO, ↓WOps_g, sG, opV, loudV, cellsOf, strOp, evL, Nat.reduceAdd, beq_self_eq_true, bne_self_eq_false, Int.reduceBEq, Int.reduceBNe, vec_load hv, tag_load, tag_full, vec_cells, all_ints, tag_cells, tag_isC, ti25, ti23, ti3, List.getElem?_cons_zero, List.getElem?_cons_succ, List.drop_zero, bne_self_eq_false, bool_neq, vec_ne hw hw, vec_load hw, vec_full hw, hw, Nat.le_refl, ti23, ti25]
    refine hN5 _ ?_; try clear hN5 hD5 N5
    refine WC_seqR (fun N6 hN6 hD6 => ?_)
    simp only [sS, ↓sT, if_true, if_false, Nat.reduceLT, Nat.reduceEqDiff, ↓sO, ↓WOps_g, sG, opV, loudV, cellsOf, strOp, evL, Nat.reduceAdd, beq_self_eq_true, bne_self_eq_false, Int.reduceBEq, Int.reduceBNe, vec_load hv, tag_load, tag_full, vec_cells, all_ints, tag_cells, tag_isC, ti25, ti23, ti3, List.getElem?_cons_zero, List.getElem?_cons_succ, List.drop_zero, bne_self_eq_false, bool_neq, vec_ne hw hw, vec_load hw, vec_full hw, hw, Nat.le_refl, ti23, ti25]
    refine WOps_callP (c_punnet_punnetref25_Next v hv p) (by simp only [ev_func]) (by simp only [evL, sS, ↓sT, if_true, if_false, Nat.reduceLT, Nat.reduceEqDiff]; rfl) (by simp only [List.map, vec_bare, tag_bare, bare_int]) (by simp [vec_noP, noP_int]) rfl (tagC_bare _) ?_
    simp only [sS, ↓sT, if_true, if_false, Nat.reduceLT, Nat.reduceEqDiff, ↓sO, ↓WOps_g, sG, opV, loudV, cellsOf, strOp, evL, Nat.reduceAdd, beq_self_eq_true, bne_self_eq_false, Int.reduceBEq, Int.reduceBNe, vec_load hv, tag_load, tag_full, vec_cells, all_ints, tag_cells, tag_isC, ti25, ti23, ti3, List.getElem?_cons_zero, List.getElem?_cons_succ, List.drop_zero, bne_self_eq_false, bool_neq, vec_ne hw hw, vec_load hw, vec_full hw, hw, Nat.le_refl, ti23, ti25]
    refine hN6 _ ?_; try clear hN6 hD6 N6
    refine WC_seqR (fun N7 hN7 hD7 => ?_)
    simp only [sS, ↓sT, if_true, if_false, Nat.reduceLT, Nat.reduceEqDiff, ↓sO, ↓WOps_g, sG, opV, loudV, cellsOf, strOp, evL, Nat.reduceAdd, beq_self_eq_true, bne_self_eq_false, Int.reduceBEq, Int.reduceBNe, vec_load hv, tag_load, tag_full, vec_cells, all_ints, tag_cells, tag_isC, ti25, ti23, ti3, List.getElem?_cons_zero, List.getElem?_cons_succ, List.drop_zero, bne_self_eq_false, bool_neq, vec_ne hw hw, vec_load hw, vec_full hw, hw, Nat.le_refl, ti23, ti25]
    refine WOps_callP (c_punnet_dot_With v hv r t) (by simp only [ev_func]) (by simp only [evL, sS, ↓sT, if_true, if_false, Nat.reduceLT, Nat.reduceEqDiff]; rfl) (by simp only [List.map, vec_bare, tag_bare, bare_int]) (by simp [vec_noP, tag_noP]) (by simp [vecC, V.noP, V.noP1, V.noP0, vecV]) (vecC_bare _) ?_
    simp only [sS, ↓sT, if_true, if_false, Nat.reduceLT, Nat.reduceEqDiff, ↓sO, ↓WOps_g, sG, opV, loudV, cellsOf, strOp, evL, Nat.reduceAdd, beq_self_eq_true, bne_self_eq_false, Int.reduceBEq, Int.reduceBNe, vec_load hv, tag_load, tag_full, vec_cells, all_ints, tag_cells, tag_isC, ti25, ti23, ti3, List.getElem?_cons_zero, List.getElem?_cons_succ, List.drop_zero, bne_self_eq_false, bool_neq, vec_ne hw hw, vec_load hw, vec_full hw, hw, Nat.le_refl, ti23, ti25]
    refine hN7 _ ?_; try clear hN7 hD7 N7
    refine WC_seqR (fun N8 hN8 hD8 => ?_)
    simp only [sS, ↓sT, if_true, if_false, Nat.reduceLT, Nat.reduceEqDiff, ↓sO, ↓WOps_g, sG, opV, loudV, cellsOf, strOp, evL, Nat.reduceAdd, beq_self_eq_true, bne_self_eq_false, Int.reduceBEq, Int.reduceBNe, vec_load hv, tag_load, tag_full, vec_cells, all_ints, tag_cells, tag_isC, ti25, ti23, ti3, List.getElem?_cons_zero, List.getElem?_cons_succ, List.drop_zero, bne_self_eq_false, bool_neq, vec_ne hw hw, vec_load hw, vec_full hw, hw, Nat.le_refl, ti23, ti25]
    refine WOps_callP (c_punnet_punnetref25_With v hv r t) (by simp only [ev_func]) (by simp only [evL, sS, ↓sT, if_true, if_false, Nat.reduceLT, Nat.reduceEqDiff]; rfl) (by simp only [List.map, vec_bare, tag_bare, bare_int]) (by simp [vec_noP, tag_noP]) (by simp [vecC, V.noP, V.noP1, V.noP0, vecV]) (vecC_bare _) ?_
    simp only [sS, ↓sT, if_true, if_false, Nat.reduceLT, Nat.reduceEqDiff, ↓sO, ↓WOps_g, sG, opV, loudV, cellsOf, strOp, evL, Nat.reduceAdd, beq_self_eq_true, bne_self_eq_false, Int.reduceBEq, Int.reduceBNe, vec_load hv, tag_load, tag_full, vec_cells, all_ints, tag_cells, tag_isC, ti25, ti23, ti3, List.getElem?_cons_zero, List.getElem?_cons_succ, List.drop_zero, bne_self_eq_false, bool_neq, vec_ne hw hw, vec_load hw, vec_full hw, hw, Nat.le_refl, ti23, ti25]
    refine hN8 _ ?_; try clear hN8 hD8 N8
    refine WC_seqN (fun N9 hN9 hD9 => ?_)
    refine WC_seqD mixed [] [0, 1, 0, 0, 0, 0, 0, 0, 1, 0, 0, 0, 0, 0, 0, 0, 0, 0, 0, 0, 0, 0, 0, 0, 0, 0, 0, 0, 0, 0, 0, 0, 0, 0] (by decide +kernel) (fun N10 hN10 hD10 => ?_)
    simp only [sS, ↓sT, if_true, if_false, Nat.reduceLT, Nat.reduceEqDiff, ↓sD, ↓D_g, memOk, lets0, lets1, List.not_mem_nil, not_false_eq_true, true_and, and_true, sG, opV, loudV, cellsOf, strOp, evL, Nat.reduceAdd, beq_self_eq_true, bne_self_eq_false, Int.reduceBEq, Int.reduceBNe, vec_load hv, tag_load, tag_full, vec_cells, all_ints, tag_cells, tag_isC, ti25, ti23, ti3, List.getElem?_cons_zero, List.getElem?_cons_succ, List.drop_zero, bne_self_eq_false, bool_neq, vec_ne hw hw, vec_load hw, vec_full hw, hw, Nat.le_refl, tag_neq, ti23, ti25]
    refine D_callP (c_punnet_dot_Right v hv) (by simp only [ev_func]) (by simp only [evL, sS, ↓sT, if_true, if_false, Nat.reduceLT, Nat.reduceEqDiff]; rfl) (by simp only [List.map, vec_bare, tag_bare, bare_int]) (by simp [vec_noP, noP_int]) rfl rfl ?_
    simp only [sS, ↓sT, if_true, if_false, Nat.reduceLT, Nat.reduceEqDiff, ↓sD, ↓D_g, memOk, lets0, lets1, List.not_mem_nil, not_false_eq_true, true_and, and_true, sG, opV, loudV, cellsOf, strOp, evL, Nat.reduceAdd, beq_self_eq_true, bne_self_eq_false, Int.reduceBEq, Int.reduceBNe, vec_load hv, tag_load, tag_full, vec_cells, all_ints, tag_cells, tag_isC, ti25, ti23, ti3, List.getElem?_cons_zero, List.getElem?_cons_succ, List.drop_zero, bne_self_eq_false, bool_neq, vec_ne hw hw, vec_load hw, vec_full hw, hw, Nat.le_refl, tag_neq, ti23, ti25]
    refine D_callP (c_punnet_punnetref25_Right v hv) (by simp only [ev_func]) (by simp only [evL, sS, ↓sT, if_true, if_false, Nat.reduceLT, Nat.reduceEqDiff]; rfl) (by simp only [List.map, vec_bare, tag_bare, bare_int]) (by simp [vec_noP, noP_int]) rfl rfl ?_
    simp only [sS, ↓sT, if_true, if_false, Nat.reduceLT, Nat.reduceEqDiff, ↓sD, ↓D_g, memOk, lets0, lets1, List.not_mem_nil, not_false_eq_true, true_and, and_true, sG, opV, loudV, cellsOf, strOp, evL, Nat.reduceAdd, beq_self_eq_true, bne_self_eq_false, Int.reduceBEq, Int.reduceBNe, vec_load hv, tag_load, tag_full, vec_cells, all_ints, tag_cells, tag_isC, ti25, ti23, ti3, List.getElem?_cons_zero, List.getElem?_cons_succ, List.drop_zero, bne_self_eq_false, bool_neq, vec_ne hw hw, vec_load hw, vec_full hw, hw, Nat.le_refl, tag_neq, ti23, ti25]
    refine D_callP (c_punnet_dot_Has v hv r t) (by simp only [ev_func]) (by simp only [evL, sS, ↓sT, if_true, if_false, Nat.reduceLT, Nat.reduceEqDiff]; rfl) (by simp only [List.map, vec_bare, tag_bare, bare_int]) (by simp [vec_noP, tag_noP]) rfl rfl ?_
    simp only [sS, ↓sT, if_true, if_false, Nat.reduceLT, Nat.reduceEqDiff, ↓sD, ↓D_g, memOk, lets0, lets1, List.not_mem_nil, not_false_eq_true, true_and, and_true, sG, opV, loudV, cellsOf, strOp, evL, Nat.reduceAdd, beq_self_eq_true, bne_self_eq_false, Int.reduceBEq, Int.reduceBNe, vec_load hv, tag_load, tag_full, vec_cells, all_ints, tag_cells, tag_isC, ti25, ti23, ti3, List.getElem?_cons_zero, List.getElem?_cons_succ, List.drop_zero, bne_self_eq_false, bool_neq, vec_ne hw hw, vec_load hw, vec_full hw, hw, Nat.le_refl, tag_neq, ti23, ti25]
    refine D_callP (c_punnet_punnetref25_Has v hv r t) (by simp only [ev_func]) (by simp only [evL, sS, ↓sT, if_true, if_false, Nat.reduceLT, Nat.reduceEqDiff]; rfl) (by simp only [List.map, vec_bare, tag_bare, bare_int]) (by simp [vec_noP, tag_noP]) rfl rfl ?_
    simp only [sS, ↓sT, if_true, if_false, Nat.reduceLT, Nat.reduceEqDiff, ↓sD, ↓D_g, memOk, lets0, lets1, List.not_mem_nil, not_false_eq_true, true_and, and_true, sG, opV, loudV, cellsOf, strOp, evL, Nat.reduceAdd, beq_self_eq_true, bne_self_eq_false, Int.reduceBEq, Int.reduceBNe, vec_load hv, tag_load, tag_full, vec_cells, all_ints, tag_cells, tag_isC, ti25, ti23, ti3, List.getElem?_cons_zero, List.getElem?_cons_succ, List.drop_zero, bne_self_eq_false, bool_neq, vec_ne hw hw, vec_load hw, vec_full hw, hw, Nat.le_refl, tag_neq, ti23, ti25]
    refine hN10 _ ?_; try clear hN10 hD10 N10
    refine WC_condE ?_
    simp only [sS, ↓sT, if_true, if_false, Nat.reduceLT, Nat.reduceEqDiff, ↓stepC_bool]
    refine ⟨fun hb => ?_, fun hb => ?_⟩
    · cases hb
    · refine WC_skip ?_
      refine hN9 _ ?_; try clear hN9 hD9 N9
      refine WC_seqN (fun N12 hN12 hD12 => ?_)
      refine WC_seqR (fun N13 hN13 hD13 => ?_)
      simp only [sS, ↓sT, if_true, if_false, Nat.reduceLT, Nat.reduceEqDiff, ↓sO, ↓WOps_g, sG, opV, loudV, cellsOf, strOp, evL, Nat.reduceAdd, beq_self_eq_true, bne_self_eq_false, Int.reduceBEq, Int.reduceBNe, vec_load hv, tag_load, tag_full, vec_cells, all_ints, tag_cells, tag_isC, ti25, ti23, ti3, List.getElem?_cons_zero, List.getElem?_cons_succ, List.drop_zero, bne_self_eq_false, bool_neq, vec_ne hw hw, vec_load hw, vec_full hw, hw, Nat.le_refl]
      refine hN13 _ ?_; try clear hN13 hD13 N13
      refine WC_condE ?_
      simp only [sS, ↓sT, if_true, if_false, Nat.reduceLT, Nat.reduceEqDiff, ↓stepC_bool]
      refine ⟨fun hb => ?_, fun hb => ?_⟩
      · refine WC_seqR (fun N14 hN14 hD14 => ?_)
        simp only [sS, ↓sT, if_true, if_false, Nat.reduceLT, Nat.reduceEqDiff, ↓sO, ↓WOps_g, sG, opV, loudV, cellsOf, strOp, evL, Nat.reduceAdd, beq_self_eq_true, bne_self_eq_false, Int.reduceBEq, Int.reduceBNe, vec_load hv, tag_load, tag_full, vec_cells, all_ints, tag_cells, tag_isC, ti25, ti23, ti3, List.getElem?_cons_zero, List.getElem?_cons_succ, List.drop_zero, bne_self_eq_false, bool_neq, vec_ne hw hw, vec_load hw, vec_full hw, hw, Nat.le_refl]
        refine hN14 _ ?_; try clear hN14 hD14 N14
        refine WC_ret ?_; (try simp only [Exit.after, Exit.out]); refine Kend_ret (by simp only [resOf, resL, resV, mkS_get, slots_get, cellsOf, vec_load hv, tag_load, tag_full, vec_cells, all_ints, tag_cells, tag_isC, ti25, ti23, ti3, List.getElem?_cons_zero, List.getElem?_cons_succ, List.drop_zero, sS, ↓sT, if_true, if_false, Nat.reduceLT, Nat.reduceEqDiff]; rfl) (by first | rfl | (simp only [vec_load hv, tag_load, tag_full, vec_cells, all_ints, tag_cells, tag_isC, ti25, ti23, ti3, List.getElem?_cons_zero, List.getElem?_cons_succ, List.drop_zero]; done) | (simp only [vec_load hv, tag_load, tag_full, vec_cells, all_ints, tag_cells, tag_isC, ti25, ti23, ti3, List.getElem?_cons_zero, List.getElem?_cons_succ, List.drop_zero, okV, ok1, okC, okP, List.all_cons, List.all_nil, Bool.and_true]; done)) ?_
        rfl
      · refine WC_skip ?_
        refine hN12 _ ?_; try clear hN12 hD12 N12
        obtain ⟨hr, p1, p6, hq1, x, hx, x0, x4, hq2⟩ := next_fine (r := p) hv (by simpa using hb)
        obtain ⟨hs, hh⟩ := with_next hv hr p1 p6 hx x0 x4
        obtain ⟨s1, s2, s3⟩ := set_facts hv hr p1 p6 hx x0 x4
        have cw := c_punnet_dot_With v hv p (x + 1)
        rw [hs] at cw
        obtain ⟨u, hu⟩ : ∃ u, v.set (p - 1).toNat (x + 1) = u := ⟨_, rfl⟩
        have hul : u.length = 6 := by rw [← hu]; simp [hv]
        rw [hu] at cw s1 s2 s3
        have ch := c_punnet_dot_Has u hul p (x + 1)
        have ch2 := c_punnet_dot_Has v hv p (x + 1)
        have cc := c_punnet_dot_Covers u v hul hv
        have cr := c_punnet_dot_Right u hul
        have s2' : (joinL u v == u) = true := s2
        rw [s1] at ch
        rw [hh] at ch2
        rw [s2'] at cc
        rw [s3] at cr
        simp only [hq1, hq2]
        refine WC_seqR (fun N15 hN15 hD15 => ?_)
        simp only [sS, ↓sT, if_true, if_false, Nat.reduceLT, Nat.reduceEqDiff, ↓sO, ↓WOps_g, sG, opV, loudV, cellsOf, strOp, evL, Nat.reduceAdd, beq_self_eq_true, bne_self_eq_false, Int.reduceBEq, Int.reduceBNe, vec_load hv, tag_load, tag_full, vec_cells, all_ints, tag_cells, tag_isC, ti25, ti23, ti3, List.getElem?_cons_zero, List.getElem?_cons_succ, List.drop_zero, vec_full hul, hul, vec_load hul, Nat.le_refl]
        refine WOps_callP cw (by simp only [ev_func]) (by simp only [evL, sS, ↓sT, if_true, if_false, Nat.reduceLT, Nat.reduceEqDiff]; rfl) (by simp only [List.map, vec_bare, tag_bare]) (by simp [vec_noP, tag_noP]) (by simp [vecC, V.noP, V.noP1, V.noP0, vecV]) (vecC_bare _) ?_
        simp only [sS, ↓sT, if_true, if_false, Nat.reduceLT, Nat.reduceEqDiff, ↓sO, ↓WOps_g, sG, opV, loudV, cellsOf, strOp, evL, Nat.reduceAdd, beq_self_eq_true, bne_self_eq_false, Int.reduceBEq, Int.reduceBNe, vec_load hv, tag_load, tag_full, vec_cells, all_ints, tag_cells, tag_isC, ti25, ti23, ti3, List.getElem?_cons_zero, List.getElem?_cons_succ, List.drop_zero, vec_full hul, hul, vec_load hul, Nat.le_refl]
        refine hN15 _ ?_; try clear hN15 hD15 N15
        refine WC_seqR (fun N16 hN16 hD16 => ?_)
        simp only [sS, ↓sT, if_true, if_false, Nat.reduceLT, Nat.reduceEqDiff, ↓sO, ↓WOps_g, sG, opV, loudV, cellsOf, strOp, evL, Nat.reduceAdd, beq_self_eq_true, bne_self_eq_false, Int.reduceBEq, Int.reduceBNe, vec_load hv, tag_load, tag_full, vec_cells, all_ints, tag_cells, tag_isC, ti25, ti23, ti3, List.getElem?_cons_zero, List.getElem?_cons_succ, List.drop_zero, vec_full hul, hul, vec_load hul, Nat.le_refl]
        refine WOps_callP ch (by simp only [ev_func]) (by simp only [evL, sS, ↓sT, if_true, if_false, Nat.reduceLT, Nat.reduceEqDiff]; rfl) (by simp only [List.map, vec_bare, tag_bare]) (by simp [vec_noP, tag_noP]) rfl rfl ?_
        simp only [sS, ↓sT, if_true, if_false, Nat.reduceLT, Nat.reduceEqDiff, ↓sO, ↓WOps_g, sG, opV, loudV, cellsOf, strOp, evL, Nat.reduceAdd, beq_self_eq_true, bne_self_eq_false, Int.reduceBEq, Int.reduceBNe, vec_load hv, tag_load, tag_full, vec_cells, all_ints, tag_cells, tag_isC, ti25, ti23, ti3, List.getElem?_cons_zero, List.getElem?_cons_succ, List.drop_zero, vec_full hul, hul, vec_load hul, Nat.le_refl]
        refine WOps_callP ch2 (by simp only [ev_func]) (by simp only [evL, sS, ↓sT, if_true, if_false, Nat.reduceLT, Nat.reduceEqDiff]; rfl) (by simp only [List.map, vec_bare, tag_bare]) (by simp [vec_noP, tag_noP]) rfl rfl ?_
        simp only [sS, ↓sT, if_true, if_false, Nat.reduceLT, Nat.reduceEqDiff, ↓sO, ↓WOps_g, sG, opV, loudV, cellsOf, strOp, evL, Nat.reduceAdd, beq_self_eq_true, bne_self_eq_false, Int.reduceBEq, Int.reduceBNe, vec_load hv, tag_load, tag_full, vec_cells, all_ints, tag_cells, tag_isC, ti25, ti23, ti3, List.getElem?_cons_zero, List.getElem?_cons_succ, List.drop_zero, vec_full hul, hul, vec_load hul, Nat.le_refl]
        refine WOps_callP cc (by simp only [ev_func]) (by simp only [evL, sS, ↓sT, if_true, if_false, Nat.reduceLT, Nat.reduceEqDiff]; rfl) (by simp only [List.map, vec_bare, tag_bare]) (by simp [vec_noP, tag_noP]) rfl rfl ?_
        simp only [sS, ↓sT, if_true, if_false, Nat.reduceLT, Nat.reduceEqDiff, ↓sO, ↓WOps_g, sG, opV, loudV, cellsOf, strOp, evL, Nat.reduceAdd, beq_self_eq_true, bne_self_eq_false, Int.reduceBEq, Int.reduceBNe, vec_load hv, tag_load, tag_full, vec_cells, all_ints, tag_cells, tag_isC, ti25, ti23, ti3, List.getElem?_cons_zero, List.getElem?_cons_succ, List.drop_zero, vec_full hul, hul, vec_load hul, Nat.le_refl]
        refine WOps_callP cr (by simp only [ev_func]) (by simp only [evL, sS, ↓sT, if_true, if_false, Nat.reduceLT, Nat.reduceEqDiff]; rfl) (by simp only [List.map, vec_bare, tag_bare]) (by simp [vec_noP, tag_noP]) rfl rfl ?_
        simp only [sS, ↓sT, if_true, if_false, Nat.reduceLT, Nat.reduceEqDiff, ↓sO, ↓WOps_g, sG, opV, loudV, cellsOf, strOp, evL, Nat.reduceAdd, beq_self_eq_true, bne_self_eq_false, Int.reduceBEq, Int.reduceBNe, vec_load hv, tag_load, tag_full, vec_cells, all_ints, tag_cells, tag_isC, ti25, ti23, ti3, List.getElem?_cons_zero, List.getElem?_cons_succ, List.drop_zero, vec_full hul, hul, vec_load hul, Nat.le_refl]
        refine hN16 _ ?_; try clear hN16 hD16 N16
        refine WC_ret ?_; (try simp only [Exit.after, Exit.out]); refine Kend_ret (by simp only [resOf, resL, resV, mkS_get, slots_get, cellsOf, vec_load hv, tag_load, tag_full, vec_cells, all_ints, tag_cells, tag_isC, ti25, ti23, ti3, List.getElem?_cons_zero, List.getElem?_cons_succ, List.drop_zero, sS, ↓sT, if_true, if_false, Nat.reduceLT, Nat.reduceEqDiff]; rfl) (by first | rfl | (simp only [vec_load hv, tag_load, tag_full, vec_cells, all_ints, tag_cells, tag_isC, ti25, ti23, ti3, List.getElem?_cons_zero, List.getElem?_cons_succ, List.drop_zero]; done) | (simp only [vec_load hv, tag_load, tag_full, vec_cells, all_ints, tag_cells, tag_isC, ti25, ti23, ti3, List.getElem?_cons_zero, List.getElem?_cons_succ, List.drop_zero, okV, ok1, okC, okP, List.all_cons, List.all_nil, Bool.and_true]; done)) ?_
        rfl
end Go.PV
/- dot.Sum. -/
namespace Go.PV
open Go.Proofs
set_option linter.unusedVariables false
set_option linter.unusedSimpArgs false
set_option maxRecDepth 10000

def sumS (v : List Int) : Int × Int := if rightB v = false then (0, 5) else (v.sum, 0)
theorem sum_take {v : List Int} {i : Nat} {x : Int} (hx : v[i]? = some x) : (v.take (i + 1)).sum = (v.take i).sum + x := by
  rw [List.take_add_one, hx]; simp
theorem sum_bound {v : List Int} (hr : rightB v = true) : ∀ i, 0 ≤ (v.take i).sum ∧ (v.take i).sum ≤ 400 * i
  | 0 => by simp
  | i + 1 => by
    have ih := sum_bound hr i
    cases hx : v[i]? with
    | none => rw [List.take_add_one, hx]; simp; omega
    | some x => rw [sum_take hx]; have := right_iff.1 hr i x hx; omega

theorem c_punnet_dot_Sum (v : List Int) (hv : v.length = 6) : VC Try.prog 27 [vecV v] [] (fun q _ => q = .tup [.int .i64 (sumS v).1, .int .i64 (sumS v).2]) := by
  refine VC_enter (nt := 19) (rs := [.tmp 2, .tmp 3]) (ow := []) (m := 0) Try.func27 rfl (by rfl) rfl rfl (by simp) (by simp only [ownOf, List.flatMap_cons, vec_toks]; rfl) rfl (fun n => ?_)
  simp only [zipT, Nat.zero_add]
  refine WC_seqR (fun N1 hN1 hD1 => ?_)
  simp only [sS, ↓sT, if_true, if_false, Nat.reduceLT, Nat.reduceEqDiff, ↓sO, ↓WOps_g, sG, opV, loudV, cellsOf, strOp, evL, Nat.reduceAdd, beq_self_eq_true, bne_self_eq_false, Int.reduceBEq, Int.reduceBNe, vec_load hv, tag_load, vec_cells, all_ints, tag_cells, tag_isC, ti25, ti23, ti3, List.getElem?_cons_zero, List.getElem?_cons_succ, List.drop_zero]
  refine hN1 _ ?_; try clear hN1 hD1 N1
  refine WC_seqN (fun N2 hN2 hD2 => ?_)
  refine WC_seqR (fun N3 hN3 hD3 => ?_)
  simp only [sS, ↓sT, if_true, if_false, Nat.reduceLT, Nat.reduceEqDiff, ↓sO, ↓WOps_g, sG, opV, loudV, cellsOf, strOp, evL, Nat.reduceAdd, beq_self_eq_true, bne_self_eq_false, Int.reduceBEq, Int.reduceBNe, vec_load hv, tag_load, vec_cells, all_ints, tag_cells, tag_isC, ti25, ti23, ti3, List.getElem?_cons_zero, List.getElem?_cons_succ, List.drop_zero]
  refine WOps_callP (c_punnet_dot_Right v hv) (by simp only [ev_func]) (by simp only [evL, sS, ↓sT, if_true, if_false, Nat.reduceLT, Nat.reduceEqDiff]; rfl) (by simp only [List.map, vec_bare]) (by simp [vec_noP]) rfl rfl ?_
  simp only [sS, ↓sT, if_true, if_false, Nat.reduceLT, Nat.reduceEqDiff, ↓sO, ↓WOps_g, sG, opV, loudV, cellsOf, strOp, evL, Nat.reduceAdd, beq_self_eq_true, bne_self_eq_false, Int.reduceBEq, Int.reduceBNe, vec_load hv, tag_load, vec_cells, all_ints, tag_cells, tag_isC, ti25, ti23, ti3, List.getElem?_cons_zero, List.getElem?_cons_succ, List.drop_zero]
  refine hN3 _ ?_; try clear hN3 hD3 N3
  refine WC_condE ?_
  simp only [sS, ↓sT, if_true, if_false, Nat.reduceLT, Nat.reduceEqDiff, ↓stepC_bool]
  refine ⟨fun hb => ?_, fun hb => ?_⟩
  · refine WC_seqR (fun N4 hN4 hD4 => ?_)
    simp only [sS, ↓sT, if_true, if_false, Nat.reduceLT, Nat.reduceEqDiff, ↓sO, ↓WOps_g, sG, opV, loudV, cellsOf, strOp, evL, Nat.reduceAdd, beq_self_eq_true, bne_self_eq_false, Int.reduceBEq, Int.reduceBNe, vec_load hv, tag_load, vec_cells, all_ints, tag_cells, tag_isC, ti25, ti23, ti3, List.getElem?_cons_zero, List.getElem?_cons_succ, List.drop_zero]
    refine hN4 _ ?_; try clear hN4 hD4 N4
    refine WC_ret ?_; (try simp only [Exit.after, Exit.out]); refine Kend_ret (by simp only [resOf, resL, resV, mkS_get, slots_get, cellsOf, vec_load hv, tag_load, vec_cells, all_ints, tag_cells, tag_isC, ti25, ti23, ti3, List.getElem?_cons_zero, List.getElem?_cons_succ, List.drop_zero, sS, ↓sT, if_true, if_false, Nat.reduceLT, Nat.reduceEqDiff]; rfl) (by first | rfl | (simp only [vec_load hv, tag_load, vec_cells, all_ints, tag_cells, tag_isC, ti25, ti23, ti3, List.getElem?_cons_zero, List.getElem?_cons_succ, List.drop_zero]; done) | (simp only [vec_load hv, tag_load, vec_cells, all_ints, tag_cells, tag_isC, ti25, ti23, ti3, List.getElem?_cons_zero, List.getElem?_cons_succ, List.drop_zero, okV, ok1, okC, okP, List.all_cons, List.all_nil, Bool.and_true]; done)) ?_
    have hr : rightB v = false := by simpa using hb
    simp only [sumS, hr]; rfl
  · have hr : rightB v = true := by simpa using hb
    clear hb
    refine WC_skip ?_
    refine hN2 _ ?_; try clear hN2 hD2 N2
    refine WC_seqR (fun N5 hN5 hD5 => ?_)
    simp only [sS, ↓sT, if_true, if_false, Nat.reduceLT, Nat.reduceEqDiff, ↓sO, ↓WOps_g, sG, opV, loudV, cellsOf, strOp, evL, Nat.reduceAdd, beq_self_eq_true, bne_self_eq_false, Int.reduceBEq, Int.reduceBNe, vec_load hv, tag_load, vec_cells, all_ints, tag_cells, tag_isC, ti25, ti23, ti3, List.getElem?_cons_zero, List.getElem?_cons_succ, List.drop_zero]
    refine hN5 _ ?_; try clear hN5 hD5 N5
    refine WC_seqN (fun N6 hN6 hD6 => ?_)
    refine WC_seqR (fun N7 hN7 hD7 => ?_)
    simp only [sS, ↓sT, if_true, if_false, Nat.reduceLT, Nat.reduceEqDiff, ↓sO, ↓WOps_g, sG, opV, loudV, cellsOf, strOp, evL, Nat.reduceAdd, beq_self_eq_true, bne_self_eq_false, Int.reduceBEq, Int.reduceBNe, vec_load hv, tag_load, vec_cells, all_ints, tag_cells, tag_isC, ti25, ti23, ti3, List.getElem?_cons_zero, List.getElem?_cons_succ, List.drop_zero]
    refine hN7 _ ?_; try clear hN7 hD7 N7
    refine WC_block ?_
    refine WC_loopG (σ := Nat) (fun i s => ∃ ps, s = ⟨mkS 19 ps, [v.map (V.int .i64)], [], n⟩ ∧ Has ps [(11, .int .i64 i), (10, vecV v), (4, .int .i64 (v.take i).sum)] ∧ i ≤ 6) (fun t => 6 - t) 0 ?_ (fun i s hI => ?_)
    · exact ⟨_, rfl, ⟨rfl, rfl, rfl, trivial⟩, by omega⟩
    obtain ⟨ps, rfl, hps, hI⟩ := hI
    refine WC_has hps ?_; clear hps ps
    refine WC_seqR (fun N8 hN8 hD8 => ?_)
    simp only [sS, ↓sT, if_true, if_false, Nat.reduceLT, Nat.reduceEqDiff, ↓sO, ↓WOps_g, sG, opV, loudV, cellsOf, strOp, evL, Nat.reduceAdd, beq_self_eq_true, bne_self_eq_false, Int.reduceBEq, Int.reduceBNe, vec_load hv, tag_load, vec_cells, all_ints, tag_cells, tag_isC, ti25, ti23, ti3, List.getElem?_cons_zero, List.getElem?_cons_succ, List.drop_zero]
    refine hN8 _ ?_; try clear hN8 hD8 N8
    refine WC_seqN (fun N9 hN9 hD9 => ?_)
    refine WC_condE ?_
    simp only [sS, ↓sT, if_true, if_false, Nat.reduceLT, Nat.reduceEqDiff, ↓stepC_bool]
    refine ⟨fun hb => ?_, fun hb => ?_⟩
    · have hi6 : i < 6 := by have := of_decide_eq_true hb; omega
      obtain ⟨x, hx⟩ : ∃ x, v[i]? = some x := ⟨_, List.getElem?_eq_getElem (by omega)⟩
      have hix := vec_index (i := (i : Int)) (by omega) (by omega) (by simpa using hx)
      have hs := sum_bound hr i
      have hs1 := sum_bound hr (i + 1)
      have e := sum_take hx
      have hxb := right_iff.1 hr i x hx
      refine WC_skip ?_
      refine hN9 _ ?_; try clear hN9 hD9 N9
      refine WC_seqN (fun N10 hN10 hD10 => ?_)
      refine WC_block ?_
      refine WC_seqR (fun N11 hN11 hD11 => ?_)
      simp only [sS, ↓sT, if_true, if_false, Nat.reduceLT, Nat.reduceEqDiff, ↓sO, ↓WOps_g, sG, opV, loudV, cellsOf, strOp, evL, Nat.reduceAdd, beq_self_eq_true, bne_self_eq_false, Int.reduceBEq, Int.reduceBNe, vec_load hv, tag_load, vec_cells, all_ints, tag_cells, tag_isC, ti25, ti23, ti3, List.getElem?_cons_zero, List.getElem?_cons_succ, List.drop_zero, hix]
      refine hN11 _ ?_; try clear hN11 hD11 N11
      refine WC_regN (fun N12 hN12 => ?_)
      simp only [sS, ↓sT, if_true, if_false, Nat.reduceLT, Nat.reduceEqDiff, ↓sO, ↓WOps_g, sG, opV, loudV, cellsOf, strOp, evL, Nat.reduceAdd, beq_self_eq_true, bne_self_eq_false, Int.reduceBEq, Int.reduceBNe, vec_load hv, tag_load, vec_cells, all_ints, tag_cells, tag_isC, ti25, ti23, ti3, List.getElem?_cons_zero, List.getElem?_cons_succ, List.drop_zero, wrapI (x := (v.take i).sum + x) (by omega) (by omega)]
      refine hN12 _ ?_; try clear hN12 N12
      refine hN10 _ ?_; try clear hN10 hD10 N10
      refine WC_regN (fun N13 hN13 => ?_)
      simp only [sS, ↓sT, if_true, if_false, Nat.reduceLT, Nat.reduceEqDiff, ↓sO, ↓WOps_g, sG, opV, loudV, cellsOf, strOp, evL, Nat.reduceAdd, beq_self_eq_true, bne_self_eq_false, Int.reduceBEq, Int.reduceBNe, vec_load hv, tag_load, vec_cells, all_ints, tag_cells, tag_isC, ti25, ti23, ti3, List.getElem?_cons_zero, List.getElem?_cons_succ, List.drop_zero, wrapI (x := (i : Int) + 1) (by omega) (by omega)]
      refine hN13 _ ?_; try clear hN13 N13
      refine ⟨i + 1, ⟨_, rfl, ?_, ?_⟩, ?_⟩
      · rw [e]; exact ⟨rfl, rfl, rfl, trivial⟩
      · omega
      · omega
    · refine WC_exit ?_
      refine hN6 _ ?_; try clear hN6 hD6 N6
      refine WC_seqR (fun N14 hN14 hD14 => ?_)
      simp only [sS, ↓sT, if_true, if_false, Nat.reduceLT, Nat.reduceEqDiff, ↓sO, ↓WOps_g, sG, opV, loudV, cellsOf, strOp, evL, Nat.reduceAdd, beq_self_eq_true, bne_self_eq_false, Int.reduceBEq, Int.reduceBNe, vec_load hv, tag_load, vec_cells, all_ints, tag_cells, tag_isC, ti25, ti23, ti3, List.getElem?_cons_zero, List.getElem?_cons_succ, List.drop_zero]
      refine hN14 _ ?_; try clear hN14 hD14 N14
      refine WC_ret ?_; (try simp only [Exit.after, Exit.out]); refine Kend_ret (by simp only [resOf, resL, resV, mkS_get, slots_get, cellsOf, vec_load hv, tag_load, vec_cells, all_ints, tag_cells, tag_isC, ti25, ti23, ti3, List.getElem?_cons_zero, List.getElem?_cons_succ, List.drop_zero, sS, ↓sT, if_true, if_false, Nat.reduceLT, Nat.reduceEqDiff]; rfl) (by first | rfl | (simp only [vec_load hv, tag_load, vec_cells, all_ints, tag_cells, tag_isC, ti25, ti23, ti3, List.getElem?_cons_zero, List.getElem?_cons_succ, List.drop_zero]; done) | (simp only [vec_load hv, tag_load, vec_cells, all_ints, tag_cells, tag_isC, ti25, ti23, ti3, List.getElem?_cons_zero, List.getElem?_cons_succ, List.drop_zero, okV, ok1, okC, okP, List.all_cons, List.all_nil, Bool.and_true]; done)) ?_
      have h6 := of_decide_eq_false hb
      have : i = 6 := by omega
      subst this
      rw [List.take_of_length_le (by omega)]
      simp only [sumS, hr]; rfl
end Go.PV
/- Slices of tags: words; what one vector lacks of another. -/
namespace Go.PV
open Go.Proofs
set_option linter.unusedVariables false
set_option linter.unusedSimpArgs false
set_option maxRecDepth 10000

/-- the slice of tags l as it grows -/
def SL (l : List (Int × Int)) (x : V) (ow : List (Nat × Nat)) : Prop :=
  (l = [] ∧ x = .nils ∧ ow = []) ∨ (l ≠ [] ∧ ∃ k, x = .slice 2 (l.map tagE) false (some k) ∧ ow = [(k, l.length)])
/-- the slice of tags l, of which nobody owns a rest -/
def tagsV (l : List (Int × Int)) : V := if l.isEmpty then .nils else .slice 2 (l.map tagE) false none

theorem app_tag {l : List (Int × Int)} {x : V} {ow : List (Nat × Nat)} {nx : Nat} {ie : TI} (h : SL l x ow) (hs : ie.sz = 2) (q : Int × Int) (hl : l.length + 1 ≤ maxApp) :
    ∃ x' ow' nx', appendV ie ow nx x [tagE q] = some (x', ow', nx') ∧ SL (l ++ [q]) x' ow' := by
  rcases h with ⟨rfl, rfl, rfl⟩ | ⟨hne, k, rfl, rfl⟩
  · refine ⟨_, _, _, by simp only [appendV, List.length_cons, List.length_nil]; rw [if_pos (by simpa using hl)]; rfl, .inr ⟨by simp, nx, ?_, ?_⟩⟩
    · simp [hs]
    · simp
  · refine ⟨_, _, _, by simp only [appendV, List.length_map, List.length_cons, List.length_nil]; rw [if_pos ⟨hs.symm, by simpa using hl⟩]; simp; exact ⟨rfl, rfl, rfl⟩, .inr ⟨by simp, k, ?_, ?_⟩⟩
    · simp
    · simp

/-- the tags of place i from x (without) to y -/
def lackAt (i : Nat) (x y : Int) : List (Int × Int) := (List.range (y - x).toNat).map fun k : Nat => ((i : Int) + 1, x + 1 + (k : Int))
def lackF (u b : List Int) : Nat → Nat → List (Int × Int)
  | 0, _ => []
  | n + 1, i => lackAt i (u.getD i 0) (b.getD i 0) ++ lackF u b n (i + 1)
/-- what u lacks of b, from place i on -/
def lacksFrom (u b : List Int) (i : Nat) : List (Int × Int) := lackF u b (6 - i) i
theorem lackAt_none {i : Nat} {x y : Int} (h : ¬ x < y) : lackAt i x y = [] := by
  rw [lackAt, show (y - x).toNat = 0 from by omega]; rfl
theorem lackAt_one {i : Nat} {x y : Int} (h : x < y) : lackAt i x y = ((i : Int) + 1, x + 1) :: lackAt i (x + 1) y := by
  rw [lackAt, lackAt, show (y - x).toNat = (y - (x + 1)).toNat + 1 from by omega, List.range_succ_eq_map, List.map_cons, List.map_map]
  congr 1
  · simp
  · apply List.map_congr_left
    intro k _
    simp; omega
theorem lacksFrom_step {u b : List Int} {i : Nat} (hi : i < 6) : lacksFrom u b i = lackAt i (u.getD i 0) (b.getD i 0) ++ lacksFrom u b (i + 1) := by
  rw [lacksFrom, show 6 - i = (6 - (i + 1)) + 1 from by omega, lackF]; rfl
theorem lackF_set {u b : List Int} {j : Nat} {x : Int} : ∀ (n i : Nat), j < i → lackF (u.set j x) b n i = lackF u b n i
  | 0, _, _ => rfl
  | n + 1, i, h => by
    rw [lackF, lackF, lackF_set n (i + 1) (by omega)]
    congr 2
    simp only [List.getD]
    rw [List.getElem?_set_ne (by omega)]
end Go.PV
/- dot.Lacks. -/
namespace Go.PV
open Go.Proofs
set_option linter.unusedVariables false
set_option linter.unusedSimpArgs false
set_option maxRecDepth 10000

noncomputable def lkC : Code := match Try.f24.body.getD .skip with
  | .seq _ (.scope c) => c
  | c => c
noncomputable def lkR : Code := match findLabel lkC 1 with
  | some (.seq _ r) => r
  | _ => .skip
structure LkI (a b : List Int) (t : Nat × List Int × List (Int × Int)) : Prop where
  i : t.1 ≤ 6
  u : t.2.1.length = 6
  l : lacksFrom a b 0 = t.2.2 ++ lacksFrom t.2.1 b t.1
  lo : ∀ k, 0 ≤ t.2.1.getD k 0 ∧ t.2.1.getD k 0 ≤ 400
def lkJ (a b : List Int) (n0 : Nat) (l : Nat) (t : Nat × List Int × List (Int × Int)) (s : St) : Prop :=
  LkI a b t ∧ (l = 0 ∨ l = 1 ∧ t.1 < 6) ∧ ∃ ps x ow nx, s = ⟨mkS 42 ps, [t.2.1.map (V.int .i64), b.map (V.int .i64)], ow, nx⟩ ∧ Has ps [(7, .int .i64 t.1), (6, x), (2, .ptr 0 0), (3, .ptr 1 0)] ∧ SL t.2.2 x ow
def lkM (l : Nat) (t : Nat × List Int × List (Int × Int)) : Nat := if l = 0 then 2000 * (7 - t.1) else 2000 * (6 - t.1) + 1000 + (400 - (t.2.1.getD t.1 0)).toNat

theorem lk_one (a b : List Int) (ha : a.length = 6) (hb : b.length = 6) (hbr : ∀ k, 0 ≤ b.getD k 0 ∧ b.getD k 0 ≤ 400) (hN : (lacksFrom a b 0).length ≤ 2400) (n0 m : Nat) (K : Exit → St → Prop) (t : Nat × List Int × List (Int × Int)) (s : St) (h : lkJ a b n0 1 t s) (hm : lkM 1 t ≤ m) :
    WC Try.prog lkR (Exit.at (fun l' s' => ∃ t', lkJ a b n0 l' t' s' ∧ lkM l' t' < m) K) s := by
  obtain ⟨⟨hi, hu, hl, hlo⟩, hi6, ps, x, ow, nx, rfl, hps, hsl⟩ := h
  refine WC_has hps ?_; clear hps ps
  simp only [lkR, lkC, Try.f24, Option.getD_some, findLabel, Nat.reduceBEq, Bool.false_eq_true, if_false, if_true, beq_self_eq_true]
  obtain ⟨i, u, l⟩ := t
  simp only at hi hu hl hlo hi6 hsl hm ⊢
  have hi6 : i < 6 := by simpa using hi6
  have hii : (0 : Int) ≤ i ∧ (i : Int) < 6 := by omega
  have g1 := vec_get (v := u) (k := i) (by omega)
  have g2 := vec_get (v := b) (k := i) (by omega)
  obtain ⟨p, hp⟩ : ∃ p, u.getD i 0 = p := ⟨_, rfl⟩
  obtain ⟨q, hq⟩ : ∃ q, b.getD i 0 = q := ⟨_, rfl⟩
  have hpb := hlo i
  rw [hp] at g1 hpb
  rw [hq] at g2
  have hstep := lacksFrom_step (u := u) (b := b) hi6
  rw [hp, hq] at hstep
  refine WC_seqN (fun N1 hN1 hD1 => ?_)
  refine WC_seqD mixed [] [0, 0, 0, 0, 0, 0, 0] (by decide +kernel) (fun N13 hN13 hD13 => ?_)
  simp only [sS, ↓sT, if_true, if_false, Nat.reduceLT, Nat.reduceEqDiff, ↓sD, ↓D_g, memOk, lets0, lets1, List.not_mem_nil, not_false_eq_true, true_and, and_true, sG, opV, loudV, cellsOf, strOp, evL, Nat.reduceAdd, beq_self_eq_true, bne_self_eq_false, Int.reduceBEq, Int.reduceBNe, vec_cells, all_ints, ti25, ti23, ti3, List.getElem?_cons_zero, List.getElem?_cons_succ, List.drop_zero, vec_ia, hii, Int.toNat_natCast, g1, g2]
  refine hN13 _ ?_; try clear hN13 hD13 N13
  refine WC_condE ?_
  simp only [sS, ↓sT, if_true, if_false, Nat.reduceLT, Nat.reduceEqDiff, ↓stepC_bool]
  refine ⟨fun hb1 => ?_, fun hb1 => ?_⟩
  · have hlt : p < q := of_decide_eq_true hb1
    have hk : i + 1 ≤ 6 := hi6
    have hul : (u.set i (p + 1)).length = 6 := by simp [hu]
    have g3 : ((List.map (V.int .i64) (u.set i (p + 1))).drop i).head? = some (.int .i64 (p + 1)) := vec_at (by rw [List.getElem?_set]; simp [hu, hi6])
    refine WC_seqR (fun N14 hN14 hD14 => ?_)
    simp only [sS, ↓sT, if_true, if_false, Nat.reduceLT, Nat.reduceEqDiff, ↓sO, ↓WOps_g, sG, opV, loudV, cellsOf, strOp, evL, Nat.reduceAdd, beq_self_eq_true, bne_self_eq_false, Int.reduceBEq, Int.reduceBNe, vec_cells, all_ints, ti25, ti23, ti3, List.getElem?_cons_zero, List.getElem?_cons_succ, List.drop_zero, vec_ia, hii, Int.toNat_natCast, g1, wrapI (x := p + 1) (by omega) (by omega), hu, hk, vec_set]
    refine hN14 _ ?_; try clear hN14 hD14 N14
    rw [lackAt_one hlt] at hstep
    have hlen : l.length + 1 ≤ maxApp := by
      have := congrArg List.length hl
      rw [hstep] at this
      simp only [List.length_append, List.length_cons, List.cons_append] at this
      unfold maxApp; omega
    obtain ⟨x', ow', nx', happ, hsl'⟩ := app_tag (nx := nx) (ie := (⟨.struct [(0, 3), (1, 3)], 2, 16, some [.int .i64 0, .int .i64 0]⟩ : TI)) hsl rfl ((i : Int) + 1, p + 1) hlen
    simp only [tagE] at happ
    refine WC_seqR (fun N15 hN15 hD15 => ?_)
    simp only [sS, ↓sT, if_true, if_false, Nat.reduceLT, Nat.reduceEqDiff, ↓sO, ↓WOps_g, sG, opV, loudV, cellsOf, strOp, evL, Nat.reduceAdd, beq_self_eq_true, bne_self_eq_false, Int.reduceBEq, Int.reduceBNe, vec_cells, all_ints, ti25, ti23, ti3, List.getElem?_cons_zero, List.getElem?_cons_succ, List.drop_zero, buildV, evParts, V.isCell, List.all_cons, List.all_nil, Bool.and_self, if_true, placesOf, fillV, List.getElem?_cons_zero, List.getElem?_cons_succ, List.length_cons, List.length_nil, Nat.zero_add, Nat.reduceAdd, ne_eq, not_true_eq_false, false_or, gt_iff_lt, Nat.reduceLT, if_false, wrL, Option.map_some, List.set_cons_zero, List.set_cons_succ, vec_ia, hii, Int.toNat_natCast, g3, wrapI (x := (i : Int) + 1) (by omega) (by omega), tag_fold, buildSliceV, ti38, elemsV, range_one, tag_clean, tag_cells, Option.isSome_some, Nat.reducePow, Nat.reduceLeDiff, TD.intK?, happ]
    refine hN15 _ ?_; try clear hN15 hD15 N15
    refine WC_goto ?_
    simp only [Exit.after, Exit.at]
    have hgd : ∀ k, (u.set i (p + 1)).getD k 0 = if i = k then p + 1 else u.getD k 0 := fun k => by
      simp only [List.getD, List.getElem?_set]
      by_cases h : i = k
      · subst h; simp only [if_true, hu, hi6, Option.getD_some]
      · simp only [if_neg h]
    have hgi : (u.set i (p + 1)).getD i 0 = p + 1 := by rw [hgd, if_pos rfl]
    refine ⟨(i, u.set i (p + 1), l ++ [((i : Int) + 1, p + 1)]), ⟨⟨hi, hul, ?_, fun k => ?_⟩, .inr ⟨rfl, hi6⟩, _, x', ow', nx', rfl, ⟨rfl, rfl, rfl, rfl, trivial⟩, hsl'⟩, ?_⟩
    · simp only
      rw [hl, hstep, lacksFrom_step (u := u.set i (p + 1)) hi6, hgi, hq]
      have : lacksFrom (u.set i (p + 1)) b (i + 1) = lacksFrom u b (i + 1) := lackF_set _ _ (by omega)
      rw [this]; simp
    · simp only
      have := hlo k
      rw [hgd]
      split
      · have hb4 := hbr i; omega
      · exact this
    · have hb4 := hbr i
      simp only [lkM, hp] at hm
      simp only [lkM, hgi]
      simp at hm ⊢
      omega
  · have hlt : ¬ p < q := of_decide_eq_false hb1
    rw [lackAt_none hlt, List.nil_append] at hstep
    refine WC_skip ?_
    refine hN1 _ ?_; try clear hN1 hD1 N1
    refine WC_seqR (fun N16 hN16 hD16 => ?_)
    simp only [sS, ↓sT, if_true, if_false, Nat.reduceLT, Nat.reduceEqDiff, ↓sO, ↓WOps_g, sG, opV, loudV, cellsOf, strOp, evL, Nat.reduceAdd, beq_self_eq_true, bne_self_eq_false, Int.reduceBEq, Int.reduceBNe, vec_cells, all_ints, ti25, ti23, ti3, List.getElem?_cons_zero, List.getElem?_cons_succ, List.drop_zero, wrapI (x := (i : Int) + 1) (by omega) (by omega)]
    refine hN16 _ ?_; try clear hN16 hD16 N16
    refine WC_goto ?_
    simp only [Exit.after, Exit.at]
    refine ⟨(i + 1, u, l), ⟨⟨hi6, hu, ?_, hlo⟩, .inl rfl, _, x, ow, nx, rfl, ⟨rfl, rfl, rfl, rfl, trivial⟩, hsl⟩, ?_⟩
    · simp only; rw [hl, hstep]
    · simp only [lkM] at hm ⊢
      simp at hm ⊢
      omega

theorem keep_SL {l : List (Int × Int)} {x : V} {ow : List (Nat × Nat)} (h : SL l x ow) : x.keep1 [] = tagsV l ∧ ok1 0 x = true := by
  rcases h with ⟨rfl, rfl, _⟩ | ⟨hne, k, rfl, _⟩
  · exact ⟨rfl, rfl⟩
  · have : l.isEmpty = false := by cases l <;> simp_all
    simp [V.keep1, V.keepC, tagsV, this, ok1, okC, okP]

def lkK (a b : List Int) : Exit → St → Prop := Kend Try.prog [.tmp 4, .tmp 5] 0 fun q _ => q = .tup [tagsV (lacksFrom a b 0), .int .i64 0]

theorem lk_zero (a b : List Int) (ha : a.length = 6) (hb : b.length = 6) (hbr : ∀ k, 0 ≤ b.getD k 0 ∧ b.getD k 0 ≤ 400) (hN : (lacksFrom a b 0).length ≤ 2400) (n0 m : Nat) (t : Nat × List Int × List (Int × Int)) (s : St) (h : lkJ a b n0 0 t s) (hm : lkM 0 t ≤ m) :
    ∃ r, findLabel lkC 0 = some (.seq .skip r) ∧ WC Try.prog r (Exit.at (fun l' s' => ∃ t', lkJ a b n0 l' t' s' ∧ lkM l' t' < m) (lkK a b)) s := by
  obtain ⟨⟨hi, hu, hl, hlo⟩, _, ps, x, ow, nx, rfl, hps, hsl⟩ := h
  have h1 : ∀ s, lkJ a b n0 1 t s → WC Try.prog lkR (Exit.at (fun l' s' => ∃ t', lkJ a b n0 l' t' s' ∧ lkM l' t' < m) (lkK a b)) s := fun s hs => by
    refine lk_one a b ha hb hbr hN n0 m _ t s hs ?_
    have h3 : t.1 < 6 := by simpa using hs.2.1
    have h2 := hlo t.1
    have e0 : lkM 0 t = 2000 * (7 - t.1) := rfl
    have e1 : lkM 1 t = 2000 * (6 - t.1) + 1000 + (400 - (t.2.1.getD t.1 0)).toNat := rfl
    omega
  refine ⟨_, by simp only [lkC, Try.f24, Option.getD_some, findLabel, if_true, beq_self_eq_true]; rfl, ?_⟩
  refine WC_has hps ?_; clear hps ps
  refine WC_seqN (fun N1 hN1 hD1 => ?_)
  refine WC_seqR (fun N2 hN2 hD2 => ?_)
  simp only [sS, ↓sT, if_true, if_false, Nat.reduceLT, Nat.reduceEqDiff, ↓sO, ↓WOps_g, sG, opV, loudV, cellsOf, strOp, evL, Nat.reduceAdd, beq_self_eq_true, bne_self_eq_false, Int.reduceBEq, Int.reduceBNe, vec_cells, all_ints, ti25, ti23, ti3, List.getElem?_cons_zero, List.getElem?_cons_succ, List.drop_zero]
  refine hN2 _ ?_; try clear hN2 hD2 N2
  refine WC_condE ?_
  simp only [sS, ↓sT, if_true, if_false, Nat.reduceLT, Nat.reduceEqDiff, ↓stepC_bool]
  refine ⟨fun hb1 => ?_, fun hb1 => ?_⟩
  · refine WC_seqR (fun N10 hN10 hD10 => ?_)
    simp only [sS, ↓sT, if_true, if_false, Nat.reduceLT, Nat.reduceEqDiff, ↓sO, ↓WOps_g, sG, opV, loudV, cellsOf, strOp, evL, Nat.reduceAdd, beq_self_eq_true, bne_self_eq_false, Int.reduceBEq, Int.reduceBNe, vec_cells, all_ints, ti25, ti23, ti3, List.getElem?_cons_zero, List.getElem?_cons_succ, List.drop_zero]
    refine hN10 _ ?_; try clear hN10 hD10 N10
    refine WC_noOwn ?_
    have hk := keep_SL hsl
    refine WC_ret ?_; (try simp only [Exit.after, Exit.at]); refine Kend_ret (by simp only [resOf, resL, resV, mkS_get, sS, ↓sT, if_true, if_false, Nat.reduceLT, Nat.reduceEqDiff]; rfl) ?_ ?_
    · have e := hk.2
      simp only [sS, ↓sT, if_true, if_false, Nat.reduceLT, Nat.reduceEqDiff, okV, List.all_cons, List.all_nil, Bool.and_true, e]; rfl
    · have h6 : t.1 = 6 := by have := eq_of_beq hb1; omega
      have hl' : lacksFrom a b 0 = t.2.2 := by rw [hl, h6]; simp [lacksFrom, lackF]
      have e := hk.1
      rw [hl']
      simp only [sS, ↓sT, if_true, if_false, Nat.reduceLT, Nat.reduceEqDiff, V.keep, List.map_cons, List.map_nil, e]; rfl
  · refine WC_skip ?_
    refine hN1 _ ?_; try clear hN1 hD1 N1
    refine WC_seqN (fun N3 hN3 hD3 => ?_)
    refine WC_label ?_
    refine hN3 _ ?_; try clear hN3 hD3 N3
    refine h1 _ ⟨⟨hi, hu, hl, hlo⟩, .inr ⟨rfl, ?_⟩, _, x, ow, nx, rfl, ⟨rfl, rfl, rfl, rfl, trivial⟩, hsl⟩
    have : ¬ ((t.1 : Int) = 6) := by simpa using hb1
    omega
end Go.PV
/- dot.Lacks: the contract. -/
namespace Go.PV
open Go.Proofs
set_option linter.unusedVariables false
set_option linter.unusedSimpArgs false
set_option maxRecDepth 10000

theorem lackF_len {u b : List Int} (hu : ∀ k, 0 ≤ u.getD k 0) (hb : ∀ k, b.getD k 0 ≤ 400) : ∀ n i, (lackF u b n i).length ≤ 400 * n
  | 0, i => by simp [lackF]
  | n + 1, i => by
    have := lackF_len hu hb n (i + 1)
    have h1 := hu i
    have h2 := hb i
    simp only [lackF, List.length_append, lackAt, List.length_map, List.length_range]
    omega
def lacksV (a b : List Int) : V := if rightB a = false ∨ rightB b = false then .tup [.nils, .int .i64 5] else .tup [tagsV (lacksFrom a b 0), .int .i64 0]

noncomputable def lkF : Code := match findLabel lkC 0 with
  | some (.seq _ r) => r
  | _ => .skip

theorem c_punnet_dot_Lacks (a b : List Int) (la : a.length = 6) (lb : b.length = 6) : VC Try.prog 24 [vecV a, vecV b] [] (fun q _ => q = lacksV a b) := by
  refine VC_enter (nt := 42) (rs := [.tmp 4, .tmp 5]) (ow := []) (m := 0) Try.func24 rfl (by rfl) rfl rfl (by simp) (by simp only [ownOf, List.flatMap_cons, vec_toks]; rfl) rfl (fun n => ?_)
  simp only [zipT, Nat.zero_add]
  refine WC_seqR (fun N1 hN1 hD1 => ?_)
  simp only [sS, ↓sT, if_true, if_false, Nat.reduceLT, Nat.reduceEqDiff, ↓sO, ↓WOps_g, sG, opV, loudV, cellsOf, strOp, evL, Nat.reduceAdd, beq_self_eq_true, bne_self_eq_false, Int.reduceBEq, Int.reduceBNe, vec_cells, all_ints, ti25, ti23, ti3, List.getElem?_cons_zero, List.getElem?_cons_succ, List.drop_zero, vec_load la, vec_load lb]
  refine hN1 _ ?_; try clear hN1 hD1 N1
  by_cases hright : rightB a = true ∧ rightB b = true
  · obtain ⟨ra, rb⟩ := hright
    have hN : (lacksFrom a b 0).length ≤ 2400 := lackF_len (fun k => (right_get ra k).1) (fun k => (right_get rb k).2) 6 0
    have hV : lacksV a b = .tup [tagsV (lacksFrom a b 0), .int .i64 0] := by simp [lacksV, ra, rb]
    have cA := c_punnet_dot_Right a la
    have cB := c_punnet_dot_Right b lb
    rw [ra] at cA
    rw [rb] at cB
    rw [hV]
    have z := lk_zero a b la lb (right_get rb) hN n
    refine WC_scope (σ := Nat × List Int × List (Int × Int)) (lkJ a b n) lkM ?_ (fun l t s hJ => ?_)
    · refine WC_seqN (fun N2 hN2 hD2 => ?_)
      refine WC_seqR (fun N3 hN3 hD3 => ?_)
      simp only [sS, ↓sT, if_true, if_false, Nat.reduceLT, Nat.reduceEqDiff, ↓sO, ↓WOps_g, sG, opV, loudV, cellsOf, strOp, evL, Nat.reduceAdd, beq_self_eq_true, bne_self_eq_false, Int.reduceBEq, Int.reduceBNe, vec_cells, all_ints, ti25, ti23, ti3, List.getElem?_cons_zero, List.getElem?_cons_succ, List.drop_zero, vec_load la, vec_load lb]
      refine WOps_callP cA (by simp only [ev_func]) (by simp only [evL, sS, ↓sT, if_true, if_false, Nat.reduceLT, Nat.reduceEqDiff]; rfl) (by simp only [List.map, vec_bare]) (by simp [vec_noP]) rfl rfl ?_
      simp only [sS, ↓sT, if_true, if_false, Nat.reduceLT, Nat.reduceEqDiff, ↓sO, ↓WOps_g, sG, opV, loudV, cellsOf, strOp, evL, Nat.reduceAdd, beq_self_eq_true, bne_self_eq_false, Int.reduceBEq, Int.reduceBNe, vec_cells, all_ints, ti25, ti23, ti3, List.getElem?_cons_zero, List.getElem?_cons_succ, List.drop_zero, vec_load la, vec_load lb]
      refine WOps_callP cB (by simp only [ev_func]) (by simp only [evL, sS, ↓sT, if_true, if_false, Nat.reduceLT, Nat.reduceEqDiff]; rfl) (by simp only [List.map, vec_bare]) (by simp [vec_noP]) rfl rfl ?_
      simp only [sS, ↓sT, if_true, if_false, Nat.reduceLT, Nat.reduceEqDiff, ↓sO, ↓WOps_g, sG, opV, loudV, cellsOf, strOp, evL, Nat.reduceAdd, beq_self_eq_true, bne_self_eq_false, Int.reduceBEq, Int.reduceBNe, vec_cells, all_ints, ti25, ti23, ti3, List.getElem?_cons_zero, List.getElem?_cons_succ, List.drop_zero, vec_load la, vec_load lb]
      refine hN3 _ ?_; try clear hN3 hD3 N3
      refine WC_condE ?_
      simp only [sS, ↓sT, if_true, if_false, Nat.reduceLT, Nat.reduceEqDiff, ↓stepC_bool]
      refine ⟨fun hb => (by cases hb), fun hb => ?_⟩
      refine WC_skip ?_
      refine hN2 _ ?_; try clear hN2 hD2 N2
      refine WC_seqR (fun N5 hN5 hD5 => ?_)
      simp only [sS, ↓sT, if_true, if_false, Nat.reduceLT, Nat.reduceEqDiff, ↓sO, ↓WOps_g, sG, opV, loudV, cellsOf, strOp, evL, Nat.reduceAdd, beq_self_eq_true, bne_self_eq_false, Int.reduceBEq, Int.reduceBNe, vec_cells, all_ints, ti25, ti23, ti3, List.getElem?_cons_zero, List.getElem?_cons_succ, List.drop_zero, vec_load la, vec_load lb]
      refine hN5 _ ?_; try clear hN5 hD5 N5
      refine WC_seqR (fun N6 hN6 hD6 => ?_)
      simp only [sS, ↓sT, if_true, if_false, Nat.reduceLT, Nat.reduceEqDiff, ↓sO, ↓WOps_g, sG, opV, loudV, cellsOf, strOp, evL, Nat.reduceAdd, beq_self_eq_true, bne_self_eq_false, Int.reduceBEq, Int.reduceBNe, vec_cells, all_ints, ti25, ti23, ti3, List.getElem?_cons_zero, List.getElem?_cons_succ, List.drop_zero, vec_load la, vec_load lb]
      refine hN6 _ ?_; try clear hN6 hD6 N6
      refine WC_seqN (fun N7 hN7 hD7 => ?_)
      refine WC_label ?_
      refine hN7 _ ?_; try clear hN7 hD7 N7
      have J0 : ∀ s, lkJ a b n 0 (0, a, []) s → WC Try.prog lkF (Exit.at (fun l s => ∃ t, lkJ a b n l t s) (lkK a b)) s := fun s hs => by
        obtain ⟨r, hr, hw⟩ := z 100000 (0, a, []) s hs (by simp [lkM])
        simp only [lkF, hr]
        refine hw.mono (fun e s hs => ?_)
        cases e <;> first | exact hs | (obtain ⟨t', h1, _⟩ := hs; exact ⟨t', h1⟩)
      simp only [lkF, lkC, Try.f24, Option.getD_some, findLabel, if_true, beq_self_eq_true] at J0
      refine J0 _ ⟨⟨by simp, la, by simp, right_get ra⟩, .inl rfl, _, _, [], n, rfl, ⟨rfl, rfl, rfl, rfl, trivial⟩, .inl ⟨rfl, rfl, rfl⟩⟩
    · rcases hJ.2.1 with rfl | ⟨rfl, h6⟩
      · obtain ⟨r, hr, hw⟩ := z (lkM 0 t) t s hJ (Nat.le_refl _)
        refine ⟨_, hr, ?_⟩
        refine WC_seqN (fun N1 hN1 hD1 => ?_)
        refine WC_skip ?_
        exact hN1 _ hw
      · refine ⟨.seq .skip lkR, ?_, ?_⟩
        · simp only [lkR, lkC, Try.f24, Option.getD_some, findLabel, if_true, beq_self_eq_true]; rfl
        · refine WC_seqN (fun N1 hN1 hD1 => ?_)
          refine WC_skip ?_
          exact hN1 _ (lk_one a b la lb (right_get rb) hN n _ _ t s hJ (Nat.le_refl _))
  · have hV : lacksV a b = .tup [.nils, .int .i64 5] := by
      rw [lacksV, if_pos]
      cases h1 : rightB a <;> cases h2 : rightB b <;> simp_all
    have cA := c_punnet_dot_Right a la
    have cB := c_punnet_dot_Right b lb
    refine WC_scope (σ := Unit) (fun _ _ _ => False) (fun _ _ => 0) ?_ (fun l t s hJ => (by cases hJ))
    refine WC_seqN (fun N2 hN2 hD2 => ?_)
    refine WC_seqR (fun N3 hN3 hD3 => ?_)
    simp only [sS, ↓sT, if_true, if_false, Nat.reduceLT, Nat.reduceEqDiff, ↓sO, ↓WOps_g, sG, opV, loudV, cellsOf, strOp, evL, Nat.reduceAdd, beq_self_eq_true, bne_self_eq_false, Int.reduceBEq, Int.reduceBNe, vec_cells, all_ints, ti25, ti23, ti3, List.getElem?_cons_zero, List.getElem?_cons_succ, List.drop_zero, vec_load la, vec_load lb]
    by_cases ra : rightB a = true
    · have rb : rightB b = false := by
        cases h : rightB b
        · rfl
        · exact absurd ⟨ra, h⟩ hright
      rw [ra] at cA
      rw [rb] at cB
      refine WOps_callP cA (by simp only [ev_func]) (by simp only [evL, sS, ↓sT, if_true, if_false, Nat.reduceLT, Nat.reduceEqDiff]; rfl) (by simp only [List.map, vec_bare]) (by simp [vec_noP]) rfl rfl ?_
      simp only [sS, ↓sT, if_true, if_false, Nat.reduceLT, Nat.reduceEqDiff, ↓sO, ↓WOps_g, sG, opV, loudV, cellsOf, strOp, evL, Nat.reduceAdd, beq_self_eq_true, bne_self_eq_false, Int.reduceBEq, Int.reduceBNe, vec_cells, all_ints, ti25, ti23, ti3, List.getElem?_cons_zero, List.getElem?_cons_succ, List.drop_zero, vec_load la, vec_load lb]
      refine WOps_callP cB (by simp only [ev_func]) (by simp only [evL, sS, ↓sT, if_true, if_false, Nat.reduceLT, Nat.reduceEqDiff]; rfl) (by simp only [List.map, vec_bare]) (by simp [vec_noP]) rfl rfl ?_
      simp only [sS, ↓sT, if_true, if_false, Nat.reduceLT, Nat.reduceEqDiff, ↓sO, ↓WOps_g, sG, opV, loudV, cellsOf, strOp, evL, Nat.reduceAdd, beq_self_eq_true, bne_self_eq_false, Int.reduceBEq, Int.reduceBNe, vec_cells, all_ints, ti25, ti23, ti3, List.getElem?_cons_zero, List.getElem?_cons_succ, List.drop_zero, vec_load la, vec_load lb]
      refine hN3 _ ?_; try clear hN3 hD3 N3
      refine WC_condE ?_
      simp only [sS, ↓sT, if_true, if_false, Nat.reduceLT, Nat.reduceEqDiff, ↓stepC_bool]
      refine ⟨fun hb => ?_, fun hb => (by cases hb)⟩
      refine WC_seqR (fun N4 hN4 hD4 => ?_)
      simp only [sS, ↓sT, if_true, if_false, Nat.reduceLT, Nat.reduceEqDiff, ↓sO, ↓WOps_g, sG, opV, loudV, cellsOf, strOp, evL, Nat.reduceAdd, beq_self_eq_true, bne_self_eq_false, Int.reduceBEq, Int.reduceBNe, vec_cells, all_ints, ti25, ti23, ti3, List.getElem?_cons_zero, List.getElem?_cons_succ, List.drop_zero, vec_load la, vec_load lb]
      refine hN4 _ ?_; try clear hN4 hD4 N4
      refine WC_ret ?_; (try simp only [Exit.after, Exit.at]); refine Kend_ret (by simp only [resOf, resL, resV, mkS_get, sS, ↓sT, if_true, if_false, Nat.reduceLT, Nat.reduceEqDiff]; rfl) rfl ?_
      rw [hV]; rfl
    · have ra : rightB a = false := by simpa using ra
      rw [ra] at cA
      refine WOps_callP cA (by simp only [ev_func]) (by simp only [evL, sS, ↓sT, if_true, if_false, Nat.reduceLT, Nat.reduceEqDiff]; rfl) (by simp only [List.map, vec_bare]) (by simp [vec_noP]) rfl rfl ?_
      simp only [sS, ↓sT, if_true, if_false, Nat.reduceLT, Nat.reduceEqDiff, ↓sO, ↓WOps_g, sG, opV, loudV, cellsOf, strOp, evL, Nat.reduceAdd, beq_self_eq_true, bne_self_eq_false, Int.reduceBEq, Int.reduceBNe, vec_cells, all_ints, ti25, ti23, ti3, List.getElem?_cons_zero, List.getElem?_cons_succ, List.drop_zero, vec_load la, vec_load lb]
      refine hN3 _ ?_; try clear hN3 hD3 N3
      refine WC_condE ?_
      simp only [sS, ↓sT, if_true, if_false, Nat.reduceLT, Nat.reduceEqDiff, ↓stepC_bool]
      refine ⟨fun hb => ?_, fun hb => (by cases hb)⟩
      refine WC_seqR (fun N4 hN4 hD4 => ?_)
      simp only [sS, ↓sT, if_true, if_false, Nat.reduceLT, Nat.reduceEqDiff, ↓sO, ↓WOps_g, sG, opV, loudV, cellsOf, strOp, evL, Nat.reduceAdd, beq_self_eq_true, bne_self_eq_false, Int.reduceBEq, Int.reduceBNe, vec_cells, all_ints, ti25, ti23, ti3, List.getElem?_cons_zero, List.getElem?_cons_succ, List.drop_zero, vec_load la, vec_load lb]
      refine hN4 _ ?_; try clear hN4 hD4 N4
      refine WC_ret ?_; (try simp only [Exit.after, Exit.at]); refine Kend_ret (by simp only [resOf, resL, resV, mkS_get, sS, ↓sT, if_true, if_false, Nat.reduceLT, Nat.reduceEqDiff]; rfl) rfl ?_
      rw [hV]; rfl
end Go.PV
/- ref25.Lacks. -/
namespace Go.PV
open Go.Proofs
set_option linter.unusedVariables false
set_option linter.unusedSimpArgs false
set_option maxRecDepth 10000

/-- the slice of tags l as it grows from one that is empty, not nil -/
def SM (l : List (Int × Int)) (x : V) (ow : List (Nat × Nat)) : Prop :=
  (l = [] ∧ x = .slice 2 [] true none ∧ ow = []) ∨ (l ≠ [] ∧ ∃ k, x = .slice 2 (l.map tagE) false (some k) ∧ ow = [(k, l.length)])
def tagsM (l : List (Int × Int)) : V := if l.isEmpty then .slice 2 [] true none else .slice 2 (l.map tagE) false none
theorem app_tagM {l : List (Int × Int)} {x : V} {ow : List (Nat × Nat)} {nx : Nat} {ie : TI} (h : SM l x ow) (hs : ie.sz = 2) (q : Int × Int) (hl : l.length + 1 ≤ maxApp) :
    ∃ x' ow' nx', appendV ie ow nx x [tagE q] = some (x', ow', nx') ∧ SM (l ++ [q]) x' ow' := by
  rcases h with ⟨rfl, rfl, rfl⟩ | ⟨hne, k, rfl, rfl⟩
  · refine ⟨_, _, _, by simp only [appendV, List.length_cons, List.length_nil]; rw [if_pos ⟨hs.symm, by simpa using hl⟩]; rfl, .inr ⟨by simp, nx, ?_, ?_⟩⟩
    · simp
    · simp
  · refine ⟨_, _, _, by simp only [appendV, List.length_map, List.length_cons, List.length_nil]; rw [if_pos ⟨hs.symm, by simpa using hl⟩]; simp; exact ⟨rfl, rfl, rfl⟩, .inr ⟨by simp, k, ?_, ?_⟩⟩
    · simp
    · simp
theorem keep_SM {l : List (Int × Int)} {x : V} {ow : List (Nat × Nat)} (h : SM l x ow) : x.keep1 [] = tagsM l ∧ ok1 0 x = true := by
  rcases h with ⟨rfl, rfl, _⟩ | ⟨hne, k, rfl, _⟩
  · exact ⟨rfl, rfl⟩
  · have : l.isEmpty = false := by cases l <;> simp_all
    simp [V.keep1, V.keepC, tagsM, this, ok1, okC, okP]
theorem lackAt_snoc {i : Nat} {x y : Int} (h : x ≤ y) : lackAt i x (y + 1) = lackAt i x y ++ [((i : Int) + 1, y + 1)] := by
  rw [lackAt, lackAt, show (y + 1 - x).toNat = (y - x).toNat + 1 from by omega, List.range_succ, List.map_append]
  simp; omega
def lacksM (a b : List Int) : V := if rightB a = false ∨ rightB b = false then .tup [.nils, .int .i64 5] else .tup [tagsM (lacksFrom a b 0), .int .i64 0]

theorem c_punnet_punnetref25_Lacks (a b : List Int) (la : a.length = 6) (lb : b.length = 6) : VC Try.prog 25 [vecV a, vecV b] [] (fun q _ => q = lacksM a b) := by
  refine VC_enter (nt := 43) (rs := [.tmp 4, .tmp 5]) (ow := []) (m := 0) Try.func25 rfl (by rfl) rfl rfl (by simp) (by simp only [ownOf, List.flatMap_cons, vec_toks]; rfl) rfl (fun n => ?_)
  simp only [zipT, Nat.zero_add]
  refine WC_seqR (fun N1 hN1 hD1 => ?_)
  simp only [sS, ↓sT, if_true, if_false, Nat.reduceLT, Nat.reduceEqDiff, ↓sO, ↓WOps_g, sG, opV, loudV, cellsOf, strOp, evL, Nat.reduceAdd, beq_self_eq_true, bne_self_eq_false, Int.reduceBEq, Int.reduceBNe, vec_cells, all_ints, ti25, ti23, ti3, List.getElem?_cons_zero, List.getElem?_cons_succ, List.drop_zero, vec_load la, vec_load lb]
  refine hN1 _ ?_; try clear hN1 hD1 N1
  have cA := c_punnet_punnetref25_Right a la
  have cB := c_punnet_punnetref25_Right b lb
  refine WC_seqN (fun N2 hN2 hD2 => ?_)
  refine WC_seqR (fun N3 hN3 hD3 => ?_)
  simp only [sS, ↓sT, if_true, if_false, Nat.reduceLT, Nat.reduceEqDiff, ↓sO, ↓WOps_g, sG, opV, loudV, cellsOf, strOp, evL, Nat.reduceAdd, beq_self_eq_true, bne_self_eq_false, Int.reduceBEq, Int.reduceBNe, vec_cells, all_ints, ti25, ti23, ti3, List.getElem?_cons_zero, List.getElem?_cons_succ, List.drop_zero, vec_load la, vec_load lb]
  by_cases hright : rightB a = true ∧ rightB b = true
  · obtain ⟨ra, rb⟩ := hright
    have hN : (lacksFrom a b 0).length ≤ 2400 := lackF_len (fun k => (right_get ra k).1) (fun k => (right_get rb k).2) 6 0
    have hV : lacksM a b = .tup [tagsM (lacksFrom a b 0), .int .i64 0] := by simp [lacksM, ra, rb]
    rw [ra] at cA
    rw [rb] at cB
    refine WOps_callP cA (by simp only [ev_func]) (by simp only [evL, sS, ↓sT, if_true, if_false, Nat.reduceLT, Nat.reduceEqDiff]; rfl) (by simp only [List.map, vec_bare]) (by simp [vec_noP]) rfl rfl ?_
    simp only [sS, ↓sT, if_true, if_false, Nat.reduceLT, Nat.reduceEqDiff, ↓sO, ↓WOps_g, sG, opV, loudV, cellsOf, strOp, evL, Nat.reduceAdd, beq_self_eq_true, bne_self_eq_false, Int.reduceBEq, Int.reduceBNe, vec_cells, all_ints, ti25, ti23, ti3, List.getElem?_cons_zero, List.getElem?_cons_succ, List.drop_zero, vec_load la, vec_load lb]
    refine WOps_callP cB (by simp only [ev_func]) (by simp only [evL, sS, ↓sT, if_true, if_false, Nat.reduceLT, Nat.reduceEqDiff]; rfl) (by simp only [List.map, vec_bare]) (by simp [vec_noP]) rfl rfl ?_
    simp only [sS, ↓sT, if_true, if_false, Nat.reduceLT, Nat.reduceEqDiff, ↓sO, ↓WOps_g, sG, opV, loudV, cellsOf, strOp, evL, Nat.reduceAdd, beq_self_eq_true, bne_self_eq_false, Int.reduceBEq, Int.reduceBNe, vec_cells, all_ints, ti25, ti23, ti3, List.getElem?_cons_zero, List.getElem?_cons_succ, List.drop_zero, vec_load la, vec_load lb]
    refine hN3 _ ?_; try clear hN3 hD3 N3
    refine WC_condE ?_
    simp only [sS, ↓sT, if_true, if_false, Nat.reduceLT, Nat.reduceEqDiff, ↓stepC_bool]
    refine ⟨fun hb => (by cases hb), fun hb => ?_⟩
    refine WC_skip ?_
    refine hN2 _ ?_; try clear hN2 hD2 N2
    refine WC_seqR (fun N5 hN5 hD5 => ?_)
    simp only [sS, ↓sT, if_true, if_false, Nat.reduceLT, Nat.reduceEqDiff, ↓sO, ↓WOps_g, sG, opV, loudV, cellsOf, strOp, evL, Nat.reduceAdd, beq_self_eq_true, bne_self_eq_false, Int.reduceBEq, Int.reduceBNe, vec_cells, all_ints, ti25, ti23, ti3, List.getElem?_cons_zero, List.getElem?_cons_succ, List.drop_zero, vec_load la, vec_load lb, buildSliceV, ti38]
    simp
    refine hN5 _ ?_; try clear hN5 hD5 N5
    refine WC_seqN (fun N6 hN6 hD6 => ?_)
    refine WC_seqR (fun N7 hN7 hD7 => ?_)
    simp only [sS, ↓sT, if_true, if_false, Nat.reduceLT, Nat.reduceEqDiff, ↓sO, ↓WOps_g, sG, opV, loudV, cellsOf, strOp, evL, Nat.reduceAdd, beq_self_eq_true, bne_self_eq_false, Int.reduceBEq, Int.reduceBNe]
    refine hN7 _ ?_; try clear hN7 hD7 N7
    refine WC_block ?_
    refine WC_loopG (σ := Nat × List (Int × Int)) (fun t s => ∃ ps x hs ow nx, s = ⟨mkS 43 ps, a.map (V.int .i64) :: b.map (V.int .i64) :: hs, ow, nx⟩ ∧ Has ps [(7, .int .i64 (t.1 + 1)), (6, x), (2, .ptr 0 0), (3, .ptr 1 0)] ∧ SM t.2 x ow ∧ t.1 ≤ 6 ∧ lacksFrom a b 0 = t.2 ++ lacksFrom a b t.1) (fun t => 6 - t.1) (0, []) ?_ (fun t s hI => ?_)
    · exact ⟨_, _, [], [], n, rfl, ⟨rfl, rfl, rfl, rfl, trivial⟩, .inl ⟨rfl, rfl, rfl⟩, by omega, rfl⟩
    obtain ⟨ps, x, hs, ow, nx, rfl, hps, hsm, hi6, hl⟩ := hI
    refine WC_has hps ?_; clear hps ps
    obtain ⟨i, l⟩ := t
    simp only at hsm hi6 hl ⊢
    refine WC_seqN (fun N8 hN8 hD8 => ?_)
    refine WC_seqR (fun N9 hN9 hD9 => ?_)
    simp only [sS, ↓sT, if_true, if_false, Nat.reduceLT, Nat.reduceEqDiff, ↓sO, ↓WOps_g, sG, opV, loudV, cellsOf, strOp, evL, Nat.reduceAdd, beq_self_eq_true, bne_self_eq_false, Int.reduceBEq, Int.reduceBNe]
    refine hN9 _ ?_; try clear hN9 hD9 N9
    refine WC_condE ?_
    simp only [sS, ↓sT, if_true, if_false, Nat.reduceLT, Nat.reduceEqDiff, ↓stepC_bool]
    refine ⟨fun hb => ?_, fun hb => ?_⟩
    · have hi : i < 6 := by have := of_decide_eq_true hb; omega
      clear hb
      refine WC_skip ?_
      refine hN8 _ ?_; try clear hN8 hD8 N8
      refine WC_seqN (fun N10 hN10 hD10 => ?_)
      refine WC_block ?_
      refine WC_seqR (fun N11 hN11 hD11 => ?_)
      simp only [sS, ↓sT, if_true, if_false, Nat.reduceLT, Nat.reduceEqDiff, ↓sO, ↓WOps_g, sG, opV, loudV, cellsOf, strOp, evL, Nat.reduceAdd, beq_self_eq_true, bne_self_eq_false, Int.reduceBEq, Int.reduceBNe]
      refine hN11 _ ?_; try clear hN11 hD11 N11
      have hstep := lacksFrom_step (u := a) (b := b) hi
      have g1 := vec_get (v := b) (k := i) (by omega)
      obtain ⟨p, hp⟩ : ∃ p, a.getD i 0 = p := ⟨_, rfl⟩
      obtain ⟨q, hq⟩ : ∃ q, b.getD i 0 = q := ⟨_, rfl⟩
      have hpb := right_get ra i
      have hqb := right_get rb i
      rw [hp] at hpb
      rw [hq] at g1 hqb
      rw [hp, hq] at hstep
      have hii : (0 : Int) ≤ (i : Int) + 1 - 1 ∧ (i : Int) + 1 - 1 < 6 := by omega
      have hii2 : (((i : Int) + 1 - 1).toNat) = i := by omega
      refine WC_block ?_
      refine WC_loopG (σ := Nat × List (Int × Int)) (fun t s => ∃ ps x hs ow nx, s = ⟨mkS 43 ps, a.map (V.int .i64) :: b.map (V.int .i64) :: hs, ow, nx⟩ ∧ Has ps [(7, .int .i64 (i + 1)), (8, .int .i64 (t.1 + 1)), (6, x), (2, .ptr 0 0), (3, .ptr 1 0)] ∧ SM t.2 x ow ∧ (t.1 : Int) ≤ q ∧ t.2 = l ++ lackAt i p t.1) (fun t => 400 - t.1) (0, l) ?_ (fun t s hI => ?_)
      · refine ⟨_, _, hs, ow, nx, rfl, ⟨rfl, rfl, rfl, rfl, rfl, trivial⟩, hsm, by simp; omega, ?_⟩
        rw [lackAt, show ((((0 : Nat), l).1 : Int) - p).toNat = 0 from by simp; omega]; simp
      clear hsm x ow nx hs
      obtain ⟨ps, x, hs, ow, nx, rfl, hps, hsm, hk6, hl2⟩ := hI
      refine WC_has hps ?_; clear hps ps
      obtain ⟨k, l2⟩ := t
      simp only at hsm hk6 hl2 ⊢
      refine WC_seqN (fun N12 hN12 hD12 => ?_)
      refine WC_seqR (fun N13 hN13 hD13 => ?_)
      simp only [sS, ↓sT, if_true, if_false, Nat.reduceLT, Nat.reduceEqDiff, ↓sO, ↓WOps_g, sG, opV, loudV, cellsOf, strOp, evL, Nat.reduceAdd, beq_self_eq_true, bne_self_eq_false, Int.reduceBEq, Int.reduceBNe, vec_cells, all_ints, ti25, ti23, ti3, List.getElem?_cons_zero, List.getElem?_cons_succ, List.drop_zero, vec_load la, vec_load lb, vec_ia, wrapI (x := (i : Int) + 1 - 1) (by omega) (by omega), hii, hii2, g1]
      refine hN13 _ ?_; try clear hN13 hD13 N13
      refine WC_condE ?_
      simp only [sS, ↓sT, if_true, if_false, Nat.reduceLT, Nat.reduceEqDiff, ↓stepC_bool]
      refine ⟨fun hb => ?_, fun hb => ?_⟩
      · have hkq : (k : Int) + 1 ≤ q := of_decide_eq_true hb
        refine WC_skip ?_
        refine hN12 _ ?_; try clear hN12 hD12 N12
        refine WC_seqN (fun N14 hN14 hD14 => ?_)
        refine WC_block ?_
        refine WC_seqR (fun N15 hN15 hD15 => ?_)
        simp only [sS, ↓sT, if_true, if_false, Nat.reduceLT, Nat.reduceEqDiff, ↓sO, ↓WOps_g, sG, opV, loudV, cellsOf, strOp, evL, Nat.reduceAdd, beq_self_eq_true, bne_self_eq_false, Int.reduceBEq, Int.reduceBNe, buildV, evParts, V.isCell, List.all_cons, List.all_nil, Bool.and_self, if_true, placesOf, fillV, List.getElem?_cons_zero, List.getElem?_cons_succ, List.length_cons, List.length_nil, Nat.zero_add, Nat.reduceAdd, ne_eq, not_true_eq_false, false_or, gt_iff_lt, Nat.reduceLT, if_false, wrL, Option.map_some, List.set_cons_zero, List.set_cons_succ, ti25, ti3, tag_fold, cat_at, cat_set, tag_full, tag_cells, tag_load]
        refine hN15 _ ?_; try clear hN15 hD15 N15
        refine WC_seqR (fun N16 hN16 hD16 => ?_)
        simp only [sS, ↓sT, if_true, if_false, Nat.reduceLT, Nat.reduceEqDiff, ↓sO, ↓WOps_g, sG, opV, loudV, cellsOf, strOp, evL, Nat.reduceAdd, beq_self_eq_true, bne_self_eq_false, Int.reduceBEq, Int.reduceBNe, cat_at, cat_set, tag_full, tag_cells, tag_load, vec_cells, all_ints, ti25, ti23, ti3, List.getElem?_cons_zero, List.getElem?_cons_succ, List.drop_zero, vec_load la, vec_load lb]
        have hh : hasB a ((i : Int) + 1) ((k : Int) + 1) = decide ((k : Int) + 1 ≤ p) := by
          have ht : tagB ((i : Int) + 1) ((k : Int) + 1) = true := tagB_iff.2 (by omega)
          simp only [hasB, ht, Bool.true_and, hii2, hp]
        have ch := c_punnet_punnetref25_Has a la ((i : Int) + 1) ((k : Int) + 1)
        rw [hh] at ch
        refine WOps_callP ch (by simp only [ev_func]) (by simp only [evL, sS, ↓sT, if_true, if_false, Nat.reduceLT, Nat.reduceEqDiff]; rfl) (by simp only [List.map, vec_bare, tag_bare]) (by simp [vec_noP, tag_noP]) rfl rfl ?_
        simp only [sS, ↓sT, if_true, if_false, Nat.reduceLT, Nat.reduceEqDiff, ↓sO, ↓WOps_g, sG, opV, loudV, cellsOf, strOp, evL, Nat.reduceAdd, beq_self_eq_true, bne_self_eq_false, Int.reduceBEq, Int.reduceBNe, cat_at, cat_set, tag_full, tag_cells, tag_load]
        refine hN16 _ ?_; try clear hN16 hD16 N16
        refine WC_condE ?_
        simp only [sS, ↓sT, if_true, if_false, Nat.reduceLT, Nat.reduceEqDiff, ↓stepC_bool]
        refine ⟨fun hb => ?_, fun hb => ?_⟩
        · have hpk : p ≤ k := by simp at hb; omega
          have hlen : l2.length + 1 ≤ maxApp := by
            rw [hl2]
            have := congrArg List.length hl
            rw [hstep] at this
            simp only [List.length_append, lackAt, List.length_map, List.length_range] at this ⊢
            unfold maxApp; omega
          obtain ⟨x', ow', nx', happ, hsl'⟩ := app_tagM (nx := nx) (ie := (⟨.struct [(0, 3), (1, 3)], 2, 16, some [.int .i64 0, .int .i64 0]⟩ : TI)) hsm rfl ((i : Int) + 1, (k : Int) + 1) hlen
          simp only [tagE] at happ
          refine WC_regN (fun N17 hN17 => ?_)
          simp only [sS, ↓sT, if_true, if_false, Nat.reduceLT, Nat.reduceEqDiff, ↓sO, ↓WOps_g, sG, opV, loudV, cellsOf, strOp, evL, Nat.reduceAdd, beq_self_eq_true, bne_self_eq_false, Int.reduceBEq, Int.reduceBNe, cat_at, cat_set, tag_full, tag_cells, tag_load, vec_cells, all_ints, ti25, ti23, ti3, List.getElem?_cons_zero, List.getElem?_cons_succ, List.drop_zero, vec_load la, vec_load lb, buildSliceV, ti38, elemsV, range_one, tag_clean, tag_cells, Option.isSome_some, Nat.reducePow, Nat.reduceLeDiff, TD.intK?, happ, List.all_cons, List.all_nil]
          refine hN17 _ ?_; try clear hN17 N17
          refine hN14 _ ?_; try clear hN14 hD14 N14
          refine WC_regN (fun N18 hN18 => ?_)
          simp only [sS, ↓sT, if_true, if_false, Nat.reduceLT, Nat.reduceEqDiff, ↓sO, ↓WOps_g, sG, opV, loudV, cellsOf, strOp, evL, Nat.reduceAdd, beq_self_eq_true, bne_self_eq_false, Int.reduceBEq, Int.reduceBNe, cat_at, cat_set, tag_full, tag_cells, tag_load, wrapI (x := (k : Int) + 1 + 1) (by omega) (by omega)]
          refine hN18 _ ?_; try clear hN18 N18
          refine ⟨(k + 1, l2 ++ [((i : Int) + 1, (k : Int) + 1)]), ⟨_, x', _, ow', nx', rfl, ⟨rfl, rfl, rfl, rfl, rfl, trivial⟩, hsl', by simpa using hkq, ?_⟩, ?_⟩
          · simp only
            rw [hl2, Int.natCast_add, show ((1 : Nat) : Int) = 1 from rfl, lackAt_snoc hpk, List.append_assoc]
          · simp only; omega
        · have hpk : k + 1 ≤ p := by simp at hb; omega
          refine WC_skip ?_
          refine hN14 _ ?_; try clear hN14 hD14 N14
          refine WC_regN (fun N18 hN18 => ?_)
          simp only [sS, ↓sT, if_true, if_false, Nat.reduceLT, Nat.reduceEqDiff, ↓sO, ↓WOps_g, sG, opV, loudV, cellsOf, strOp, evL, Nat.reduceAdd, beq_self_eq_true, bne_self_eq_false, Int.reduceBEq, Int.reduceBNe, cat_at, cat_set, tag_full, tag_cells, tag_load, wrapI (x := (k : Int) + 1 + 1) (by omega) (by omega)]
          refine hN18 _ ?_; try clear hN18 N18
          refine ⟨(k + 1, l2), ⟨_, x, _, ow, nx, rfl, ⟨rfl, rfl, rfl, rfl, rfl, trivial⟩, hsm, by simpa using hkq, ?_⟩, ?_⟩
          · simp only
            rw [hl2, lackAt_none (by omega), lackAt_none (by omega)]
          · simp only; omega
      · have hkq : (k : Int) = q := by have := of_decide_eq_false hb; omega
        refine WC_exit ?_
        refine hN10 _ ?_; try clear hN10 hD10 N10
        refine WC_regN (fun N20 hN20 => ?_)
        simp only [sS, ↓sT, if_true, if_false, Nat.reduceLT, Nat.reduceEqDiff, ↓sO, ↓WOps_g, sG, opV, loudV, cellsOf, strOp, evL, Nat.reduceAdd, beq_self_eq_true, bne_self_eq_false, Int.reduceBEq, Int.reduceBNe, cat_at, cat_set, tag_full, tag_cells, tag_load, wrapI (x := (i : Int) + 1 + 1) (by omega) (by omega)]
        refine hN20 _ ?_; try clear hN20 N20
        refine ⟨(i + 1, l2), ⟨_, x, _, ow, nx, rfl, ⟨rfl, rfl, rfl, rfl, trivial⟩, hsm, (by simp only; omega), ?_⟩, ?_⟩
        · simp only
          rw [hl, hstep, hl2, hkq, List.append_assoc]
        · simp only; omega
    · have hi : i = 6 := by have := of_decide_eq_false hb; omega
      refine WC_exit ?_
      refine hN6 _ ?_; try clear hN6 hD6 N6
      refine WC_seqR (fun N21 hN21 hD21 => ?_)
      simp only [sS, ↓sT, if_true, if_false, Nat.reduceLT, Nat.reduceEqDiff, ↓sO, ↓WOps_g, sG, opV, loudV, cellsOf, strOp, evL, Nat.reduceAdd, beq_self_eq_true, bne_self_eq_false, Int.reduceBEq, Int.reduceBNe]
      refine hN21 _ ?_; try clear hN21 hD21 N21
      refine WC_noOwn ?_
      have hk := keep_SM hsm
      refine WC_ret ?_; (try simp only [Exit.after, Exit.out]); refine Kend_ret (by simp only [resOf, resL, resV, mkS_get, sS, ↓sT, if_true, if_false, Nat.reduceLT, Nat.reduceEqDiff]; rfl) ?_ ?_
      · have e := hk.2
        simp only [sS, ↓sT, if_true, if_false, Nat.reduceLT, Nat.reduceEqDiff, okV, List.all_cons, List.all_nil, Bool.and_true, e]; rfl
      · have hl' : lacksFrom a b 0 = l := by rw [hl, hi]; simp [lacksFrom, lackF]
        have e := hk.1
        rw [hV, hl']
        simp only [sS, ↓sT, if_true, if_false, Nat.reduceLT, Nat.reduceEqDiff, V.keep, List.map_cons, List.map_nil, e]; rfl
  · have hV : lacksM a b = .tup [.nils, .int .i64 5] := by
      rw [lacksM, if_pos]
      cases h1 : rightB a <;> cases h2 : rightB b <;> simp_all
    by_cases ra : rightB a = true
    · have rb : rightB b = false := by
        cases h : rightB b
        · rfl
        · exact absurd ⟨ra, h⟩ hright
      rw [ra] at cA
      rw [rb] at cB
      refine WOps_callP cA (by simp only [ev_func]) (by simp only [evL, sS, ↓sT, if_true, if_false, Nat.reduceLT, Nat.reduceEqDiff]; rfl) (by simp only [List.map, vec_bare]) (by simp [vec_noP]) rfl rfl ?_
      simp only [sS, ↓sT, if_true, if_false, Nat.reduceLT, Nat.reduceEqDiff, ↓sO, ↓WOps_g, sG, opV, loudV, cellsOf, strOp, evL, Nat.reduceAdd, beq_self_eq_true, bne_self_eq_false, Int.reduceBEq, Int.reduceBNe, vec_cells, all_ints, ti25, ti23, ti3, List.getElem?_cons_zero, List.getElem?_cons_succ, List.drop_zero, vec_load la, vec_load lb]
      refine WOps_callP cB (by simp only [ev_func]) (by simp only [evL, sS, ↓sT, if_true, if_false, Nat.reduceLT, Nat.reduceEqDiff]; rfl) (by simp only [List.map, vec_bare]) (by simp [vec_noP]) rfl rfl ?_
      simp only [sS, ↓sT, if_true, if_false, Nat.reduceLT, Nat.reduceEqDiff, ↓sO, ↓WOps_g, sG, opV, loudV, cellsOf, strOp, evL, Nat.reduceAdd, beq_self_eq_true, bne_self_eq_false, Int.reduceBEq, Int.reduceBNe, vec_cells, all_ints, ti25, ti23, ti3, List.getElem?_cons_zero, List.getElem?_cons_succ, List.drop_zero, vec_load la, vec_load lb]
      refine hN3 _ ?_; try clear hN3 hD3 N3
      refine WC_condE ?_
      simp only [sS, ↓sT, if_true, if_false, Nat.reduceLT, Nat.reduceEqDiff, ↓stepC_bool]
      refine ⟨fun hb => ?_, fun hb => (by cases hb)⟩
      refine WC_seqR (fun N4 hN4 hD4 => ?_)
      simp only [sS, ↓sT, if_true, if_false, Nat.reduceLT, Nat.reduceEqDiff, ↓sO, ↓WOps_g, sG, opV, loudV, cellsOf, strOp, evL, Nat.reduceAdd, beq_self_eq_true, bne_self_eq_false, Int.reduceBEq, Int.reduceBNe, vec_cells, all_ints, ti25, ti23, ti3, List.getElem?_cons_zero, List.getElem?_cons_succ, List.drop_zero, vec_load la, vec_load lb]
      refine hN4 _ ?_; try clear hN4 hD4 N4
      refine WC_ret ?_; (try simp only [Exit.after, Exit.out]); refine Kend_ret (by simp only [resOf, resL, resV, mkS_get, slots_get, cellsOf, vec_cells, all_ints, ti25, ti23, ti3, List.getElem?_cons_zero, List.getElem?_cons_succ, List.drop_zero, vec_load la, vec_load lb, sS, ↓sT, if_true, if_false, Nat.reduceLT, Nat.reduceEqDiff]; rfl) (by first | rfl | (simp only [vec_cells, all_ints, ti25, ti23, ti3, List.getElem?_cons_zero, List.getElem?_cons_succ, List.drop_zero, vec_load la, vec_load lb]; done) | (simp only [vec_cells, all_ints, ti25, ti23, ti3, List.getElem?_cons_zero, List.getElem?_cons_succ, List.drop_zero, vec_load la, vec_load lb, okV, ok1, okC, okP, List.all_cons, List.all_nil, Bool.and_true]; done)) ?_
      rw [hV]; rfl
    · have ra : rightB a = false := by simpa using ra
      rw [ra] at cA
      refine WOps_callP cA (by simp only [ev_func]) (by simp only [evL, sS, ↓sT, if_true, if_false, Nat.reduceLT, Nat.reduceEqDiff]; rfl) (by simp only [List.map, vec_bare]) (by simp [vec_noP]) rfl rfl ?_
      simp only [sS, ↓sT, if_true, if_false, Nat.reduceLT, Nat.reduceEqDiff, ↓sO, ↓WOps_g, sG, opV, loudV, cellsOf, strOp, evL, Nat.reduceAdd, beq_self_eq_true, bne_self_eq_false, Int.reduceBEq, Int.reduceBNe, vec_cells, all_ints, ti25, ti23, ti3, List.getElem?_cons_zero, List.getElem?_cons_succ, List.drop_zero, vec_load la, vec_load lb]
      refine hN3 _ ?_; try clear hN3 hD3 N3
      refine WC_condE ?_
      simp only [sS, ↓sT, if_true, if_false, Nat.reduceLT, Nat.reduceEqDiff, ↓stepC_bool]
      refine ⟨fun hb => ?_, fun hb => (by cases hb)⟩
      refine WC_seqR (fun N4 hN4 hD4 => ?_)
      simp only [sS, ↓sT, if_true, if_false, Nat.reduceLT, Nat.reduceEqDiff, ↓sO, ↓WOps_g, sG, opV, loudV, cellsOf, strOp, evL, Nat.reduceAdd, beq_self_eq_true, bne_self_eq_false, Int.reduceBEq, Int.reduceBNe, vec_cells, all_ints, ti25, ti23, ti3, List.getElem?_cons_zero, List.getElem?_cons_succ, List.drop_zero, vec_load la, vec_load lb]
      refine hN4 _ ?_; try clear hN4 hD4 N4
      refine WC_ret ?_; (try simp only [Exit.after, Exit.out]); refine Kend_ret (by simp only [resOf, resL, resV, mkS_get, slots_get, cellsOf, vec_cells, all_ints, ti25, ti23, ti3, List.getElem?_cons_zero, List.getElem?_cons_succ, List.drop_zero, vec_load la, vec_load lb, sS, ↓sT, if_true, if_false, Nat.reduceLT, Nat.reduceEqDiff]; rfl) (by first | rfl | (simp only [vec_cells, all_ints, ti25, ti23, ti3, List.getElem?_cons_zero, List.getElem?_cons_succ, List.drop_zero, vec_load la, vec_load lb]; done) | (simp only [vec_cells, all_ints, ti25, ti23, ti3, List.getElem?_cons_zero, List.getElem?_cons_succ, List.drop_zero, vec_load la, vec_load lb, okV, ok1, okC, okP, List.all_cons, List.all_nil, Bool.and_true]; done)) ?_
      rw [hV]; rfl
end Go.PV
/- ref17.SameTags. -/
namespace Go.PV
open Go.Proofs
set_option linter.unusedVariables false
set_option linter.unusedSimpArgs false
set_option maxRecDepth 10000

theorem tagsV_TS (l : List (Int × Int)) : TS l (tagsV l) := by
  cases l with
  | nil => exact .inl ⟨rfl, rfl⟩
  | cons q l => exact .inr ⟨false, rfl⟩
theorem tagsM_TS (l : List (Int × Int)) : TS l (tagsM l) := by
  cases l with
  | nil => exact .inr ⟨true, rfl⟩
  | cons q l => exact .inr ⟨false, rfl⟩

theorem c_punnet_punnetref17_SameTags (l m : List (Int × Int)) (x y : V) (hx : TS l x) (hy : TS m y) (hL : l.length ≤ 4611686018427387904) : VC Try.prog 26 [x, y] [] (fun r _ => r = .bool (l == m)) := by
  refine VC_enter (nt := 26) (rs := [.tmp 4]) (ow := []) (m := 0) Try.func26 rfl (by rfl) rfl rfl (by simp) (by simp [ownOf, hx.toks, hy.toks]) rfl (fun n => ?_)
  simp only [zipT]
  refine WC_seqR (fun N1 hN1 hD1 => ?_)
  simp only [sS, ↓sT, if_true, if_false, Nat.reduceLT, Nat.reduceEqDiff, ↓sO, ↓WOps_g, sG, opV, loudV, cellsOf, strOp, evL, Nat.reduceAdd, beq_self_eq_true, bne_self_eq_false, Int.reduceBEq, Int.reduceBNe]
  refine hN1 _ ?_; try clear hN1 hD1 N1
  refine WC_seqN (fun N2 hN2 hD2 => ?_)
  refine WC_seqR (fun N3 hN3 hD3 => ?_)
  simp only [sS, ↓sT, if_true, if_false, Nat.reduceLT, Nat.reduceEqDiff, ↓sO, ↓WOps_g, sG, opV, loudV, cellsOf, strOp, evL, Nat.reduceAdd, beq_self_eq_true, bne_self_eq_false, Int.reduceBEq, Int.reduceBNe, hx.len, hy.len, ti25, ti3, ti38, tag_load, tag_neq]
  refine hN3 _ ?_; try clear hN3 hD3 N3
  refine WC_condE ?_
  simp only [sS, ↓sT, if_true, if_false, Nat.reduceLT, Nat.reduceEqDiff, ↓stepC_bool]
  refine ⟨fun hb => ?_, fun hb => ?_⟩
  · refine WC_seqR (fun N4 hN4 hD4 => ?_)
    simp only [sS, ↓sT, if_true, if_false, Nat.reduceLT, Nat.reduceEqDiff, ↓sO, ↓WOps_g, sG, opV, loudV, cellsOf, strOp, evL, Nat.reduceAdd, beq_self_eq_true, bne_self_eq_false, Int.reduceBEq, Int.reduceBNe]
    refine hN4 _ ?_; try clear hN4 hD4 N4
    refine WC_ret ?_; (try simp only [Exit.after, Exit.out]); refine Kend_ret (by simp only [resOf, resL, resV, mkS_get, slots_get, cellsOf, ti25, ti3, ti38, tag_load, tag_neq, sS, ↓sT, if_true, if_false, Nat.reduceLT, Nat.reduceEqDiff]; rfl) (by first | rfl | (simp only [ti25, ti3, ti38, tag_load, tag_neq]; done) | (simp only [ti25, ti3, ti38, tag_load, tag_neq, okV, ok1, okC, okP, List.all_cons, List.all_nil, Bool.and_true]; done)) ?_
    have : ¬ (l = m) := fun h => by subst h; simp at hb
    rw [beq_eq_false_iff_ne.2 this]; rfl
  · have hlm : l.length = m.length := by simp at hb; omega
    clear hb
    refine WC_skip ?_
    refine hN2 _ ?_; try clear hN2 hD2 N2
    refine WC_seqN (fun N5 hN5 hD5 => ?_)
    refine WC_seqR (fun N6 hN6 hD6 => ?_)
    simp only [sS, ↓sT, if_true, if_false, Nat.reduceLT, Nat.reduceEqDiff, ↓sO, ↓WOps_g, sG, opV, loudV, cellsOf, strOp, evL, Nat.reduceAdd, beq_self_eq_true, bne_self_eq_false, Int.reduceBEq, Int.reduceBNe]
    refine hN6 _ ?_; try clear hN6 hD6 N6
    refine WC_block ?_
    refine WC_loopG (σ := Nat) (fun t s => ∃ ps, s = ⟨mkS 26 ps, [], [], n⟩ ∧ Has ps [(5, .int .i64 t), (0, x), (1, y)] ∧ t ≤ l.length ∧ l.take t = m.take t) (fun t => l.length - t) 0 ?_ (fun t s hI => ?_)
    · exact ⟨_, rfl, ⟨rfl, rfl, rfl, trivial⟩, by omega, by simp⟩
    obtain ⟨ps, rfl, hps, hI, htk⟩ := hI
    refine WC_has hps ?_; clear hps ps
    refine WC_seqN (fun N7 hN7 hD7 => ?_)
    refine WC_seqR (fun N8 hN8 hD8 => ?_)
    simp only [sS, ↓sT, if_true, if_false, Nat.reduceLT, Nat.reduceEqDiff, ↓sO, ↓WOps_g, sG, opV, loudV, cellsOf, strOp, evL, Nat.reduceAdd, beq_self_eq_true, bne_self_eq_false, Int.reduceBEq, Int.reduceBNe, hx.len, ti25, ti3, ti38, tag_load, tag_neq]
    refine hN8 _ ?_; try clear hN8 hD8 N8
    refine WC_condE ?_
    simp only [sS, ↓sT, if_true, if_false, Nat.reduceLT, Nat.reduceEqDiff, ↓stepC_bool]
    refine ⟨fun hb => ?_, fun hb => ?_⟩
    · have ht : t < l.length := by have := of_decide_eq_true hb; omega
      clear hb
      obtain ⟨p, hp⟩ : ∃ p, l[t]? = some p := ⟨_, List.getElem?_eq_getElem ht⟩
      obtain ⟨q, hq⟩ : ∃ q, m[t]? = some q := ⟨_, List.getElem?_eq_getElem (by omega)⟩
      refine WC_skip ?_
      refine hN7 _ ?_; try clear hN7 hD7 N7
      refine WC_seqN (fun N9 hN9 hD9 => ?_)
      refine WC_block ?_
      refine WC_seqD mixed [] [0, 0, 0, 0, 0, 0, 0, 0, 0] (by decide +kernel) (fun N10 hN10 hD10 => ?_)
      simp only [sS, ↓sT, if_true, if_false, Nat.reduceLT, Nat.reduceEqDiff, ↓sD, ↓D_g, memOk, lets0, lets1, List.not_mem_nil, not_false_eq_true, true_and, and_true, sG, opV, loudV, cellsOf, strOp, evL, Nat.reduceAdd, beq_self_eq_true, bne_self_eq_false, Int.reduceBEq, Int.reduceBNe, hx.ia hp, hy.ia hq, ti25, ti3, ti38, tag_load, tag_neq]
      refine hN10 _ ?_; try clear hN10 hD10 N10
      refine WC_condE ?_
      simp only [sS, ↓sT, if_true, if_false, Nat.reduceLT, Nat.reduceEqDiff, ↓stepC_bool]
      refine ⟨fun hb => ?_, fun hb => ?_⟩
      · refine WC_seqR (fun N11 hN11 hD11 => ?_)
        simp only [sS, ↓sT, if_true, if_false, Nat.reduceLT, Nat.reduceEqDiff, ↓sO, ↓WOps_g, sG, opV, loudV, cellsOf, strOp, evL, Nat.reduceAdd, beq_self_eq_true, bne_self_eq_false, Int.reduceBEq, Int.reduceBNe]
        refine hN11 _ ?_; try clear hN11 hD11 N11
        refine WC_ret ?_; (try simp only [Exit.after, Exit.out]); refine Kend_ret (by simp only [resOf, resL, resV, mkS_get, slots_get, cellsOf, ti25, ti3, ti38, tag_load, tag_neq, sS, ↓sT, if_true, if_false, Nat.reduceLT, Nat.reduceEqDiff]; rfl) (by first | rfl | (simp only [ti25, ti3, ti38, tag_load, tag_neq]; done) | (simp only [ti25, ti3, ti38, tag_load, tag_neq, okV, ok1, okC, okP, List.all_cons, List.all_nil, Bool.and_true]; done)) ?_
        have : ¬ (l = m) := fun h => by
          subst h
          rw [hp] at hq
          obtain rfl := Option.some.inj hq
          simp at hb
        rw [beq_eq_false_iff_ne.2 this]; rfl
      · have hpq : p = q := by
          obtain ⟨p1, p2⟩ := p
          obtain ⟨q1, q2⟩ := q
          simpa using hb
        refine WC_skip ?_
        refine hN9 _ ?_; try clear hN9 hD9 N9
        refine WC_regN (fun N12 hN12 => ?_)
        simp only [sS, ↓sT, if_true, if_false, Nat.reduceLT, Nat.reduceEqDiff, ↓sO, ↓WOps_g, sG, opV, loudV, cellsOf, strOp, evL, Nat.reduceAdd, beq_self_eq_true, bne_self_eq_false, Int.reduceBEq, Int.reduceBNe, wrapI (x := (t : Int) + 1) (by omega) (by omega)]
        refine hN12 _ ?_; try clear hN12 N12
        refine ⟨t + 1, ⟨_, rfl, ⟨rfl, rfl, rfl, trivial⟩, ht, ?_⟩, (by omega)⟩
        rw [List.take_add_one, List.take_add_one, hp, hq, htk, hpq]
    · have ht : t = l.length := by have := of_decide_eq_false hb; omega
      refine WC_exit ?_
      refine hN5 _ ?_; try clear hN5 hD5 N5
      refine WC_seqR (fun N13 hN13 hD13 => ?_)
      simp only [sS, ↓sT, if_true, if_false, Nat.reduceLT, Nat.reduceEqDiff, ↓sO, ↓WOps_g, sG, opV, loudV, cellsOf, strOp, evL, Nat.reduceAdd, beq_self_eq_true, bne_self_eq_false, Int.reduceBEq, Int.reduceBNe]
      refine hN13 _ ?_; try clear hN13 hD13 N13
      refine WC_ret ?_; (try simp only [Exit.after, Exit.out]); refine Kend_ret (by simp only [resOf, resL, resV, mkS_get, slots_get, cellsOf, ti25, ti3, ti38, tag_load, tag_neq, sS, ↓sT, if_true, if_false, Nat.reduceLT, Nat.reduceEqDiff]; rfl) (by first | rfl | (simp only [ti25, ti3, ti38, tag_load, tag_neq]; done) | (simp only [ti25, ti3, ti38, tag_load, tag_neq, okV, ok1, okC, okP, List.all_cons, List.all_nil, Bool.and_true]; done)) ?_
      have : l = m := by
        rw [ht, List.take_length, hlm, List.take_length] at htk
        exact htk
      rw [beq_iff_eq.2 this]; rfl
end Go.PV
