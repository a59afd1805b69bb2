/- Ops: words; the orders of ints and tags. -/
import Derived.Test.YtpgfcfojojemjaaT31
import Derived.Test.YtpgfcfojojemjaaT32
namespace Go.PV
open Go.Proofs
set_option linter.unusedVariables false
set_option linter.unusedSimpArgs false
set_option maxRecDepth 10000

theorem c_cmp_isNaN_int_ (x : Int) : VC Try.prog 73 [.int .i64 x] [] (fun r _ => r = .bool false) := by
  refine VC_enter (nt := 6) (rs := [.tmp 2]) (ow := []) (m := 0) Try.func73 rfl (by rfl) rfl rfl (by simp) rfl rfl (fun n => ?_)
  simp only [zipT]
  refine WC_seqR (fun N1 hN1 hD1 => ?_)
  simp only [sS, ↓sT, if_true, if_false, Nat.reduceLT, Nat.reduceEqDiff, ↓sO, ↓WOps_g, sG, opV, loudV, cellsOf, strOp, evL, Nat.reduceAdd, beq_self_eq_true, bne_self_eq_false, Int.reduceBEq, Int.reduceBNe]
  refine hN1 _ ?_; try clear hN1 hD1 N1
  refine WC_seqR (fun N2 hN2 hD2 => ?_)
  simp only [sS, ↓sT, if_true, if_false, Nat.reduceLT, Nat.reduceEqDiff, ↓sO, ↓WOps_g, sG, opV, loudV, cellsOf, strOp, evL, Nat.reduceAdd, beq_self_eq_true, bne_self_eq_false, Int.reduceBEq, Int.reduceBNe]
  refine hN2 _ ?_; try clear hN2 hD2 N2
  refine WC_ret ?_; (try simp only [Exit.after, Exit.out]); refine Kend_ret (by simp only [resOf, resL, resV, mkS_get, slots_get, cellsOf, ti3, ti95, ti25, sS, ↓sT, if_true, if_false, Nat.reduceLT, Nat.reduceEqDiff]; rfl) (by first | rfl | (simp only [ti3, ti95, ti25]; done) | (simp only [ti3, ti95, ti25, okV, ok1, okC, okP, List.all_cons, List.all_nil, Bool.and_true]; done)) ?_
  rfl
def cmpI (x y : Int) : Int := if x < y then -1 else if y < x then 1 else 0
theorem c_cmp_Compare_int_ (x y : Int) : VC Try.prog 72 [.int .i64 x, .int .i64 y] [] (fun r _ => r = .int .i64 (cmpI x y)) := by
  refine VC_enter (nt := 20) (rs := [.tmp 4]) (ow := []) (m := 0) Try.func72 rfl (by rfl) rfl rfl (by simp) rfl rfl (fun n => ?_)
  simp only [zipT]
  refine WC_seqR (fun N1 hN1 hD1 => ?_)
  simp only [sS, ↓sT, if_true, if_false, Nat.reduceLT, Nat.reduceEqDiff, ↓sO, ↓WOps_g, sG, opV, loudV, cellsOf, strOp, evL, Nat.reduceAdd, beq_self_eq_true, bne_self_eq_false, Int.reduceBEq, Int.reduceBNe]
  refine hN1 _ ?_; try clear hN1 hD1 N1
  refine WC_seqR (fun N2 hN2 hD2 => ?_)
  simp only [sS, ↓sT, if_true, if_false, Nat.reduceLT, Nat.reduceEqDiff, ↓sO, ↓WOps_g, sG, opV, loudV, cellsOf, strOp, evL, Nat.reduceAdd, beq_self_eq_true, bne_self_eq_false, Int.reduceBEq, Int.reduceBNe]
  refine WOps_callP (c_cmp_isNaN_int_ x) (by simp only [ev_func]) (by simp only [evL, sS, ↓sT, if_true, if_false, Nat.reduceLT, Nat.reduceEqDiff]; rfl) rfl rfl rfl rfl ?_
  simp only [sS, ↓sT, if_true, if_false, Nat.reduceLT, Nat.reduceEqDiff, ↓sO, ↓WOps_g, sG, opV, loudV, cellsOf, strOp, evL, Nat.reduceAdd, beq_self_eq_true, bne_self_eq_false, Int.reduceBEq, Int.reduceBNe]
  refine hN2 _ ?_; try clear hN2 hD2 N2
  refine WC_seqR (fun N3 hN3 hD3 => ?_)
  simp only [sS, ↓sT, if_true, if_false, Nat.reduceLT, Nat.reduceEqDiff, ↓sO, ↓WOps_g, sG, opV, loudV, cellsOf, strOp, evL, Nat.reduceAdd, beq_self_eq_true, bne_self_eq_false, Int.reduceBEq, Int.reduceBNe]
  refine WOps_callP (c_cmp_isNaN_int_ y) (by simp only [ev_func]) (by simp only [evL, sS, ↓sT, if_true, if_false, Nat.reduceLT, Nat.reduceEqDiff]; rfl) rfl rfl rfl rfl ?_
  simp only [sS, ↓sT, if_true, if_false, Nat.reduceLT, Nat.reduceEqDiff, ↓sO, ↓WOps_g, sG, opV, loudV, cellsOf, strOp, evL, Nat.reduceAdd, beq_self_eq_true, bne_self_eq_false, Int.reduceBEq, Int.reduceBNe]
  refine hN3 _ ?_; try clear hN3 hD3 N3
  refine WC_seqN (fun N4 hN4 hD4 => ?_)
  refine WC_seqR (fun N5 hN5 hD5 => ?_)
  simp only [sS, ↓sT, if_true, if_false, Nat.reduceLT, Nat.reduceEqDiff, ↓sO, ↓WOps_g, sG, opV, loudV, cellsOf, strOp, evL, Nat.reduceAdd, beq_self_eq_true, bne_self_eq_false, Int.reduceBEq, Int.reduceBNe]
  refine hN5 _ ?_; try clear hN5 hD5 N5
  refine WC_condE ?_
  simp only [sS, ↓sT, if_true, if_false, Nat.reduceLT, Nat.reduceEqDiff, ↓stepC_bool]
  refine ⟨fun hb => (by cases hb), fun hb => ?_⟩
  refine WC_skip ?_
  refine hN4 _ ?_; try clear hN4 hD4 N4
  refine WC_seqN (fun N10 hN10 hD10 => ?_)
  refine WC_seqR (fun N11 hN11 hD11 => ?_)
  simp only [sS, ↓sT, if_true, if_false, Nat.reduceLT, Nat.reduceEqDiff, ↓sO, ↓WOps_g, sG, opV, loudV, cellsOf, strOp, evL, Nat.reduceAdd, beq_self_eq_true, bne_self_eq_false, Int.reduceBEq, Int.reduceBNe]
  refine hN11 _ ?_; try clear hN11 hD11 N11
  refine WC_condE ?_
  simp only [sS, ↓sT, if_true, if_false, Nat.reduceLT, Nat.reduceEqDiff, ↓stepC_bool]
  refine ⟨fun hb => (by cases hb), fun hb => ?_⟩
  refine WC_skip ?_
  refine hN10 _ ?_; try clear hN10 hD10 N10
  refine WC_seqN (fun N13 hN13 hD13 => ?_)
  refine WC_seqR (fun N14 hN14 hD14 => ?_)
  simp only [sS, ↓sT, if_true, if_false, Nat.reduceLT, Nat.reduceEqDiff, ↓sO, ↓WOps_g, sG, opV, loudV, cellsOf, strOp, evL, Nat.reduceAdd, beq_self_eq_true, bne_self_eq_false, Int.reduceBEq, Int.reduceBNe]
  by_cases h1 : x < y
  · simp only [sS, ↓sT, if_true, if_false, Nat.reduceLT, Nat.reduceEqDiff, ↓sO, ↓WOps_g, sG, opV, loudV, cellsOf, strOp, evL, Nat.reduceAdd, beq_self_eq_true, bne_self_eq_false, Int.reduceBEq, Int.reduceBNe, h1, decide_true]
    refine hN14 _ ?_; try clear hN14 hD14 N14
    refine WC_condE ?_
    simp only [sS, ↓sT, if_true, if_false, Nat.reduceLT, Nat.reduceEqDiff, ↓stepC_bool]
    refine ⟨fun hb => ?_, fun hb => (by cases hb)⟩
    refine WC_seqR (fun N15 hN15 hD15 => ?_)
    simp only [sS, ↓sT, if_true, if_false, Nat.reduceLT, Nat.reduceEqDiff, ↓sO, ↓WOps_g, sG, opV, loudV, cellsOf, strOp, evL, Nat.reduceAdd, beq_self_eq_true, bne_self_eq_false, Int.reduceBEq, Int.reduceBNe]
    refine hN15 _ ?_; try clear hN15 hD15 N15
    refine WC_ret ?_; (try simp only [Exit.after, Exit.out]); refine Kend_ret (by simp only [resOf, resL, resV, mkS_get, slots_get, cellsOf, ti3, ti95, ti25, sS, ↓sT, if_true, if_false, Nat.reduceLT, Nat.reduceEqDiff]; rfl) (by first | rfl | (simp only [ti3, ti95, ti25]; done) | (simp only [ti3, ti95, ti25, okV, ok1, okC, okP, List.all_cons, List.all_nil, Bool.and_true]; done)) ?_
    simp only [cmpI, if_pos h1]; rfl
  · simp only [sS, ↓sT, if_true, if_false, Nat.reduceLT, Nat.reduceEqDiff, ↓sO, ↓WOps_g, sG, opV, loudV, cellsOf, strOp, evL, Nat.reduceAdd, beq_self_eq_true, bne_self_eq_false, Int.reduceBEq, Int.reduceBNe, h1, decide_false]
    refine hN14 _ ?_; try clear hN14 hD14 N14
    refine WC_condE ?_
    simp only [sS, ↓sT, if_true, if_false, Nat.reduceLT, Nat.reduceEqDiff, ↓stepC_bool]
    refine ⟨fun hb => (by cases hb), fun hb => ?_⟩
    refine WC_skip ?_
    refine hN13 _ ?_; try clear hN13 hD13 N13
    refine WC_seqN (fun N16 hN16 hD16 => ?_)
    refine WC_seqR (fun N17 hN17 hD17 => ?_)
    simp only [sS, ↓sT, if_true, if_false, Nat.reduceLT, Nat.reduceEqDiff, ↓sO, ↓WOps_g, sG, opV, loudV, cellsOf, strOp, evL, Nat.reduceAdd, beq_self_eq_true, bne_self_eq_false, Int.reduceBEq, Int.reduceBNe]
    by_cases h2 : y < x
    · simp only [sS, ↓sT, if_true, if_false, Nat.reduceLT, Nat.reduceEqDiff, ↓sO, ↓WOps_g, sG, opV, loudV, cellsOf, strOp, evL, Nat.reduceAdd, beq_self_eq_true, bne_self_eq_false, Int.reduceBEq, Int.reduceBNe, gt_iff_lt, h2, decide_true]
      refine hN17 _ ?_; try clear hN17 hD17 N17
      refine WC_condE ?_
      simp only [sS, ↓sT, if_true, if_false, Nat.reduceLT, Nat.reduceEqDiff, ↓stepC_bool]
      refine ⟨fun hb => ?_, fun hb => (by cases hb)⟩
      refine WC_seqR (fun N18 hN18 hD18 => ?_)
      simp only [sS, ↓sT, if_true, if_false, Nat.reduceLT, Nat.reduceEqDiff, ↓sO, ↓WOps_g, sG, opV, loudV, cellsOf, strOp, evL, Nat.reduceAdd, beq_self_eq_true, bne_self_eq_false, Int.reduceBEq, Int.reduceBNe]
      refine hN18 _ ?_; try clear hN18 hD18 N18
      refine WC_ret ?_; (try simp only [Exit.after, Exit.out]); refine Kend_ret (by simp only [resOf, resL, resV, mkS_get, slots_get, cellsOf, ti3, ti95, ti25, sS, ↓sT, if_true, if_false, Nat.reduceLT, Nat.reduceEqDiff]; rfl) (by first | rfl | (simp only [ti3, ti95, ti25]; done) | (simp only [ti3, ti95, ti25, okV, ok1, okC, okP, List.all_cons, List.all_nil, Bool.and_true]; done)) ?_
      simp only [cmpI, if_neg h1, if_pos h2]; rfl
    · simp only [sS, ↓sT, if_true, if_false, Nat.reduceLT, Nat.reduceEqDiff, ↓sO, ↓WOps_g, sG, opV, loudV, cellsOf, strOp, evL, Nat.reduceAdd, beq_self_eq_true, bne_self_eq_false, Int.reduceBEq, Int.reduceBNe, gt_iff_lt, h2, decide_false]
      refine hN17 _ ?_; try clear hN17 hD17 N17
      refine WC_condE ?_
      simp only [sS, ↓sT, if_true, if_false, Nat.reduceLT, Nat.reduceEqDiff, ↓stepC_bool]
      refine ⟨fun hb => (by cases hb), fun hb => ?_⟩
      refine WC_skip ?_
      refine hN16 _ ?_; try clear hN16 hD16 N16
      refine WC_seqR (fun N19 hN19 hD19 => ?_)
      simp only [sS, ↓sT, if_true, if_false, Nat.reduceLT, Nat.reduceEqDiff, ↓sO, ↓WOps_g, sG, opV, loudV, cellsOf, strOp, evL, Nat.reduceAdd, beq_self_eq_true, bne_self_eq_false, Int.reduceBEq, Int.reduceBNe]
      refine hN19 _ ?_; try clear hN19 hD19 N19
      refine WC_ret ?_; (try simp only [Exit.after, Exit.out]); refine Kend_ret (by simp only [resOf, resL, resV, mkS_get, slots_get, cellsOf, ti3, ti95, ti25, sS, ↓sT, if_true, if_false, Nat.reduceLT, Nat.reduceEqDiff]; rfl) (by first | rfl | (simp only [ti3, ti95, ti25]; done) | (simp only [ti3, ti95, ti25, okV, ok1, okC, okP, List.all_cons, List.all_nil, Bool.and_true]; done)) ?_
      simp only [cmpI, if_neg h1, if_neg h2]; rfl
def orI : List Int → Int
  | [] => 0
  | x :: l => if x = 0 then orI l else x
theorem orI_zero : ∀ {l : List Int} {i : Nat}, (∀ k, k < i → l.getD k 0 = 0) → orI l = orI (l.drop i)
  | l, 0, _ => by simp
  | [], i + 1, _ => by simp
  | x :: l, i + 1, h => by
    have h0 := h 0 (by omega)
    simp only [List.getD_cons_zero] at h0
    rw [orI, if_pos h0, List.drop_succ_cons]
    exact orI_zero fun k hk => by have := h (k + 1) (by omega); simpa using this
theorem ints_ia (l : List Int) (ex : Bool) {i : Nat} {x : Int} (h : l[i]? = some x) : indexAddrV Try.prog 95 (.slice 1 (l.map (V.int .i64)) ex none) (.int .i64 i) = some (.rptr [.int .i64 x]) := by
  simp [indexAddrV, ti95, ti3, h, V.cells]
theorem c_cmp_Or_int_ (l : List Int) (ex : Bool) (hl : l.length ≤ 1000000) : VC Try.prog 71 [.slice 1 (l.map (V.int .i64)) ex none] [] (fun r _ => r = .int .i64 (orI l)) := by
  refine VC_enter (nt := 18) (rs := [.tmp 2]) (ow := []) (m := 0) Try.func71 rfl (by rfl) rfl rfl (by simp) rfl rfl (fun n => ?_)
  simp only [zipT]
  refine WC_seqR (fun N1 hN1 hD1 => ?_)
  simp only [sS, ↓sT, if_true, if_false, Nat.reduceLT, Nat.reduceEqDiff, ↓sO, ↓WOps_g, sG, opV, loudV, cellsOf, strOp, evL, Nat.reduceAdd, beq_self_eq_true, bne_self_eq_false, Int.reduceBEq, Int.reduceBNe]
  refine hN1 _ ?_; try clear hN1 hD1 N1
  refine WC_seqR (fun N2 hN2 hD2 => ?_)
  simp only [sS, ↓sT, if_true, if_false, Nat.reduceLT, Nat.reduceEqDiff, ↓sO, ↓WOps_g, sG, opV, loudV, cellsOf, strOp, evL, Nat.reduceAdd, beq_self_eq_true, bne_self_eq_false, Int.reduceBEq, Int.reduceBNe]
  refine hN2 _ ?_; try clear hN2 hD2 N2
  refine WC_seqN (fun N3 hN3 hD3 => ?_)
  refine WC_seqR (fun N4 hN4 hD4 => ?_)
  simp only [sS, ↓sT, if_true, if_false, Nat.reduceLT, Nat.reduceEqDiff, ↓sO, ↓WOps_g, sG, opV, loudV, cellsOf, strOp, evL, Nat.reduceAdd, beq_self_eq_true, bne_self_eq_false, Int.reduceBEq, Int.reduceBNe, lenV, ti3, ti95, ti25]
  refine hN4 _ ?_; try clear hN4 hD4 N4
  refine WC_block ?_
  refine WC_loopG (σ := Nat) (fun t s => ∃ ps, s = ⟨mkS 18 ps, [], [], n⟩ ∧ Has ps [(8, .int .i64 t), (7, .int .i64 l.length), (6, .slice 1 (l.map (V.int .i64)) ex none), (3, .int .i64 0)] ∧ t ≤ l.length ∧ ∀ k, k < t → l.getD k 0 = 0) (fun t => l.length - t) 0 ?_ (fun t s hI => ?_)
  · exact ⟨_, rfl, ⟨rfl, rfl, rfl, rfl, trivial⟩, by omega, fun k hk => by omega⟩
  obtain ⟨ps, rfl, hps, hle, hz⟩ := hI
  refine WC_has hps ?_; clear hps ps
  refine WC_seqR (fun N5 hN5 hD5 => ?_)
  simp only [sS, ↓sT, if_true, if_false, Nat.reduceLT, Nat.reduceEqDiff, ↓sO, ↓WOps_g, sG, opV, loudV, cellsOf, strOp, evL, Nat.reduceAdd, beq_self_eq_true, bne_self_eq_false, Int.reduceBEq, Int.reduceBNe]
  refine hN5 _ ?_; try clear hN5 hD5 N5
  refine WC_seqN (fun N6 hN6 hD6 => ?_)
  refine WC_condE ?_
  simp only [sS, ↓sT, if_true, if_false, Nat.reduceLT, Nat.reduceEqDiff, ↓stepC_bool]
  refine ⟨fun hb => ?_, fun hb => ?_⟩
  · have ht : t < l.length := by have := of_decide_eq_true hb; omega
    obtain ⟨x, hx⟩ : ∃ x, l[t]? = some x := ⟨_, List.getElem?_eq_getElem ht⟩
    refine WC_skip ?_
    refine hN6 _ ?_; try clear hN6 hD6 N6
    refine WC_seqN (fun N7 hN7 hD7 => ?_)
    refine WC_block ?_
    refine WC_seqR (fun N8 hN8 hD8 => ?_)
    simp only [sS, ↓sT, if_true, if_false, Nat.reduceLT, Nat.reduceEqDiff, ↓sO, ↓WOps_g, sG, opV, loudV, cellsOf, strOp, evL, Nat.reduceAdd, beq_self_eq_true, bne_self_eq_false, Int.reduceBEq, Int.reduceBNe, ints_ia l ex hx, ti3, ti95, ti25, loadV, TD.agg]
    refine hN8 _ ?_; try clear hN8 hD8 N8
    refine WC_seqR (fun N9 hN9 hD9 => ?_)
    simp only [sS, ↓sT, if_true, if_false, Nat.reduceLT, Nat.reduceEqDiff, ↓sO, ↓WOps_g, sG, opV, loudV, cellsOf, strOp, evL, Nat.reduceAdd, beq_self_eq_true, bne_self_eq_false, Int.reduceBEq, Int.reduceBNe]
    refine hN9 _ ?_; try clear hN9 hD9 N9
    refine WC_condE ?_
    simp only [sS, ↓sT, if_true, if_false, Nat.reduceLT, Nat.reduceEqDiff, ↓stepC_bool]
    refine ⟨fun hb => ?_, fun hb => ?_⟩
    · refine WC_seqR (fun N10 hN10 hD10 => ?_)
      simp only [sS, ↓sT, if_true, if_false, Nat.reduceLT, Nat.reduceEqDiff, ↓sO, ↓WOps_g, sG, opV, loudV, cellsOf, strOp, evL, Nat.reduceAdd, beq_self_eq_true, bne_self_eq_false, Int.reduceBEq, Int.reduceBNe]
      refine hN10 _ ?_; try clear hN10 hD10 N10
      refine WC_ret ?_; (try simp only [Exit.after, Exit.out]); refine Kend_ret (by simp only [resOf, resL, resV, mkS_get, slots_get, cellsOf, ti3, ti95, ti25, sS, ↓sT, if_true, if_false, Nat.reduceLT, Nat.reduceEqDiff]; rfl) (by first | rfl | (simp only [ti3, ti95, ti25]; done) | (simp only [ti3, ti95, ti25, okV, ok1, okC, okP, List.all_cons, List.all_nil, Bool.and_true]; done)) ?_
      have hx0 : x ≠ 0 := by simpa using hb
      obtain ⟨h1, h2⟩ := List.getElem?_eq_some_iff.1 hx
      rw [orI_zero hz, List.drop_eq_getElem_cons h1, h2, orI, if_neg hx0]; rfl
    · have hx0 : x = 0 := by simpa using hb
      refine WC_skip ?_
      refine hN7 _ ?_; try clear hN7 hD7 N7
      refine WC_regN (fun N11 hN11 => ?_)
      simp only [sS, ↓sT, if_true, if_false, Nat.reduceLT, Nat.reduceEqDiff, ↓sO, ↓WOps_g, sG, opV, loudV, cellsOf, strOp, evL, Nat.reduceAdd, beq_self_eq_true, bne_self_eq_false, Int.reduceBEq, Int.reduceBNe, wrapI (x := (t : Int) + 1) (by omega) (by omega)]
      refine hN11 _ ?_; try clear hN11 N11
      refine ⟨t + 1, ⟨_, rfl, ⟨rfl, rfl, rfl, rfl, trivial⟩, ht, fun k hk => ?_⟩, by omega⟩
      rcases Nat.lt_or_ge k t with h | h
      · exact hz k h
      · obtain rfl : k = t := by omega
        simp [List.getD, hx, hx0]
  · have ht : t = l.length := by have := of_decide_eq_false hb; omega
    refine WC_exit ?_
    refine hN3 _ ?_; try clear hN3 hD3 N3
    refine WC_seqR (fun N12 hN12 hD12 => ?_)
    simp only [sS, ↓sT, if_true, if_false, Nat.reduceLT, Nat.reduceEqDiff, ↓sO, ↓WOps_g, sG, opV, loudV, cellsOf, strOp, evL, Nat.reduceAdd, beq_self_eq_true, bne_self_eq_false, Int.reduceBEq, Int.reduceBNe]
    refine hN12 _ ?_; try clear hN12 hD12 N12
    refine WC_ret ?_; (try simp only [Exit.after, Exit.out]); refine Kend_ret (by simp only [resOf, resL, resV, mkS_get, slots_get, cellsOf, ti3, ti95, ti25, sS, ↓sT, if_true, if_false, Nat.reduceLT, Nat.reduceEqDiff]; rfl) (by first | rfl | (simp only [ti3, ti95, ti25]; done) | (simp only [ti3, ti95, ti25, okV, ok1, okC, okP, List.all_cons, List.all_nil, Bool.and_true]; done)) ?_
    rw [orI_zero hz, ht, List.drop_length]; rfl

/-- one tag ahead of the other -/
def lessB (r n r' n' : Int) : Bool := decide (r < r') || (decide (r = r') && decide (n < n'))
theorem or_less (r n r' n' : Int) : decide (orI [cmpI r r', cmpI n n'] < 0) = lessB r n r' n' := by
  simp only [orI, cmpI, lessB]
  repeat' split
  all_goals simp_all
  all_goals omega
theorem c_punnet_tree_order (r t r' t' : Int) : VC Try.prog 70 [tagV r t, tagV r' t'] [] (fun q _ => q = .int .i64 (orI [cmpI r r', cmpI t t'])) := by
  refine VC_enter (nt := 17) (rs := [.tmp 4]) (ow := []) (m := 0) Try.func70 rfl (by rfl) rfl rfl (by simp) (by simp [ownOf, tag_toks]) rfl (fun n => ?_)
  simp only [zipT]
  refine WC_seqR (fun N1 hN1 hD1 => ?_)
  simp only [sS, ↓sT, if_true, if_false, Nat.reduceLT, Nat.reduceEqDiff, ↓sO, ↓WOps_g, sG, opV, loudV, cellsOf, strOp, evL, Nat.reduceAdd, beq_self_eq_true, bne_self_eq_false, Int.reduceBEq, Int.reduceBNe, ti3, ti95, ti25, tag_cells, tag_isC, tag_full]
  refine hN1 _ ?_; try clear hN1 hD1 N1
  refine WC_seqD mixed [] [0, 0, 0, 0, 1, 0, 0, 0, 0, 0, 0, 0, 0] (by decide +kernel) (fun N2 hN2 hD2 => ?_)
  simp only [sS, ↓sT, if_true, if_false, Nat.reduceLT, Nat.reduceEqDiff, ↓sD, ↓D_g, memOk, lets0, lets1, List.not_mem_nil, not_false_eq_true, true_and, and_true, sG, opV, loudV, cellsOf, strOp, evL, Nat.reduceAdd, beq_self_eq_true, bne_self_eq_false, Int.reduceBEq, Int.reduceBNe, fa25_0, fr25_0, fv25_0, ti3, ti95, ti25, fa25_1, fr25_1, fv25_1, loadV, TD.agg]
  refine D_callP (c_cmp_Compare_int_ _ _) (by simp only [ev_func]) (by simp only [evL, sS, ↓sT, if_true, if_false, Nat.reduceLT, Nat.reduceEqDiff]; rfl) rfl rfl rfl rfl ?_
  simp only [sS, ↓sT, if_true, if_false, Nat.reduceLT, Nat.reduceEqDiff, ↓sD, ↓D_g, memOk, lets0, lets1, List.not_mem_nil, not_false_eq_true, true_and, and_true, sG, opV, loudV, cellsOf, strOp, evL, Nat.reduceAdd, beq_self_eq_true, bne_self_eq_false, Int.reduceBEq, Int.reduceBNe, fa25_0, fr25_0, fv25_0, ti3, ti95, ti25, fa25_1, fr25_1, fv25_1, loadV, TD.agg]
  refine D_callP (c_cmp_Compare_int_ _ _) (by simp only [ev_func]) (by simp only [evL, sS, ↓sT, if_true, if_false, Nat.reduceLT, Nat.reduceEqDiff]; rfl) rfl rfl rfl rfl ?_
  simp only [sS, ↓sT, if_true, if_false, Nat.reduceLT, Nat.reduceEqDiff, ↓sD, ↓D_g, memOk, lets0, lets1, List.not_mem_nil, not_false_eq_true, true_and, and_true, sG, opV, loudV, cellsOf, strOp, evL, Nat.reduceAdd, beq_self_eq_true, bne_self_eq_false, Int.reduceBEq, Int.reduceBNe, fa25_0, fr25_0, fv25_0, ti3, ti95, ti25, fa25_1, fr25_1, fv25_1, loadV, TD.agg, buildSliceV, range_two]
  refine D_callP (c_cmp_Or_int_ [cmpI r r', cmpI t t'] true (by simp)) (by simp only [ev_func]) (by simp only [evL, sS, ↓sT, if_true, if_false, Nat.reduceLT, Nat.reduceEqDiff]; rfl) rfl rfl rfl rfl ?_
  simp only [sS, ↓sT, if_true, if_false, Nat.reduceLT, Nat.reduceEqDiff, ↓sD, ↓D_g, memOk, lets0, lets1, List.not_mem_nil, not_false_eq_true, true_and, and_true, sG, opV, loudV, cellsOf, strOp, evL, Nat.reduceAdd, beq_self_eq_true, bne_self_eq_false, Int.reduceBEq, Int.reduceBNe]
  refine hN2 _ ?_; try clear hN2 hD2 N2
  refine WC_ret ?_; (try simp only [Exit.after, Exit.out]); refine Kend_ret (by simp only [resOf, resL, resV, mkS_get, slots_get, cellsOf, ti3, ti95, ti25, sS, ↓sT, if_true, if_false, Nat.reduceLT, Nat.reduceEqDiff]; rfl) (by first | rfl | (simp only [ti3, ti95, ti25]; done) | (simp only [ti3, ti95, ti25, okV, ok1, okC, okP, List.all_cons, List.all_nil, Bool.and_true]; done)) ?_
  rfl
theorem c_punnet_tree_Less (r t r' t' : Int) : VC Try.prog 64 [tagV r t, tagV r' t'] [] (fun q _ => q = .bool (lessB r t r' t')) := by
  refine VC_enter (nt := 9) (rs := [.tmp 4]) (ow := []) (m := 0) Try.func64 rfl (by rfl) rfl rfl (by simp) (by simp [ownOf, tag_toks]) rfl (fun n => ?_)
  simp only [zipT]
  refine WC_seqR (fun N1 hN1 hD1 => ?_)
  simp only [sS, ↓sT, if_true, if_false, Nat.reduceLT, Nat.reduceEqDiff, ↓sO, ↓WOps_g, sG, opV, loudV, cellsOf, strOp, evL, Nat.reduceAdd, beq_self_eq_true, bne_self_eq_false, Int.reduceBEq, Int.reduceBNe, ti3, ti95, ti25, tag_cells, tag_isC, tag_full]
  refine hN1 _ ?_; try clear hN1 hD1 N1
  refine WC_seqR (fun N2 hN2 hD2 => ?_)
  simp only [sS, ↓sT, if_true, if_false, Nat.reduceLT, Nat.reduceEqDiff, ↓sO, ↓WOps_g, sG, opV, loudV, cellsOf, strOp, evL, Nat.reduceAdd, beq_self_eq_true, bne_self_eq_false, Int.reduceBEq, Int.reduceBNe, ti3, ti95, ti25, tag_load]
  refine WOps_callP (c_punnet_tree_order r t r' t') (by simp only [ev_func]) (by simp only [evL, sS, ↓sT, if_true, if_false, Nat.reduceLT, Nat.reduceEqDiff]; rfl) (by simp only [List.map, tag_bare]) (by simp [tag_noP]) rfl rfl ?_
  simp only [sS, ↓sT, if_true, if_false, Nat.reduceLT, Nat.reduceEqDiff, ↓sO, ↓WOps_g, sG, opV, loudV, cellsOf, strOp, evL, Nat.reduceAdd, beq_self_eq_true, bne_self_eq_false, Int.reduceBEq, Int.reduceBNe, or_less]
  refine hN2 _ ?_; try clear hN2 hD2 N2
  refine WC_ret ?_; (try simp only [Exit.after, Exit.out]); refine Kend_ret (by simp only [resOf, resL, resV, mkS_get, slots_get, cellsOf, ti3, ti95, ti25, sS, ↓sT, if_true, if_false, Nat.reduceLT, Nat.reduceEqDiff]; rfl) (by first | rfl | (simp only [ti3, ti95, ti25]; done) | (simp only [ti3, ti95, ti25, okV, ok1, okC, okP, List.all_cons, List.all_nil, Bool.and_true]; done)) ?_
  rfl
theorem c_punnet_punnetref17_Less (r t r' t' : Int) : VC Try.prog 55 [tagV r t, tagV r' t'] [] (fun q _ => q = .bool (lessB r t r' t')) := by
  refine VC_enter (nt := 24) (rs := [.tmp 4]) (ow := []) (m := 0) Try.func55 rfl (by rfl) rfl rfl (by simp) (by simp [ownOf, tag_toks]) rfl (fun n => ?_)
  simp only [zipT]
  refine WC_seqR (fun N1 hN1 hD1 => ?_)
  simp only [sS, ↓sT, if_true, if_false, Nat.reduceLT, Nat.reduceEqDiff, ↓sO, ↓WOps_g, sG, opV, loudV, cellsOf, strOp, evL, Nat.reduceAdd, beq_self_eq_true, bne_self_eq_false, Int.reduceBEq, Int.reduceBNe, ti3, ti95, ti25, tag_cells, tag_isC, tag_full]
  refine hN1 _ ?_; try clear hN1 hD1 N1
  refine WC_seqR (fun N2 hN2 hD2 => ?_)
  simp only [sS, ↓sT, if_true, if_false, Nat.reduceLT, Nat.reduceEqDiff, ↓sO, ↓WOps_g, sG, opV, loudV, cellsOf, strOp, evL, Nat.reduceAdd, beq_self_eq_true, bne_self_eq_false, Int.reduceBEq, Int.reduceBNe, fa25_0, fr25_0, fv25_0, ti3, ti95, ti25, fa25_1, fr25_1, fv25_1, loadV, TD.agg]
  refine stepB_F (fun hg5 => ?_) (fun hg5 => ?_)
  all_goals simp only [sS, ↓sT, if_true, if_false, Nat.reduceLT, Nat.reduceEqDiff, ↓sO, ↓WOps_g, sG, opV, loudV, cellsOf, strOp, evL, Nat.reduceAdd, beq_self_eq_true, bne_self_eq_false, Int.reduceBEq, Int.reduceBNe, fa25_0, fr25_0, fv25_0, ti3, ti95, ti25, fa25_1, fr25_1, fv25_1, loadV, TD.agg, hg5, decide_true, decide_false]
  · refine stepB_T (fun hg11 => ?_) (fun hg11 => ?_)
    all_goals simp only [sS, ↓sT, if_true, if_false, Nat.reduceLT, Nat.reduceEqDiff, ↓sO, ↓WOps_g, sG, opV, loudV, cellsOf, strOp, evL, Nat.reduceAdd, beq_self_eq_true, bne_self_eq_false, Int.reduceBEq, Int.reduceBNe, fa25_0, fr25_0, fv25_0, ti3, ti95, ti25, fa25_1, fr25_1, fv25_1, loadV, TD.agg, hg5, hg11, decide_true, decide_false]
    all_goals refine hN2 _ ?_; try clear hN2 hD2 N2
    · refine WC_ret ?_; (try simp only [Exit.after, Exit.out]); refine Kend_ret (by simp only [resOf, resL, resV, mkS_get, slots_get, cellsOf, ti3, ti95, ti25, sS, ↓sT, if_true, if_false, Nat.reduceLT, Nat.reduceEqDiff]; rfl) (by first | rfl | (simp only [ti3, ti95, ti25]; done) | (simp only [ti3, ti95, ti25, okV, ok1, okC, okP, List.all_cons, List.all_nil, Bool.and_true]; done)) ?_
      simp_all [lessB, keep_bool]
    · refine WC_ret ?_; (try simp only [Exit.after, Exit.out]); refine Kend_ret (by simp only [resOf, resL, resV, mkS_get, slots_get, cellsOf, ti3, ti95, ti25, sS, ↓sT, if_true, if_false, Nat.reduceLT, Nat.reduceEqDiff]; rfl) (by first | rfl | (simp only [ti3, ti95, ti25]; done) | (simp only [ti3, ti95, ti25, okV, ok1, okC, okP, List.all_cons, List.all_nil, Bool.and_true]; done)) ?_
      simp_all [lessB, keep_bool]
  · refine hN2 _ ?_; try clear hN2 hD2 N2
    refine WC_ret ?_; (try simp only [Exit.after, Exit.out]); refine Kend_ret (by simp only [resOf, resL, resV, mkS_get, slots_get, cellsOf, ti3, ti95, ti25, sS, ↓sT, if_true, if_false, Nat.reduceLT, Nat.reduceEqDiff]; rfl) (by first | rfl | (simp only [ti3, ti95, ti25]; done) | (simp only [ti3, ti95, ti25, okV, ok1, okC, okP, List.all_cons, List.all_nil, Bool.and_true]; done)) ?_
    simp_all [lessB, keep_bool]
end Go.PV
/- Ops: words; which one is heavy. -/
namespace Go.PV
open Go.Proofs
set_option linter.unusedVariables false
set_option linter.unusedSimpArgs false
set_option maxRecDepth 10000

/-- drops: the tags, and the slice that has them -/
structure Dr where
  l : List (Int × Int)
  v : V
  ok : TS l v
def Dr.nil : Dr := ⟨[], .nils, .inl ⟨rfl, rfl⟩⟩
structure OpS where
  idR : Int
  idN : Int
  scR : Int
  scN : Int
  time : Int
  cart : List UInt8
  kind : Int
  item : List UInt8
  atS : Int
  atG : List UInt8
  atN : List UInt8
  delta : Int
  has : Bool
  text : List UInt8
  drops : Dr
def dropsW (d : Dr) : V := d.v
def OpS.dropsL (o : OpS) : List (Int × Int) := o.drops.l
def opCells (o : OpS) : List V := [.int .i64 o.idR, .int .i64 o.idN, .int .i64 o.scR, .int .i64 o.scN, .int .i64 o.time, .str o.cart, .int .i64 o.kind, .str o.item, .int .i64 o.atS, .str o.atG, .str o.atN, .int .i64 o.delta, .bool o.has, .str o.text, dropsW o.drops]
def opW (o : OpS) : V := .agg (opCells o)
theorem op_cells (o : OpS) : (opW o).cells = opCells o := rfl
theorem dropsW_TS (d : Dr) : TS d.l (dropsW d) := d.ok
theorem dropsW_isC (d : Dr) : (dropsW d).isCell = true := by
  obtain ⟨l, v, h⟩ := d
  rcases h with ⟨_, rfl⟩ | ⟨ex, rfl⟩ <;> rfl
theorem dropsW_bareC (d : Dr) : (dropsW d).bareC = dropsW d := by
  obtain ⟨l, v, h⟩ := d
  rcases h with ⟨_, rfl⟩ | ⟨ex, rfl⟩ <;> rfl
theorem dropsW_noP0 (d : Dr) : (dropsW d).noP0 = true := by
  obtain ⟨l, v, h⟩ := d
  rcases h with ⟨_, rfl⟩ | ⟨ex, rfl⟩ <;> rfl
theorem dropsW_tokC (d : Dr) : (dropsW d).tokC = [] := by
  obtain ⟨l, v, h⟩ := d
  rcases h with ⟨_, rfl⟩ | ⟨ex, rfl⟩ <;> rfl
theorem op_isC (o : OpS) : (opCells o).all V.isCell = true := by
  simp only [opCells, List.all_cons, List.all_nil, dropsW_isC]; rfl
theorem op_len (o : OpS) : (opCells o).length = 15 := rfl
theorem op_bare (o : OpS) : (opW o).bare = opW o := by
  simp only [opW, opCells, V.bare, V.bare1, List.map_cons, List.map_nil, dropsW_bareC]; rfl
theorem op_noP (o : OpS) : (opW o).noP = true := by
  simp only [opW, opCells, V.noP, V.noP1, List.all_cons, List.all_nil, dropsW_noP0]; rfl
theorem op_toks (o : OpS) : (opW o).toks = [] := by
  simp only [opW, opCells, V.toks, V.cells, List.flatMap_cons, List.flatMap_nil, dropsW_tokC]; rfl
theorem op_full (o : OpS) {z : List V} (h : z.length = 15) : wrL z 0 (opCells o) = opCells o := wrL_full (by rw [h]; rfl)
structure OpOk (o : OpS) : Prop where
  cart : o.cart.length ≤ 9223372036854775807
  item : o.item.length ≤ 9223372036854775807
  atG : o.atG.length ≤ 9223372036854775807
  atN : o.atN.length ≤ 9223372036854775807
  text : o.text.length ≤ 9223372036854775807
  drops : o.dropsL.length ≤ 9223372036854775807
def heavyB (o : OpS) : Bool := decide (200 < (o.cart.length : Int)) || decide (200 < (o.item.length : Int)) || decide (200 < (o.atG.length : Int)) || decide (200 < (o.atN.length : Int)) || decide (200 < (o.text.length : Int)) || decide (200 < (o.dropsL.length : Int))
theorem op_load {l : List (Nat × TypeId)} {b : Nat} {z : Option (List V)} (o : OpS) : loadV ⟨.struct l, 15, b, z⟩ (opCells o) = some (opW o) := rfl

theorem len_str (s : List UInt8) : lenV Try.prog 9 (.str s) = some (.int .i64 s.length) := by simp [lenV, ti9]
theorem c_punnet_punnetref20_Heavy (o : OpS) : VC Try.prog 47 [opW o] [] (fun r _ => r = .bool (heavyB o)) := by
  refine VC_enter (nt := 39) (rs := [.tmp 2]) (ow := []) (m := 0) Try.func47 rfl (by rfl) rfl rfl (by simp) (by simp [ownOf, op_toks]) rfl (fun n => ?_)
  simp only [zipT]
  have hd := (dropsW_TS o.drops).len
  refine WC_seqR (fun N1 hN1 hD1 => ?_)
  simp only [sS, ↓sT, if_true, if_false, Nat.reduceLT, Nat.reduceEqDiff, ↓sO, ↓WOps_g, sG, opV, loudV, cellsOf, strOp, evL, Nat.reduceAdd, beq_self_eq_true, bne_self_eq_false, Int.reduceBEq, Int.reduceBNe, ti3, ti2, ti4, ti9, ti38, ti25, ti47, ti49, op_cells, op_isC, op_full, op_load]
  refine hN1 _ ?_; try clear hN1 hD1 N1
  refine WC_seqR (fun N2 hN2 hD2 => ?_)
  by_cases h1 : (o.cart.length : Int) > 200
  · simp only [sS, ↓sT, if_true, if_false, Nat.reduceLT, Nat.reduceEqDiff, ↓sO, ↓WOps_g, sG, opV, loudV, cellsOf, strOp, evL, Nat.reduceAdd, beq_self_eq_true, bne_self_eq_false, Int.reduceBEq, Int.reduceBNe, ti3, ti2, ti4, ti9, ti38, ti25, ti47, ti49, op_cells, op_isC, op_full, op_load, fa49_3, fr49_3, fv49_3, len_str, loadV, TD.agg, opCells, fa49_5, fr49_5, fv49_5, fa49_6, fr49_6, fv49_6, fa47_1, fr47_1, fv47_1, fa47_2, fr47_2, fv47_2, fa49_9, fr49_9, fv49_9, fa49_10, fr49_10, fv49_10, hd, h1, decide_true, decide_false]
    refine hN2 _ ?_; try clear hN2 hD2 N2
    refine WC_ret ?_; (try simp only [Exit.after, Exit.out]); refine Kend_ret (by simp only [resOf, resL, resV, mkS_get, slots_get, cellsOf, ti3, ti2, ti4, ti9, ti38, ti25, ti47, ti49, op_cells, op_isC, op_full, op_load, sS, ↓sT, if_true, if_false, Nat.reduceLT, Nat.reduceEqDiff]; rfl) (by first | rfl | (simp only [ti3, ti2, ti4, ti9, ti38, ti25, ti47, ti49, op_cells, op_isC, op_full, op_load]; done) | (simp only [ti3, ti2, ti4, ti9, ti38, ti25, ti47, ti49, op_cells, op_isC, op_full, op_load, okV, ok1, okC, okP, List.all_cons, List.all_nil, Bool.and_true]; done)) ?_
    rw [keep_bool, heavyB]; congr 1; symm; simp only [Bool.or_eq_true, decide_eq_true_eq]; omega
  by_cases h2 : (o.item.length : Int) > 200
  · simp only [sS, ↓sT, if_true, if_false, Nat.reduceLT, Nat.reduceEqDiff, ↓sO, ↓WOps_g, sG, opV, loudV, cellsOf, strOp, evL, Nat.reduceAdd, beq_self_eq_true, bne_self_eq_false, Int.reduceBEq, Int.reduceBNe, ti3, ti2, ti4, ti9, ti38, ti25, ti47, ti49, op_cells, op_isC, op_full, op_load, fa49_3, fr49_3, fv49_3, len_str, loadV, TD.agg, opCells, fa49_5, fr49_5, fv49_5, fa49_6, fr49_6, fv49_6, fa47_1, fr47_1, fv47_1, fa47_2, fr47_2, fv47_2, fa49_9, fr49_9, fv49_9, fa49_10, fr49_10, fv49_10, hd, h1, h2, decide_true, decide_false]
    refine hN2 _ ?_; try clear hN2 hD2 N2
    refine WC_ret ?_; (try simp only [Exit.after, Exit.out]); refine Kend_ret (by simp only [resOf, resL, resV, mkS_get, slots_get, cellsOf, ti3, ti2, ti4, ti9, ti38, ti25, ti47, ti49, op_cells, op_isC, op_full, op_load, sS, ↓sT, if_true, if_false, Nat.reduceLT, Nat.reduceEqDiff]; rfl) (by first | rfl | (simp only [ti3, ti2, ti4, ti9, ti38, ti25, ti47, ti49, op_cells, op_isC, op_full, op_load]; done) | (simp only [ti3, ti2, ti4, ti9, ti38, ti25, ti47, ti49, op_cells, op_isC, op_full, op_load, okV, ok1, okC, okP, List.all_cons, List.all_nil, Bool.and_true]; done)) ?_
    rw [keep_bool, heavyB]; congr 1; symm; simp only [Bool.or_eq_true, decide_eq_true_eq]; omega
  by_cases h3 : (o.atG.length : Int) > 200
  · simp only [sS, ↓sT, if_true, if_false, Nat.reduceLT, Nat.reduceEqDiff, ↓sO, ↓WOps_g, sG, opV, loudV, cellsOf, strOp, evL, Nat.reduceAdd, beq_self_eq_true, bne_self_eq_false, Int.reduceBEq, Int.reduceBNe, ti3, ti2, ti4, ti9, ti38, ti25, ti47, ti49, op_cells, op_isC, op_full, op_load, fa49_3, fr49_3, fv49_3, len_str, loadV, TD.agg, opCells, fa49_5, fr49_5, fv49_5, fa49_6, fr49_6, fv49_6, fa47_1, fr47_1, fv47_1, fa47_2, fr47_2, fv47_2, fa49_9, fr49_9, fv49_9, fa49_10, fr49_10, fv49_10, hd, h1, h2, h3, decide_true, decide_false]
    refine hN2 _ ?_; try clear hN2 hD2 N2
    refine WC_ret ?_; (try simp only [Exit.after, Exit.out]); refine Kend_ret (by simp only [resOf, resL, resV, mkS_get, slots_get, cellsOf, ti3, ti2, ti4, ti9, ti38, ti25, ti47, ti49, op_cells, op_isC, op_full, op_load, sS, ↓sT, if_true, if_false, Nat.reduceLT, Nat.reduceEqDiff]; rfl) (by first | rfl | (simp only [ti3, ti2, ti4, ti9, ti38, ti25, ti47, ti49, op_cells, op_isC, op_full, op_load]; done) | (simp only [ti3, ti2, ti4, ti9, ti38, ti25, ti47, ti49, op_cells, op_isC, op_full, op_load, okV, ok1, okC, okP, List.all_cons, List.all_nil, Bool.and_true]; done)) ?_
    rw [keep_bool, heavyB]; congr 1; symm; simp only [Bool.or_eq_true, decide_eq_true_eq]; omega
  by_cases h4 : (o.atN.length : Int) > 200
  · simp only [sS, ↓sT, if_true, if_false, Nat.reduceLT, Nat.reduceEqDiff, ↓sO, ↓WOps_g, sG, opV, loudV, cellsOf, strOp, evL, Nat.reduceAdd, beq_self_eq_true, bne_self_eq_false, Int.reduceBEq, Int.reduceBNe, ti3, ti2, ti4, ti9, ti38, ti25, ti47, ti49, op_cells, op_isC, op_full, op_load, fa49_3, fr49_3, fv49_3, len_str, loadV, TD.agg, opCells, fa49_5, fr49_5, fv49_5, fa49_6, fr49_6, fv49_6, fa47_1, fr47_1, fv47_1, fa47_2, fr47_2, fv47_2, fa49_9, fr49_9, fv49_9, fa49_10, fr49_10, fv49_10, hd, h1, h2, h3, h4, decide_true, decide_false]
    refine hN2 _ ?_; try clear hN2 hD2 N2
    refine WC_ret ?_; (try simp only [Exit.after, Exit.out]); refine Kend_ret (by simp only [resOf, resL, resV, mkS_get, slots_get, cellsOf, ti3, ti2, ti4, ti9, ti38, ti25, ti47, ti49, op_cells, op_isC, op_full, op_load, sS, ↓sT, if_true, if_false, Nat.reduceLT, Nat.reduceEqDiff]; rfl) (by first | rfl | (simp only [ti3, ti2, ti4, ti9, ti38, ti25, ti47, ti49, op_cells, op_isC, op_full, op_load]; done) | (simp only [ti3, ti2, ti4, ti9, ti38, ti25, ti47, ti49, op_cells, op_isC, op_full, op_load, okV, ok1, okC, okP, List.all_cons, List.all_nil, Bool.and_true]; done)) ?_
    rw [keep_bool, heavyB]; congr 1; symm; simp only [Bool.or_eq_true, decide_eq_true_eq]; omega
  by_cases h5 : (o.text.length : Int) > 200
  · simp only [sS, ↓sT, if_true, if_false, Nat.reduceLT, Nat.reduceEqDiff, ↓sO, ↓WOps_g, sG, opV, loudV, cellsOf, strOp, evL, Nat.reduceAdd, beq_self_eq_true, bne_self_eq_false, Int.reduceBEq, Int.reduceBNe, ti3, ti2, ti4, ti9, ti38, ti25, ti47, ti49, op_cells, op_isC, op_full, op_load, fa49_3, fr49_3, fv49_3, len_str, loadV, TD.agg, opCells, fa49_5, fr49_5, fv49_5, fa49_6, fr49_6, fv49_6, fa47_1, fr47_1, fv47_1, fa47_2, fr47_2, fv47_2, fa49_9, fr49_9, fv49_9, fa49_10, fr49_10, fv49_10, hd, h1, h2, h3, h4, h5, decide_true, decide_false]
    refine hN2 _ ?_; try clear hN2 hD2 N2
    refine WC_ret ?_; (try simp only [Exit.after, Exit.out]); refine Kend_ret (by simp only [resOf, resL, resV, mkS_get, slots_get, cellsOf, ti3, ti2, ti4, ti9, ti38, ti25, ti47, ti49, op_cells, op_isC, op_full, op_load, sS, ↓sT, if_true, if_false, Nat.reduceLT, Nat.reduceEqDiff]; rfl) (by first | rfl | (simp only [ti3, ti2, ti4, ti9, ti38, ti25, ti47, ti49, op_cells, op_isC, op_full, op_load]; done) | (simp only [ti3, ti2, ti4, ti9, ti38, ti25, ti47, ti49, op_cells, op_isC, op_full, op_load, okV, ok1, okC, okP, List.all_cons, List.all_nil, Bool.and_true]; done)) ?_
    rw [keep_bool, heavyB]; congr 1; symm; simp only [Bool.or_eq_true, decide_eq_true_eq]; omega
  simp only [sS, ↓sT, if_true, if_false, Nat.reduceLT, Nat.reduceEqDiff, ↓sO, ↓WOps_g, sG, opV, loudV, cellsOf, strOp, evL, Nat.reduceAdd, beq_self_eq_true, bne_self_eq_false, Int.reduceBEq, Int.reduceBNe, ti3, ti2, ti4, ti9, ti38, ti25, ti47, ti49, op_cells, op_isC, op_full, op_load, fa49_3, fr49_3, fv49_3, len_str, loadV, TD.agg, opCells, fa49_5, fr49_5, fv49_5, fa49_6, fr49_6, fv49_6, fa47_1, fr47_1, fv47_1, fa47_2, fr47_2, fv47_2, fa49_9, fr49_9, fv49_9, fa49_10, fr49_10, fv49_10, hd, h1, h2, h3, h4, h5, decide_true, decide_false]
  refine hN2 _ ?_; try clear hN2 hD2 N2
  refine WC_ret ?_; (try simp only [Exit.after, Exit.out]); refine Kend_ret (by simp only [resOf, resL, resV, mkS_get, slots_get, cellsOf, ti3, ti2, ti4, ti9, ti38, ti25, ti47, ti49, op_cells, op_isC, op_full, op_load, sS, ↓sT, if_true, if_false, Nat.reduceLT, Nat.reduceEqDiff]; rfl) (by first | rfl | (simp only [ti3, ti2, ti4, ti9, ti38, ti25, ti47, ti49, op_cells, op_isC, op_full, op_load]; done) | (simp only [ti3, ti2, ti4, ti9, ti38, ti25, ti47, ti49, op_cells, op_isC, op_full, op_load, okV, ok1, okC, okP, List.all_cons, List.all_nil, Bool.and_true]; done)) ?_
  simp only [gt_iff_lt] at h1 h2 h3 h4 h5; simp only [keep_bool, heavyB, gt_iff_lt, h1, h2, h3, h4, h5, decide_false, Bool.false_or, OpS.dropsL]; rfl
end Go.PV
/- Names. -/
namespace Go.PV
open Go.Proofs
set_option linter.unusedVariables false
set_option linter.unusedSimpArgs false
set_option maxRecDepth 10000
set_option maxHeartbeats 1000000

theorem len_strN (s : List UInt8) : lenV Try.prog 9 (.str s) = some (.int .i64 s.length) := by simp [lenV, ti9]
theorem str_ix {s : List UInt8} {i : Nat} {c : UInt8} (h : s[i]? = some c) : indexV Try.prog 9 (.str s) (.int .i64 i) = some (.int .u8 c.toNat) := by
  simp [indexV, ti9, h, byteV]
theorem str_ix0 {s : List UInt8} {c : UInt8} (h : s[0]? = some c) : indexV Try.prog 9 (.str s) (.int .i64 0) = some (.int .u8 c.toNat) := str_ix h
def letterB (c : Int) : Bool := decide (97 ≤ c) && decide (c ≤ 122)
def digitB (c : Int) : Bool := decide (48 ≤ c) && decide (c ≤ 57)
def signB (c : UInt8) : Bool := letterB c.toNat || digitB c.toNat
def nameB : List UInt8 → Bool
  | [] => false
  | c :: s => decide (s.length < 12) && letterB c.toNat && s.all signB
theorem c_punnet_name_letter (c : Int) : VC Try.prog 65 [.int .u8 c] [] (fun r _ => r = .bool (letterB c)) := by
  refine VC_enter (nt := 9) (rs := [.tmp 2]) (ow := []) (m := 0) Try.func65 rfl (by rfl) rfl rfl (by simp) rfl rfl (fun n => ?_)
  simp only [zipT, Nat.zero_add]
  refine WC_seqR (fun N1 hN1 hD1 => ?_)
  simp only [sS, ↓sT, if_true, if_false, Nat.reduceLT, Nat.reduceEqDiff, ↓sO, ↓WOps_g, sG, opV, loudV, cellsOf, strOp, evL, Nat.reduceAdd, beq_self_eq_true, bne_self_eq_false, Int.reduceBEq, Int.reduceBNe, decide_true, decide_false]
  refine hN1 _ ?_; try clear hN1 hD1 N1
  refine WC_seqR (fun N2 hN2 hD2 => ?_)
  simp only [sS, ↓sT, if_true, if_false, Nat.reduceLT, Nat.reduceEqDiff, ↓sO, ↓WOps_g, sG, opV, loudV, cellsOf, strOp, evL, Nat.reduceAdd, beq_self_eq_true, bne_self_eq_false, Int.reduceBEq, Int.reduceBNe, decide_true, decide_false]
  refine stepB_T (fun hg2_2 => ?_) (fun hg2_2 => ?_)
  · simp only [sS, ↓sT, if_true, if_false, Nat.reduceLT, Nat.reduceEqDiff, ↓sO, ↓WOps_g, sG, opV, loudV, cellsOf, strOp, evL, Nat.reduceAdd, beq_self_eq_true, bne_self_eq_false, Int.reduceBEq, Int.reduceBNe, hg2_2, decide_true, decide_false]
    refine hN2 _ ?_; try clear hN2 hD2 N2
    refine WC_ret ?_; (try simp only [Exit.after, Exit.out]); refine Kend_ret (by simp only [resOf, resL, resV, mkS_get, slots_get, cellsOf, ti3, sS, ↓sT, if_true, if_false, Nat.reduceLT, Nat.reduceEqDiff]; rfl) (by first | rfl | (simp only [ti3]; done) | (simp only [ti3, okV, ok1, okC, okP, List.all_cons, List.all_nil, Bool.and_true]; done)) ?_
    (simp_all [letterB, keep_bool] <;> omega)
  · simp only [sS, ↓sT, if_true, if_false, Nat.reduceLT, Nat.reduceEqDiff, ↓sO, ↓WOps_g, sG, opV, loudV, cellsOf, strOp, evL, Nat.reduceAdd, beq_self_eq_true, bne_self_eq_false, Int.reduceBEq, Int.reduceBNe, hg2_2, decide_true, decide_false]
    refine hN2 _ ?_; try clear hN2 hD2 N2
    refine WC_ret ?_; (try simp only [Exit.after, Exit.out]); refine Kend_ret (by simp only [resOf, resL, resV, mkS_get, slots_get, cellsOf, ti3, sS, ↓sT, if_true, if_false, Nat.reduceLT, Nat.reduceEqDiff]; rfl) (by first | rfl | (simp only [ti3]; done) | (simp only [ti3, okV, ok1, okC, okP, List.all_cons, List.all_nil, Bool.and_true]; done)) ?_
    (simp_all [letterB, keep_bool] <;> omega)
theorem c_punnet_name_Text (s : List UInt8) : VC Try.prog 60 [.str s] [] (fun r _ => r = .bool (decide ((s.length : Int) ≤ 40))) := by
  refine VC_enter (nt := 6) (rs := [.tmp 2]) (ow := []) (m := 0) Try.func60 rfl (by rfl) rfl rfl (by simp) rfl rfl (fun n => ?_)
  simp only [zipT, Nat.zero_add]
  refine WC_seqR (fun N1 hN1 hD1 => ?_)
  simp only [sS, ↓sT, if_true, if_false, Nat.reduceLT, Nat.reduceEqDiff, ↓sO, ↓WOps_g, sG, opV, loudV, cellsOf, strOp, evL, Nat.reduceAdd, beq_self_eq_true, bne_self_eq_false, Int.reduceBEq, Int.reduceBNe, len_strN, decide_true, decide_false]
  refine hN1 _ ?_; try clear hN1 hD1 N1
  refine WC_seqR (fun N2 hN2 hD2 => ?_)
  simp only [sS, ↓sT, if_true, if_false, Nat.reduceLT, Nat.reduceEqDiff, ↓sO, ↓WOps_g, sG, opV, loudV, cellsOf, strOp, evL, Nat.reduceAdd, beq_self_eq_true, bne_self_eq_false, Int.reduceBEq, Int.reduceBNe, ti9, len_strN, decide_true, decide_false]
  refine hN2 _ ?_; try clear hN2 hD2 N2
  refine WC_ret ?_; (try simp only [Exit.after, Exit.out]); refine Kend_ret (by simp only [resOf, resL, resV, mkS_get, slots_get, cellsOf, ti3, sS, ↓sT, if_true, if_false, Nat.reduceLT, Nat.reduceEqDiff]; rfl) (by first | rfl | (simp only [ti3]; done) | (simp only [ti3, okV, ok1, okC, okP, List.all_cons, List.all_nil, Bool.and_true]; done)) ?_
  rfl
theorem all_take {s : List UInt8} {i : Nat} {c : UInt8} (h : s[i]? = some c) : (s.take (i + 1)).all signB = ((s.take i).all signB && signB c) := by
  rw [List.take_add_one, h]; simp
theorem nameB_cons {s : List UInt8} {c : UInt8} (h : s[0]? = some c) : nameB s = (decide (s.length ≤ 12) && letterB c.toNat && s.all signB) := by
  cases s with
  | nil => cases h
  | cons d s =>
    obtain rfl : d = c := by simpa using h
    simp only [nameB, List.length_cons, List.all_cons, signB]
    cases hl : letterB d.toNat
    · simp
    · simp [Nat.lt_iff_add_one_le]
theorem str_nil {s : List UInt8} : strOp .eql s [] = some (.bool (decide (s.length = 0))) := by cases s <;> rfl
theorem nameB_nil : nameB [] = false := rfl
theorem all_false {s : List UInt8} {i : Nat} {c : UInt8} (h : s[i]? = some c) (hc : signB c = false) : s.all signB = false := by
  rw [List.all_eq_false]
  exact ⟨c, List.mem_of_getElem? h, by simp [hc]⟩
theorem c_punnet_name_Name (s : List UInt8) (c : UInt8) (hc : s[0]? = some c) : VC Try.prog 58 [.str s] [] (fun r _ => r = .bool (nameB s)) := by
  refine VC_enter (nt := 40) (rs := [.tmp 2]) (ow := []) (m := 0) Try.func58 rfl (by rfl) rfl rfl (by simp) rfl rfl (fun n => ?_)
  simp only [zipT, Nat.zero_add]
  refine WC_seqR (fun N1 hN1 hD1 => ?_)
  simp only [sS, ↓sT, if_true, if_false, Nat.reduceLT, Nat.reduceEqDiff, ↓sO, ↓WOps_g, sG, opV, loudV, cellsOf, strOp, evL, Nat.reduceAdd, beq_self_eq_true, bne_self_eq_false, Int.reduceBEq, Int.reduceBNe, len_strN, bs_mk, str_ix0 hc, gt_iff_lt, decide_true, decide_false]
  refine hN1 _ ?_; try clear hN1 hD1 N1
  refine WC_seqN (fun N2 hN2 hD2 => ?_)
  refine WC_seqR (fun N3 hN3 hD3 => ?_)
  simp only [sS, ↓sT, if_true, if_false, Nat.reduceLT, Nat.reduceEqDiff, ↓sO, ↓WOps_g, sG, opV, loudV, cellsOf, strOp, evL, Nat.reduceAdd, beq_self_eq_true, bne_self_eq_false, Int.reduceBEq, Int.reduceBNe, ti9, len_strN, bs_mk, str_ix0 hc, gt_iff_lt, decide_true, decide_false]
  refine stepB_F (fun hg3_2 => ?_) (fun hg3_2 => ?_)
  · simp only [sS, ↓sT, if_true, if_false, Nat.reduceLT, Nat.reduceEqDiff, ↓sO, ↓WOps_g, sG, opV, loudV, cellsOf, strOp, evL, Nat.reduceAdd, beq_self_eq_true, bne_self_eq_false, Int.reduceBEq, Int.reduceBNe, ti9, len_strN, bs_mk, str_ix0 hc, gt_iff_lt, hg3_2, decide_true, decide_false]
    refine stepB_F (fun hg3_7 => ?_) (fun hg3_7 => ?_)
    · simp only [sS, ↓sT, if_true, if_false, Nat.reduceLT, Nat.reduceEqDiff, ↓sO, ↓WOps_g, sG, opV, loudV, cellsOf, strOp, evL, Nat.reduceAdd, beq_self_eq_true, bne_self_eq_false, Int.reduceBEq, Int.reduceBNe, ti9, len_strN, bs_mk, str_ix0 hc, gt_iff_lt, hg3_2, hg3_7, decide_true, decide_false]
      refine WOps_callP (c_punnet_name_letter _) (by simp only [ev_func]) (by simp only [evL, sS, ↓sT, if_true, if_false, Nat.reduceLT, Nat.reduceEqDiff]; rfl) (by first | rfl | (simp only [List.map, bare_int]; done) | (simp only [List.map, bare_int]; exact rfl)) (by first | rfl | simp [noP_int]) (by first | rfl | simp [noP_int]) rfl ?_
      simp only [sS, ↓sT, if_true, if_false, Nat.reduceLT, Nat.reduceEqDiff, ↓sO, ↓WOps_g, sG, opV, loudV, cellsOf, strOp, evL, Nat.reduceAdd, beq_self_eq_true, bne_self_eq_false, Int.reduceBEq, Int.reduceBNe, ti9, len_strN, bs_mk, str_ix0 hc, gt_iff_lt, hg3_2, hg3_7, decide_true, decide_false]
      refine hN3 _ ?_; try clear hN3 hD3 N3
      refine WC_condE ?_
      simp only [sS, ↓sT, if_true, if_false, Nat.reduceLT, Nat.reduceEqDiff, ↓stepC_bool]
      refine ⟨fun hb4 => ?_, fun hb4 => ?_⟩
      · refine WC_seqR (fun N5 hN5 hD5 => ?_)
        simp only [sS, ↓sT, if_true, if_false, Nat.reduceLT, Nat.reduceEqDiff, ↓sO, ↓WOps_g, sG, opV, loudV, cellsOf, strOp, evL, Nat.reduceAdd, beq_self_eq_true, bne_self_eq_false, Int.reduceBEq, Int.reduceBNe, len_strN, bs_mk, str_ix0 hc, gt_iff_lt, decide_true, decide_false]
        refine hN5 _ ?_; try clear hN5 hD5 N5
        refine WC_ret ?_; (try simp only [Exit.after, Exit.out]); refine Kend_ret (by simp only [resOf, resL, resV, mkS_get, slots_get, cellsOf, ti3, sS, ↓sT, if_true, if_false, Nat.reduceLT, Nat.reduceEqDiff]; rfl) (by first | rfl | (simp only [ti3]; done) | (simp only [ti3, okV, ok1, okC, okP, List.all_cons, List.all_nil, Bool.and_true]; done)) ?_
        clear hN2 hD2 N2
        rw [keep_bool, nameB_cons hc]
        first | (simp_all; done) | (simp_all; omega) | (rw [all_false hc2 (by simp_all [signB, digitB] <;> omega)]; simp) | skip
      · refine WC_skip ?_
        refine hN2 _ ?_; try clear hN2 hD2 N2
        refine WC_seqN (fun N6 hN6 hD6 => ?_)
        refine WC_seqR (fun N7 hN7 hD7 => ?_)
        simp only [sS, ↓sT, if_true, if_false, Nat.reduceLT, Nat.reduceEqDiff, ↓sO, ↓WOps_g, sG, opV, loudV, cellsOf, strOp, evL, Nat.reduceAdd, beq_self_eq_true, bne_self_eq_false, Int.reduceBEq, Int.reduceBNe, ti9, len_strN, bs_mk, str_ix0 hc, gt_iff_lt, decide_true, decide_false]
        refine hN7 _ ?_; try clear hN7 hD7 N7
        refine WC_block ?_
        refine WC_loopG (σ := Nat) (fun t s' => ∃ ps, s' = ⟨mkS 40 ps, [], [], n⟩ ∧ Has ps [(0, .str s), (18, .int .i64 s.length), (19, .int .i64 t)] ∧ t ≤ s.length ∧ (s.take t).all signB = true) (fun t => s.length - t) 0 ?_ (fun t s' hI => ?_)
        · exact ⟨_, rfl, ⟨rfl, rfl, rfl, trivial⟩, by omega, rfl⟩
        obtain ⟨ps, rfl, hps, htl, htk⟩ := hI
        refine WC_has hps ?_; clear hps ps
        refine WC_seqR (fun N8 hN8 hD8 => ?_)
        simp only [sS, ↓sT, if_true, if_false, Nat.reduceLT, Nat.reduceEqDiff, ↓sO, ↓WOps_g, sG, opV, loudV, cellsOf, strOp, evL, Nat.reduceAdd, beq_self_eq_true, bne_self_eq_false, Int.reduceBEq, Int.reduceBNe, len_strN, bs_mk, str_ix0 hc, gt_iff_lt, decide_true, decide_false]
        refine hN8 _ ?_; try clear hN8 hD8 N8
        refine WC_seqN (fun N9 hN9 hD9 => ?_)
        refine WC_condE ?_
        simp only [sS, ↓sT, if_true, if_false, Nat.reduceLT, Nat.reduceEqDiff, ↓stepC_bool]
        refine ⟨fun hb10 => ?_, fun hb10 => ?_⟩
        · have ht : t < s.length := by have := of_decide_eq_true hb10; omega
          clear hb10
          obtain ⟨c2, hc2⟩ : ∃ c2, s[t]? = some c2 := ⟨_, List.getElem?_eq_getElem ht⟩
          have hix := str_ix hc2
          have hlen : s.length ≤ 12 := by have := of_decide_eq_false hg3_7; omega
          refine WC_skip ?_
          refine hN9 _ ?_; try clear hN9 hD9 N9
          refine WC_seqN (fun N11 hN11 hD11 => ?_)
          refine WC_block ?_
          refine WC_seqR (fun N12 hN12 hD12 => ?_)
          simp only [sS, ↓sT, if_true, if_false, Nat.reduceLT, Nat.reduceEqDiff, ↓sO, ↓WOps_g, sG, opV, loudV, cellsOf, strOp, evL, Nat.reduceAdd, beq_self_eq_true, bne_self_eq_false, Int.reduceBEq, Int.reduceBNe, len_strN, bs_mk, str_ix0 hc, gt_iff_lt, hix, wrapI (x := (t : Int) + 1) (by omega) (by omega), decide_true, decide_false]
          refine hN12 _ ?_; try clear hN12 hD12 N12
          refine WC_seqR (fun N13 hN13 hD13 => ?_)
          simp only [sS, ↓sT, if_true, if_false, Nat.reduceLT, Nat.reduceEqDiff, ↓sO, ↓WOps_g, sG, opV, loudV, cellsOf, strOp, evL, Nat.reduceAdd, beq_self_eq_true, bne_self_eq_false, Int.reduceBEq, Int.reduceBNe, ti9, len_strN, bs_mk, str_ix0 hc, gt_iff_lt, hix, wrapI (x := (t : Int) + 1) (by omega) (by omega), decide_true, decide_false]
          refine WOps_callP (c_punnet_name_letter _) (by simp only [ev_func]) (by simp only [evL, sS, ↓sT, if_true, if_false, Nat.reduceLT, Nat.reduceEqDiff]; rfl) (by first | rfl | (simp only [List.map, bare_int]; done) | (simp only [List.map, bare_int]; exact rfl)) (by first | rfl | simp [noP_int]) (by first | rfl | simp [noP_int]) rfl ?_
          simp only [sS, ↓sT, if_true, if_false, Nat.reduceLT, Nat.reduceEqDiff, ↓sO, ↓WOps_g, sG, opV, loudV, cellsOf, strOp, evL, Nat.reduceAdd, beq_self_eq_true, bne_self_eq_false, Int.reduceBEq, Int.reduceBNe, ti9, len_strN, bs_mk, str_ix0 hc, gt_iff_lt, hix, wrapI (x := (t : Int) + 1) (by omega) (by omega), decide_true, decide_false]
          refine stepB_T (fun hg13_5 => ?_) (fun hg13_5 => ?_)
          · simp only [sS, ↓sT, if_true, if_false, Nat.reduceLT, Nat.reduceEqDiff, ↓sO, ↓WOps_g, sG, opV, loudV, cellsOf, strOp, evL, Nat.reduceAdd, beq_self_eq_true, bne_self_eq_false, Int.reduceBEq, Int.reduceBNe, ti9, len_strN, bs_mk, str_ix0 hc, gt_iff_lt, hix, wrapI (x := (t : Int) + 1) (by omega) (by omega), hg13_5, decide_true, decide_false]
            refine stepB_F (fun hg13_10 => ?_) (fun hg13_10 => ?_)
            · simp only [sS, ↓sT, if_true, if_false, Nat.reduceLT, Nat.reduceEqDiff, ↓sO, ↓WOps_g, sG, opV, loudV, cellsOf, strOp, evL, Nat.reduceAdd, beq_self_eq_true, bne_self_eq_false, Int.reduceBEq, Int.reduceBNe, ti9, len_strN, bs_mk, str_ix0 hc, gt_iff_lt, hix, wrapI (x := (t : Int) + 1) (by omega) (by omega), hg13_5, hg13_10, decide_true, decide_false]
              refine hN13 _ ?_; try clear hN13 hD13 N13
              refine WC_condE ?_
              simp only [sS, ↓sT, if_true, if_false, Nat.reduceLT, Nat.reduceEqDiff, ↓stepC_bool]
              refine ⟨fun hb14 => ?_, fun hb14 => ?_⟩
              · refine WC_seqR (fun N15 hN15 hD15 => ?_)
                simp only [sS, ↓sT, if_true, if_false, Nat.reduceLT, Nat.reduceEqDiff, ↓sO, ↓WOps_g, sG, opV, loudV, cellsOf, strOp, evL, Nat.reduceAdd, beq_self_eq_true, bne_self_eq_false, Int.reduceBEq, Int.reduceBNe, len_strN, bs_mk, str_ix0 hc, gt_iff_lt, hix, wrapI (x := (t : Int) + 1) (by omega) (by omega), decide_true, decide_false]
                refine hN15 _ ?_; try clear hN15 hD15 N15
                refine WC_ret ?_; (try simp only [Exit.after, Exit.out]); refine Kend_ret (by simp only [resOf, resL, resV, mkS_get, slots_get, cellsOf, ti3, sS, ↓sT, if_true, if_false, Nat.reduceLT, Nat.reduceEqDiff]; rfl) (by first | rfl | (simp only [ti3]; done) | (simp only [ti3, okV, ok1, okC, okP, List.all_cons, List.all_nil, Bool.and_true]; done)) ?_
                clear hN11 hD11 N11 hN6 hD6 N6
                rw [keep_bool, nameB_cons hc]
                first | (simp_all; done) | (simp_all; omega) | (rw [all_false hc2 (by simp_all [signB, digitB] <;> omega)]; simp) | skip
              · refine WC_skip ?_
                refine hN11 _ ?_; try clear hN11 hD11 N11
                refine WC_regN (fun N16 hN16 => ?_)
                simp only [sS, ↓sT, if_true, if_false, Nat.reduceLT, Nat.reduceEqDiff, ↓sO, ↓WOps_g, sG, opV, loudV, cellsOf, strOp, evL, Nat.reduceAdd, beq_self_eq_true, bne_self_eq_false, Int.reduceBEq, Int.reduceBNe, len_strN, bs_mk, str_ix0 hc, gt_iff_lt, hix, wrapI (x := (t : Int) + 1) (by omega) (by omega), decide_true, decide_false]
                refine hN16 _ ?_; try clear hN16 N16
                refine ⟨t + 1, ⟨_, rfl, ⟨rfl, rfl, rfl, trivial⟩, ht, ?_⟩, by omega⟩
                rw [all_take hc2, htk]; simp_all [signB, digitB]
            · simp only [sS, ↓sT, if_true, if_false, Nat.reduceLT, Nat.reduceEqDiff, ↓sO, ↓WOps_g, sG, opV, loudV, cellsOf, strOp, evL, Nat.reduceAdd, beq_self_eq_true, bne_self_eq_false, Int.reduceBEq, Int.reduceBNe, ti9, len_strN, bs_mk, str_ix0 hc, gt_iff_lt, hix, wrapI (x := (t : Int) + 1) (by omega) (by omega), hg13_5, hg13_10, decide_true, decide_false]
              refine hN13 _ ?_; try clear hN13 hD13 N13
              refine WC_condE ?_
              simp only [sS, ↓sT, if_true, if_false, Nat.reduceLT, Nat.reduceEqDiff, ↓stepC_bool]
              refine ⟨fun hb => ?_, fun hb => (by cases hb)⟩
              refine WC_seqR (fun N17 hN17 hD17 => ?_)
              simp only [sS, ↓sT, if_true, if_false, Nat.reduceLT, Nat.reduceEqDiff, ↓sO, ↓WOps_g, sG, opV, loudV, cellsOf, strOp, evL, Nat.reduceAdd, beq_self_eq_true, bne_self_eq_false, Int.reduceBEq, Int.reduceBNe, len_strN, bs_mk, str_ix0 hc, gt_iff_lt, hix, wrapI (x := (t : Int) + 1) (by omega) (by omega), decide_true, decide_false]
              refine hN17 _ ?_; try clear hN17 hD17 N17
              refine WC_ret ?_; (try simp only [Exit.after, Exit.out]); refine Kend_ret (by simp only [resOf, resL, resV, mkS_get, slots_get, cellsOf, ti3, sS, ↓sT, if_true, if_false, Nat.reduceLT, Nat.reduceEqDiff]; rfl) (by first | rfl | (simp only [ti3]; done) | (simp only [ti3, okV, ok1, okC, okP, List.all_cons, List.all_nil, Bool.and_true]; done)) ?_
              clear hN11 hD11 N11 hN6 hD6 N6
              rw [keep_bool, nameB_cons hc]
              first | (simp_all; done) | (simp_all; omega) | (rw [all_false hc2 (by simp_all [signB, digitB] <;> omega)]; simp) | skip
          · simp only [sS, ↓sT, if_true, if_false, Nat.reduceLT, Nat.reduceEqDiff, ↓sO, ↓WOps_g, sG, opV, loudV, cellsOf, strOp, evL, Nat.reduceAdd, beq_self_eq_true, bne_self_eq_false, Int.reduceBEq, Int.reduceBNe, ti9, len_strN, bs_mk, str_ix0 hc, gt_iff_lt, hix, wrapI (x := (t : Int) + 1) (by omega) (by omega), hg13_5, decide_true, decide_false]
            refine hN13 _ ?_; try clear hN13 hD13 N13
            refine WC_condE ?_
            simp only [sS, ↓sT, if_true, if_false, Nat.reduceLT, Nat.reduceEqDiff, ↓stepC_bool]
            refine ⟨fun hb => (by cases hb), fun hb => ?_⟩
            refine WC_skip ?_
            refine hN11 _ ?_; try clear hN11 hD11 N11
            refine WC_regN (fun N18 hN18 => ?_)
            simp only [sS, ↓sT, if_true, if_false, Nat.reduceLT, Nat.reduceEqDiff, ↓sO, ↓WOps_g, sG, opV, loudV, cellsOf, strOp, evL, Nat.reduceAdd, beq_self_eq_true, bne_self_eq_false, Int.reduceBEq, Int.reduceBNe, len_strN, bs_mk, str_ix0 hc, gt_iff_lt, hix, wrapI (x := (t : Int) + 1) (by omega) (by omega), decide_true, decide_false]
            refine hN18 _ ?_; try clear hN18 N18
            refine ⟨t + 1, ⟨_, rfl, ⟨rfl, rfl, rfl, trivial⟩, ht, ?_⟩, by omega⟩
            rw [all_take hc2, htk]; simp_all [signB, digitB]
        · have ht : t = s.length := by have := of_decide_eq_false hb10; omega
          clear hb10
          refine WC_exit ?_
          refine hN6 _ ?_; try clear hN6 hD6 N6
          refine WC_seqR (fun N19 hN19 hD19 => ?_)
          simp only [sS, ↓sT, if_true, if_false, Nat.reduceLT, Nat.reduceEqDiff, ↓sO, ↓WOps_g, sG, opV, loudV, cellsOf, strOp, evL, Nat.reduceAdd, beq_self_eq_true, bne_self_eq_false, Int.reduceBEq, Int.reduceBNe, len_strN, bs_mk, str_ix0 hc, gt_iff_lt, decide_true, decide_false]
          refine hN19 _ ?_; try clear hN19 hD19 N19
          refine WC_ret ?_; (try simp only [Exit.after, Exit.out]); refine Kend_ret (by simp only [resOf, resL, resV, mkS_get, slots_get, cellsOf, ti3, sS, ↓sT, if_true, if_false, Nat.reduceLT, Nat.reduceEqDiff]; rfl) (by first | rfl | (simp only [ti3]; done) | (simp only [ti3, okV, ok1, okC, okP, List.all_cons, List.all_nil, Bool.and_true]; done)) ?_
          clear hN9 hD9 N9
          rw [keep_bool, nameB_cons hc]
          first | (simp_all; done) | (simp_all; omega) | (rw [all_false hc2 (by simp_all [signB, digitB] <;> omega)]; simp) | skip
    · simp only [sS, ↓sT, if_true, if_false, Nat.reduceLT, Nat.reduceEqDiff, ↓sO, ↓WOps_g, sG, opV, loudV, cellsOf, strOp, evL, Nat.reduceAdd, beq_self_eq_true, bne_self_eq_false, Int.reduceBEq, Int.reduceBNe, ti9, len_strN, bs_mk, str_ix0 hc, gt_iff_lt, hg3_2, hg3_7, decide_true, decide_false]
      refine hN3 _ ?_; try clear hN3 hD3 N3
      refine WC_condE ?_
      simp only [sS, ↓sT, if_true, if_false, Nat.reduceLT, Nat.reduceEqDiff, ↓stepC_bool]
      refine ⟨fun hb => ?_, fun hb => (by cases hb)⟩
      refine WC_seqR (fun N20 hN20 hD20 => ?_)
      simp only [sS, ↓sT, if_true, if_false, Nat.reduceLT, Nat.reduceEqDiff, ↓sO, ↓WOps_g, sG, opV, loudV, cellsOf, strOp, evL, Nat.reduceAdd, beq_self_eq_true, bne_self_eq_false, Int.reduceBEq, Int.reduceBNe, len_strN, bs_mk, str_ix0 hc, gt_iff_lt, decide_true, decide_false]
      refine hN20 _ ?_; try clear hN20 hD20 N20
      refine WC_ret ?_; (try simp only [Exit.after, Exit.out]); refine Kend_ret (by simp only [resOf, resL, resV, mkS_get, slots_get, cellsOf, ti3, sS, ↓sT, if_true, if_false, Nat.reduceLT, Nat.reduceEqDiff]; rfl) (by first | rfl | (simp only [ti3]; done) | (simp only [ti3, okV, ok1, okC, okP, List.all_cons, List.all_nil, Bool.and_true]; done)) ?_
      clear hN2 hD2 N2
      rw [keep_bool, nameB_cons hc]
      first | (simp_all; done) | (simp_all; omega) | (rw [all_false hc2 (by simp_all [signB, digitB] <;> omega)]; simp) | skip
  · simp only [sS, ↓sT, if_true, if_false, Nat.reduceLT, Nat.reduceEqDiff, ↓sO, ↓WOps_g, sG, opV, loudV, cellsOf, strOp, evL, Nat.reduceAdd, beq_self_eq_true, bne_self_eq_false, Int.reduceBEq, Int.reduceBNe, ti9, len_strN, bs_mk, str_ix0 hc, gt_iff_lt, hg3_2, decide_true, decide_false]
    refine hN3 _ ?_; try clear hN3 hD3 N3
    refine WC_condE ?_
    simp only [sS, ↓sT, if_true, if_false, Nat.reduceLT, Nat.reduceEqDiff, ↓stepC_bool]
    refine ⟨fun hb => ?_, fun hb => (by cases hb)⟩
    refine WC_seqR (fun N21 hN21 hD21 => ?_)
    simp only [sS, ↓sT, if_true, if_false, Nat.reduceLT, Nat.reduceEqDiff, ↓sO, ↓WOps_g, sG, opV, loudV, cellsOf, strOp, evL, Nat.reduceAdd, beq_self_eq_true, bne_self_eq_false, Int.reduceBEq, Int.reduceBNe, len_strN, bs_mk, str_ix0 hc, gt_iff_lt, decide_true, decide_false]
    refine hN21 _ ?_; try clear hN21 hD21 N21
    refine WC_ret ?_; (try simp only [Exit.after, Exit.out]); refine Kend_ret (by simp only [resOf, resL, resV, mkS_get, slots_get, cellsOf, ti3, sS, ↓sT, if_true, if_false, Nat.reduceLT, Nat.reduceEqDiff]; rfl) (by first | rfl | (simp only [ti3]; done) | (simp only [ti3, okV, ok1, okC, okP, List.all_cons, List.all_nil, Bool.and_true]; done)) ?_
    clear hN2 hD2 N2
    rw [keep_bool, nameB_cons hc]
    first | (simp_all; done) | (simp_all; omega) | (rw [all_false hc2 (by simp_all [signB, digitB] <;> omega)]; simp) | skip
theorem c_name (s : List UInt8) : VC Try.prog 58 [.str s] [] (fun r _ => r = .bool (nameB s)) := by
  cases s with
  | nil => exact VC_closed (tab := tab) 10000 20 mixed names tabOk rfl rfl rfl rfl (by kernel_rfl)
  | cons c s => exact c_punnet_name_Name _ c rfl
theorem name_leaf {s : List UInt8} {c c2 : UInt8} {t : Nat} (hc2 : s[t]? = some c2) (h0 : t = 0 → c2 = c) (hl : letterB c2.toNat = false) (hd : digitB c2.toNat = false ∨ t = 0) : (decide (s.length ≤ 12) && letterB c.toNat && s.all signB) = false := by
  rcases hd with hd | hz
  · rw [all_false hc2 (by rw [signB, hl, hd]; rfl)]; simp
  · obtain rfl := h0 hz
    rw [hl]; simp
theorem c_punnet_punnetref05_Name (s : List UInt8) (c : UInt8) (hc : s[0]? = some c) : VC Try.prog 66 [.str s] [] (fun r _ => r = .bool (nameB s)) := by
  refine VC_enter (nt := 50) (rs := [.tmp 2]) (ow := []) (m := 0) Try.func66 rfl (by rfl) rfl rfl (by simp) rfl rfl (fun n => ?_)
  simp only [zipT, Nat.zero_add]
  have hpos : 0 < s.length := (List.getElem?_eq_some_iff.1 hc).1
  refine WC_seqR (fun N1 hN1 hD1 => ?_)
  simp only [sS, ↓sT, if_true, if_false, Nat.reduceLT, Nat.reduceEqDiff, ↓sO, ↓WOps_g, sG, opV, loudV, cellsOf, strOp, evL, Nat.reduceAdd, beq_self_eq_true, bne_self_eq_false, Int.reduceBEq, Int.reduceBNe, len_strN, bs_mk, gt_iff_lt, decide_true, decide_false]
  refine hN1 _ ?_; try clear hN1 hD1 N1
  refine WC_seqN (fun N2 hN2 hD2 => ?_)
  refine WC_seqR (fun N3 hN3 hD3 => ?_)
  simp only [sS, ↓sT, if_true, if_false, Nat.reduceLT, Nat.reduceEqDiff, ↓sO, ↓WOps_g, sG, opV, loudV, cellsOf, strOp, evL, Nat.reduceAdd, beq_self_eq_true, bne_self_eq_false, Int.reduceBEq, Int.reduceBNe, ti9, len_strN, bs_mk, gt_iff_lt, decide_true, decide_false]
  refine stepB_F (fun hg3_3 => ?_) (fun hg3_3 => ?_)
  · simp only [sS, ↓sT, if_true, if_false, Nat.reduceLT, Nat.reduceEqDiff, ↓sO, ↓WOps_g, sG, opV, loudV, cellsOf, strOp, evL, Nat.reduceAdd, beq_self_eq_true, bne_self_eq_false, Int.reduceBEq, Int.reduceBNe, ti9, len_strN, bs_mk, gt_iff_lt, hg3_3, decide_true, decide_false]
    refine hN3 _ ?_; try clear hN3 hD3 N3
    refine WC_condE ?_
    simp only [sS, ↓sT, if_true, if_false, Nat.reduceLT, Nat.reduceEqDiff, ↓stepC_bool]
    refine ⟨fun hb4 => ?_, fun hb4 => ?_⟩
    · refine WC_seqR (fun N5 hN5 hD5 => ?_)
      simp only [sS, ↓sT, if_true, if_false, Nat.reduceLT, Nat.reduceEqDiff, ↓sO, ↓WOps_g, sG, opV, loudV, cellsOf, strOp, evL, Nat.reduceAdd, beq_self_eq_true, bne_self_eq_false, Int.reduceBEq, Int.reduceBNe, len_strN, bs_mk, gt_iff_lt, decide_true, decide_false]
      refine hN5 _ ?_; try clear hN5 hD5 N5
      refine WC_ret ?_; (try simp only [Exit.after, Exit.out]); refine Kend_ret (by simp only [resOf, resL, resV, mkS_get, slots_get, cellsOf, ti3, sS, ↓sT, if_true, if_false, Nat.reduceLT, Nat.reduceEqDiff]; rfl) (by first | rfl | (simp only [ti3]; done) | (simp only [ti3, okV, ok1, okC, okP, List.all_cons, List.all_nil, Bool.and_true]; done)) ?_
      clear hN2 hD2 N2
      rw [keep_bool, nameB_cons hc]
      first
      | (exfalso; have := of_decide_eq_true hg3_3; omega)
      | (refine congrArg V.bool (name_leaf hc2 h0 ?_ ?_).symm
         · first | (simp_all [letterB]; done) | (simp_all [letterB]; omega)
         · first | (right; simp_all; done) | (left; simp_all [digitB]; done) | (left; simp_all [digitB]; omega))
      | (simp_all; done)
      | (simp_all; omega)
    · refine WC_skip ?_
      refine hN2 _ ?_; try clear hN2 hD2 N2
      refine WC_seqN (fun N6 hN6 hD6 => ?_)
      refine WC_seqR (fun N7 hN7 hD7 => ?_)
      simp only [sS, ↓sT, if_true, if_false, Nat.reduceLT, Nat.reduceEqDiff, ↓sO, ↓WOps_g, sG, opV, loudV, cellsOf, strOp, evL, Nat.reduceAdd, beq_self_eq_true, bne_self_eq_false, Int.reduceBEq, Int.reduceBNe, len_strN, bs_mk, gt_iff_lt, decide_true, decide_false]
      refine hN7 _ ?_; try clear hN7 hD7 N7
      refine WC_block ?_
      refine WC_loopG (σ := Nat) (fun t s' => ∃ ps, s' = ⟨mkS 50 ps, [], [], n⟩ ∧ Has ps [(0, .str s), (3, .int .i64 t)] ∧ t ≤ s.length ∧ (s.take t).all signB = true ∧ (0 < t → letterB c.toNat = true)) (fun t => s.length - t) 0 ?_ (fun t s' hI => ?_)
      · exact ⟨_, rfl, ⟨rfl, rfl, trivial⟩, by omega, rfl, fun h => by omega⟩
      obtain ⟨ps, rfl, hps, htl, htk, hhead⟩ := hI
      refine WC_has hps ?_; clear hps ps
      refine WC_seqN (fun N8 hN8 hD8 => ?_)
      refine WC_seqR (fun N9 hN9 hD9 => ?_)
      simp only [sS, ↓sT, if_true, if_false, Nat.reduceLT, Nat.reduceEqDiff, ↓sO, ↓WOps_g, sG, opV, loudV, cellsOf, strOp, evL, Nat.reduceAdd, beq_self_eq_true, bne_self_eq_false, Int.reduceBEq, Int.reduceBNe, ti9, len_strN, bs_mk, gt_iff_lt, decide_true, decide_false]
      refine hN9 _ ?_; try clear hN9 hD9 N9
      refine WC_condE ?_
      simp only [sS, ↓sT, if_true, if_false, Nat.reduceLT, Nat.reduceEqDiff, ↓stepC_bool]
      refine ⟨fun hb10 => ?_, fun hb10 => ?_⟩
      · have ht : t < s.length := by have := of_decide_eq_true hb10; omega
        clear hb10
        obtain ⟨c2, hc2⟩ : ∃ c2, s[t]? = some c2 := ⟨_, List.getElem?_eq_getElem ht⟩
        have hix := str_ix hc2
        have h0 : t = 0 → c2 = c := fun h => by subst h; rw [hc] at hc2; exact (Option.some.inj hc2).symm
        have hlen : s.length ≤ 12 := by have := of_decide_eq_false hb4; omega
        refine WC_skip ?_
        refine hN8 _ ?_; try clear hN8 hD8 N8
        refine WC_seqN (fun N11 hN11 hD11 => ?_)
        refine WC_block ?_
        refine WC_seqR (fun N12 hN12 hD12 => ?_)
        simp only [sS, ↓sT, if_true, if_false, Nat.reduceLT, Nat.reduceEqDiff, ↓sO, ↓WOps_g, sG, opV, loudV, cellsOf, strOp, evL, Nat.reduceAdd, beq_self_eq_true, bne_self_eq_false, Int.reduceBEq, Int.reduceBNe, ti9, len_strN, bs_mk, gt_iff_lt, hix, wrapI (x := (t : Int) + 1) (by omega) (by omega), decide_true, decide_false]
        refine stepB_T (fun hg12_4 => ?_) (fun hg12_4 => ?_)
        · simp only [sS, ↓sT, if_true, if_false, Nat.reduceLT, Nat.reduceEqDiff, ↓sO, ↓WOps_g, sG, opV, loudV, cellsOf, strOp, evL, Nat.reduceAdd, beq_self_eq_true, bne_self_eq_false, Int.reduceBEq, Int.reduceBNe, ti9, len_strN, bs_mk, gt_iff_lt, hix, wrapI (x := (t : Int) + 1) (by omega) (by omega), hg12_4, decide_true, decide_false]
          refine hN12 _ ?_; try clear hN12 hD12 N12
          refine WC_seqR (fun N13 hN13 hD13 => ?_)
          simp only [sS, ↓sT, if_true, if_false, Nat.reduceLT, Nat.reduceEqDiff, ↓sO, ↓WOps_g, sG, opV, loudV, cellsOf, strOp, evL, Nat.reduceAdd, beq_self_eq_true, bne_self_eq_false, Int.reduceBEq, Int.reduceBNe, ti9, len_strN, bs_mk, gt_iff_lt, hix, wrapI (x := (t : Int) + 1) (by omega) (by omega), decide_true, decide_false]
          refine stepB_T (fun hg13_4 => ?_) (fun hg13_4 => ?_)
          · simp only [sS, ↓sT, if_true, if_false, Nat.reduceLT, Nat.reduceEqDiff, ↓sO, ↓WOps_g, sG, opV, loudV, cellsOf, strOp, evL, Nat.reduceAdd, beq_self_eq_true, bne_self_eq_false, Int.reduceBEq, Int.reduceBNe, ti9, len_strN, bs_mk, gt_iff_lt, hix, wrapI (x := (t : Int) + 1) (by omega) (by omega), hg13_4, decide_true, decide_false]
            refine hN13 _ ?_; try clear hN13 hD13 N13
            refine WC_seqR (fun N14 hN14 hD14 => ?_)
            simp only [sS, ↓sT, if_true, if_false, Nat.reduceLT, Nat.reduceEqDiff, ↓sO, ↓WOps_g, sG, opV, loudV, cellsOf, strOp, evL, Nat.reduceAdd, beq_self_eq_true, bne_self_eq_false, Int.reduceBEq, Int.reduceBNe, len_strN, bs_mk, gt_iff_lt, hix, wrapI (x := (t : Int) + 1) (by omega) (by omega), decide_true, decide_false]
            refine stepB_T (fun hg14_2 => ?_) (fun hg14_2 => ?_)
            · simp only [sS, ↓sT, if_true, if_false, Nat.reduceLT, Nat.reduceEqDiff, ↓sO, ↓WOps_g, sG, opV, loudV, cellsOf, strOp, evL, Nat.reduceAdd, beq_self_eq_true, bne_self_eq_false, Int.reduceBEq, Int.reduceBNe, len_strN, bs_mk, gt_iff_lt, hix, wrapI (x := (t : Int) + 1) (by omega) (by omega), hg14_2, decide_true, decide_false]
              refine stepB_F (fun hg14_5 => ?_) (fun hg14_5 => ?_)
              · simp only [sS, ↓sT, if_true, if_false, Nat.reduceLT, Nat.reduceEqDiff, ↓sO, ↓WOps_g, sG, opV, loudV, cellsOf, strOp, evL, Nat.reduceAdd, beq_self_eq_true, bne_self_eq_false, Int.reduceBEq, Int.reduceBNe, len_strN, bs_mk, gt_iff_lt, hix, wrapI (x := (t : Int) + 1) (by omega) (by omega), hg14_2, hg14_5, decide_true, decide_false]
                refine hN14 _ ?_; try clear hN14 hD14 N14
                refine WC_condE ?_
                simp only [sS, ↓sT, if_true, if_false, Nat.reduceLT, Nat.reduceEqDiff, ↓stepC_bool]
                refine ⟨fun hb15 => ?_, fun hb15 => ?_⟩
                · refine WC_seqR (fun N16 hN16 hD16 => ?_)
                  simp only [sS, ↓sT, if_true, if_false, Nat.reduceLT, Nat.reduceEqDiff, ↓sO, ↓WOps_g, sG, opV, loudV, cellsOf, strOp, evL, Nat.reduceAdd, beq_self_eq_true, bne_self_eq_false, Int.reduceBEq, Int.reduceBNe, len_strN, bs_mk, gt_iff_lt, hix, wrapI (x := (t : Int) + 1) (by omega) (by omega), decide_true, decide_false]
                  refine hN16 _ ?_; try clear hN16 hD16 N16
                  refine WC_ret ?_; (try simp only [Exit.after, Exit.out]); refine Kend_ret (by simp only [resOf, resL, resV, mkS_get, slots_get, cellsOf, ti3, sS, ↓sT, if_true, if_false, Nat.reduceLT, Nat.reduceEqDiff]; rfl) (by first | rfl | (simp only [ti3]; done) | (simp only [ti3, okV, ok1, okC, okP, List.all_cons, List.all_nil, Bool.and_true]; done)) ?_
                  clear hN11 hD11 N11 hN6 hD6 N6
                  rw [keep_bool, nameB_cons hc]
                  first
                  | (exfalso; have := of_decide_eq_true hg3_3; omega)
                  | (refine congrArg V.bool (name_leaf hc2 h0 ?_ ?_).symm
                     · first | (simp_all [letterB]; done) | (simp_all [letterB]; omega)
                     · first | (right; simp_all; done) | (left; simp_all [digitB]; done) | (left; simp_all [digitB]; omega))
                  | (simp_all; done)
                  | (simp_all; omega)
                · refine WC_skip ?_
                  refine hN11 _ ?_; try clear hN11 hD11 N11
                  refine WC_regN (fun N17 hN17 => ?_)
                  simp only [sS, ↓sT, if_true, if_false, Nat.reduceLT, Nat.reduceEqDiff, ↓sO, ↓WOps_g, sG, opV, loudV, cellsOf, strOp, evL, Nat.reduceAdd, beq_self_eq_true, bne_self_eq_false, Int.reduceBEq, Int.reduceBNe, len_strN, bs_mk, gt_iff_lt, hix, wrapI (x := (t : Int) + 1) (by omega) (by omega), decide_true, decide_false]
                  refine hN17 _ ?_; try clear hN17 N17
                  refine ⟨t + 1, ⟨_, rfl, ⟨rfl, rfl, trivial⟩, ht, ?_, fun _ => ?_⟩, by omega⟩
                  · rw [all_take hc2, htk]; simp_all [signB, digitB, letterB] <;> omega
                  · rcases Nat.eq_zero_or_pos t with h | h
                    · obtain rfl := h0 h; first | (simp_all [letterB]; done) | (simp_all [letterB] <;> omega)
                    · exact hhead h
              · simp only [sS, ↓sT, if_true, if_false, Nat.reduceLT, Nat.reduceEqDiff, ↓sO, ↓WOps_g, sG, opV, loudV, cellsOf, strOp, evL, Nat.reduceAdd, beq_self_eq_true, bne_self_eq_false, Int.reduceBEq, Int.reduceBNe, len_strN, bs_mk, gt_iff_lt, hix, wrapI (x := (t : Int) + 1) (by omega) (by omega), hg14_2, hg14_5, decide_true, decide_false]
                refine hN14 _ ?_; try clear hN14 hD14 N14
                refine WC_condE ?_
                simp only [sS, ↓sT, if_true, if_false, Nat.reduceLT, Nat.reduceEqDiff, ↓stepC_bool]
                refine ⟨fun hb => ?_, fun hb => (by cases hb)⟩
                refine WC_seqR (fun N18 hN18 hD18 => ?_)
                simp only [sS, ↓sT, if_true, if_false, Nat.reduceLT, Nat.reduceEqDiff, ↓sO, ↓WOps_g, sG, opV, loudV, cellsOf, strOp, evL, Nat.reduceAdd, beq_self_eq_true, bne_self_eq_false, Int.reduceBEq, Int.reduceBNe, len_strN, bs_mk, gt_iff_lt, hix, wrapI (x := (t : Int) + 1) (by omega) (by omega), decide_true, decide_false]
                refine hN18 _ ?_; try clear hN18 hD18 N18
                refine WC_ret ?_; (try simp only [Exit.after, Exit.out]); refine Kend_ret (by simp only [resOf, resL, resV, mkS_get, slots_get, cellsOf, ti3, sS, ↓sT, if_true, if_false, Nat.reduceLT, Nat.reduceEqDiff]; rfl) (by first | rfl | (simp only [ti3]; done) | (simp only [ti3, okV, ok1, okC, okP, List.all_cons, List.all_nil, Bool.and_true]; done)) ?_
                clear hN11 hD11 N11 hN6 hD6 N6
                rw [keep_bool, nameB_cons hc]
                first
                | (exfalso; have := of_decide_eq_true hg3_3; omega)
                | (refine congrArg V.bool (name_leaf hc2 h0 ?_ ?_).symm
                   · first | (simp_all [letterB]; done) | (simp_all [letterB]; omega)
                   · first | (right; simp_all; done) | (left; simp_all [digitB]; done) | (left; simp_all [digitB]; omega))
                | (simp_all; done)
                | (simp_all; omega)
            · simp only [sS, ↓sT, if_true, if_false, Nat.reduceLT, Nat.reduceEqDiff, ↓sO, ↓WOps_g, sG, opV, loudV, cellsOf, strOp, evL, Nat.reduceAdd, beq_self_eq_true, bne_self_eq_false, Int.reduceBEq, Int.reduceBNe, len_strN, bs_mk, gt_iff_lt, hix, wrapI (x := (t : Int) + 1) (by omega) (by omega), hg14_2, decide_true, decide_false]
              refine hN14 _ ?_; try clear hN14 hD14 N14
              refine WC_condE ?_
              simp only [sS, ↓sT, if_true, if_false, Nat.reduceLT, Nat.reduceEqDiff, ↓stepC_bool]
              refine ⟨fun hb => (by cases hb), fun hb => ?_⟩
              refine WC_skip ?_
              refine hN11 _ ?_; try clear hN11 hD11 N11
              refine WC_regN (fun N19 hN19 => ?_)
              simp only [sS, ↓sT, if_true, if_false, Nat.reduceLT, Nat.reduceEqDiff, ↓sO, ↓WOps_g, sG, opV, loudV, cellsOf, strOp, evL, Nat.reduceAdd, beq_self_eq_true, bne_self_eq_false, Int.reduceBEq, Int.reduceBNe, len_strN, bs_mk, gt_iff_lt, hix, wrapI (x := (t : Int) + 1) (by omega) (by omega), decide_true, decide_false]
              refine hN19 _ ?_; try clear hN19 N19
              refine ⟨t + 1, ⟨_, rfl, ⟨rfl, rfl, trivial⟩, ht, ?_, fun _ => ?_⟩, by omega⟩
              · rw [all_take hc2, htk]; simp_all [signB, digitB, letterB] <;> omega
              · rcases Nat.eq_zero_or_pos t with h | h
                · obtain rfl := h0 h; first | (simp_all [letterB]; done) | (simp_all [letterB] <;> omega)
                · exact hhead h
          · simp only [sS, ↓sT, if_true, if_false, Nat.reduceLT, Nat.reduceEqDiff, ↓sO, ↓WOps_g, sG, opV, loudV, cellsOf, strOp, evL, Nat.reduceAdd, beq_self_eq_true, bne_self_eq_false, Int.reduceBEq, Int.reduceBNe, ti9, len_strN, bs_mk, gt_iff_lt, hix, wrapI (x := (t : Int) + 1) (by omega) (by omega), hg13_4, decide_true, decide_false]
            refine hN13 _ ?_; try clear hN13 hD13 N13
            refine WC_seqR (fun N20 hN20 hD20 => ?_)
            simp only [sS, ↓sT, if_true, if_false, Nat.reduceLT, Nat.reduceEqDiff, ↓sO, ↓WOps_g, sG, opV, loudV, cellsOf, strOp, evL, Nat.reduceAdd, beq_self_eq_true, bne_self_eq_false, Int.reduceBEq, Int.reduceBNe, len_strN, bs_mk, gt_iff_lt, hix, wrapI (x := (t : Int) + 1) (by omega) (by omega), decide_true, decide_false]
            refine stepB_T (fun hg20_2 => ?_) (fun hg20_2 => ?_)
            · simp only [sS, ↓sT, if_true, if_false, Nat.reduceLT, Nat.reduceEqDiff, ↓sO, ↓WOps_g, sG, opV, loudV, cellsOf, strOp, evL, Nat.reduceAdd, beq_self_eq_true, bne_self_eq_false, Int.reduceBEq, Int.reduceBNe, len_strN, bs_mk, gt_iff_lt, hix, wrapI (x := (t : Int) + 1) (by omega) (by omega), hg20_2, decide_true, decide_false]
              refine hN20 _ ?_; try clear hN20 hD20 N20
              refine WC_condE ?_
              simp only [sS, ↓sT, if_true, if_false, Nat.reduceLT, Nat.reduceEqDiff, ↓stepC_bool]
              refine ⟨fun hb => ?_, fun hb => (by cases hb)⟩
              refine WC_seqR (fun N21 hN21 hD21 => ?_)
              simp only [sS, ↓sT, if_true, if_false, Nat.reduceLT, Nat.reduceEqDiff, ↓sO, ↓WOps_g, sG, opV, loudV, cellsOf, strOp, evL, Nat.reduceAdd, beq_self_eq_true, bne_self_eq_false, Int.reduceBEq, Int.reduceBNe, len_strN, bs_mk, gt_iff_lt, hix, wrapI (x := (t : Int) + 1) (by omega) (by omega), decide_true, decide_false]
              refine hN21 _ ?_; try clear hN21 hD21 N21
              refine WC_ret ?_; (try simp only [Exit.after, Exit.out]); refine Kend_ret (by simp only [resOf, resL, resV, mkS_get, slots_get, cellsOf, ti3, sS, ↓sT, if_true, if_false, Nat.reduceLT, Nat.reduceEqDiff]; rfl) (by first | rfl | (simp only [ti3]; done) | (simp only [ti3, okV, ok1, okC, okP, List.all_cons, List.all_nil, Bool.and_true]; done)) ?_
              clear hN11 hD11 N11 hN6 hD6 N6
              rw [keep_bool, nameB_cons hc]
              first
              | (exfalso; have := of_decide_eq_true hg3_3; omega)
              | (refine congrArg V.bool (name_leaf hc2 h0 ?_ ?_).symm
                 · first | (simp_all [letterB]; done) | (simp_all [letterB]; omega)
                 · first | (right; simp_all; done) | (left; simp_all [digitB]; done) | (left; simp_all [digitB]; omega))
              | (simp_all; done)
              | (simp_all; omega)
            · simp only [sS, ↓sT, if_true, if_false, Nat.reduceLT, Nat.reduceEqDiff, ↓sO, ↓WOps_g, sG, opV, loudV, cellsOf, strOp, evL, Nat.reduceAdd, beq_self_eq_true, bne_self_eq_false, Int.reduceBEq, Int.reduceBNe, len_strN, bs_mk, gt_iff_lt, hix, wrapI (x := (t : Int) + 1) (by omega) (by omega), hg20_2, decide_true, decide_false]
              refine hN20 _ ?_; try clear hN20 hD20 N20
              refine WC_condE ?_
              simp only [sS, ↓sT, if_true, if_false, Nat.reduceLT, Nat.reduceEqDiff, ↓stepC_bool]
              refine ⟨fun hb => (by cases hb), fun hb => ?_⟩
              refine WC_skip ?_
              refine hN11 _ ?_; try clear hN11 hD11 N11
              refine WC_regN (fun N22 hN22 => ?_)
              simp only [sS, ↓sT, if_true, if_false, Nat.reduceLT, Nat.reduceEqDiff, ↓sO, ↓WOps_g, sG, opV, loudV, cellsOf, strOp, evL, Nat.reduceAdd, beq_self_eq_true, bne_self_eq_false, Int.reduceBEq, Int.reduceBNe, len_strN, bs_mk, gt_iff_lt, hix, wrapI (x := (t : Int) + 1) (by omega) (by omega), decide_true, decide_false]
              refine hN22 _ ?_; try clear hN22 N22
              refine ⟨t + 1, ⟨_, rfl, ⟨rfl, rfl, trivial⟩, ht, ?_, fun _ => ?_⟩, by omega⟩
              · rw [all_take hc2, htk]; simp_all [signB, digitB, letterB] <;> omega
              · rcases Nat.eq_zero_or_pos t with h | h
                · obtain rfl := h0 h; first | (simp_all [letterB]; done) | (simp_all [letterB] <;> omega)
                · exact hhead h
        · simp only [sS, ↓sT, if_true, if_false, Nat.reduceLT, Nat.reduceEqDiff, ↓sO, ↓WOps_g, sG, opV, loudV, cellsOf, strOp, evL, Nat.reduceAdd, beq_self_eq_true, bne_self_eq_false, Int.reduceBEq, Int.reduceBNe, ti9, len_strN, bs_mk, gt_iff_lt, hix, wrapI (x := (t : Int) + 1) (by omega) (by omega), hg12_4, decide_true, decide_false]
          refine hN12 _ ?_; try clear hN12 hD12 N12
          refine WC_seqR (fun N23 hN23 hD23 => ?_)
          simp only [sS, ↓sT, if_true, if_false, Nat.reduceLT, Nat.reduceEqDiff, ↓sO, ↓WOps_g, sG, opV, loudV, cellsOf, strOp, evL, Nat.reduceAdd, beq_self_eq_true, bne_self_eq_false, Int.reduceBEq, Int.reduceBNe, ti9, len_strN, bs_mk, gt_iff_lt, hix, wrapI (x := (t : Int) + 1) (by omega) (by omega), decide_true, decide_false]
          refine stepB_T (fun hg23_4 => ?_) (fun hg23_4 => ?_)
          · simp only [sS, ↓sT, if_true, if_false, Nat.reduceLT, Nat.reduceEqDiff, ↓sO, ↓WOps_g, sG, opV, loudV, cellsOf, strOp, evL, Nat.reduceAdd, beq_self_eq_true, bne_self_eq_false, Int.reduceBEq, Int.reduceBNe, ti9, len_strN, bs_mk, gt_iff_lt, hix, wrapI (x := (t : Int) + 1) (by omega) (by omega), hg23_4, decide_true, decide_false]
            refine hN23 _ ?_; try clear hN23 hD23 N23
            refine WC_seqR (fun N24 hN24 hD24 => ?_)
            simp only [sS, ↓sT, if_true, if_false, Nat.reduceLT, Nat.reduceEqDiff, ↓sO, ↓WOps_g, sG, opV, loudV, cellsOf, strOp, evL, Nat.reduceAdd, beq_self_eq_true, bne_self_eq_false, Int.reduceBEq, Int.reduceBNe, len_strN, bs_mk, gt_iff_lt, hix, wrapI (x := (t : Int) + 1) (by omega) (by omega), decide_true, decide_false]
            refine stepB_F (fun hg24_5 => ?_) (fun hg24_5 => ?_)
            · simp only [sS, ↓sT, if_true, if_false, Nat.reduceLT, Nat.reduceEqDiff, ↓sO, ↓WOps_g, sG, opV, loudV, cellsOf, strOp, evL, Nat.reduceAdd, beq_self_eq_true, bne_self_eq_false, Int.reduceBEq, Int.reduceBNe, len_strN, bs_mk, gt_iff_lt, hix, wrapI (x := (t : Int) + 1) (by omega) (by omega), hg24_5, decide_true, decide_false]
              refine hN24 _ ?_; try clear hN24 hD24 N24
              refine WC_condE ?_
              simp only [sS, ↓sT, if_true, if_false, Nat.reduceLT, Nat.reduceEqDiff, ↓stepC_bool]
              refine ⟨fun hb25 => ?_, fun hb25 => ?_⟩
              · refine WC_seqR (fun N26 hN26 hD26 => ?_)
                simp only [sS, ↓sT, if_true, if_false, Nat.reduceLT, Nat.reduceEqDiff, ↓sO, ↓WOps_g, sG, opV, loudV, cellsOf, strOp, evL, Nat.reduceAdd, beq_self_eq_true, bne_self_eq_false, Int.reduceBEq, Int.reduceBNe, len_strN, bs_mk, gt_iff_lt, hix, wrapI (x := (t : Int) + 1) (by omega) (by omega), decide_true, decide_false]
                refine hN26 _ ?_; try clear hN26 hD26 N26
                refine WC_ret ?_; (try simp only [Exit.after, Exit.out]); refine Kend_ret (by simp only [resOf, resL, resV, mkS_get, slots_get, cellsOf, ti3, sS, ↓sT, if_true, if_false, Nat.reduceLT, Nat.reduceEqDiff]; rfl) (by first | rfl | (simp only [ti3]; done) | (simp only [ti3, okV, ok1, okC, okP, List.all_cons, List.all_nil, Bool.and_true]; done)) ?_
                clear hN11 hD11 N11 hN6 hD6 N6
                rw [keep_bool, nameB_cons hc]
                first
                | (exfalso; have := of_decide_eq_true hg3_3; omega)
                | (refine congrArg V.bool (name_leaf hc2 h0 ?_ ?_).symm
                   · first | (simp_all [letterB]; done) | (simp_all [letterB]; omega)
                   · first | (right; simp_all; done) | (left; simp_all [digitB]; done) | (left; simp_all [digitB]; omega))
                | (simp_all; done)
                | (simp_all; omega)
              · refine WC_skip ?_
                refine hN11 _ ?_; try clear hN11 hD11 N11
                refine WC_regN (fun N27 hN27 => ?_)
                simp only [sS, ↓sT, if_true, if_false, Nat.reduceLT, Nat.reduceEqDiff, ↓sO, ↓WOps_g, sG, opV, loudV, cellsOf, strOp, evL, Nat.reduceAdd, beq_self_eq_true, bne_self_eq_false, Int.reduceBEq, Int.reduceBNe, len_strN, bs_mk, gt_iff_lt, hix, wrapI (x := (t : Int) + 1) (by omega) (by omega), decide_true, decide_false]
                refine hN27 _ ?_; try clear hN27 N27
                refine ⟨t + 1, ⟨_, rfl, ⟨rfl, rfl, trivial⟩, ht, ?_, fun _ => ?_⟩, by omega⟩
                · rw [all_take hc2, htk]; simp_all [signB, digitB, letterB] <;> omega
                · rcases Nat.eq_zero_or_pos t with h | h
                  · obtain rfl := h0 h; first | (simp_all [letterB]; done) | (simp_all [letterB] <;> omega)
                  · exact hhead h
            · simp only [sS, ↓sT, if_true, if_false, Nat.reduceLT, Nat.reduceEqDiff, ↓sO, ↓WOps_g, sG, opV, loudV, cellsOf, strOp, evL, Nat.reduceAdd, beq_self_eq_true, bne_self_eq_false, Int.reduceBEq, Int.reduceBNe, len_strN, bs_mk, gt_iff_lt, hix, wrapI (x := (t : Int) + 1) (by omega) (by omega), hg24_5, decide_true, decide_false]
              refine hN24 _ ?_; try clear hN24 hD24 N24
              refine WC_condE ?_
              simp only [sS, ↓sT, if_true, if_false, Nat.reduceLT, Nat.reduceEqDiff, ↓stepC_bool]
              refine ⟨fun hb => ?_, fun hb => (by cases hb)⟩
              refine WC_seqR (fun N28 hN28 hD28 => ?_)
              simp only [sS, ↓sT, if_true, if_false, Nat.reduceLT, Nat.reduceEqDiff, ↓sO, ↓WOps_g, sG, opV, loudV, cellsOf, strOp, evL, Nat.reduceAdd, beq_self_eq_true, bne_self_eq_false, Int.reduceBEq, Int.reduceBNe, len_strN, bs_mk, gt_iff_lt, hix, wrapI (x := (t : Int) + 1) (by omega) (by omega), decide_true, decide_false]
              refine hN28 _ ?_; try clear hN28 hD28 N28
              refine WC_ret ?_; (try simp only [Exit.after, Exit.out]); refine Kend_ret (by simp only [resOf, resL, resV, mkS_get, slots_get, cellsOf, ti3, sS, ↓sT, if_true, if_false, Nat.reduceLT, Nat.reduceEqDiff]; rfl) (by first | rfl | (simp only [ti3]; done) | (simp only [ti3, okV, ok1, okC, okP, List.all_cons, List.all_nil, Bool.and_true]; done)) ?_
              clear hN11 hD11 N11 hN6 hD6 N6
              rw [keep_bool, nameB_cons hc]
              first
              | (exfalso; have := of_decide_eq_true hg3_3; omega)
              | (refine congrArg V.bool (name_leaf hc2 h0 ?_ ?_).symm
                 · first | (simp_all [letterB]; done) | (simp_all [letterB]; omega)
                 · first | (right; simp_all; done) | (left; simp_all [digitB]; done) | (left; simp_all [digitB]; omega))
              | (simp_all; done)
              | (simp_all; omega)
          · simp only [sS, ↓sT, if_true, if_false, Nat.reduceLT, Nat.reduceEqDiff, ↓sO, ↓WOps_g, sG, opV, loudV, cellsOf, strOp, evL, Nat.reduceAdd, beq_self_eq_true, bne_self_eq_false, Int.reduceBEq, Int.reduceBNe, ti9, len_strN, bs_mk, gt_iff_lt, hix, wrapI (x := (t : Int) + 1) (by omega) (by omega), hg23_4, decide_true, decide_false]
            refine hN23 _ ?_; try clear hN23 hD23 N23
            refine WC_seqR (fun N29 hN29 hD29 => ?_)
            simp only [sS, ↓sT, if_true, if_false, Nat.reduceLT, Nat.reduceEqDiff, ↓sO, ↓WOps_g, sG, opV, loudV, cellsOf, strOp, evL, Nat.reduceAdd, beq_self_eq_true, bne_self_eq_false, Int.reduceBEq, Int.reduceBNe, len_strN, bs_mk, gt_iff_lt, hix, wrapI (x := (t : Int) + 1) (by omega) (by omega), decide_true, decide_false]
            refine hN29 _ ?_; try clear hN29 hD29 N29
            refine WC_condE ?_
            simp only [sS, ↓sT, if_true, if_false, Nat.reduceLT, Nat.reduceEqDiff, ↓stepC_bool]
            refine ⟨fun hb => ?_, fun hb => (by cases hb)⟩
            refine WC_seqR (fun N30 hN30 hD30 => ?_)
            simp only [sS, ↓sT, if_true, if_false, Nat.reduceLT, Nat.reduceEqDiff, ↓sO, ↓WOps_g, sG, opV, loudV, cellsOf, strOp, evL, Nat.reduceAdd, beq_self_eq_true, bne_self_eq_false, Int.reduceBEq, Int.reduceBNe, len_strN, bs_mk, gt_iff_lt, hix, wrapI (x := (t : Int) + 1) (by omega) (by omega), decide_true, decide_false]
            refine hN30 _ ?_; try clear hN30 hD30 N30
            refine WC_ret ?_; (try simp only [Exit.after, Exit.out]); refine Kend_ret (by simp only [resOf, resL, resV, mkS_get, slots_get, cellsOf, ti3, sS, ↓sT, if_true, if_false, Nat.reduceLT, Nat.reduceEqDiff]; rfl) (by first | rfl | (simp only [ti3]; done) | (simp only [ti3, okV, ok1, okC, okP, List.all_cons, List.all_nil, Bool.and_true]; done)) ?_
            clear hN11 hD11 N11 hN6 hD6 N6
            rw [keep_bool, nameB_cons hc]
            first
            | (exfalso; have := of_decide_eq_true hg3_3; omega)
            | (refine congrArg V.bool (name_leaf hc2 h0 ?_ ?_).symm
               · first | (simp_all [letterB]; done) | (simp_all [letterB]; omega)
               · first | (right; simp_all; done) | (left; simp_all [digitB]; done) | (left; simp_all [digitB]; omega))
            | (simp_all; done)
            | (simp_all; omega)
      · have ht : t = s.length := by have := of_decide_eq_false hb10; omega
        have hhd := hhead (by omega)
        clear hb10
        refine WC_exit ?_
        refine hN6 _ ?_; try clear hN6 hD6 N6
        refine WC_seqR (fun N31 hN31 hD31 => ?_)
        simp only [sS, ↓sT, if_true, if_false, Nat.reduceLT, Nat.reduceEqDiff, ↓sO, ↓WOps_g, sG, opV, loudV, cellsOf, strOp, evL, Nat.reduceAdd, beq_self_eq_true, bne_self_eq_false, Int.reduceBEq, Int.reduceBNe, len_strN, bs_mk, gt_iff_lt, decide_true, decide_false]
        refine hN31 _ ?_; try clear hN31 hD31 N31
        refine WC_ret ?_; (try simp only [Exit.after, Exit.out]); refine Kend_ret (by simp only [resOf, resL, resV, mkS_get, slots_get, cellsOf, ti3, sS, ↓sT, if_true, if_false, Nat.reduceLT, Nat.reduceEqDiff]; rfl) (by first | rfl | (simp only [ti3]; done) | (simp only [ti3, okV, ok1, okC, okP, List.all_cons, List.all_nil, Bool.and_true]; done)) ?_
        clear hN8 hD8 N8
        rw [keep_bool, nameB_cons hc]
        first
        | (exfalso; have := of_decide_eq_true hg3_3; omega)
        | (refine congrArg V.bool (name_leaf hc2 h0 ?_ ?_).symm
           · first | (simp_all [letterB]; done) | (simp_all [letterB]; omega)
           · first | (right; simp_all; done) | (left; simp_all [digitB]; done) | (left; simp_all [digitB]; omega))
        | (simp_all; done)
        | (simp_all; omega)
  · simp only [sS, ↓sT, if_true, if_false, Nat.reduceLT, Nat.reduceEqDiff, ↓sO, ↓WOps_g, sG, opV, loudV, cellsOf, strOp, evL, Nat.reduceAdd, beq_self_eq_true, bne_self_eq_false, Int.reduceBEq, Int.reduceBNe, ti9, len_strN, bs_mk, gt_iff_lt, hg3_3, decide_true, decide_false]
    refine hN3 _ ?_; try clear hN3 hD3 N3
    refine WC_condE ?_
    simp only [sS, ↓sT, if_true, if_false, Nat.reduceLT, Nat.reduceEqDiff, ↓stepC_bool]
    refine ⟨fun hb => ?_, fun hb => (by cases hb)⟩
    refine WC_seqR (fun N32 hN32 hD32 => ?_)
    simp only [sS, ↓sT, if_true, if_false, Nat.reduceLT, Nat.reduceEqDiff, ↓sO, ↓WOps_g, sG, opV, loudV, cellsOf, strOp, evL, Nat.reduceAdd, beq_self_eq_true, bne_self_eq_false, Int.reduceBEq, Int.reduceBNe, len_strN, bs_mk, gt_iff_lt, decide_true, decide_false]
    refine hN32 _ ?_; try clear hN32 hD32 N32
    refine WC_ret ?_; (try simp only [Exit.after, Exit.out]); refine Kend_ret (by simp only [resOf, resL, resV, mkS_get, slots_get, cellsOf, ti3, sS, ↓sT, if_true, if_false, Nat.reduceLT, Nat.reduceEqDiff]; rfl) (by first | rfl | (simp only [ti3]; done) | (simp only [ti3, okV, ok1, okC, okP, List.all_cons, List.all_nil, Bool.and_true]; done)) ?_
    clear hN2 hD2 N2
    rw [keep_bool, nameB_cons hc]
    first
    | (exfalso; have := of_decide_eq_true hg3_3; omega)
    | (refine congrArg V.bool (name_leaf hc2 h0 ?_ ?_).symm
       · first | (simp_all [letterB]; done) | (simp_all [letterB]; omega)
       · first | (right; simp_all; done) | (left; simp_all [digitB]; done) | (left; simp_all [digitB]; omega))
    | (simp_all; done)
    | (simp_all; omega)
theorem c_refname (s : List UInt8) : VC Try.prog 66 [.str s] [] (fun r _ => r = .bool (nameB s)) := by
  cases s with
  | nil => exact VC_closed (tab := tab) 10000 20 mixed names tabOk rfl rfl rfl rfl (by kernel_rfl)
  | cons c s => exact c_punnet_punnetref05_Name _ c rfl
end Go.PV
/- Places of fields. -/
namespace Go.PV
open Go.Proofs
set_option linter.unusedVariables false
set_option linter.unusedSimpArgs false
set_option maxRecDepth 10000
set_option maxHeartbeats 1000000

def refW (s : Int) (g n : List UInt8) : V := .agg [.int .i64 s, .str g, .str n]
theorem ref_cells (s : Int) (g n : List UInt8) : (refW s g n).cells = [.int .i64 s, .str g, .str n] := rfl
theorem ref_bare (s : Int) (g n : List UInt8) : (refW s g n).bare = refW s g n := rfl
theorem ref_noP (s : Int) (g n : List UInt8) : (refW s g n).noP = true := rfl
theorem ref_toks (s : Int) (g n : List UInt8) : (refW s g n).toks = [] := rfl
theorem ref_isC (s : Int) (g n : List UInt8) : ([.int .i64 s, .str g, .str n] : List V).all V.isCell = true := rfl
theorem ref_full (a b c d e f : V) : wrL [a, b, c] 0 [d, e, f] = [d, e, f] := rfl
theorem ref_load {l : List (Nat × TypeId)} {b : Nat} {z : Option (List V)} {s : Int} {g n : List UInt8} {rest : List V} : loadV ⟨.struct l, 3, b, z⟩ (.int .i64 s :: .str g :: .str n :: rest) = some (refW s g n) := by simp [loadV, TD.agg, refW]
theorem ref_fold (s : Int) (g n : List UInt8) : V.agg [.int .i64 s, .str g, .str n] = refW s g n := rfl
theorem ref_eql (s s' : Int) (g n g' n' : List UInt8) : binV Try.prog .eql 47 (refW s g n) (refW s' g' n') = some (.bool ((s == s') && ((g == g') && (n == n')))) := by
  simp [binV, eqlV, refW, ti47, eqK47, cellsEq, cellEq]
theorem ref_neq (s s' : Int) (g n g' n' : List UInt8) : binV Try.prog .neq 47 (refW s g n) (refW s' g' n') = some (.bool (!((s == s') && ((g == g') && (n == n'))))) := by
  simp [binV, eqlV, refW, ti47, eqK47, cellsEq, cellEq]
def placeB (s : Int) (g n : List UInt8) : Bool := (decide (s = 0) || decide (s = 1)) && (nameB n && (g == [] || nameB g))
theorem place_scope (s : Int) : (decide (s = 0) || decide (s = 1)) = (decide (0 ≤ s) && decide (s ≤ 1)) := by
  rw [Bool.eq_iff_iff]; simp; omega
theorem c_punnet_field_Place (s : Int) (g n0 : List UInt8) : VC Try.prog 59 [refW s g n0] [] (fun r _ => r = .bool (placeB s g n0)) := by
  refine VC_enter (nt := 28) (rs := [.tmp 2]) (ow := []) (m := 0) Try.func59 rfl (by rfl) rfl rfl (by simp) rfl rfl (fun n => ?_)
  simp only [zipT, Nat.zero_add]
  refine WC_seqR (fun N1 hN1 hD1 => ?_)
  simp only [sS, ↓sT, if_true, if_false, Nat.reduceLT, Nat.reduceEqDiff, ↓sO, ↓WOps_g, sG, opV, loudV, cellsOf, strOp, evL, Nat.reduceAdd, beq_self_eq_true, bne_self_eq_false, Int.reduceBEq, Int.reduceBNe, len_strN, bs_mk, gt_iff_lt, ref_cells, ref_isC, ref_full, load_str, load_int, int_load, ti47, decide_true, decide_false]
  refine hN1 _ ?_; try clear hN1 hD1 N1
  refine WC_seqR (fun N2 hN2 hD2 => ?_)
  simp only [sS, ↓sT, if_true, if_false, Nat.reduceLT, Nat.reduceEqDiff, ↓sO, ↓WOps_g, sG, opV, loudV, cellsOf, strOp, evL, Nat.reduceAdd, beq_self_eq_true, bne_self_eq_false, Int.reduceBEq, Int.reduceBNe, fa47_0, fr47_0, fv47_0, ti3, len_strN, bs_mk, gt_iff_lt, ref_cells, ref_isC, ref_full, load_str, load_int, int_load, ti47, decide_true, decide_false]
  refine stepB_F (fun hg2_3 => ?_) (fun hg2_3 => ?_)
  · simp only [sS, ↓sT, if_true, if_false, Nat.reduceLT, Nat.reduceEqDiff, ↓sO, ↓WOps_g, sG, opV, loudV, cellsOf, strOp, evL, Nat.reduceAdd, beq_self_eq_true, bne_self_eq_false, Int.reduceBEq, Int.reduceBNe, fa47_0, fr47_0, fv47_0, ti3, len_strN, bs_mk, gt_iff_lt, ref_cells, ref_isC, ref_full, load_str, load_int, int_load, ti47, hg2_3, decide_true, decide_false]
    refine hN2 _ ?_; try clear hN2 hD2 N2
    refine WC_seqR (fun N3 hN3 hD3 => ?_)
    simp only [sS, ↓sT, if_true, if_false, Nat.reduceLT, Nat.reduceEqDiff, ↓sO, ↓WOps_g, sG, opV, loudV, cellsOf, strOp, evL, Nat.reduceAdd, beq_self_eq_true, bne_self_eq_false, Int.reduceBEq, Int.reduceBNe, fa47_2, fr47_2, fv47_2, ti9, fa47_1, fr47_1, fv47_1, len_strN, bs_mk, gt_iff_lt, ref_cells, ref_isC, ref_full, load_str, load_int, int_load, ti47, decide_true, decide_false]
    refine stepB_T (fun hg3_1 => ?_) (fun hg3_1 => ?_)
    · simp only [sS, ↓sT, if_true, if_false, Nat.reduceLT, Nat.reduceEqDiff, ↓sO, ↓WOps_g, sG, opV, loudV, cellsOf, strOp, evL, Nat.reduceAdd, beq_self_eq_true, bne_self_eq_false, Int.reduceBEq, Int.reduceBNe, fa47_2, fr47_2, fv47_2, ti9, fa47_1, fr47_1, fv47_1, len_strN, bs_mk, gt_iff_lt, ref_cells, ref_isC, ref_full, load_str, load_int, int_load, ti47, hg3_1, decide_true, decide_false]
      refine WOps_callP (c_name _) (by simp only [ev_func]) (by simp only [evL, sS, ↓sT, if_true, if_false, Nat.reduceLT, Nat.reduceEqDiff]; rfl) (by first | rfl | (simp only [List.map, bare_int]; done) | (simp only [List.map, bare_int]; exact rfl)) (by first | rfl | simp [noP_int]) (by first | rfl | simp [noP_int]) rfl ?_
      simp only [sS, ↓sT, if_true, if_false, Nat.reduceLT, Nat.reduceEqDiff, ↓sO, ↓WOps_g, sG, opV, loudV, cellsOf, strOp, evL, Nat.reduceAdd, beq_self_eq_true, bne_self_eq_false, Int.reduceBEq, Int.reduceBNe, fa47_2, fr47_2, fv47_2, ti9, fa47_1, fr47_1, fv47_1, len_strN, bs_mk, gt_iff_lt, ref_cells, ref_isC, ref_full, load_str, load_int, int_load, ti47, hg3_1, decide_true, decide_false]
      refine stepB_T (fun hg3_6 => ?_) (fun hg3_6 => ?_)
      · simp only [sS, ↓sT, if_true, if_false, Nat.reduceLT, Nat.reduceEqDiff, ↓sO, ↓WOps_g, sG, opV, loudV, cellsOf, strOp, evL, Nat.reduceAdd, beq_self_eq_true, bne_self_eq_false, Int.reduceBEq, Int.reduceBNe, fa47_2, fr47_2, fv47_2, ti9, fa47_1, fr47_1, fv47_1, len_strN, bs_mk, gt_iff_lt, ref_cells, ref_isC, ref_full, load_str, load_int, int_load, ti47, hg3_1, hg3_6, decide_true, decide_false]
        refine stepB_F (fun hg3_10 => ?_) (fun hg3_10 => ?_)
        · simp only [sS, ↓sT, if_true, if_false, Nat.reduceLT, Nat.reduceEqDiff, ↓sO, ↓WOps_g, sG, opV, loudV, cellsOf, strOp, evL, Nat.reduceAdd, beq_self_eq_true, bne_self_eq_false, Int.reduceBEq, Int.reduceBNe, fa47_2, fr47_2, fv47_2, ti9, fa47_1, fr47_1, fv47_1, len_strN, bs_mk, gt_iff_lt, ref_cells, ref_isC, ref_full, load_str, load_int, int_load, ti47, hg3_1, hg3_6, hg3_10, decide_true, decide_false]
          refine WOps_callP (c_name _) (by simp only [ev_func]) (by simp only [evL, sS, ↓sT, if_true, if_false, Nat.reduceLT, Nat.reduceEqDiff]; rfl) (by first | rfl | (simp only [List.map, bare_int]; done) | (simp only [List.map, bare_int]; exact rfl)) (by first | rfl | simp [noP_int]) (by first | rfl | simp [noP_int]) rfl ?_
          simp only [sS, ↓sT, if_true, if_false, Nat.reduceLT, Nat.reduceEqDiff, ↓sO, ↓WOps_g, sG, opV, loudV, cellsOf, strOp, evL, Nat.reduceAdd, beq_self_eq_true, bne_self_eq_false, Int.reduceBEq, Int.reduceBNe, fa47_2, fr47_2, fv47_2, ti9, fa47_1, fr47_1, fv47_1, len_strN, bs_mk, gt_iff_lt, ref_cells, ref_isC, ref_full, load_str, load_int, int_load, ti47, hg3_1, hg3_6, hg3_10, decide_true, decide_false]
          refine hN3 _ ?_; try clear hN3 hD3 N3
          refine WC_ret ?_; (try simp only [Exit.after, Exit.out]); refine Kend_ret (by simp only [resOf, resL, resV, mkS_get, slots_get, cellsOf, ti3, sS, ↓sT, if_true, if_false, Nat.reduceLT, Nat.reduceEqDiff]; rfl) (by first | rfl | (simp only [ti3]; done) | (simp only [ti3, okV, ok1, okC, okP, List.all_cons, List.all_nil, Bool.and_true]; done)) ?_
          (simp_all [placeB, keep_bool] <;> omega)
        · simp only [sS, ↓sT, if_true, if_false, Nat.reduceLT, Nat.reduceEqDiff, ↓sO, ↓WOps_g, sG, opV, loudV, cellsOf, strOp, evL, Nat.reduceAdd, beq_self_eq_true, bne_self_eq_false, Int.reduceBEq, Int.reduceBNe, fa47_2, fr47_2, fv47_2, ti9, fa47_1, fr47_1, fv47_1, len_strN, bs_mk, gt_iff_lt, ref_cells, ref_isC, ref_full, load_str, load_int, int_load, ti47, hg3_1, hg3_6, hg3_10, decide_true, decide_false]
          refine hN3 _ ?_; try clear hN3 hD3 N3
          refine WC_ret ?_; (try simp only [Exit.after, Exit.out]); refine Kend_ret (by simp only [resOf, resL, resV, mkS_get, slots_get, cellsOf, ti3, sS, ↓sT, if_true, if_false, Nat.reduceLT, Nat.reduceEqDiff]; rfl) (by first | rfl | (simp only [ti3]; done) | (simp only [ti3, okV, ok1, okC, okP, List.all_cons, List.all_nil, Bool.and_true]; done)) ?_
          (simp_all [placeB, keep_bool] <;> omega)
      · simp only [sS, ↓sT, if_true, if_false, Nat.reduceLT, Nat.reduceEqDiff, ↓sO, ↓WOps_g, sG, opV, loudV, cellsOf, strOp, evL, Nat.reduceAdd, beq_self_eq_true, bne_self_eq_false, Int.reduceBEq, Int.reduceBNe, fa47_2, fr47_2, fv47_2, ti9, fa47_1, fr47_1, fv47_1, len_strN, bs_mk, gt_iff_lt, ref_cells, ref_isC, ref_full, load_str, load_int, int_load, ti47, hg3_1, hg3_6, decide_true, decide_false]
        refine hN3 _ ?_; try clear hN3 hD3 N3
        refine WC_ret ?_; (try simp only [Exit.after, Exit.out]); refine Kend_ret (by simp only [resOf, resL, resV, mkS_get, slots_get, cellsOf, ti3, sS, ↓sT, if_true, if_false, Nat.reduceLT, Nat.reduceEqDiff]; rfl) (by first | rfl | (simp only [ti3]; done) | (simp only [ti3, okV, ok1, okC, okP, List.all_cons, List.all_nil, Bool.and_true]; done)) ?_
        (simp_all [placeB, keep_bool] <;> omega)
    · simp only [sS, ↓sT, if_true, if_false, Nat.reduceLT, Nat.reduceEqDiff, ↓sO, ↓WOps_g, sG, opV, loudV, cellsOf, strOp, evL, Nat.reduceAdd, beq_self_eq_true, bne_self_eq_false, Int.reduceBEq, Int.reduceBNe, fa47_2, fr47_2, fv47_2, ti9, fa47_1, fr47_1, fv47_1, len_strN, bs_mk, gt_iff_lt, ref_cells, ref_isC, ref_full, load_str, load_int, int_load, ti47, hg3_1, decide_true, decide_false]
      refine hN3 _ ?_; try clear hN3 hD3 N3
      refine WC_ret ?_; (try simp only [Exit.after, Exit.out]); refine Kend_ret (by simp only [resOf, resL, resV, mkS_get, slots_get, cellsOf, ti3, sS, ↓sT, if_true, if_false, Nat.reduceLT, Nat.reduceEqDiff]; rfl) (by first | rfl | (simp only [ti3]; done) | (simp only [ti3, okV, ok1, okC, okP, List.all_cons, List.all_nil, Bool.and_true]; done)) ?_
      (simp_all [placeB, keep_bool] <;> omega)
  · simp only [sS, ↓sT, if_true, if_false, Nat.reduceLT, Nat.reduceEqDiff, ↓sO, ↓WOps_g, sG, opV, loudV, cellsOf, strOp, evL, Nat.reduceAdd, beq_self_eq_true, bne_self_eq_false, Int.reduceBEq, Int.reduceBNe, fa47_0, fr47_0, fv47_0, ti3, len_strN, bs_mk, gt_iff_lt, ref_cells, ref_isC, ref_full, load_str, load_int, int_load, ti47, hg2_3, decide_true, decide_false]
    refine hN2 _ ?_; try clear hN2 hD2 N2
    refine WC_seqR (fun N4 hN4 hD4 => ?_)
    simp only [sS, ↓sT, if_true, if_false, Nat.reduceLT, Nat.reduceEqDiff, ↓sO, ↓WOps_g, sG, opV, loudV, cellsOf, strOp, evL, Nat.reduceAdd, beq_self_eq_true, bne_self_eq_false, Int.reduceBEq, Int.reduceBNe, fa47_2, fr47_2, fv47_2, ti9, fa47_1, fr47_1, fv47_1, len_strN, bs_mk, gt_iff_lt, ref_cells, ref_isC, ref_full, load_str, load_int, int_load, ti47, decide_true, decide_false]
    refine WOps_callP (c_name _) (by simp only [ev_func]) (by simp only [evL, sS, ↓sT, if_true, if_false, Nat.reduceLT, Nat.reduceEqDiff]; rfl) (by first | rfl | (simp only [List.map, bare_int]; done) | (simp only [List.map, bare_int]; exact rfl)) (by first | rfl | simp [noP_int]) (by first | rfl | simp [noP_int]) rfl ?_
    simp only [sS, ↓sT, if_true, if_false, Nat.reduceLT, Nat.reduceEqDiff, ↓sO, ↓WOps_g, sG, opV, loudV, cellsOf, strOp, evL, Nat.reduceAdd, beq_self_eq_true, bne_self_eq_false, Int.reduceBEq, Int.reduceBNe, fa47_2, fr47_2, fv47_2, ti9, fa47_1, fr47_1, fv47_1, len_strN, bs_mk, gt_iff_lt, ref_cells, ref_isC, ref_full, load_str, load_int, int_load, ti47, decide_true, decide_false]
    refine stepB_T (fun hg4_6 => ?_) (fun hg4_6 => ?_)
    · simp only [sS, ↓sT, if_true, if_false, Nat.reduceLT, Nat.reduceEqDiff, ↓sO, ↓WOps_g, sG, opV, loudV, cellsOf, strOp, evL, Nat.reduceAdd, beq_self_eq_true, bne_self_eq_false, Int.reduceBEq, Int.reduceBNe, fa47_2, fr47_2, fv47_2, ti9, fa47_1, fr47_1, fv47_1, len_strN, bs_mk, gt_iff_lt, ref_cells, ref_isC, ref_full, load_str, load_int, int_load, ti47, hg4_6, decide_true, decide_false]
      refine stepB_F (fun hg4_10 => ?_) (fun hg4_10 => ?_)
      · simp only [sS, ↓sT, if_true, if_false, Nat.reduceLT, Nat.reduceEqDiff, ↓sO, ↓WOps_g, sG, opV, loudV, cellsOf, strOp, evL, Nat.reduceAdd, beq_self_eq_true, bne_self_eq_false, Int.reduceBEq, Int.reduceBNe, fa47_2, fr47_2, fv47_2, ti9, fa47_1, fr47_1, fv47_1, len_strN, bs_mk, gt_iff_lt, ref_cells, ref_isC, ref_full, load_str, load_int, int_load, ti47, hg4_6, hg4_10, decide_true, decide_false]
        refine WOps_callP (c_name _) (by simp only [ev_func]) (by simp only [evL, sS, ↓sT, if_true, if_false, Nat.reduceLT, Nat.reduceEqDiff]; rfl) (by first | rfl | (simp only [List.map, bare_int]; done) | (simp only [List.map, bare_int]; exact rfl)) (by first | rfl | simp [noP_int]) (by first | rfl | simp [noP_int]) rfl ?_
        simp only [sS, ↓sT, if_true, if_false, Nat.reduceLT, Nat.reduceEqDiff, ↓sO, ↓WOps_g, sG, opV, loudV, cellsOf, strOp, evL, Nat.reduceAdd, beq_self_eq_true, bne_self_eq_false, Int.reduceBEq, Int.reduceBNe, fa47_2, fr47_2, fv47_2, ti9, fa47_1, fr47_1, fv47_1, len_strN, bs_mk, gt_iff_lt, ref_cells, ref_isC, ref_full, load_str, load_int, int_load, ti47, hg4_6, hg4_10, decide_true, decide_false]
        refine hN4 _ ?_; try clear hN4 hD4 N4
        refine WC_ret ?_; (try simp only [Exit.after, Exit.out]); refine Kend_ret (by simp only [resOf, resL, resV, mkS_get, slots_get, cellsOf, ti3, sS, ↓sT, if_true, if_false, Nat.reduceLT, Nat.reduceEqDiff]; rfl) (by first | rfl | (simp only [ti3]; done) | (simp only [ti3, okV, ok1, okC, okP, List.all_cons, List.all_nil, Bool.and_true]; done)) ?_
        (simp_all [placeB, keep_bool] <;> omega)
      · simp only [sS, ↓sT, if_true, if_false, Nat.reduceLT, Nat.reduceEqDiff, ↓sO, ↓WOps_g, sG, opV, loudV, cellsOf, strOp, evL, Nat.reduceAdd, beq_self_eq_true, bne_self_eq_false, Int.reduceBEq, Int.reduceBNe, fa47_2, fr47_2, fv47_2, ti9, fa47_1, fr47_1, fv47_1, len_strN, bs_mk, gt_iff_lt, ref_cells, ref_isC, ref_full, load_str, load_int, int_load, ti47, hg4_6, hg4_10, decide_true, decide_false]
        refine hN4 _ ?_; try clear hN4 hD4 N4
        refine WC_ret ?_; (try simp only [Exit.after, Exit.out]); refine Kend_ret (by simp only [resOf, resL, resV, mkS_get, slots_get, cellsOf, ti3, sS, ↓sT, if_true, if_false, Nat.reduceLT, Nat.reduceEqDiff]; rfl) (by first | rfl | (simp only [ti3]; done) | (simp only [ti3, okV, ok1, okC, okP, List.all_cons, List.all_nil, Bool.and_true]; done)) ?_
        (simp_all [placeB, keep_bool] <;> omega)
    · simp only [sS, ↓sT, if_true, if_false, Nat.reduceLT, Nat.reduceEqDiff, ↓sO, ↓WOps_g, sG, opV, loudV, cellsOf, strOp, evL, Nat.reduceAdd, beq_self_eq_true, bne_self_eq_false, Int.reduceBEq, Int.reduceBNe, fa47_2, fr47_2, fv47_2, ti9, fa47_1, fr47_1, fv47_1, len_strN, bs_mk, gt_iff_lt, ref_cells, ref_isC, ref_full, load_str, load_int, int_load, ti47, hg4_6, decide_true, decide_false]
      refine hN4 _ ?_; try clear hN4 hD4 N4
      refine WC_ret ?_; (try simp only [Exit.after, Exit.out]); refine Kend_ret (by simp only [resOf, resL, resV, mkS_get, slots_get, cellsOf, ti3, sS, ↓sT, if_true, if_false, Nat.reduceLT, Nat.reduceEqDiff]; rfl) (by first | rfl | (simp only [ti3]; done) | (simp only [ti3, okV, ok1, okC, okP, List.all_cons, List.all_nil, Bool.and_true]; done)) ?_
      (simp_all [placeB, keep_bool] <;> omega)
theorem c_punnet_punnetref13_Place (s : Int) (g n0 : List UInt8) : VC Try.prog 69 [refW s g n0] [] (fun r _ => r = .bool (placeB s g n0)) := by
  refine VC_enter (nt := 27) (rs := [.tmp 2]) (ow := []) (m := 0) Try.func69 rfl (by rfl) rfl rfl (by simp) rfl rfl (fun n => ?_)
  simp only [zipT, Nat.zero_add]
  refine WC_seqR (fun N1 hN1 hD1 => ?_)
  simp only [sS, ↓sT, if_true, if_false, Nat.reduceLT, Nat.reduceEqDiff, ↓sO, ↓WOps_g, sG, opV, loudV, cellsOf, strOp, evL, Nat.reduceAdd, beq_self_eq_true, bne_self_eq_false, Int.reduceBEq, Int.reduceBNe, len_strN, bs_mk, gt_iff_lt, ref_cells, ref_isC, ref_full, load_str, load_int, int_load, ti47, decide_true, decide_false]
  refine hN1 _ ?_; try clear hN1 hD1 N1
  refine WC_seqR (fun N2 hN2 hD2 => ?_)
  simp only [sS, ↓sT, if_true, if_false, Nat.reduceLT, Nat.reduceEqDiff, ↓sO, ↓WOps_g, sG, opV, loudV, cellsOf, strOp, evL, Nat.reduceAdd, beq_self_eq_true, bne_self_eq_false, Int.reduceBEq, Int.reduceBNe, fa47_0, fr47_0, fv47_0, ti3, fa47_2, fr47_2, fv47_2, ti9, fa47_1, fr47_1, fv47_1, len_strN, bs_mk, gt_iff_lt, ref_cells, ref_isC, ref_full, load_str, load_int, int_load, ti47, decide_true, decide_false]
  refine stepB_T (fun hg2_3 => ?_) (fun hg2_3 => ?_)
  · simp only [sS, ↓sT, if_true, if_false, Nat.reduceLT, Nat.reduceEqDiff, ↓sO, ↓WOps_g, sG, opV, loudV, cellsOf, strOp, evL, Nat.reduceAdd, beq_self_eq_true, bne_self_eq_false, Int.reduceBEq, Int.reduceBNe, fa47_0, fr47_0, fv47_0, ti3, fa47_2, fr47_2, fv47_2, ti9, fa47_1, fr47_1, fv47_1, len_strN, bs_mk, gt_iff_lt, ref_cells, ref_isC, ref_full, load_str, load_int, int_load, ti47, hg2_3, decide_true, decide_false]
    refine stepB_T (fun hg2_8 => ?_) (fun hg2_8 => ?_)
    · simp only [sS, ↓sT, if_true, if_false, Nat.reduceLT, Nat.reduceEqDiff, ↓sO, ↓WOps_g, sG, opV, loudV, cellsOf, strOp, evL, Nat.reduceAdd, beq_self_eq_true, bne_self_eq_false, Int.reduceBEq, Int.reduceBNe, fa47_0, fr47_0, fv47_0, ti3, fa47_2, fr47_2, fv47_2, ti9, fa47_1, fr47_1, fv47_1, len_strN, bs_mk, gt_iff_lt, ref_cells, ref_isC, ref_full, load_str, load_int, int_load, ti47, hg2_3, hg2_8, decide_true, decide_false]
      refine WOps_callP (c_refname _) (by simp only [ev_func]) (by simp only [evL, sS, ↓sT, if_true, if_false, Nat.reduceLT, Nat.reduceEqDiff]; rfl) (by first | rfl | (simp only [List.map, bare_int]; done) | (simp only [List.map, bare_int]; exact rfl)) (by first | rfl | simp [noP_int]) (by first | rfl | simp [noP_int]) rfl ?_
      simp only [sS, ↓sT, if_true, if_false, Nat.reduceLT, Nat.reduceEqDiff, ↓sO, ↓WOps_g, sG, opV, loudV, cellsOf, strOp, evL, Nat.reduceAdd, beq_self_eq_true, bne_self_eq_false, Int.reduceBEq, Int.reduceBNe, fa47_0, fr47_0, fv47_0, ti3, fa47_2, fr47_2, fv47_2, ti9, fa47_1, fr47_1, fv47_1, len_strN, bs_mk, gt_iff_lt, ref_cells, ref_isC, ref_full, load_str, load_int, int_load, ti47, hg2_3, hg2_8, decide_true, decide_false]
      refine stepB_T (fun hg2_13 => ?_) (fun hg2_13 => ?_)
      · simp only [sS, ↓sT, if_true, if_false, Nat.reduceLT, Nat.reduceEqDiff, ↓sO, ↓WOps_g, sG, opV, loudV, cellsOf, strOp, evL, Nat.reduceAdd, beq_self_eq_true, bne_self_eq_false, Int.reduceBEq, Int.reduceBNe, fa47_0, fr47_0, fv47_0, ti3, fa47_2, fr47_2, fv47_2, ti9, fa47_1, fr47_1, fv47_1, len_strN, bs_mk, gt_iff_lt, ref_cells, ref_isC, ref_full, load_str, load_int, int_load, ti47, hg2_3, hg2_8, hg2_13, decide_true, decide_false]
        refine stepB_F (fun hg2_18 => ?_) (fun hg2_18 => ?_)
        · simp only [sS, ↓sT, if_true, if_false, Nat.reduceLT, Nat.reduceEqDiff, ↓sO, ↓WOps_g, sG, opV, loudV, cellsOf, strOp, evL, Nat.reduceAdd, beq_self_eq_true, bne_self_eq_false, Int.reduceBEq, Int.reduceBNe, fa47_0, fr47_0, fv47_0, ti3, fa47_2, fr47_2, fv47_2, ti9, fa47_1, fr47_1, fv47_1, len_strN, bs_mk, gt_iff_lt, ref_cells, ref_isC, ref_full, load_str, load_int, int_load, ti47, hg2_3, hg2_8, hg2_13, hg2_18, decide_true, decide_false]
          refine WOps_callP (c_refname _) (by simp only [ev_func]) (by simp only [evL, sS, ↓sT, if_true, if_false, Nat.reduceLT, Nat.reduceEqDiff]; rfl) (by first | rfl | (simp only [List.map, bare_int]; done) | (simp only [List.map, bare_int]; exact rfl)) (by first | rfl | simp [noP_int]) (by first | rfl | simp [noP_int]) rfl ?_
          simp only [sS, ↓sT, if_true, if_false, Nat.reduceLT, Nat.reduceEqDiff, ↓sO, ↓WOps_g, sG, opV, loudV, cellsOf, strOp, evL, Nat.reduceAdd, beq_self_eq_true, bne_self_eq_false, Int.reduceBEq, Int.reduceBNe, fa47_0, fr47_0, fv47_0, ti3, fa47_2, fr47_2, fv47_2, ti9, fa47_1, fr47_1, fv47_1, len_strN, bs_mk, gt_iff_lt, ref_cells, ref_isC, ref_full, load_str, load_int, int_load, ti47, hg2_3, hg2_8, hg2_13, hg2_18, decide_true, decide_false]
          refine hN2 _ ?_; try clear hN2 hD2 N2
          refine WC_ret ?_; (try simp only [Exit.after, Exit.out]); refine Kend_ret (by simp only [resOf, resL, resV, mkS_get, slots_get, cellsOf, ti3, sS, ↓sT, if_true, if_false, Nat.reduceLT, Nat.reduceEqDiff]; rfl) (by first | rfl | (simp only [ti3]; done) | (simp only [ti3, okV, ok1, okC, okP, List.all_cons, List.all_nil, Bool.and_true]; done)) ?_
          rw [keep_bool, placeB, place_scope]
          first | (simp_all; done) | (simp_all; omega)
        · simp only [sS, ↓sT, if_true, if_false, Nat.reduceLT, Nat.reduceEqDiff, ↓sO, ↓WOps_g, sG, opV, loudV, cellsOf, strOp, evL, Nat.reduceAdd, beq_self_eq_true, bne_self_eq_false, Int.reduceBEq, Int.reduceBNe, fa47_0, fr47_0, fv47_0, ti3, fa47_2, fr47_2, fv47_2, ti9, fa47_1, fr47_1, fv47_1, len_strN, bs_mk, gt_iff_lt, ref_cells, ref_isC, ref_full, load_str, load_int, int_load, ti47, hg2_3, hg2_8, hg2_13, hg2_18, decide_true, decide_false]
          refine hN2 _ ?_; try clear hN2 hD2 N2
          refine WC_ret ?_; (try simp only [Exit.after, Exit.out]); refine Kend_ret (by simp only [resOf, resL, resV, mkS_get, slots_get, cellsOf, ti3, sS, ↓sT, if_true, if_false, Nat.reduceLT, Nat.reduceEqDiff]; rfl) (by first | rfl | (simp only [ti3]; done) | (simp only [ti3, okV, ok1, okC, okP, List.all_cons, List.all_nil, Bool.and_true]; done)) ?_
          rw [keep_bool, placeB, place_scope]
          first | (simp_all; done) | (simp_all; omega)
      · simp only [sS, ↓sT, if_true, if_false, Nat.reduceLT, Nat.reduceEqDiff, ↓sO, ↓WOps_g, sG, opV, loudV, cellsOf, strOp, evL, Nat.reduceAdd, beq_self_eq_true, bne_self_eq_false, Int.reduceBEq, Int.reduceBNe, fa47_0, fr47_0, fv47_0, ti3, fa47_2, fr47_2, fv47_2, ti9, fa47_1, fr47_1, fv47_1, len_strN, bs_mk, gt_iff_lt, ref_cells, ref_isC, ref_full, load_str, load_int, int_load, ti47, hg2_3, hg2_8, hg2_13, decide_true, decide_false]
        refine hN2 _ ?_; try clear hN2 hD2 N2
        refine WC_ret ?_; (try simp only [Exit.after, Exit.out]); refine Kend_ret (by simp only [resOf, resL, resV, mkS_get, slots_get, cellsOf, ti3, sS, ↓sT, if_true, if_false, Nat.reduceLT, Nat.reduceEqDiff]; rfl) (by first | rfl | (simp only [ti3]; done) | (simp only [ti3, okV, ok1, okC, okP, List.all_cons, List.all_nil, Bool.and_true]; done)) ?_
        rw [keep_bool, placeB, place_scope]
        first | (simp_all; done) | (simp_all; omega)
    · simp only [sS, ↓sT, if_true, if_false, Nat.reduceLT, Nat.reduceEqDiff, ↓sO, ↓WOps_g, sG, opV, loudV, cellsOf, strOp, evL, Nat.reduceAdd, beq_self_eq_true, bne_self_eq_false, Int.reduceBEq, Int.reduceBNe, fa47_0, fr47_0, fv47_0, ti3, fa47_2, fr47_2, fv47_2, ti9, fa47_1, fr47_1, fv47_1, len_strN, bs_mk, gt_iff_lt, ref_cells, ref_isC, ref_full, load_str, load_int, int_load, ti47, hg2_3, hg2_8, decide_true, decide_false]
      refine hN2 _ ?_; try clear hN2 hD2 N2
      refine WC_ret ?_; (try simp only [Exit.after, Exit.out]); refine Kend_ret (by simp only [resOf, resL, resV, mkS_get, slots_get, cellsOf, ti3, sS, ↓sT, if_true, if_false, Nat.reduceLT, Nat.reduceEqDiff]; rfl) (by first | rfl | (simp only [ti3]; done) | (simp only [ti3, okV, ok1, okC, okP, List.all_cons, List.all_nil, Bool.and_true]; done)) ?_
      rw [keep_bool, placeB, place_scope]
      first | (simp_all; done) | (simp_all; omega)
  · simp only [sS, ↓sT, if_true, if_false, Nat.reduceLT, Nat.reduceEqDiff, ↓sO, ↓WOps_g, sG, opV, loudV, cellsOf, strOp, evL, Nat.reduceAdd, beq_self_eq_true, bne_self_eq_false, Int.reduceBEq, Int.reduceBNe, fa47_0, fr47_0, fv47_0, ti3, fa47_2, fr47_2, fv47_2, ti9, fa47_1, fr47_1, fv47_1, len_strN, bs_mk, gt_iff_lt, ref_cells, ref_isC, ref_full, load_str, load_int, int_load, ti47, hg2_3, decide_true, decide_false]
    refine hN2 _ ?_; try clear hN2 hD2 N2
    refine WC_ret ?_; (try simp only [Exit.after, Exit.out]); refine Kend_ret (by simp only [resOf, resL, resV, mkS_get, slots_get, cellsOf, ti3, sS, ↓sT, if_true, if_false, Nat.reduceLT, Nat.reduceEqDiff]; rfl) (by first | rfl | (simp only [ti3]; done) | (simp only [ti3, okV, ok1, okC, okP, List.all_cons, List.all_nil, Bool.and_true]; done)) ?_
    rw [keep_bool, placeB, place_scope]
    first | (simp_all; done) | (simp_all; omega)
end Go.PV
