/- Vectors: dot.Right. -/
import Derived.Test.YtpgfcfojojemjaaDot0
namespace Go.PV
open Go.Proofs
set_option linter.unusedVariables false
set_option linter.unusedSimpArgs false
set_option maxRecDepth 10000

def rightB (v : List Int) : Bool := v.all fun n => decide (0 ≤ n) && decide (n ≤ 400)

theorem right_false {v : List Int} {i : Nat} {x : Int} (hx : v[i]? = some x) (h : x < 0 ∨ x > 400) : rightB v = false := by
  rw [rightB, List.all_eq_false]
  exact ⟨x, List.mem_of_getElem? hx, by simp; omega⟩
theorem right_true {v : List Int} (h : ∀ (k : Nat) y, v[k]? = some y → 0 ≤ y ∧ y ≤ 400) : rightB v = true := by
  rw [rightB, List.all_eq_true]
  intro x hx
  obtain ⟨k, hk⟩ := List.mem_iff_getElem?.1 hx
  have := h k x hk
  simp; omega
theorem right_iff {v : List Int} : rightB v = true ↔ ∀ (k : Nat) y, v[k]? = some y → 0 ≤ y ∧ y ≤ 400 := by
  refine ⟨fun h k y hy => ?_, right_true⟩
  have := List.all_eq_true.1 h y (List.mem_of_getElem? hy)
  simp at this; omega

theorem c_punnet_dot_Right (v : List Int) (hv : v.length = 6) : VC Try.prog 16 [vecV v] [] (fun r _ => r = .bool (rightB v)) := by
  refine VC_enter (nt := 16) (rs := [.tmp 2]) (ow := []) (m := 0) Try.func16 rfl (by rfl) rfl rfl (by simp) (by simp [ownOf, vec_toks]) rfl (fun n => ?_)
  simp only [zipT]
  refine WC_seq_k (fun N1 hN1 => ?_)
  refine WC_region ?_
  simp only [ev_tmp, ev_bool, ev_int, ev_func, ev_nilp, ev_nils, ev_nilf, look_cons, look_nil, put_some, put_none, ↓stepO_some, ↓stepL_some, ↓stepB_tt, ↓stepB_ff, ↓stepB_tf, ↓stepB_ft, Bool.false_eq_true, ↓stepB_skip, if_true, if_false, Nat.reduceLT, Nat.reduceEqDiff, gslot_mk, gsl_zero, gsl_succ, gval_some, bare_bool, bare_int, bare_str, bare_nils, bare_slice, bare_tup, bare1_bool, bare1_int, bare1_str, bare1_nils, bare1_slice, List.map_cons, List.map_nil, ↓WOps_box, ↓WOps_assign, ↓WOps_nil, loudV, opV, vec_cells, all_ints, List.nil_append, List.length_nil]
  refine hN1 _ ?_; clear hN1 N1
  refine WC_seq_k (fun N2 hN2 => ?_)
  refine WC_seq_k (fun N3 hN3 => ?_)
  refine WC_region ?_
  simp only [ev_tmp, ev_bool, ev_int, ev_func, ev_nilp, ev_nils, ev_nilf, look_cons, look_nil, put_some, put_none, ↓stepO_some, ↓stepL_some, ↓stepB_tt, ↓stepB_ff, ↓stepB_tf, ↓stepB_ft, Bool.false_eq_true, ↓stepB_skip, if_true, if_false, Nat.reduceLT, Nat.reduceEqDiff, gslot_mk, gsl_zero, gsl_succ, gval_some, bare_bool, bare_int, bare_str, bare_nils, bare_slice, bare_tup, bare1_bool, bare1_int, bare1_str, bare1_nils, bare1_slice, List.map_cons, List.map_nil, ↓WOps_load, ↓WOps_move, ↓WOps_nil, opV, cellsOf, ti23, List.getElem?_cons_zero, List.drop_zero, vec_load hv]
  refine hN3 _ ?_; clear hN3 N3
  refine WC_block ?_
  refine WC_loopG (σ := Nat) (fun i s => ∃ ps, s = ⟨mkS 16 ps, [v.map (V.int .i64)], [], n⟩ ∧ Has ps [(6, .int .i64 i), (5, vecV v)] ∧ i ≤ 6 ∧ ∀ k, k < i → ∀ y, v[k]? = some y → 0 ≤ y ∧ y ≤ 400) (fun t => 6 - t) 0 ?_ (fun i s hI => ?_)  -- LOOP writes [2, 4, 6, 7, 8, 9, 10, 11, 12, 13, 14, 15]
  · exact ⟨_, rfl, ⟨rfl, rfl, trivial⟩, by omega, fun k hk => by omega⟩
  obtain ⟨ps, rfl, hps, hi, hall⟩ := hI
  refine WC_has hps ?_; clear hps ps
  refine WC_seq_k (fun N4 hN4 => ?_)
  refine WC_region ?_
  simp only [ev_tmp, ev_bool, ev_int, ev_func, ev_nilp, ev_nils, ev_nilf, look_cons, look_nil, put_some, put_none, ↓stepO_some, ↓stepL_some, ↓stepB_tt, ↓stepB_ff, ↓stepB_tf, ↓stepB_ft, Bool.false_eq_true, ↓stepB_skip, if_true, if_false, Nat.reduceLT, Nat.reduceEqDiff, gslot_mk, gsl_zero, gsl_succ, gval_some, bare_bool, bare_int, bare_str, bare_nils, bare_slice, bare_tup, bare1_bool, bare1_int, bare1_str, bare1_nils, bare1_slice, List.map_cons, List.map_nil, ↓WOps_binOp, ↓WOps_nil, opV, bin_lss]
  refine hN4 _ ?_; clear hN4 N4
  refine WC_seq_k (fun N5 hN5 => ?_)
  refine WC_condE ?_
  simp only [ev_tmp, ev_bool, ev_int, ev_func, ev_nilp, ev_nils, ev_nilf, look_cons, look_nil, put_some, put_none, ↓stepO_some, ↓stepL_some, ↓stepB_tt, ↓stepB_ff, ↓stepB_tf, ↓stepB_ft, Bool.false_eq_true, ↓stepB_skip, if_true, if_false, Nat.reduceLT, Nat.reduceEqDiff, gslot_mk, gsl_zero, gsl_succ, gval_some, bare_bool, bare_int, bare_str, bare_nils, bare_slice, bare_tup, bare1_bool, bare1_int, bare1_str, bare1_nils, bare1_slice, List.map_cons, List.map_nil, ↓stepC_bool]
  refine ⟨fun hb => ?_, fun hb => ?_⟩
  · refine WC_skip ?_
    refine hN5 _ ?_; clear hN5 N5
    have hi6 : i < 6 := by have := of_decide_eq_true hb; omega
    obtain ⟨x, hx⟩ : ∃ x, v[i]? = some x := ⟨_, List.getElem?_eq_getElem (by omega)⟩
    have hix := vec_index (i := (i : Int)) (by omega) (by omega) (by simpa using hx)
    refine WC_seq_k (fun N6 hN6 => ?_)
    refine WC_block ?_
    refine WC_seq_k (fun N7 hN7 => ?_)
    refine WC_region ?_
    simp only [ev_tmp, ev_bool, ev_int, ev_func, ev_nilp, ev_nils, ev_nilf, look_cons, look_nil, put_some, put_none, ↓stepO_some, ↓stepL_some, ↓stepB_tt, ↓stepB_ff, ↓stepB_tf, ↓stepB_ft, Bool.false_eq_true, ↓stepB_skip, if_true, if_false, Nat.reduceLT, Nat.reduceEqDiff, gslot_mk, gsl_zero, gsl_succ, gval_some, bare_bool, bare_int, bare_str, bare_nils, bare_slice, bare_tup, bare1_bool, bare1_int, bare1_str, bare1_nils, bare1_slice, List.map_cons, List.map_nil, ↓WOps_index, ↓WOps_assign, ↓WOps_nil, opV, hix]
    refine hN7 _ ?_; clear hN7 N7
    refine WC_seq_k (fun N8 hN8 => ?_)
    refine WC_region ?_
    simp only [ev_tmp, ev_bool, ev_int, ev_func, ev_nilp, ev_nils, ev_nilf, look_cons, look_nil, put_some, put_none, ↓stepO_some, ↓stepL_some, ↓stepB_tt, ↓stepB_ff, ↓stepB_tf, ↓stepB_ft, Bool.false_eq_true, ↓stepB_skip, if_true, if_false, Nat.reduceLT, Nat.reduceEqDiff, gslot_mk, gsl_zero, gsl_succ, gval_some, bare_bool, bare_int, bare_str, bare_nils, bare_slice, bare_tup, bare1_bool, bare1_int, bare1_str, bare1_nils, bare1_slice, List.map_cons, List.map_nil, ↓WOps_move, ↓WOps_binOp, ↓WOps_g, ↓WOps_pick, ↓WOps_nil, opV, bin_lss, bin_gtr]
    refine stepB_F (fun hg => ?_) (fun hg => ?_)
    all_goals simp only [ev_tmp, ev_bool, ev_int, ev_func, ev_nilp, ev_nils, ev_nilf, look_cons, look_nil, put_some, put_none, ↓stepO_some, ↓stepL_some, ↓stepB_tt, ↓stepB_ff, ↓stepB_tf, ↓stepB_ft, Bool.false_eq_true, ↓stepB_skip, if_true, if_false, Nat.reduceLT, Nat.reduceEqDiff, gslot_mk, gsl_zero, gsl_succ, gval_some, bare_bool, bare_int, bare_str, bare_nils, bare_slice, bare_tup, bare1_bool, bare1_int, bare1_str, bare1_nils, bare1_slice, List.map_cons, List.map_nil, ↓WOps_move, ↓WOps_assign, ↓WOps_pick, ↓WOps_load, ↓WOps_nilCheck, ↓WOps_binOp, ↓WOps_unOp, ↓WOps_convert, ↓WOps_build, ↓WOps_buildSlice, ↓WOps_slice, ↓WOps_fieldAddr, ↓WOps_field, ↓WOps_indexAddr, ↓WOps_index, ↓WOps_extract, ↓WOps_makeFunc, ↓WOps_len, ↓WOps_max, ↓WOps_min, ↓WOps_alloc, ↓WOps_box, ↓WOps_store, ↓WOps_make, ↓WOps_append, ↓WOps_nil, ↓WOps_g, opV, loudV, cellsOf, List.getElem?_toArray, int_load, bin_add, bin_sub, bin_mul, bin_quo, bin_rem, bin_eql, bin_neq, bin_lss, bin_leq, bin_gtr, bin_geq, bin_str, strOp, un_not, evL, List.getElem?_cons_zero, List.getElem?_cons_succ, List.drop_zero, List.drop_succ_cons, List.head?_cons, Nat.zero_add, List.nil_append, List.cons_append, List.length_nil, List.length_cons, Nat.reduceAdd, true_and, and_true, and_self, List.set_cons_zero, List.set_cons_succ, List.length_map, cells_int, cells_bool, cells_str, cells_nils, cells_nilp, cells_ptr, cells_slice, cells_func, isC_int, isC_bool, isC_str, isC_nils, isC_nilp, isC_ptr, isC_slice, isC_func, beq_self_eq_true, bne_self_eq_false, Int.reduceBEq, Int.reduceBNe, Nat.zero_mul, Nat.one_mul, Nat.mul_one, Bool.not_true, Bool.not_false, Bool.and_self, Bool.and_true, Bool.true_and, hg]
    · refine hN8 _ ?_; clear hN8 N8
      refine WC_condE ?_
      simp only [ev_tmp, ev_bool, ev_int, ev_func, ev_nilp, ev_nils, ev_nilf, look_cons, look_nil, put_some, put_none, ↓stepO_some, ↓stepL_some, ↓stepB_tt, ↓stepB_ff, ↓stepB_tf, ↓stepB_ft, Bool.false_eq_true, ↓stepB_skip, if_true, if_false, Nat.reduceLT, Nat.reduceEqDiff, gslot_mk, gsl_zero, gsl_succ, gval_some, bare_bool, bare_int, bare_str, bare_nils, bare_slice, bare_tup, bare1_bool, bare1_int, bare1_str, bare1_nils, bare1_slice, List.map_cons, List.map_nil, ↓stepC_bool]
      refine ⟨fun hc => ?_, fun hc => ?_⟩
      · refine WC_seq_k (fun N9 hN9 => ?_)
        refine WC_region ?_
        simp only [ev_tmp, ev_bool, ev_int, ev_func, ev_nilp, ev_nils, ev_nilf, look_cons, look_nil, put_some, put_none, ↓stepO_some, ↓stepL_some, ↓stepB_tt, ↓stepB_ff, ↓stepB_tf, ↓stepB_ft, Bool.false_eq_true, ↓stepB_skip, if_true, if_false, Nat.reduceLT, Nat.reduceEqDiff, gslot_mk, gsl_zero, gsl_succ, gval_some, bare_bool, bare_int, bare_str, bare_nils, bare_slice, bare_tup, bare1_bool, bare1_int, bare1_str, bare1_nils, bare1_slice, List.map_cons, List.map_nil, ↓WOps_assign, ↓WOps_nil, opV]
        refine hN9 _ ?_; clear hN9 N9
        refine WC_ret ?_; (try simp only [Exit.after, Exit.out]); refine Kend_ret (by simp only [resOf, resL, resV, slots_get, ev_tmp, ev_bool, ev_int, ev_func, ev_nilp, ev_nils, ev_nilf, look_cons, look_nil, put_some, put_none, ↓stepO_some, ↓stepL_some, ↓stepB_tt, ↓stepB_ff, ↓stepB_tf, ↓stepB_ft, Bool.false_eq_true, ↓stepB_skip, if_true, if_false, Nat.reduceLT, Nat.reduceEqDiff, gslot_mk, gsl_zero, gsl_succ, gval_some, bare_bool, bare_int, bare_str, bare_nils, bare_slice, bare_tup, bare1_bool, bare1_int, bare1_str, bare1_nils, bare1_slice, List.map_cons, List.map_nil]; rfl) (by rfl) ?_
        show V.bool false = _
        rw [right_false hx (.inr (of_decide_eq_true hc))]
      · refine WC_skip ?_
        refine hN6 _ ?_; clear hN6 N6
        refine WC_region ?_
        simp only [ev_tmp, ev_bool, ev_int, ev_func, ev_nilp, ev_nils, ev_nilf, look_cons, look_nil, put_some, put_none, ↓stepO_some, ↓stepL_some, ↓stepB_tt, ↓stepB_ff, ↓stepB_tf, ↓stepB_ft, Bool.false_eq_true, ↓stepB_skip, if_true, if_false, Nat.reduceLT, Nat.reduceEqDiff, gslot_mk, gsl_zero, gsl_succ, gval_some, bare_bool, bare_int, bare_str, bare_nils, bare_slice, bare_tup, bare1_bool, bare1_int, bare1_str, bare1_nils, bare1_slice, List.map_cons, List.map_nil, ↓WOps_binOp, ↓WOps_move, ↓WOps_nil, opV, bin_add, wrapI (x := (i : Int) + 1) (by omega) (by omega)]
        refine ⟨i + 1, ⟨_, rfl, ⟨rfl, rfl, trivial⟩, by omega, fun k hk y hy => ?_⟩, by omega⟩
        have h1 := of_decide_eq_false hg
        have h2 := of_decide_eq_false hc
        rcases Nat.lt_or_ge k i with hki | hki
        · exact hall k hki y hy
        · obtain rfl : k = i := by omega
          rw [hx] at hy
          obtain rfl := Option.some.inj hy
          omega
    · refine hN8 _ ?_; clear hN8 N8
      refine WC_condE ?_
      simp only [ev_tmp, ev_bool, ev_int, ev_func, ev_nilp, ev_nils, ev_nilf, look_cons, look_nil, put_some, put_none, ↓stepO_some, ↓stepL_some, ↓stepB_tt, ↓stepB_ff, ↓stepB_tf, ↓stepB_ft, Bool.false_eq_true, ↓stepB_skip, if_true, if_false, Nat.reduceLT, Nat.reduceEqDiff, gslot_mk, gsl_zero, gsl_succ, gval_some, bare_bool, bare_int, bare_str, bare_nils, bare_slice, bare_tup, bare1_bool, bare1_int, bare1_str, bare1_nils, bare1_slice, List.map_cons, List.map_nil, ↓stepC_bool]
      refine ⟨fun hc => ?_, fun hc => by cases hc⟩
      refine WC_seq_k (fun N9 hN9 => ?_)
      refine WC_region ?_
      simp only [ev_tmp, ev_bool, ev_int, ev_func, ev_nilp, ev_nils, ev_nilf, look_cons, look_nil, put_some, put_none, ↓stepO_some, ↓stepL_some, ↓stepB_tt, ↓stepB_ff, ↓stepB_tf, ↓stepB_ft, Bool.false_eq_true, ↓stepB_skip, if_true, if_false, Nat.reduceLT, Nat.reduceEqDiff, gslot_mk, gsl_zero, gsl_succ, gval_some, bare_bool, bare_int, bare_str, bare_nils, bare_slice, bare_tup, bare1_bool, bare1_int, bare1_str, bare1_nils, bare1_slice, List.map_cons, List.map_nil, ↓WOps_assign, ↓WOps_nil, opV]
      refine hN9 _ ?_; clear hN9 N9
      refine WC_ret ?_; (try simp only [Exit.after, Exit.out]); refine Kend_ret (by simp only [resOf, resL, resV, slots_get, ev_tmp, ev_bool, ev_int, ev_func, ev_nilp, ev_nils, ev_nilf, look_cons, look_nil, put_some, put_none, ↓stepO_some, ↓stepL_some, ↓stepB_tt, ↓stepB_ff, ↓stepB_tf, ↓stepB_ft, Bool.false_eq_true, ↓stepB_skip, if_true, if_false, Nat.reduceLT, Nat.reduceEqDiff, gslot_mk, gsl_zero, gsl_succ, gval_some, bare_bool, bare_int, bare_str, bare_nils, bare_slice, bare_tup, bare1_bool, bare1_int, bare1_str, bare1_nils, bare1_slice, List.map_cons, List.map_nil]; rfl) (by rfl) ?_
      show V.bool false = _
      rw [right_false hx (.inl (of_decide_eq_true hg))]
  · refine WC_exit ?_
    refine hN2 _ ?_
    refine WC_seq_k (fun N9 hN9 => ?_)
    refine WC_region ?_
    simp only [ev_tmp, ev_bool, ev_int, ev_func, ev_nilp, ev_nils, ev_nilf, look_cons, look_nil, put_some, put_none, ↓stepO_some, ↓stepL_some, ↓stepB_tt, ↓stepB_ff, ↓stepB_tf, ↓stepB_ft, Bool.false_eq_true, ↓stepB_skip, if_true, if_false, Nat.reduceLT, Nat.reduceEqDiff, gslot_mk, gsl_zero, gsl_succ, gval_some, bare_bool, bare_int, bare_str, bare_nils, bare_slice, bare_tup, bare1_bool, bare1_int, bare1_str, bare1_nils, bare1_slice, List.map_cons, List.map_nil, ↓WOps_assign, ↓WOps_nil, opV]
    refine hN9 _ ?_; clear hN9 N9
    refine WC_ret ?_; (try simp only [Exit.after, Exit.out]); refine Kend_ret (by simp only [resOf, resL, resV, slots_get, ev_tmp, ev_bool, ev_int, ev_func, ev_nilp, ev_nils, ev_nilf, look_cons, look_nil, put_some, put_none, ↓stepO_some, ↓stepL_some, ↓stepB_tt, ↓stepB_ff, ↓stepB_tf, ↓stepB_ft, Bool.false_eq_true, ↓stepB_skip, if_true, if_false, Nat.reduceLT, Nat.reduceEqDiff, gslot_mk, gsl_zero, gsl_succ, gval_some, bare_bool, bare_int, bare_str, bare_nils, bare_slice, bare_tup, bare1_bool, bare1_int, bare1_str, bare1_nils, bare1_slice, List.map_cons, List.map_nil]; rfl) (by rfl) ?_
    show V.bool true = _
    have := of_decide_eq_false hb
    rw [right_true (fun k y hy => hall k (by have := (List.getElem?_eq_some_iff.1 hy).1; omega) y hy)]
end Go.PV
