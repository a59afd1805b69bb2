/- ref17.SameTags. -/
import Derived.Test.YtpgfcfojojemjaaDot22
namespace Go.PV
open Go.Proofs
set_option linter.unusedVariables false
set_option linter.unusedSimpArgs false
set_option maxRecDepth 10000

/-- a bare slice of the tags l -/
def TS (l : List (Int × Int)) (x : V) : Prop := (l = [] ∧ x = .nils) ∨ ∃ ex, x = .slice 2 (l.map tagE) ex none
theorem TS.bare {l : List (Int × Int)} {x : V} (h : TS l x) : x.bare = x := by
  rcases h with ⟨_, rfl⟩ | ⟨ex, rfl⟩ <;> rfl
theorem tagE_cells (q : Int × Int) : (tagE q).cells = [.int .i64 q.1, .int .i64 q.2] := rfl
theorem TS.noP {l : List (Int × Int)} {x : V} (h : TS l x) : x.noP = true := by
  rcases h with ⟨_, rfl⟩ | ⟨ex, rfl⟩ <;> simp [V.noP, V.noP1, V.noP0]
theorem TS.len {l : List (Int × Int)} {x : V} (h : TS l x) : lenV Try.prog 38 x = some (.int .i64 l.length) := by
  rcases h with ⟨rfl, rfl⟩ | ⟨ex, rfl⟩ <;> simp [lenV, ti38]
theorem TS.ia {l : List (Int × Int)} {x : V} (h : TS l x) {i : Nat} {q : Int × Int} (hq : l[i]? = some q) : indexAddrV Try.prog 38 x (.int .i64 i) = some (.rptr [.int .i64 q.1, .int .i64 q.2]) := by
  rcases h with ⟨rfl, rfl⟩ | ⟨ex, rfl⟩
  · simp at hq
  · simp [indexAddrV, ti38, ti25, hq, tagE_cells]
theorem tagsV_TS (l : List (Int × Int)) : TS l (tagsV l) := by
  cases l with
  | nil => exact .inl ⟨rfl, rfl⟩
  | cons q l => exact .inr ⟨false, rfl⟩
theorem tagsM_TS (l : List (Int × Int)) : TS l (tagsM l) := by
  cases l with
  | nil => exact .inr ⟨true, rfl⟩
  | cons q l => exact .inr ⟨false, rfl⟩

theorem TS.noP1 {l : List (Int × Int)} {x : V} (h : TS l x) : x.noP1 = true := by
  rcases h with ⟨_, rfl⟩ | ⟨ex, rfl⟩ <;> simp [V.noP1, V.noP0]
theorem TS.bare1 {l : List (Int × Int)} {x : V} (h : TS l x) : x.bare1 = x := by
  rcases h with ⟨_, rfl⟩ | ⟨ex, rfl⟩ <;> rfl
theorem TS.tnoP {l : List (Int × Int)} {x : V} (h : TS l x) (c : Int) : (V.tup [x, .int .i64 c]).noP = true := by
  rcases h with ⟨_, rfl⟩ | ⟨ex, rfl⟩ <;> simp [V.noP, V.noP1, V.noP0]
theorem TS.tbare {l : List (Int × Int)} {x : V} (h : TS l x) (c : Int) : (V.tup [x, .int .i64 c]).bare = .tup [x, .int .i64 c] := by
  rcases h with ⟨_, rfl⟩ | ⟨ex, rfl⟩ <;> rfl
theorem TS.toks {l : List (Int × Int)} {x : V} (h : TS l x) : V.toks x = [] := by
  rcases h with ⟨_, rfl⟩ | ⟨ex, rfl⟩ <;> rfl
theorem c_punnet_punnetref17_SameTags (l m : List (Int × Int)) (x y : V) (hx : TS l x) (hy : TS m y) (hL : l.length ≤ 4611686018427387904) : VC Try.prog 26 [x, y] [] (fun r _ => r = .bool (l == m)) := by
  refine VC_enter (nt := 26) (rs := [.tmp 4]) (ow := []) (m := 0) Try.func26 rfl (by rfl) rfl rfl (by simp) (by simp [ownOf, hx.toks, hy.toks]) rfl (fun n => ?_)
  simp only [zipT]
  refine WC_seqR (fun N1 hN1 hD1 => ?_)
  simp only [ev_tmp, ev_bool, ev_int, ev_func, ev_nilp, ev_nils, ev_nilf, look_cons, look_nil, put_some, put_none, ↓stepO_some, ↓stepL_some, ↓stepB_tt, ↓stepB_ff, ↓stepB_tf, ↓stepB_ft, Bool.false_eq_true, ↓stepB_skip, if_true, if_false, Nat.reduceLT, Nat.reduceEqDiff, gslot_mk, gsl_zero, gsl_succ, gval_some, bare_bool, bare_int, bare_str, bare_nils, bare_slice, bare_tup, bare1_bool, bare1_int, bare1_str, bare1_nils, bare1_slice, List.map_cons, List.map_nil, ↓WOps_move, ↓WOps_assign, ↓WOps_pick, ↓WOps_load, ↓WOps_nilCheck, ↓WOps_binOp, ↓WOps_unOp, ↓WOps_convert, ↓WOps_build, ↓WOps_buildSlice, ↓WOps_slice, ↓WOps_fieldAddr, ↓WOps_field, ↓WOps_indexAddr, ↓WOps_index, ↓WOps_extract, ↓WOps_makeFunc, ↓WOps_len, ↓WOps_max, ↓WOps_min, ↓WOps_alloc, ↓WOps_box, ↓WOps_store, ↓WOps_make, ↓WOps_append, ↓WOps_nil, ↓WOps_g, opV, loudV, cellsOf, List.getElem?_toArray, int_load, bin_add, bin_sub, bin_mul, bin_quo, bin_rem, bin_eql, bin_neq, bin_lss, bin_leq, bin_gtr, bin_geq, bin_str, strOp, un_not, evL, List.getElem?_cons_zero, List.getElem?_cons_succ, List.drop_zero, List.drop_succ_cons, List.head?_cons, Nat.zero_add, List.nil_append, List.cons_append, List.length_nil, List.length_cons, Nat.reduceAdd, true_and, and_true, and_self, List.set_cons_zero, List.set_cons_succ, List.length_map, cells_int, cells_bool, cells_str, cells_nils, cells_nilp, cells_ptr, cells_slice, cells_func, isC_int, isC_bool, isC_str, isC_nils, isC_nilp, isC_ptr, isC_slice, isC_func, beq_self_eq_true, bne_self_eq_false, Int.reduceBEq, Int.reduceBNe, Nat.zero_mul, Nat.one_mul, Nat.mul_one, Bool.not_true, Bool.not_false, Bool.and_self, Bool.and_true, Bool.true_and]
  refine hN1 _ ?_; try clear hN1 hD1 N1
  refine WC_seqN (fun N2 hN2 hD2 => ?_)
  refine WC_seqR (fun N3 hN3 hD3 => ?_)
  simp only [ev_tmp, ev_bool, ev_int, ev_func, ev_nilp, ev_nils, ev_nilf, look_cons, look_nil, put_some, put_none, ↓stepO_some, ↓stepL_some, ↓stepB_tt, ↓stepB_ff, ↓stepB_tf, ↓stepB_ft, Bool.false_eq_true, ↓stepB_skip, if_true, if_false, Nat.reduceLT, Nat.reduceEqDiff, gslot_mk, gsl_zero, gsl_succ, gval_some, bare_bool, bare_int, bare_str, bare_nils, bare_slice, bare_tup, bare1_bool, bare1_int, bare1_str, bare1_nils, bare1_slice, List.map_cons, List.map_nil, ↓WOps_move, ↓WOps_assign, ↓WOps_pick, ↓WOps_load, ↓WOps_nilCheck, ↓WOps_binOp, ↓WOps_unOp, ↓WOps_convert, ↓WOps_build, ↓WOps_buildSlice, ↓WOps_slice, ↓WOps_fieldAddr, ↓WOps_field, ↓WOps_indexAddr, ↓WOps_index, ↓WOps_extract, ↓WOps_makeFunc, ↓WOps_len, ↓WOps_max, ↓WOps_min, ↓WOps_alloc, ↓WOps_box, ↓WOps_store, ↓WOps_make, ↓WOps_append, ↓WOps_nil, ↓WOps_g, opV, loudV, cellsOf, List.getElem?_toArray, int_load, bin_add, bin_sub, bin_mul, bin_quo, bin_rem, bin_eql, bin_neq, bin_lss, bin_leq, bin_gtr, bin_geq, bin_str, strOp, un_not, evL, List.getElem?_cons_zero, List.getElem?_cons_succ, List.drop_zero, List.drop_succ_cons, List.head?_cons, Nat.zero_add, List.nil_append, List.cons_append, List.length_nil, List.length_cons, Nat.reduceAdd, true_and, and_true, and_self, List.set_cons_zero, List.set_cons_succ, List.length_map, cells_int, cells_bool, cells_str, cells_nils, cells_nilp, cells_ptr, cells_slice, cells_func, isC_int, isC_bool, isC_str, isC_nils, isC_nilp, isC_ptr, isC_slice, isC_func, beq_self_eq_true, bne_self_eq_false, Int.reduceBEq, Int.reduceBNe, Nat.zero_mul, Nat.one_mul, Nat.mul_one, Bool.not_true, Bool.not_false, Bool.and_self, Bool.and_true, Bool.true_and, hx.len, hy.len, ti25, ti3, ti38, tag_load, tag_neq]
  refine hN3 _ ?_; try clear hN3 hD3 N3
  refine WC_condE ?_
  simp only [ev_tmp, ev_bool, ev_int, ev_func, ev_nilp, ev_nils, ev_nilf, look_cons, look_nil, put_some, put_none, ↓stepO_some, ↓stepL_some, ↓stepB_tt, ↓stepB_ff, ↓stepB_tf, ↓stepB_ft, Bool.false_eq_true, ↓stepB_skip, if_true, if_false, Nat.reduceLT, Nat.reduceEqDiff, gslot_mk, gsl_zero, gsl_succ, gval_some, bare_bool, bare_int, bare_str, bare_nils, bare_slice, bare_tup, bare1_bool, bare1_int, bare1_str, bare1_nils, bare1_slice, List.map_cons, List.map_nil, ↓stepC_bool]
  refine ⟨fun hb => ?_, fun hb => ?_⟩
  · refine WC_seqR (fun N4 hN4 hD4 => ?_)
    simp only [ev_tmp, ev_bool, ev_int, ev_func, ev_nilp, ev_nils, ev_nilf, look_cons, look_nil, put_some, put_none, ↓stepO_some, ↓stepL_some, ↓stepB_tt, ↓stepB_ff, ↓stepB_tf, ↓stepB_ft, Bool.false_eq_true, ↓stepB_skip, if_true, if_false, Nat.reduceLT, Nat.reduceEqDiff, gslot_mk, gsl_zero, gsl_succ, gval_some, bare_bool, bare_int, bare_str, bare_nils, bare_slice, bare_tup, bare1_bool, bare1_int, bare1_str, bare1_nils, bare1_slice, List.map_cons, List.map_nil, ↓WOps_move, ↓WOps_assign, ↓WOps_pick, ↓WOps_load, ↓WOps_nilCheck, ↓WOps_binOp, ↓WOps_unOp, ↓WOps_convert, ↓WOps_build, ↓WOps_buildSlice, ↓WOps_slice, ↓WOps_fieldAddr, ↓WOps_field, ↓WOps_indexAddr, ↓WOps_index, ↓WOps_extract, ↓WOps_makeFunc, ↓WOps_len, ↓WOps_max, ↓WOps_min, ↓WOps_alloc, ↓WOps_box, ↓WOps_store, ↓WOps_make, ↓WOps_append, ↓WOps_nil, ↓WOps_g, opV, loudV, cellsOf, List.getElem?_toArray, int_load, bin_add, bin_sub, bin_mul, bin_quo, bin_rem, bin_eql, bin_neq, bin_lss, bin_leq, bin_gtr, bin_geq, bin_str, strOp, un_not, evL, List.getElem?_cons_zero, List.getElem?_cons_succ, List.drop_zero, List.drop_succ_cons, List.head?_cons, Nat.zero_add, List.nil_append, List.cons_append, List.length_nil, List.length_cons, Nat.reduceAdd, true_and, and_true, and_self, List.set_cons_zero, List.set_cons_succ, List.length_map, cells_int, cells_bool, cells_str, cells_nils, cells_nilp, cells_ptr, cells_slice, cells_func, isC_int, isC_bool, isC_str, isC_nils, isC_nilp, isC_ptr, isC_slice, isC_func, beq_self_eq_true, bne_self_eq_false, Int.reduceBEq, Int.reduceBNe, Nat.zero_mul, Nat.one_mul, Nat.mul_one, Bool.not_true, Bool.not_false, Bool.and_self, Bool.and_true, Bool.true_and]
    refine hN4 _ ?_; try clear hN4 hD4 N4
    refine WC_ret ?_; (try simp only [Exit.after, Exit.out]); refine Kend_ret (by simp only [resOf, resL, resV, mkS_get, slots_get, cellsOf, ti25, ti3, ti38, tag_load, tag_neq, ev_tmp, ev_bool, ev_int, ev_func, ev_nilp, ev_nils, ev_nilf, look_cons, look_nil, put_some, put_none, ↓stepO_some, ↓stepL_some, ↓stepB_tt, ↓stepB_ff, ↓stepB_tf, ↓stepB_ft, Bool.false_eq_true, ↓stepB_skip, if_true, if_false, Nat.reduceLT, Nat.reduceEqDiff, gslot_mk, gsl_zero, gsl_succ, gval_some, bare_bool, bare_int, bare_str, bare_nils, bare_slice, bare_tup, bare1_bool, bare1_int, bare1_str, bare1_nils, bare1_slice, List.map_cons, List.map_nil]; rfl) (by first | rfl | (simp only [ti25, ti3, ti38, tag_load, tag_neq, okV, ok1, okC, okP, List.all_cons, List.all_nil, Bool.and_true]; done)) ?_
    have : ¬ (l = m) := fun h => by subst h; simp at hb
    rw [beq_eq_false_iff_ne.2 this]; rfl
  · have hlm : l.length = m.length := by simp at hb; omega
    clear hb
    refine WC_skip ?_
    refine hN2 _ ?_; try clear hN2 hD2 N2
    refine WC_seqN (fun N5 hN5 hD5 => ?_)
    refine WC_seqR (fun N6 hN6 hD6 => ?_)
    simp only [ev_tmp, ev_bool, ev_int, ev_func, ev_nilp, ev_nils, ev_nilf, look_cons, look_nil, put_some, put_none, ↓stepO_some, ↓stepL_some, ↓stepB_tt, ↓stepB_ff, ↓stepB_tf, ↓stepB_ft, Bool.false_eq_true, ↓stepB_skip, if_true, if_false, Nat.reduceLT, Nat.reduceEqDiff, gslot_mk, gsl_zero, gsl_succ, gval_some, bare_bool, bare_int, bare_str, bare_nils, bare_slice, bare_tup, bare1_bool, bare1_int, bare1_str, bare1_nils, bare1_slice, List.map_cons, List.map_nil, ↓WOps_move, ↓WOps_assign, ↓WOps_pick, ↓WOps_load, ↓WOps_nilCheck, ↓WOps_binOp, ↓WOps_unOp, ↓WOps_convert, ↓WOps_build, ↓WOps_buildSlice, ↓WOps_slice, ↓WOps_fieldAddr, ↓WOps_field, ↓WOps_indexAddr, ↓WOps_index, ↓WOps_extract, ↓WOps_makeFunc, ↓WOps_len, ↓WOps_max, ↓WOps_min, ↓WOps_alloc, ↓WOps_box, ↓WOps_store, ↓WOps_make, ↓WOps_append, ↓WOps_nil, ↓WOps_g, opV, loudV, cellsOf, List.getElem?_toArray, int_load, bin_add, bin_sub, bin_mul, bin_quo, bin_rem, bin_eql, bin_neq, bin_lss, bin_leq, bin_gtr, bin_geq, bin_str, strOp, un_not, evL, List.getElem?_cons_zero, List.getElem?_cons_succ, List.drop_zero, List.drop_succ_cons, List.head?_cons, Nat.zero_add, List.nil_append, List.cons_append, List.length_nil, List.length_cons, Nat.reduceAdd, true_and, and_true, and_self, List.set_cons_zero, List.set_cons_succ, List.length_map, cells_int, cells_bool, cells_str, cells_nils, cells_nilp, cells_ptr, cells_slice, cells_func, isC_int, isC_bool, isC_str, isC_nils, isC_nilp, isC_ptr, isC_slice, isC_func, beq_self_eq_true, bne_self_eq_false, Int.reduceBEq, Int.reduceBNe, Nat.zero_mul, Nat.one_mul, Nat.mul_one, Bool.not_true, Bool.not_false, Bool.and_self, Bool.and_true, Bool.true_and]
    refine hN6 _ ?_; try clear hN6 hD6 N6
    refine WC_block ?_
    refine WC_loopG (σ := Nat) (fun t s => ∃ ps, s = ⟨mkS 26 ps, [], [], n⟩ ∧ Has ps [(5, .int .i64 t), (0, x), (1, y)] ∧ t ≤ l.length ∧ l.take t = m.take t) (fun t => l.length - t) 0 ?_ (fun t s hI => ?_)
    · exact ⟨_, rfl, ⟨rfl, rfl, rfl, trivial⟩, by omega, by simp⟩
    obtain ⟨ps, rfl, hps, hI, htk⟩ := hI
    refine WC_has hps ?_; clear hps ps
    refine WC_seqN (fun N7 hN7 hD7 => ?_)
    refine WC_seqR (fun N8 hN8 hD8 => ?_)
    simp only [ev_tmp, ev_bool, ev_int, ev_func, ev_nilp, ev_nils, ev_nilf, look_cons, look_nil, put_some, put_none, ↓stepO_some, ↓stepL_some, ↓stepB_tt, ↓stepB_ff, ↓stepB_tf, ↓stepB_ft, Bool.false_eq_true, ↓stepB_skip, if_true, if_false, Nat.reduceLT, Nat.reduceEqDiff, gslot_mk, gsl_zero, gsl_succ, gval_some, bare_bool, bare_int, bare_str, bare_nils, bare_slice, bare_tup, bare1_bool, bare1_int, bare1_str, bare1_nils, bare1_slice, List.map_cons, List.map_nil, ↓WOps_move, ↓WOps_assign, ↓WOps_pick, ↓WOps_load, ↓WOps_nilCheck, ↓WOps_binOp, ↓WOps_unOp, ↓WOps_convert, ↓WOps_build, ↓WOps_buildSlice, ↓WOps_slice, ↓WOps_fieldAddr, ↓WOps_field, ↓WOps_indexAddr, ↓WOps_index, ↓WOps_extract, ↓WOps_makeFunc, ↓WOps_len, ↓WOps_max, ↓WOps_min, ↓WOps_alloc, ↓WOps_box, ↓WOps_store, ↓WOps_make, ↓WOps_append, ↓WOps_nil, ↓WOps_g, opV, loudV, cellsOf, List.getElem?_toArray, int_load, bin_add, bin_sub, bin_mul, bin_quo, bin_rem, bin_eql, bin_neq, bin_lss, bin_leq, bin_gtr, bin_geq, bin_str, strOp, un_not, evL, List.getElem?_cons_zero, List.getElem?_cons_succ, List.drop_zero, List.drop_succ_cons, List.head?_cons, Nat.zero_add, List.nil_append, List.cons_append, List.length_nil, List.length_cons, Nat.reduceAdd, true_and, and_true, and_self, List.set_cons_zero, List.set_cons_succ, List.length_map, cells_int, cells_bool, cells_str, cells_nils, cells_nilp, cells_ptr, cells_slice, cells_func, isC_int, isC_bool, isC_str, isC_nils, isC_nilp, isC_ptr, isC_slice, isC_func, beq_self_eq_true, bne_self_eq_false, Int.reduceBEq, Int.reduceBNe, Nat.zero_mul, Nat.one_mul, Nat.mul_one, Bool.not_true, Bool.not_false, Bool.and_self, Bool.and_true, Bool.true_and, hx.len, ti25, ti3, ti38, tag_load, tag_neq]
    refine hN8 _ ?_; try clear hN8 hD8 N8
    refine WC_condE ?_
    simp only [ev_tmp, ev_bool, ev_int, ev_func, ev_nilp, ev_nils, ev_nilf, look_cons, look_nil, put_some, put_none, ↓stepO_some, ↓stepL_some, ↓stepB_tt, ↓stepB_ff, ↓stepB_tf, ↓stepB_ft, Bool.false_eq_true, ↓stepB_skip, if_true, if_false, Nat.reduceLT, Nat.reduceEqDiff, gslot_mk, gsl_zero, gsl_succ, gval_some, bare_bool, bare_int, bare_str, bare_nils, bare_slice, bare_tup, bare1_bool, bare1_int, bare1_str, bare1_nils, bare1_slice, List.map_cons, List.map_nil, ↓stepC_bool]
    refine ⟨fun hb => ?_, fun hb => ?_⟩
    · have ht : t < l.length := by have := of_decide_eq_true hb; omega
      clear hb
      obtain ⟨p, hp⟩ : ∃ p, l[t]? = some p := ⟨_, List.getElem?_eq_getElem ht⟩
      obtain ⟨q, hq⟩ : ∃ q, m[t]? = some q := ⟨_, List.getElem?_eq_getElem (by omega)⟩
      refine WC_skip ?_
      refine hN7 _ ?_; try clear hN7 hD7 N7
      refine WC_seqN (fun N9 hN9 hD9 => ?_)
      refine WC_block ?_
      refine WC_seqD mixed [] [0, 0, 0, 0, 0, 0, 0, 0, 0] (by decide +kernel) (fun N10 hN10 hD10 => ?_)
      simp only [ev_tmp, ev_bool, ev_int, ev_func, ev_nilp, ev_nils, ev_nilf, look_cons, look_nil, put_some, put_none, ↓stepO_some, ↓stepL_some, ↓stepB_tt, ↓stepB_ff, ↓stepB_tf, ↓stepB_ft, Bool.false_eq_true, ↓stepB_skip, if_true, if_false, Nat.reduceLT, Nat.reduceEqDiff, gslot_mk, gsl_zero, gsl_succ, gval_some, bare_bool, bare_int, bare_str, bare_nils, bare_slice, bare_tup, bare1_bool, bare1_int, bare1_str, bare1_nils, bare1_slice, List.map_cons, List.map_nil, ↓D_move, ↓D_assign, ↓D_pick, ↓D_load, ↓D_nilCheck, ↓D_binOp, ↓D_unOp, ↓D_convert, ↓D_build, ↓D_buildSlice, ↓D_slice, ↓D_fieldAddr, ↓D_field, ↓D_indexAddr, ↓D_index, ↓D_extract, ↓D_makeFunc, ↓D_len, ↓D_max, ↓D_min, ↓D_alloc, ↓D_box, ↓D_store, ↓D_make, ↓D_append, ↓D_nil, ↓D_g, memOk, lets0, lets1, List.not_mem_nil, not_false_eq_true, true_and, and_true, opV, loudV, cellsOf, List.getElem?_toArray, int_load, bin_add, bin_sub, bin_mul, bin_quo, bin_rem, bin_eql, bin_neq, bin_lss, bin_leq, bin_gtr, bin_geq, bin_str, strOp, un_not, evL, List.getElem?_cons_zero, List.getElem?_cons_succ, List.drop_zero, List.drop_succ_cons, List.head?_cons, Nat.zero_add, List.nil_append, List.cons_append, List.length_nil, List.length_cons, Nat.reduceAdd, true_and, and_true, and_self, List.set_cons_zero, List.set_cons_succ, List.length_map, cells_int, cells_bool, cells_str, cells_nils, cells_nilp, cells_ptr, cells_slice, cells_func, isC_int, isC_bool, isC_str, isC_nils, isC_nilp, isC_ptr, isC_slice, isC_func, beq_self_eq_true, bne_self_eq_false, Int.reduceBEq, Int.reduceBNe, Nat.zero_mul, Nat.one_mul, Nat.mul_one, Bool.not_true, Bool.not_false, Bool.and_self, Bool.and_true, Bool.true_and, hx.ia hp, hy.ia hq, ti25, ti3, ti38, tag_load, tag_neq]
      refine hN10 _ ?_; try clear hN10 hD10 N10
      refine WC_condE ?_
      simp only [ev_tmp, ev_bool, ev_int, ev_func, ev_nilp, ev_nils, ev_nilf, look_cons, look_nil, put_some, put_none, ↓stepO_some, ↓stepL_some, ↓stepB_tt, ↓stepB_ff, ↓stepB_tf, ↓stepB_ft, Bool.false_eq_true, ↓stepB_skip, if_true, if_false, Nat.reduceLT, Nat.reduceEqDiff, gslot_mk, gsl_zero, gsl_succ, gval_some, bare_bool, bare_int, bare_str, bare_nils, bare_slice, bare_tup, bare1_bool, bare1_int, bare1_str, bare1_nils, bare1_slice, List.map_cons, List.map_nil, ↓stepC_bool]
      refine ⟨fun hb => ?_, fun hb => ?_⟩
      · refine WC_seqR (fun N11 hN11 hD11 => ?_)
        simp only [ev_tmp, ev_bool, ev_int, ev_func, ev_nilp, ev_nils, ev_nilf, look_cons, look_nil, put_some, put_none, ↓stepO_some, ↓stepL_some, ↓stepB_tt, ↓stepB_ff, ↓stepB_tf, ↓stepB_ft, Bool.false_eq_true, ↓stepB_skip, if_true, if_false, Nat.reduceLT, Nat.reduceEqDiff, gslot_mk, gsl_zero, gsl_succ, gval_some, bare_bool, bare_int, bare_str, bare_nils, bare_slice, bare_tup, bare1_bool, bare1_int, bare1_str, bare1_nils, bare1_slice, List.map_cons, List.map_nil, ↓WOps_move, ↓WOps_assign, ↓WOps_pick, ↓WOps_load, ↓WOps_nilCheck, ↓WOps_binOp, ↓WOps_unOp, ↓WOps_convert, ↓WOps_build, ↓WOps_buildSlice, ↓WOps_slice, ↓WOps_fieldAddr, ↓WOps_field, ↓WOps_indexAddr, ↓WOps_index, ↓WOps_extract, ↓WOps_makeFunc, ↓WOps_len, ↓WOps_max, ↓WOps_min, ↓WOps_alloc, ↓WOps_box, ↓WOps_store, ↓WOps_make, ↓WOps_append, ↓WOps_nil, ↓WOps_g, opV, loudV, cellsOf, List.getElem?_toArray, int_load, bin_add, bin_sub, bin_mul, bin_quo, bin_rem, bin_eql, bin_neq, bin_lss, bin_leq, bin_gtr, bin_geq, bin_str, strOp, un_not, evL, List.getElem?_cons_zero, List.getElem?_cons_succ, List.drop_zero, List.drop_succ_cons, List.head?_cons, Nat.zero_add, List.nil_append, List.cons_append, List.length_nil, List.length_cons, Nat.reduceAdd, true_and, and_true, and_self, List.set_cons_zero, List.set_cons_succ, List.length_map, cells_int, cells_bool, cells_str, cells_nils, cells_nilp, cells_ptr, cells_slice, cells_func, isC_int, isC_bool, isC_str, isC_nils, isC_nilp, isC_ptr, isC_slice, isC_func, beq_self_eq_true, bne_self_eq_false, Int.reduceBEq, Int.reduceBNe, Nat.zero_mul, Nat.one_mul, Nat.mul_one, Bool.not_true, Bool.not_false, Bool.and_self, Bool.and_true, Bool.true_and]
        refine hN11 _ ?_; try clear hN11 hD11 N11
        refine WC_ret ?_; (try simp only [Exit.after, Exit.out]); refine Kend_ret (by simp only [resOf, resL, resV, mkS_get, slots_get, cellsOf, ti25, ti3, ti38, tag_load, tag_neq, ev_tmp, ev_bool, ev_int, ev_func, ev_nilp, ev_nils, ev_nilf, look_cons, look_nil, put_some, put_none, ↓stepO_some, ↓stepL_some, ↓stepB_tt, ↓stepB_ff, ↓stepB_tf, ↓stepB_ft, Bool.false_eq_true, ↓stepB_skip, if_true, if_false, Nat.reduceLT, Nat.reduceEqDiff, gslot_mk, gsl_zero, gsl_succ, gval_some, bare_bool, bare_int, bare_str, bare_nils, bare_slice, bare_tup, bare1_bool, bare1_int, bare1_str, bare1_nils, bare1_slice, List.map_cons, List.map_nil]; rfl) (by first | rfl | (simp only [ti25, ti3, ti38, tag_load, tag_neq, okV, ok1, okC, okP, List.all_cons, List.all_nil, Bool.and_true]; done)) ?_
        have : ¬ (l = m) := fun h => by
          subst h
          rw [hp] at hq
          obtain rfl := Option.some.inj hq
          simp at hb
        rw [beq_eq_false_iff_ne.2 this]; rfl
      · have hpq : p = q := by
          obtain ⟨p1, p2⟩ := p
          obtain ⟨q1, q2⟩ := q
          simpa using hb
        refine WC_skip ?_
        refine hN9 _ ?_; try clear hN9 hD9 N9
        refine WC_regN (fun N12 hN12 => ?_)
        simp only [ev_tmp, ev_bool, ev_int, ev_func, ev_nilp, ev_nils, ev_nilf, look_cons, look_nil, put_some, put_none, ↓stepO_some, ↓stepL_some, ↓stepB_tt, ↓stepB_ff, ↓stepB_tf, ↓stepB_ft, Bool.false_eq_true, ↓stepB_skip, if_true, if_false, Nat.reduceLT, Nat.reduceEqDiff, gslot_mk, gsl_zero, gsl_succ, gval_some, bare_bool, bare_int, bare_str, bare_nils, bare_slice, bare_tup, bare1_bool, bare1_int, bare1_str, bare1_nils, bare1_slice, List.map_cons, List.map_nil, ↓WOps_move, ↓WOps_assign, ↓WOps_pick, ↓WOps_load, ↓WOps_nilCheck, ↓WOps_binOp, ↓WOps_unOp, ↓WOps_convert, ↓WOps_build, ↓WOps_buildSlice, ↓WOps_slice, ↓WOps_fieldAddr, ↓WOps_field, ↓WOps_indexAddr, ↓WOps_index, ↓WOps_extract, ↓WOps_makeFunc, ↓WOps_len, ↓WOps_max, ↓WOps_min, ↓WOps_alloc, ↓WOps_box, ↓WOps_store, ↓WOps_make, ↓WOps_append, ↓WOps_nil, ↓WOps_g, opV, loudV, cellsOf, List.getElem?_toArray, int_load, bin_add, bin_sub, bin_mul, bin_quo, bin_rem, bin_eql, bin_neq, bin_lss, bin_leq, bin_gtr, bin_geq, bin_str, strOp, un_not, evL, List.getElem?_cons_zero, List.getElem?_cons_succ, List.drop_zero, List.drop_succ_cons, List.head?_cons, Nat.zero_add, List.nil_append, List.cons_append, List.length_nil, List.length_cons, Nat.reduceAdd, true_and, and_true, and_self, List.set_cons_zero, List.set_cons_succ, List.length_map, cells_int, cells_bool, cells_str, cells_nils, cells_nilp, cells_ptr, cells_slice, cells_func, isC_int, isC_bool, isC_str, isC_nils, isC_nilp, isC_ptr, isC_slice, isC_func, beq_self_eq_true, bne_self_eq_false, Int.reduceBEq, Int.reduceBNe, Nat.zero_mul, Nat.one_mul, Nat.mul_one, Bool.not_true, Bool.not_false, Bool.and_self, Bool.and_true, Bool.true_and, wrapI (x := (t : Int) + 1) (by omega) (by omega)]
        refine hN12 _ ?_; try clear hN12 N12
        refine ⟨t + 1, ⟨_, rfl, ⟨rfl, rfl, rfl, trivial⟩, ht, ?_⟩, (by omega)⟩
        rw [List.take_add_one, List.take_add_one, hp, hq, htk, hpq]
    · have ht : t = l.length := by have := of_decide_eq_false hb; omega
      refine WC_exit ?_
      refine hN5 _ ?_; try clear hN5 hD5 N5
      refine WC_seqR (fun N13 hN13 hD13 => ?_)
      simp only [ev_tmp, ev_bool, ev_int, ev_func, ev_nilp, ev_nils, ev_nilf, look_cons, look_nil, put_some, put_none, ↓stepO_some, ↓stepL_some, ↓stepB_tt, ↓stepB_ff, ↓stepB_tf, ↓stepB_ft, Bool.false_eq_true, ↓stepB_skip, if_true, if_false, Nat.reduceLT, Nat.reduceEqDiff, gslot_mk, gsl_zero, gsl_succ, gval_some, bare_bool, bare_int, bare_str, bare_nils, bare_slice, bare_tup, bare1_bool, bare1_int, bare1_str, bare1_nils, bare1_slice, List.map_cons, List.map_nil, ↓WOps_move, ↓WOps_assign, ↓WOps_pick, ↓WOps_load, ↓WOps_nilCheck, ↓WOps_binOp, ↓WOps_unOp, ↓WOps_convert, ↓WOps_build, ↓WOps_buildSlice, ↓WOps_slice, ↓WOps_fieldAddr, ↓WOps_field, ↓WOps_indexAddr, ↓WOps_index, ↓WOps_extract, ↓WOps_makeFunc, ↓WOps_len, ↓WOps_max, ↓WOps_min, ↓WOps_alloc, ↓WOps_box, ↓WOps_store, ↓WOps_make, ↓WOps_append, ↓WOps_nil, ↓WOps_g, opV, loudV, cellsOf, List.getElem?_toArray, int_load, bin_add, bin_sub, bin_mul, bin_quo, bin_rem, bin_eql, bin_neq, bin_lss, bin_leq, bin_gtr, bin_geq, bin_str, strOp, un_not, evL, List.getElem?_cons_zero, List.getElem?_cons_succ, List.drop_zero, List.drop_succ_cons, List.head?_cons, Nat.zero_add, List.nil_append, List.cons_append, List.length_nil, List.length_cons, Nat.reduceAdd, true_and, and_true, and_self, List.set_cons_zero, List.set_cons_succ, List.length_map, cells_int, cells_bool, cells_str, cells_nils, cells_nilp, cells_ptr, cells_slice, cells_func, isC_int, isC_bool, isC_str, isC_nils, isC_nilp, isC_ptr, isC_slice, isC_func, beq_self_eq_true, bne_self_eq_false, Int.reduceBEq, Int.reduceBNe, Nat.zero_mul, Nat.one_mul, Nat.mul_one, Bool.not_true, Bool.not_false, Bool.and_self, Bool.and_true, Bool.true_and]
      refine hN13 _ ?_; try clear hN13 hD13 N13
      refine WC_ret ?_; (try simp only [Exit.after, Exit.out]); refine Kend_ret (by simp only [resOf, resL, resV, mkS_get, slots_get, cellsOf, ti25, ti3, ti38, tag_load, tag_neq, ev_tmp, ev_bool, ev_int, ev_func, ev_nilp, ev_nils, ev_nilf, look_cons, look_nil, put_some, put_none, ↓stepO_some, ↓stepL_some, ↓stepB_tt, ↓stepB_ff, ↓stepB_tf, ↓stepB_ft, Bool.false_eq_true, ↓stepB_skip, if_true, if_false, Nat.reduceLT, Nat.reduceEqDiff, gslot_mk, gsl_zero, gsl_succ, gval_some, bare_bool, bare_int, bare_str, bare_nils, bare_slice, bare_tup, bare1_bool, bare1_int, bare1_str, bare1_nils, bare1_slice, List.map_cons, List.map_nil]; rfl) (by first | rfl | (simp only [ti25, ti3, ti38, tag_load, tag_neq, okV, ok1, okC, okP, List.all_cons, List.all_nil, Bool.and_true]; done)) ?_
      have : l = m := by
        rw [ht, List.take_length, hlm, List.take_length] at htk
        exact htk
      rw [beq_iff_eq.2 this]; rfl
end Go.PV
