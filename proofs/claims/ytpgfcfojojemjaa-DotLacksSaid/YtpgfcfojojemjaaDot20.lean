/- dot.Lacks. -/
import Derived.Test.YtpgfcfojojemjaaDot19
namespace Go.PV
open Go.Proofs
set_option linter.unusedVariables false
set_option linter.unusedSimpArgs false
set_option maxRecDepth 10000

noncomputable def lkC : Code := match Try.f24.body.getD .skip with
  | .seq _ (.scope c) => c
  | c => c
theorem range_one : ([0] = List.range 1) = True := by simp
theorem tag_clean (r n : Int) : (tagV r n).clean = true := rfl
noncomputable def lkR : Code := match findLabel lkC 1 with
  | some (.seq _ r) => r
  | _ => .skip
structure LkI (a b : List Int) (t : Nat × List Int × List (Int × Int)) : Prop where
  i : t.1 ≤ 6
  u : t.2.1.length = 6
  l : lacksFrom a b 0 = t.2.2 ++ lacksFrom t.2.1 b t.1
  lo : ∀ k, 0 ≤ t.2.1.getD k 0 ∧ t.2.1.getD k 0 ≤ 400
def lkJ (a b : List Int) (n0 : Nat) (l : Nat) (t : Nat × List Int × List (Int × Int)) (s : St) : Prop :=
  LkI a b t ∧ (l = 0 ∨ l = 1 ∧ t.1 < 6) ∧ ∃ ps x ow nx, s = ⟨mkS 42 ps, [t.2.1.map (V.int .i64), b.map (V.int .i64)], ow, nx⟩ ∧ Has ps [(7, .int .i64 t.1), (6, x), (2, .ptr 0 0), (3, .ptr 1 0)] ∧ SL t.2.2 x ow
def lkM (l : Nat) (t : Nat × List Int × List (Int × Int)) : Nat := if l = 0 then 2000 * (7 - t.1) else 2000 * (6 - t.1) + 1000 + (400 - (t.2.1.getD t.1 0)).toNat

theorem lk_one (a b : List Int) (ha : a.length = 6) (hb : b.length = 6) (hbr : ∀ k, 0 ≤ b.getD k 0 ∧ b.getD k 0 ≤ 400) (hN : (lacksFrom a b 0).length ≤ 2400) (n0 m : Nat) (K : Exit → St → Prop) (t : Nat × List Int × List (Int × Int)) (s : St) (h : lkJ a b n0 1 t s) (hm : lkM 1 t ≤ m) :
    WC Try.prog lkR (Exit.at (fun l' s' => ∃ t', lkJ a b n0 l' t' s' ∧ lkM l' t' < m) K) s := by
  obtain ⟨⟨hi, hu, hl, hlo⟩, hi6, ps, x, ow, nx, rfl, hps, hsl⟩ := h
  refine WC_has hps ?_; clear hps ps
  simp only [lkR, lkC, Try.f24, Option.getD_some, findLabel, Nat.reduceBEq, Bool.false_eq_true, if_false, if_true, beq_self_eq_true]
  obtain ⟨i, u, l⟩ := t
  simp only at hi hu hl hlo hi6 hsl hm ⊢
  have hi6 : i < 6 := by simpa using hi6
  have hii : (0 : Int) ≤ i ∧ (i : Int) < 6 := by omega
  have g1 := vec_get (v := u) (k := i) (by omega)
  have g2 := vec_get (v := b) (k := i) (by omega)
  obtain ⟨p, hp⟩ : ∃ p, u.getD i 0 = p := ⟨_, rfl⟩
  obtain ⟨q, hq⟩ : ∃ q, b.getD i 0 = q := ⟨_, rfl⟩
  have hpb := hlo i
  rw [hp] at g1 hpb
  rw [hq] at g2
  have hstep := lacksFrom_step (u := u) (b := b) hi6
  rw [hp, hq] at hstep
  refine WC_seqN (fun N1 hN1 hD1 => ?_)
  refine WC_seqD mixed [] [0, 0, 0, 0, 0, 0, 0] (by decide +kernel) (fun N13 hN13 hD13 => ?_)
  simp only [ev_tmp, ev_bool, ev_int, ev_func, ev_nilp, ev_nils, ev_nilf, look_cons, look_nil, put_some, put_none, ↓stepO_some, ↓stepL_some, ↓stepB_tt, ↓stepB_ff, ↓stepB_tf, ↓stepB_ft, Bool.false_eq_true, ↓stepB_skip, if_true, if_false, Nat.reduceLT, Nat.reduceEqDiff, gslot_mk, gsl_zero, gsl_succ, gval_some, bare_bool, bare_int, bare_str, bare_nils, bare_slice, bare_tup, bare1_bool, bare1_int, bare1_str, bare1_nils, bare1_slice, List.map_cons, List.map_nil, ↓D_move, ↓D_assign, ↓D_pick, ↓D_load, ↓D_nilCheck, ↓D_binOp, ↓D_unOp, ↓D_convert, ↓D_build, ↓D_buildSlice, ↓D_slice, ↓D_fieldAddr, ↓D_field, ↓D_indexAddr, ↓D_index, ↓D_extract, ↓D_makeFunc, ↓D_len, ↓D_max, ↓D_min, ↓D_alloc, ↓D_box, ↓D_store, ↓D_make, ↓D_append, ↓D_nil, ↓D_g, memOk, lets0, lets1, List.not_mem_nil, not_false_eq_true, true_and, and_true, opV, loudV, cellsOf, List.getElem?_toArray, int_load, bin_add, bin_sub, bin_mul, bin_quo, bin_rem, bin_eql, bin_neq, bin_lss, bin_leq, bin_gtr, bin_geq, bin_str, strOp, un_not, evL, List.getElem?_cons_zero, List.getElem?_cons_succ, List.drop_zero, List.drop_succ_cons, List.head?_cons, Nat.zero_add, List.nil_append, List.cons_append, List.length_nil, List.length_cons, Nat.reduceAdd, true_and, and_true, and_self, List.set_cons_zero, List.set_cons_succ, List.length_map, cells_int, cells_bool, cells_str, cells_nils, cells_nilp, cells_ptr, cells_slice, cells_func, isC_int, isC_bool, isC_str, isC_nils, isC_nilp, isC_ptr, isC_slice, isC_func, beq_self_eq_true, bne_self_eq_false, Int.reduceBEq, Int.reduceBNe, Nat.zero_mul, Nat.one_mul, Nat.mul_one, Bool.not_true, Bool.not_false, Bool.and_self, Bool.and_true, Bool.true_and, vec_cells, all_ints, ti25, ti23, ti3, List.getElem?_cons_zero, List.getElem?_cons_succ, List.drop_zero, vec_ia, hii, Int.toNat_natCast, g1, g2]
  refine hN13 _ ?_; try clear hN13 hD13 N13
  refine WC_condE ?_
  simp only [ev_tmp, ev_bool, ev_int, ev_func, ev_nilp, ev_nils, ev_nilf, look_cons, look_nil, put_some, put_none, ↓stepO_some, ↓stepL_some, ↓stepB_tt, ↓stepB_ff, ↓stepB_tf, ↓stepB_ft, Bool.false_eq_true, ↓stepB_skip, if_true, if_false, Nat.reduceLT, Nat.reduceEqDiff, gslot_mk, gsl_zero, gsl_succ, gval_some, bare_bool, bare_int, bare_str, bare_nils, bare_slice, bare_tup, bare1_bool, bare1_int, bare1_str, bare1_nils, bare1_slice, List.map_cons, List.map_nil, ↓stepC_bool]
  refine ⟨fun hb1 => ?_, fun hb1 => ?_⟩
  · have hlt : p < q := of_decide_eq_true hb1
    have hk : i + 1 ≤ 6 := hi6
    have hul : (u.set i (p + 1)).length = 6 := by simp [hu]
    have g3 : ((List.map (V.int .i64) (u.set i (p + 1))).drop i).head? = some (.int .i64 (p + 1)) := vec_at (by rw [List.getElem?_set]; simp [hu, hi6])
    refine WC_seqR (fun N14 hN14 hD14 => ?_)
    simp only [ev_tmp, ev_bool, ev_int, ev_func, ev_nilp, ev_nils, ev_nilf, look_cons, look_nil, put_some, put_none, ↓stepO_some, ↓stepL_some, ↓stepB_tt, ↓stepB_ff, ↓stepB_tf, ↓stepB_ft, Bool.false_eq_true, ↓stepB_skip, if_true, if_false, Nat.reduceLT, Nat.reduceEqDiff, gslot_mk, gsl_zero, gsl_succ, gval_some, bare_bool, bare_int, bare_str, bare_nils, bare_slice, bare_tup, bare1_bool, bare1_int, bare1_str, bare1_nils, bare1_slice, List.map_cons, List.map_nil, ↓WOps_move, ↓WOps_assign, ↓WOps_pick, ↓WOps_load, ↓WOps_nilCheck, ↓WOps_binOp, ↓WOps_unOp, ↓WOps_convert, ↓WOps_build, ↓WOps_buildSlice, ↓WOps_slice, ↓WOps_fieldAddr, ↓WOps_field, ↓WOps_indexAddr, ↓WOps_index, ↓WOps_extract, ↓WOps_makeFunc, ↓WOps_len, ↓WOps_max, ↓WOps_min, ↓WOps_alloc, ↓WOps_box, ↓WOps_store, ↓WOps_make, ↓WOps_append, ↓WOps_nil, ↓WOps_g, opV, loudV, cellsOf, List.getElem?_toArray, int_load, bin_add, bin_sub, bin_mul, bin_quo, bin_rem, bin_eql, bin_neq, bin_lss, bin_leq, bin_gtr, bin_geq, bin_str, strOp, un_not, evL, List.getElem?_cons_zero, List.getElem?_cons_succ, List.drop_zero, List.drop_succ_cons, List.head?_cons, Nat.zero_add, List.nil_append, List.cons_append, List.length_nil, List.length_cons, Nat.reduceAdd, true_and, and_true, and_self, List.set_cons_zero, List.set_cons_succ, List.length_map, cells_int, cells_bool, cells_str, cells_nils, cells_nilp, cells_ptr, cells_slice, cells_func, isC_int, isC_bool, isC_str, isC_nils, isC_nilp, isC_ptr, isC_slice, isC_func, beq_self_eq_true, bne_self_eq_false, Int.reduceBEq, Int.reduceBNe, Nat.zero_mul, Nat.one_mul, Nat.mul_one, Bool.not_true, Bool.not_false, Bool.and_self, Bool.and_true, Bool.true_and, vec_cells, all_ints, ti25, ti23, ti3, List.getElem?_cons_zero, List.getElem?_cons_succ, List.drop_zero, vec_ia, hii, Int.toNat_natCast, g1, wrapI (x := p + 1) (by omega) (by omega), hu, hk, vec_set]
    refine hN14 _ ?_; try clear hN14 hD14 N14
    rw [lackAt_one hlt] at hstep
    have hlen : l.length + 1 ≤ maxApp := by
      have := congrArg List.length hl
      rw [hstep] at this
      simp only [List.length_append, List.length_cons, List.cons_append] at this
      unfold maxApp; omega
    obtain ⟨x', ow', nx', happ, hsl'⟩ := app_tag (nx := nx) (ie := (⟨.struct [(0, 3), (1, 3)], 2, 16, some [.int .i64 0, .int .i64 0]⟩ : TI)) hsl rfl ((i : Int) + 1, p + 1) hlen
    simp only [tagE] at happ
    refine WC_seqR (fun N15 hN15 hD15 => ?_)
    simp only [ev_tmp, ev_bool, ev_int, ev_func, ev_nilp, ev_nils, ev_nilf, look_cons, look_nil, put_some, put_none, ↓stepO_some, ↓stepL_some, ↓stepB_tt, ↓stepB_ff, ↓stepB_tf, ↓stepB_ft, Bool.false_eq_true, ↓stepB_skip, if_true, if_false, Nat.reduceLT, Nat.reduceEqDiff, gslot_mk, gsl_zero, gsl_succ, gval_some, bare_bool, bare_int, bare_str, bare_nils, bare_slice, bare_tup, bare1_bool, bare1_int, bare1_str, bare1_nils, bare1_slice, List.map_cons, List.map_nil, ↓WOps_move, ↓WOps_assign, ↓WOps_pick, ↓WOps_load, ↓WOps_nilCheck, ↓WOps_binOp, ↓WOps_unOp, ↓WOps_convert, ↓WOps_build, ↓WOps_buildSlice, ↓WOps_slice, ↓WOps_fieldAddr, ↓WOps_field, ↓WOps_indexAddr, ↓WOps_index, ↓WOps_extract, ↓WOps_makeFunc, ↓WOps_len, ↓WOps_max, ↓WOps_min, ↓WOps_alloc, ↓WOps_box, ↓WOps_store, ↓WOps_make, ↓WOps_append, ↓WOps_nil, ↓WOps_g, opV, loudV, cellsOf, List.getElem?_toArray, int_load, bin_add, bin_sub, bin_mul, bin_quo, bin_rem, bin_eql, bin_neq, bin_lss, bin_leq, bin_gtr, bin_geq, bin_str, strOp, un_not, evL, List.getElem?_cons_zero, List.getElem?_cons_succ, List.drop_zero, List.drop_succ_cons, List.head?_cons, Nat.zero_add, List.nil_append, List.cons_append, List.length_nil, List.length_cons, Nat.reduceAdd, true_and, and_true, and_self, List.set_cons_zero, List.set_cons_succ, List.length_map, cells_int, cells_bool, cells_str, cells_nils, cells_nilp, cells_ptr, cells_slice, cells_func, isC_int, isC_bool, isC_str, isC_nils, isC_nilp, isC_ptr, isC_slice, isC_func, beq_self_eq_true, bne_self_eq_false, Int.reduceBEq, Int.reduceBNe, Nat.zero_mul, Nat.one_mul, Nat.mul_one, Bool.not_true, Bool.not_false, Bool.and_self, Bool.and_true, Bool.true_and, vec_cells, all_ints, ti25, ti23, ti3, List.getElem?_cons_zero, List.getElem?_cons_succ, List.drop_zero, buildV, evParts, V.isCell, List.all_cons, List.all_nil, Bool.and_self, if_true, placesOf, fillV, List.getElem?_cons_zero, List.getElem?_cons_succ, List.length_cons, List.length_nil, Nat.zero_add, Nat.reduceAdd, ne_eq, not_true_eq_false, false_or, gt_iff_lt, Nat.reduceLT, if_false, wrL, Option.map_some, List.set_cons_zero, List.set_cons_succ, vec_ia, hii, Int.toNat_natCast, g3, wrapI (x := (i : Int) + 1) (by omega) (by omega), tag_fold, buildSliceV, ti38, elemsV, range_one, tag_clean, tag_cells, Option.isSome_some, Nat.reducePow, Nat.reduceLeDiff, TD.intK?, happ]
    refine hN15 _ ?_; try clear hN15 hD15 N15
    refine WC_goto ?_
    simp only [Exit.after, Exit.at]
    have hgd : ∀ k, (u.set i (p + 1)).getD k 0 = if i = k then p + 1 else u.getD k 0 := fun k => by
      simp only [List.getD, List.getElem?_set]
      by_cases h : i = k
      · subst h; simp only [if_true, hu, hi6, Option.getD_some]
      · simp only [if_neg h]
    have hgi : (u.set i (p + 1)).getD i 0 = p + 1 := by rw [hgd, if_pos rfl]
    refine ⟨(i, u.set i (p + 1), l ++ [((i : Int) + 1, p + 1)]), ⟨⟨hi, hul, ?_, fun k => ?_⟩, .inr ⟨rfl, hi6⟩, _, x', ow', nx', rfl, ⟨rfl, rfl, rfl, rfl, trivial⟩, hsl'⟩, ?_⟩
    · simp only
      rw [hl, hstep, lacksFrom_step (u := u.set i (p + 1)) hi6, hgi, hq]
      have : lacksFrom (u.set i (p + 1)) b (i + 1) = lacksFrom u b (i + 1) := lackF_set _ _ (by omega)
      rw [this]; simp
    · simp only
      have := hlo k
      rw [hgd]
      split
      · have hb4 := hbr i; omega
      · exact this
    · have hb4 := hbr i
      simp only [lkM, hp] at hm
      simp only [lkM, hgi]
      simp at hm ⊢
      omega
  · have hlt : ¬ p < q := of_decide_eq_false hb1
    rw [lackAt_none hlt, List.nil_append] at hstep
    refine WC_skip ?_
    refine hN1 _ ?_; try clear hN1 hD1 N1
    refine WC_seqR (fun N16 hN16 hD16 => ?_)
    simp only [ev_tmp, ev_bool, ev_int, ev_func, ev_nilp, ev_nils, ev_nilf, look_cons, look_nil, put_some, put_none, ↓stepO_some, ↓stepL_some, ↓stepB_tt, ↓stepB_ff, ↓stepB_tf, ↓stepB_ft, Bool.false_eq_true, ↓stepB_skip, if_true, if_false, Nat.reduceLT, Nat.reduceEqDiff, gslot_mk, gsl_zero, gsl_succ, gval_some, bare_bool, bare_int, bare_str, bare_nils, bare_slice, bare_tup, bare1_bool, bare1_int, bare1_str, bare1_nils, bare1_slice, List.map_cons, List.map_nil, ↓WOps_move, ↓WOps_assign, ↓WOps_pick, ↓WOps_load, ↓WOps_nilCheck, ↓WOps_binOp, ↓WOps_unOp, ↓WOps_convert, ↓WOps_build, ↓WOps_buildSlice, ↓WOps_slice, ↓WOps_fieldAddr, ↓WOps_field, ↓WOps_indexAddr, ↓WOps_index, ↓WOps_extract, ↓WOps_makeFunc, ↓WOps_len, ↓WOps_max, ↓WOps_min, ↓WOps_alloc, ↓WOps_box, ↓WOps_store, ↓WOps_make, ↓WOps_append, ↓WOps_nil, ↓WOps_g, opV, loudV, cellsOf, List.getElem?_toArray, int_load, bin_add, bin_sub, bin_mul, bin_quo, bin_rem, bin_eql, bin_neq, bin_lss, bin_leq, bin_gtr, bin_geq, bin_str, strOp, un_not, evL, List.getElem?_cons_zero, List.getElem?_cons_succ, List.drop_zero, List.drop_succ_cons, List.head?_cons, Nat.zero_add, List.nil_append, List.cons_append, List.length_nil, List.length_cons, Nat.reduceAdd, true_and, and_true, and_self, List.set_cons_zero, List.set_cons_succ, List.length_map, cells_int, cells_bool, cells_str, cells_nils, cells_nilp, cells_ptr, cells_slice, cells_func, isC_int, isC_bool, isC_str, isC_nils, isC_nilp, isC_ptr, isC_slice, isC_func, beq_self_eq_true, bne_self_eq_false, Int.reduceBEq, Int.reduceBNe, Nat.zero_mul, Nat.one_mul, Nat.mul_one, Bool.not_true, Bool.not_false, Bool.and_self, Bool.and_true, Bool.true_and, vec_cells, all_ints, ti25, ti23, ti3, List.getElem?_cons_zero, List.getElem?_cons_succ, List.drop_zero, wrapI (x := (i : Int) + 1) (by omega) (by omega)]
    refine hN16 _ ?_; try clear hN16 hD16 N16
    refine WC_goto ?_
    simp only [Exit.after, Exit.at]
    refine ⟨(i + 1, u, l), ⟨⟨hi6, hu, ?_, hlo⟩, .inl rfl, _, x, ow, nx, rfl, ⟨rfl, rfl, rfl, rfl, trivial⟩, hsl⟩, ?_⟩
    · simp only; rw [hl, hstep]
    · simp only [lkM] at hm ⊢
      simp at hm ⊢
      omega

theorem keep_SL {l : List (Int × Int)} {x : V} {ow : List (Nat × Nat)} (h : SL l x ow) : x.keep1 [] = tagsV l ∧ ok1 0 x = true := by
  rcases h with ⟨rfl, rfl, _⟩ | ⟨hne, k, rfl, _⟩
  · exact ⟨rfl, rfl⟩
  · have : l.isEmpty = false := by cases l <;> simp_all
    simp [V.keep1, V.keepC, tagsV, this, ok1, okC, okP]

def lkK (a b : List Int) : Exit → St → Prop := Kend Try.prog [.tmp 4, .tmp 5] 0 fun q _ => q = .tup [tagsV (lacksFrom a b 0), .int .i64 0]

theorem lk_zero (a b : List Int) (ha : a.length = 6) (hb : b.length = 6) (hbr : ∀ k, 0 ≤ b.getD k 0 ∧ b.getD k 0 ≤ 400) (hN : (lacksFrom a b 0).length ≤ 2400) (n0 m : Nat) (t : Nat × List Int × List (Int × Int)) (s : St) (h : lkJ a b n0 0 t s) (hm : lkM 0 t ≤ m) :
    ∃ r, findLabel lkC 0 = some (.seq .skip r) ∧ WC Try.prog r (Exit.at (fun l' s' => ∃ t', lkJ a b n0 l' t' s' ∧ lkM l' t' < m) (lkK a b)) s := by
  obtain ⟨⟨hi, hu, hl, hlo⟩, _, ps, x, ow, nx, rfl, hps, hsl⟩ := h
  have h1 : ∀ s, lkJ a b n0 1 t s → WC Try.prog lkR (Exit.at (fun l' s' => ∃ t', lkJ a b n0 l' t' s' ∧ lkM l' t' < m) (lkK a b)) s := fun s hs => by
    refine lk_one a b ha hb hbr hN n0 m _ t s hs ?_
    have h3 : t.1 < 6 := by simpa using hs.2.1
    have h2 := hlo t.1
    have e0 : lkM 0 t = 2000 * (7 - t.1) := rfl
    have e1 : lkM 1 t = 2000 * (6 - t.1) + 1000 + (400 - (t.2.1.getD t.1 0)).toNat := rfl
    omega
  refine ⟨_, by simp only [lkC, Try.f24, Option.getD_some, findLabel, if_true, beq_self_eq_true]; rfl, ?_⟩
  refine WC_has hps ?_; clear hps ps
  refine WC_seqN (fun N1 hN1 hD1 => ?_)
  refine WC_seqR (fun N2 hN2 hD2 => ?_)
  simp only [ev_tmp, ev_bool, ev_int, ev_func, ev_nilp, ev_nils, ev_nilf, look_cons, look_nil, put_some, put_none, ↓stepO_some, ↓stepL_some, ↓stepB_tt, ↓stepB_ff, ↓stepB_tf, ↓stepB_ft, Bool.false_eq_true, ↓stepB_skip, if_true, if_false, Nat.reduceLT, Nat.reduceEqDiff, gslot_mk, gsl_zero, gsl_succ, gval_some, bare_bool, bare_int, bare_str, bare_nils, bare_slice, bare_tup, bare1_bool, bare1_int, bare1_str, bare1_nils, bare1_slice, List.map_cons, List.map_nil, ↓WOps_move, ↓WOps_assign, ↓WOps_pick, ↓WOps_load, ↓WOps_nilCheck, ↓WOps_binOp, ↓WOps_unOp, ↓WOps_convert, ↓WOps_build, ↓WOps_buildSlice, ↓WOps_slice, ↓WOps_fieldAddr, ↓WOps_field, ↓WOps_indexAddr, ↓WOps_index, ↓WOps_extract, ↓WOps_makeFunc, ↓WOps_len, ↓WOps_max, ↓WOps_min, ↓WOps_alloc, ↓WOps_box, ↓WOps_store, ↓WOps_make, ↓WOps_append, ↓WOps_nil, ↓WOps_g, opV, loudV, cellsOf, List.getElem?_toArray, int_load, bin_add, bin_sub, bin_mul, bin_quo, bin_rem, bin_eql, bin_neq, bin_lss, bin_leq, bin_gtr, bin_geq, bin_str, strOp, un_not, evL, List.getElem?_cons_zero, List.getElem?_cons_succ, List.drop_zero, List.drop_succ_cons, List.head?_cons, Nat.zero_add, List.nil_append, List.cons_append, List.length_nil, List.length_cons, Nat.reduceAdd, true_and, and_true, and_self, List.set_cons_zero, List.set_cons_succ, List.length_map, cells_int, cells_bool, cells_str, cells_nils, cells_nilp, cells_ptr, cells_slice, cells_func, isC_int, isC_bool, isC_str, isC_nils, isC_nilp, isC_ptr, isC_slice, isC_func, beq_self_eq_true, bne_self_eq_false, Int.reduceBEq, Int.reduceBNe, Nat.zero_mul, Nat.one_mul, Nat.mul_one, Bool.not_true, Bool.not_false, Bool.and_self, Bool.and_true, Bool.true_and, vec_cells, all_ints, ti25, ti23, ti3, List.getElem?_cons_zero, List.getElem?_cons_succ, List.drop_zero]
  refine hN2 _ ?_; try clear hN2 hD2 N2
  refine WC_condE ?_
  simp only [ev_tmp, ev_bool, ev_int, ev_func, ev_nilp, ev_nils, ev_nilf, look_cons, look_nil, put_some, put_none, ↓stepO_some, ↓stepL_some, ↓stepB_tt, ↓stepB_ff, ↓stepB_tf, ↓stepB_ft, Bool.false_eq_true, ↓stepB_skip, if_true, if_false, Nat.reduceLT, Nat.reduceEqDiff, gslot_mk, gsl_zero, gsl_succ, gval_some, bare_bool, bare_int, bare_str, bare_nils, bare_slice, bare_tup, bare1_bool, bare1_int, bare1_str, bare1_nils, bare1_slice, List.map_cons, List.map_nil, ↓stepC_bool]
  refine ⟨fun hb1 => ?_, fun hb1 => ?_⟩
  · refine WC_seqR (fun N10 hN10 hD10 => ?_)
    simp only [ev_tmp, ev_bool, ev_int, ev_func, ev_nilp, ev_nils, ev_nilf, look_cons, look_nil, put_some, put_none, ↓stepO_some, ↓stepL_some, ↓stepB_tt, ↓stepB_ff, ↓stepB_tf, ↓stepB_ft, Bool.false_eq_true, ↓stepB_skip, if_true, if_false, Nat.reduceLT, Nat.reduceEqDiff, gslot_mk, gsl_zero, gsl_succ, gval_some, bare_bool, bare_int, bare_str, bare_nils, bare_slice, bare_tup, bare1_bool, bare1_int, bare1_str, bare1_nils, bare1_slice, List.map_cons, List.map_nil, ↓WOps_move, ↓WOps_assign, ↓WOps_pick, ↓WOps_load, ↓WOps_nilCheck, ↓WOps_binOp, ↓WOps_unOp, ↓WOps_convert, ↓WOps_build, ↓WOps_buildSlice, ↓WOps_slice, ↓WOps_fieldAddr, ↓WOps_field, ↓WOps_indexAddr, ↓WOps_index, ↓WOps_extract, ↓WOps_makeFunc, ↓WOps_len, ↓WOps_max, ↓WOps_min, ↓WOps_alloc, ↓WOps_box, ↓WOps_store, ↓WOps_make, ↓WOps_append, ↓WOps_nil, ↓WOps_g, opV, loudV, cellsOf, List.getElem?_toArray, int_load, bin_add, bin_sub, bin_mul, bin_quo, bin_rem, bin_eql, bin_neq, bin_lss, bin_leq, bin_gtr, bin_geq, bin_str, strOp, un_not, evL, List.getElem?_cons_zero, List.getElem?_cons_succ, List.drop_zero, List.drop_succ_cons, List.head?_cons, Nat.zero_add, List.nil_append, List.cons_append, List.length_nil, List.length_cons, Nat.reduceAdd, true_and, and_true, and_self, List.set_cons_zero, List.set_cons_succ, List.length_map, cells_int, cells_bool, cells_str, cells_nils, cells_nilp, cells_ptr, cells_slice, cells_func, isC_int, isC_bool, isC_str, isC_nils, isC_nilp, isC_ptr, isC_slice, isC_func, beq_self_eq_true, bne_self_eq_false, Int.reduceBEq, Int.reduceBNe, Nat.zero_mul, Nat.one_mul, Nat.mul_one, Bool.not_true, Bool.not_false, Bool.and_self, Bool.and_true, Bool.true_and, vec_cells, all_ints, ti25, ti23, ti3, List.getElem?_cons_zero, List.getElem?_cons_succ, List.drop_zero]
    refine hN10 _ ?_; try clear hN10 hD10 N10
    refine WC_noOwn ?_
    have hk := keep_SL hsl
    refine WC_ret ?_; (try simp only [Exit.after, Exit.at]); refine Kend_ret (by simp only [resOf, resL, resV, mkS_get, ev_tmp, ev_bool, ev_int, ev_func, ev_nilp, ev_nils, ev_nilf, look_cons, look_nil, put_some, put_none, ↓stepO_some, ↓stepL_some, ↓stepB_tt, ↓stepB_ff, ↓stepB_tf, ↓stepB_ft, Bool.false_eq_true, ↓stepB_skip, if_true, if_false, Nat.reduceLT, Nat.reduceEqDiff, gslot_mk, gsl_zero, gsl_succ, gval_some, bare_bool, bare_int, bare_str, bare_nils, bare_slice, bare_tup, bare1_bool, bare1_int, bare1_str, bare1_nils, bare1_slice, List.map_cons, List.map_nil]; rfl) ?_ ?_
    · have e := hk.2
      simp only [ev_tmp, ev_bool, ev_int, ev_func, ev_nilp, ev_nils, ev_nilf, look_cons, look_nil, put_some, put_none, ↓stepO_some, ↓stepL_some, ↓stepB_tt, ↓stepB_ff, ↓stepB_tf, ↓stepB_ft, Bool.false_eq_true, ↓stepB_skip, if_true, if_false, Nat.reduceLT, Nat.reduceEqDiff, gslot_mk, gsl_zero, gsl_succ, gval_some, bare_bool, bare_int, bare_str, bare_nils, bare_slice, bare_tup, bare1_bool, bare1_int, bare1_str, bare1_nils, bare1_slice, List.map_cons, List.map_nil, okV, List.all_cons, List.all_nil, Bool.and_true, e]; rfl
    · have h6 : t.1 = 6 := by have := eq_of_beq hb1; omega
      have hl' : lacksFrom a b 0 = t.2.2 := by rw [hl, h6]; simp [lacksFrom, lackF]
      have e := hk.1
      rw [hl']
      simp only [ev_tmp, ev_bool, ev_int, ev_func, ev_nilp, ev_nils, ev_nilf, look_cons, look_nil, put_some, put_none, ↓stepO_some, ↓stepL_some, ↓stepB_tt, ↓stepB_ff, ↓stepB_tf, ↓stepB_ft, Bool.false_eq_true, ↓stepB_skip, if_true, if_false, Nat.reduceLT, Nat.reduceEqDiff, gslot_mk, gsl_zero, gsl_succ, gval_some, bare_bool, bare_int, bare_str, bare_nils, bare_slice, bare_tup, bare1_bool, bare1_int, bare1_str, bare1_nils, bare1_slice, List.map_cons, List.map_nil, V.keep, List.map_cons, List.map_nil, e]; rfl
  · refine WC_skip ?_
    refine hN1 _ ?_; try clear hN1 hD1 N1
    refine WC_seqN (fun N3 hN3 hD3 => ?_)
    refine WC_label ?_
    refine hN3 _ ?_; try clear hN3 hD3 N3
    refine h1 _ ⟨⟨hi, hu, hl, hlo⟩, .inr ⟨rfl, ?_⟩, _, x, ow, nx, rfl, ⟨rfl, rfl, rfl, rfl, trivial⟩, hsl⟩
    have : ¬ ((t.1 : Int) = 6) := by simpa using hb1
    omega
end Go.PV
