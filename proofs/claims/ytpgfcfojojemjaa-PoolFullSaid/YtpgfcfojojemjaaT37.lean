/- punnetlaw26.PoolFull: the walk. -/
import Derived.Test.YtpgfcfojojemjaaT36
import Derived.Test.YtpgfcfojojemjaaRows
import Derived.Test.YtpgfcfojojemjaaPWc
import Derived.SizedLaws
namespace Go.PV
open Go.Proofs
set_option linter.unusedVariables false
set_option linter.unusedSimpArgs false
set_option maxRecDepth 10000
set_option maxHeartbeats 1000000

/-- what a turn's op does, the first time and again -/
theorem put_turn {f i j : Nat} (hf : f < 6) (hi : i ≤ 405) (hj : j = i ∨ j = i + 1) {cs : List V} (hP : PCt (lsts f (min j 400)) cs) (hA : Apart cs) :
    VC Try.prog 30 [.ptr 0 0, opW (turnO f i)] [cs] (fun r hh => ∃ c : Int, r = .int .i64 c ∧ ((c = 0 ∧ j = i ∧ i < 400) ∨ (c = 7 ∧ j = i + 1 ∧ i < 400) ∨ (c = 9 ∧ 400 ≤ i)) ∧ ∃ cs', hh = [cs'] ∧ PCt (lsts f (min (i + 1) 400)) cs' ∧ Apart cs') := by
  have hp : putS (lsts f (min j 400)) (turnO f i) = (if i < 400 then (if j = i then 0 else 7) else 9, lsts f (min (i + 1) 400)) := by
    rcases Nat.lt_or_ge i 400 with h | h
    · rw [if_pos h, Nat.min_eq_left (by omega : i + 1 ≤ 400), Nat.min_eq_left (by omega : j ≤ 400)]
      rcases hj with rfl | rfl
      · rw [if_pos rfl]; exact put_new hf h
      · rw [if_neg (by omega)]; exact put_again hf h
    · rw [if_neg (by omega), Nat.min_eq_right (by omega : 400 ≤ i + 1), Nat.min_eq_right (by omega : 400 ≤ j)]; exact put_full hf h hi
  refine VC.mono (h__punnet_pool_Pool_Put _ cs hP hA (turnO f i) (turn_right hf hi) (by rw [turn_eq hf]; exact Nat.zero_le _) (fun l hl => lsts_drops f _ l hl) (lsts_lens (Nat.min_le_right _ _))) ?_
  rintro r hh ⟨rfl, cs', rfl, h1, h2⟩
  rw [hp] at h1 ⊢
  refine ⟨_, rfl, ?_, cs', rfl, h1, h2⟩
  rcases Nat.lt_or_ge i 400 with h | h
  · rcases hj with rfl | rfl
    · exact .inl ⟨by rw [if_pos h, if_pos rfl], rfl, h⟩
    · exact .inr (.inl ⟨by rw [if_pos h, if_neg (by omega)], rfl, h⟩)
  · exact .inr (.inr ⟨by rw [if_neg (by omega)], h⟩)
theorem back_own2 {own G g r : List (Nat × Nat)} : ∀ q ∈ g, q ∈ ownAfter own G (r ++ g) := fun q hq => List.mem_append_left _ (List.mem_append_right _ hq)
theorem ag2 (k l : IntKind) (a b : Int) : (V.agg [.int k a, .int l b]).cells = [.int k a, .int l b] := rfl
theorem isC2 (k l : IntKind) (a b : Int) : [V.int k a, V.int l b].all V.isCell = true := rfl
theorem set_last (l : List (List V)) (x y : List V) : (l ++ [x]).set l.length y = l ++ [y] := by
  rw [List.set_append_right _ _ (Nat.le_refl _), Nat.sub_self]; rfl
theorem slotI {x y : Int} (h : x = y) : V.int .i64 x = V.int .i64 y := by rw [h]
theorem opsV_len (l : List OpS) : lenV Try.prog 52 (opsV l) = some (.int .i64 l.length) := by
  unfold opsV
  split
  · rename_i h; rw [List.isEmpty_iff.1 h]; rfl
  · simp [lenV, ti52]
theorem c_punnet_punnetlaw26_PoolFull (a b : Int) (ha : 0 ≤ a ∧ a ≤ 255) (hb : 0 ≤ b ∧ b ≤ 255) : VC Try.prog 6 [.int .u8 a, .int .u8 b] [] (fun r _ => r = .bool true) := by
  refine VC_enter (nt := 84) (rs := [.tmp 4]) (ow := []) (m := 0) Try.func6 rfl (by rfl) rfl rfl (by simp) rfl rfl (fun n => ?_)
  simp only [zipT, Nat.zero_add]
  obtain ⟨f, hfd⟩ : ∃ f : Nat, f = (a.tmod 6).toNat := ⟨_, rfl⟩
  have hm6 : 0 ≤ a.tmod 6 ∧ a.tmod 6 < 6 := by rw [Int.tmod_eq_emod_of_nonneg ha.1]; omega
  have hm12 : 0 ≤ b.tmod 12 ∧ b.tmod 12 < 12 := by rw [Int.tmod_eq_emod_of_nonneg hb.1]; omega
  have hf : f < 6 := by omega
  have hz6 : ((6 : Int) = 0) = False := by simp
  have haf : a.tmod 6 = f := by omega
  have hw1 : IntKind.i64.wrap (b.tmod 12) = b.tmod 12 := wrapI (by omega) (by omega)
  have hw2 : IntKind.i64.wrap (395 + b.tmod 12) = 395 + b.tmod 12 := wrapI (by omega) (by omega)
  have hw3 : IntKind.i64.wrap (a.tmod 6) = f := by rw [haf]; exact wrapI (by omega) (by omega)
  refine WC_seqR (fun N1 hN1 hD1 => ?_)
  simp only [sS, ↓sT, if_true, if_false, Nat.reduceLT, Nat.reduceEqDiff, ↓sO, ↓WOps_g, sG, opV, loudV, cellsOf, strOp, evL, Nat.reduceAdd, beq_self_eq_true, bne_self_eq_false, Int.reduceBEq, Int.reduceBNe, opsV_len, op_load, ag2, isC2, hz6, List.getElem?_concat_length, set_last, convV, hw1, hw2, hw3, op_cells, op_isC, op_full, op_len, ti3, ti5, ti25, ti2, ti9, ti47, ti4, ti38, ti49, Nat.le_refl, tag_cells, decide_true, decide_false]
  refine hN1 _ ?_; try clear hN1 hD1 N1
  refine WC_seqN (fun N2 hN2 hD2 => ?_)
  refine WC_seqR (fun N3 hN3 hD3 => ?_)
  refine WOps_callP x_awake26 (by simp only [ev_func]) (by simp only [evL, sS, ↓sT, if_true, if_false, Nat.reduceLT, Nat.reduceEqDiff]; rfl) (by first | rfl | (simp only [List.map, bare_int]; done) | (simp only [List.map, bare_int]; exact rfl)) (by first | rfl | simp [noP_int]) (by first | rfl | simp [noP_int]) rfl ?_
  simp only [sS, ↓sT, if_true, if_false, Nat.reduceLT, Nat.reduceEqDiff, ↓sO, ↓WOps_g, sG, opV, loudV, cellsOf, strOp, evL, Nat.reduceAdd, beq_self_eq_true, bne_self_eq_false, Int.reduceBEq, Int.reduceBNe, opsV_len, op_load, ag2, isC2, hz6, List.getElem?_concat_length, set_last, convV, hw1, hw2, hw3, op_cells, op_isC, op_full, op_len, ti3, ti5, ti25, ti2, ti9, ti47, ti4, ti38, ti49, Nat.le_refl, tag_cells, decide_true, decide_false]
  refine hN3 _ ?_; try clear hN3 hD3 N3
  refine WC_condE ?_
  simp only [sS, ↓sT, if_true, if_false, Nat.reduceLT, Nat.reduceEqDiff, ↓stepC_bool]
  refine ⟨fun hb4 => ?_, fun hb4 => ?_⟩
  · refine WC_seqR (fun N5 hN5 hD5 => ?_)
    simp only [sS, ↓sT, if_true, if_false, Nat.reduceLT, Nat.reduceEqDiff, ↓sO, ↓WOps_g, sG, opV, loudV, cellsOf, strOp, evL, Nat.reduceAdd, beq_self_eq_true, bne_self_eq_false, Int.reduceBEq, Int.reduceBNe, opsV_len, op_load, ag2, isC2, hz6, List.getElem?_concat_length, set_last, convV, hw1, hw2, hw3, op_cells, op_isC, op_full, op_len, ti3, ti5, ti25, ti2, ti9, ti47, ti4, ti38, ti49, Nat.le_refl, tag_cells, hb4, decide_true, decide_false]
    refine hN5 _ ?_; try clear hN5 hD5 N5
    refine WC_ret ?_; (try simp only [Exit.after, Exit.out]); refine Kend_ret (by simp only [resOf, resL, resV, mkS_get, slots_get, cellsOf, load_str, load_bool, load_int, load_slice, ti3, sS, ↓sT, if_true, if_false, Nat.reduceLT, Nat.reduceEqDiff]; rfl) (by first | rfl | (simp only [load_str, load_bool, load_int, load_slice, ti3]; done) | (simp only [load_str, load_bool, load_int, load_slice, ti3, okV, ok1, okC, okP, List.all_cons, List.all_nil, Bool.and_true]; done)) ?_
    clear hN2 hD2 N2
    first
    | (exfalso; simp only [beq_iff_eq, bne_iff_ne, beq_eq_false_iff_ne, bne_eq_false_iff_eq, ne_eq, hsum, hall] at * <;> omega)
    | (exfalso; simp only [beq_iff_eq, bne_iff_ne, beq_eq_false_iff_ne, bne_eq_false_iff_eq, ne_eq] at * <;> omega)
    | exact congrArg V.bool (decide_eq_true h400)
  · refine WC_skip ?_
    refine hN2 _ ?_; try clear hN2 hD2 N2
    refine WC_seqR (fun N6 hN6 hD6 => ?_)
    refine WOps_callN c_new (by simp only [ev_func]) (by first | (simp only [evL, sS, ↓sT, if_true, if_false, Nat.reduceLT, Nat.reduceEqDiff]; done) | (simp only [evL, sS, ↓sT, if_true, if_false, Nat.reduceLT, Nat.reduceEqDiff]; rfl)) (fun c hc => by simp only [newC, List.mem_cons, List.not_mem_nil, or_false] at hc; rcases hc with rfl | rfl | rfl | rfl | rfl | rfl <;> rfl) new_toks ?_
    intro n' hnn
    simp only [sS, ↓sT, if_true, if_false, Nat.reduceLT, Nat.reduceEqDiff, ↓sO, ↓WOps_g, sG, opV, loudV, cellsOf, strOp, evL, Nat.reduceAdd, beq_self_eq_true, bne_self_eq_false, Int.reduceBEq, Int.reduceBNe, opsV_len, op_load, ag2, isC2, hz6, List.getElem?_concat_length, set_last, convV, hw1, hw2, hw3, op_cells, op_isC, op_full, op_len, ti3, ti5, ti25, ti2, ti9, ti47, ti4, ti38, ti49, Nat.le_refl, tag_cells, hb4, decide_true, decide_false]
    refine hN6 _ ?_; try clear hN6 hD6 N6
    refine WC_seqR (fun N7 hN7 hD7 => ?_)
    simp only [sS, ↓sT, if_true, if_false, Nat.reduceLT, Nat.reduceEqDiff, ↓sO, ↓WOps_g, sG, opV, loudV, cellsOf, strOp, evL, Nat.reduceAdd, beq_self_eq_true, bne_self_eq_false, Int.reduceBEq, Int.reduceBNe, opsV_len, op_load, ag2, isC2, hz6, List.getElem?_concat_length, set_last, convV, hw1, hw2, hw3, op_cells, op_isC, op_full, op_len, ti3, ti5, ti25, ti2, ti9, ti47, ti4, ti38, ti49, Nat.le_refl, tag_cells, hb4, decide_true, decide_false]
    refine hN7 _ ?_; try clear hN7 hD7 N7
    refine WC_seqN (fun N8 hN8 hD8 => ?_)
    refine WC_seqR (fun N9 hN9 hD9 => ?_)
    simp only [sS, ↓sT, if_true, if_false, Nat.reduceLT, Nat.reduceEqDiff, ↓sO, ↓WOps_g, sG, opV, loudV, cellsOf, strOp, evL, Nat.reduceAdd, beq_self_eq_true, bne_self_eq_false, Int.reduceBEq, Int.reduceBNe, opsV_len, op_load, ag2, isC2, hz6, List.getElem?_concat_length, set_last, convV, hw1, hw2, hw3, op_cells, op_isC, op_full, op_len, ti3, ti5, ti25, ti2, ti9, ti47, ti4, ti38, ti49, Nat.le_refl, tag_cells, hb4, decide_true, decide_false]
    refine hN9 _ ?_; try clear hN9 hD9 N9
    refine WC_block ?_
    refine WC_loopG (σ := Nat) (fun i s => ∃ ps cs hs ow nx, s = ⟨mkS 84 ps, cs :: hs, ow, nx⟩ ∧ Has ps [(0, .int .u8 a), (1, .int .u8 b), (5, .ptr 0 0), (6, .int .i64 ((min i 400 : Nat))), (7, .int .i64 i)] ∧ PCt (lsts f (min i 400)) cs ∧ Apart cs ∧ (∀ q ∈ cs.flatMap V.tokC, q ∈ ow) ∧ i ≤ 406) (fun i => 406 - i) 0 ?_ (fun i s hI => ?_)
    · exact ⟨_, newC, [], [], _, rfl, ⟨rfl, rfl, rfl, rfl, rfl, trivial⟩, new_PCt hf, new_apart, (by simp [new_toks]), by omega⟩
    obtain ⟨ps, cs, hs, ow, nx, rfl, hps, hP, hA, hO, hi⟩ := hI
    refine WC_has hps ?_; clear hps ps
    refine WC_seqN (fun N10 hN10 hD10 => ?_)
    refine WC_seqR (fun N11 hN11 hD11 => ?_)
    simp only [sS, ↓sT, if_true, if_false, Nat.reduceLT, Nat.reduceEqDiff, ↓sO, ↓WOps_g, sG, opV, loudV, cellsOf, strOp, evL, Nat.reduceAdd, beq_self_eq_true, bne_self_eq_false, Int.reduceBEq, Int.reduceBNe, ti5, ti3, opsV_len, op_load, ag2, isC2, hz6, List.getElem?_concat_length, set_last, convV, hw1, hw2, hw3, op_cells, op_isC, op_full, op_len, ti3, ti5, ti25, ti2, ti9, ti47, ti4, ti38, ti49, Nat.le_refl, tag_cells, hb4, decide_true, decide_false]
    refine hN11 _ ?_; try clear hN11 hD11 N11
    refine WC_condE ?_
    simp only [sS, ↓sT, if_true, if_false, Nat.reduceLT, Nat.reduceEqDiff, ↓stepC_bool, hb4, Int.reduceBEq, Int.reduceBNe, beq_self_eq_true, bne_self_eq_false]
    refine ⟨fun hb12 => ?_, fun hb12 => ?_⟩
    · have hi5 : i ≤ 405 := by have := of_decide_eq_true hb12; rw [hw1, hw2] at this; omega
      skip
      have hk0 : IntKind.i64.wrap ((f : Int) + (i : Int)) = ((f + i : Nat) : Int) := by rw [show (f : Int) + (i : Int) = ((f + i : Nat) : Int) from rfl]; exact wrapI (by omega) (by omega)
      have hk1 : (((f + i : Nat) : Int)).tmod 6 = (((f + i) % 6 : Nat) : Int) := by rw [Int.tmod_eq_emod_of_nonneg (by omega)]; rfl
      have hk2 : IntKind.i64.wrap ((((f + i) % 6 : Nat) : Int) + 1) = (((f + i) % 6 : Nat) : Int) + 1 := wrapI (by omega) (by omega)
      have hk3 : IntKind.i64.wrap ((i : Int).tdiv 6) = ((i / 6 : Nat) : Int) := by
        have : (i : Int).tdiv 6 = ((i / 6 : Nat) : Int) := by rw [Int.tdiv_eq_ediv_of_nonneg (by omega)]; rfl
        rw [this]; exact wrapI (by omega) (by omega)
      have hk4 : IntKind.i64.wrap (((i / 6 : Nat) : Int) + 1) = ((i / 6 : Nat) : Int) + 1 := wrapI (by omega) (by omega)
      have hk5 : IntKind.i64.wrap (i : Int) = i := wrapI (by omega) (by omega)
      have hk6 : IntKind.i64.wrap ((i : Int) + 1) = (i : Int) + 1 := wrapI (by omega) (by omega)
      have hJ : i = i ∨ i = i + 1 := .inl rfl
      have hop : V.agg [.int .i64 ((((f + i) % 6 : Nat) : Int) + 1), .int .i64 (((i / 6 : Nat) : Int) + 1), .int .i64 0, .int .i64 0, .int .i64 ((i : Int) + 1), .str [97], .int .i64 5, .str [], .int .i64 0, .str [], .str [], .int .i64 0, .bool false, .str [], .nils] = opW (turnO f i) := by rw [turn_eq hf]; rfl
      refine WC_skip ?_
      refine hN10 _ ?_; try clear hN10 hD10 N10
      refine WC_seqN (fun N13 hN13 hD13 => ?_)
      refine WC_block ?_
      refine WC_seqR (fun N14 hN14 hD14 => ?_)
      simp only [sS, ↓sT, if_true, if_false, Nat.reduceLT, Nat.reduceEqDiff, ↓sO, ↓WOps_g, sG, opV, loudV, cellsOf, strOp, evL, Nat.reduceAdd, beq_self_eq_true, bne_self_eq_false, Int.reduceBEq, Int.reduceBNe, ti5, ti3, opsV_len, op_load, ag2, isC2, hz6, List.getElem?_concat_length, set_last, convV, hw1, hw2, hw3, op_cells, op_isC, op_full, op_len, ti3, ti5, ti25, ti2, ti9, ti47, ti4, ti38, ti49, Nat.le_refl, tag_cells, hk0, hk1, hk2, hk3, hk4, hk5, hk6, hop, hb4, hb12, decide_true, decide_false]
      refine hN14 _ ?_; try clear hN14 hD14 N14
      refine WC_seqR (fun N15 hN15 hD15 => ?_)
      simp only [sS, ↓sT, if_true, if_false, Nat.reduceLT, Nat.reduceEqDiff, ↓sO, ↓WOps_g, sG, opV, loudV, cellsOf, strOp, evL, Nat.reduceAdd, beq_self_eq_true, bne_self_eq_false, Int.reduceBEq, Int.reduceBNe, buildV, evParts, V.isCell, List.all_cons, List.all_nil, Bool.and_self, if_true, placesOf, fillV, List.getElem?_cons_zero, List.getElem?_cons_succ, List.length_cons, List.length_nil, Nat.zero_add, Nat.reduceAdd, ne_eq, not_true_eq_false, false_or, gt_iff_lt, Nat.reduceLT, if_false, wrL, Option.map_some, List.set_cons_zero, List.set_cons_succ, ti25, ti49, opsV_len, op_load, ag2, isC2, hz6, List.getElem?_concat_length, set_last, convV, hw1, hw2, hw3, op_cells, op_isC, op_full, op_len, ti3, ti5, ti25, ti2, ti9, ti47, ti4, ti38, ti49, Nat.le_refl, tag_cells, hk0, hk1, hk2, hk3, hk4, hk5, hk6, hop, hb4, hb12, decide_true, decide_false]
      refine hN15 _ ?_; try clear hN15 hD15 N15
      refine WC_seqR (fun N16 hN16 hD16 => ?_)
      simp only [sS, ↓sT, if_true, if_false, Nat.reduceLT, Nat.reduceEqDiff, ↓sO, ↓WOps_g, sG, opV, loudV, cellsOf, strOp, evL, Nat.reduceAdd, beq_self_eq_true, bne_self_eq_false, Int.reduceBEq, Int.reduceBNe, opsV_len, op_load, ag2, isC2, hz6, List.getElem?_concat_length, set_last, convV, hw1, hw2, hw3, op_cells, op_isC, op_full, op_len, ti3, ti5, ti25, ti2, ti9, ti47, ti4, ti38, ti49, Nat.le_refl, tag_cells, hk0, hk1, hk2, hk3, hk4, hk5, hk6, hop, hb4, hb12, decide_true, decide_false]
      refine hN16 _ ?_; try clear hN16 hD16 N16
      refine WC_seqN (fun N17 hN17 hD17 => ?_)
      refine WC_seqR (fun N18 hN18 hD18 => ?_)
      simp only [sS, ↓sT, if_true, if_false, Nat.reduceLT, Nat.reduceEqDiff, ↓sO, ↓WOps_g, sG, opV, loudV, cellsOf, strOp, evL, Nat.reduceAdd, beq_self_eq_true, bne_self_eq_false, Int.reduceBEq, Int.reduceBNe, opsV_len, op_load, ag2, isC2, hz6, List.getElem?_concat_length, set_last, convV, hw1, hw2, hw3, op_cells, op_isC, op_full, op_len, ti3, ti5, ti25, ti2, ti9, ti47, ti4, ti38, ti49, Nat.le_refl, tag_cells, hk0, hk1, hk2, hk3, hk4, hk5, hk6, hop, hb4, hb12, decide_true, decide_false]
      refine hN18 _ ?_; try clear hN18 hD18 N18
      refine WC_condE ?_
      simp only [sS, ↓sT, if_true, if_false, Nat.reduceLT, Nat.reduceEqDiff, ↓stepC_bool, hb4, hb12, Int.reduceBEq, Int.reduceBNe, beq_self_eq_true, bne_self_eq_false]
      refine ⟨fun hb19 => ?_, fun hb19 => ?_⟩
      · have ehb19 := eq_of_beq hb19
        refine WC_regN (fun N20 hN20 => ?_)
        simp only [sS, ↓sT, if_true, if_false, Nat.reduceLT, Nat.reduceEqDiff, ↓sO, ↓WOps_g, sG, opV, loudV, cellsOf, strOp, evL, Nat.reduceAdd, beq_self_eq_true, bne_self_eq_false, Int.reduceBEq, Int.reduceBNe, opsV_len, op_load, ag2, isC2, hz6, List.getElem?_concat_length, set_last, convV, hw1, hw2, hw3, op_cells, op_isC, op_full, op_len, ti3, ti5, ti25, ti2, ti9, ti47, ti4, ti38, ti49, Nat.le_refl, tag_cells, hk0, hk1, hk2, hk3, hk4, hk5, hk6, hop, hb4, hb12, ehb19, decide_true, decide_false]
        refine hN20 _ ?_; try clear hN20 N20
        refine hN17 _ ?_; try clear hN17 hD17 N17
        refine WC_seqR (fun N21 hN21 hD21 => ?_)
        simp only [sS, ↓sT, if_true, if_false, Nat.reduceLT, Nat.reduceEqDiff, ↓sO, ↓WOps_g, sG, opV, loudV, cellsOf, strOp, evL, Nat.reduceAdd, beq_self_eq_true, bne_self_eq_false, Int.reduceBEq, Int.reduceBNe, ti49, opsV_len, op_load, ag2, isC2, hz6, List.getElem?_concat_length, set_last, convV, hw1, hw2, hw3, op_cells, op_isC, op_full, op_len, ti3, ti5, ti25, ti2, ti9, ti47, ti4, ti38, ti49, Nat.le_refl, tag_cells, hk0, hk1, hk2, hk3, hk4, hk5, hk6, hop, hb4, hb12, ehb19, decide_true, decide_false]
        refine WOps_callH (b := 0) (o := 0) (ys := [opW (turnO f i)]) (cs := _) (put_turn hf hi5 hJ hP hA) (by simp only [ev_func]) (by first | (simp only [evL, sS, ↓sT, if_true, if_false, Nat.reduceLT, Nat.reduceEqDiff]; done) | (simp only [evL, sS, ↓sT, if_true, if_false, Nat.reduceLT, Nat.reduceEqDiff]; rfl)) rfl (by intro y hy; obtain rfl := List.mem_singleton.1 hy; exact op_noP _) (fun c hc => by obtain ⟨l, _, hl⟩ := hP.mem hc; exact ⟨hl.facts.1, hl.facts.2.1⟩) hO ?_
        rintro _ _ n' ⟨c, rfl, hcode, cs', rfl, hP', hA'⟩ hnn
        refine ⟨cs', rfl, hP'.noP, rfl, ?_⟩
        simp only [put_some, List.set_cons_zero]
        replace hO := @back_own2 ow (cs.flatMap V.tokC) (cs'.flatMap V.tokC) (V.int .i64 c).toks
        generalize ownAfter ow (cs.flatMap V.tokC) ((V.int .i64 c).toks ++ cs'.flatMap V.tokC) = ow' at hO ⊢
        clear hJ hP hA
        obtain ⟨cs, hcs⟩ : ∃ x, x = cs' := ⟨_, rfl⟩
        subst hcs
        obtain ⟨ow, how⟩ : ∃ x, x = ow' := ⟨_, rfl⟩
        subst how
        have hP := hP'; have hA := hA'; clear hP' hA'
        have hJ : i + 1 = i ∨ i + 1 = i + 1 := .inr rfl
        simp only [sS, ↓sT, if_true, if_false, Nat.reduceLT, Nat.reduceEqDiff, ↓sO, ↓WOps_g, sG, opV, loudV, cellsOf, strOp, evL, Nat.reduceAdd, beq_self_eq_true, bne_self_eq_false, Int.reduceBEq, Int.reduceBNe, ti49, opsV_len, op_load, ag2, isC2, hz6, List.getElem?_concat_length, set_last, convV, hw1, hw2, hw3, op_cells, op_isC, op_full, op_len, ti3, ti5, ti25, ti2, ti9, ti47, ti4, ti38, ti49, Nat.le_refl, tag_cells, hk0, hk1, hk2, hk3, hk4, hk5, hk6, hop, hb4, hb12, ehb19, decide_true, decide_false]
        refine hN21 _ ?_; try clear hN21 hD21 N21
        refine WC_seqN (fun N22 hN22 hD22 => ?_)
        refine WC_seqR (fun N23 hN23 hD23 => ?_)
        simp only [sS, ↓sT, if_true, if_false, Nat.reduceLT, Nat.reduceEqDiff, ↓sO, ↓WOps_g, sG, opV, loudV, cellsOf, strOp, evL, Nat.reduceAdd, beq_self_eq_true, bne_self_eq_false, Int.reduceBEq, Int.reduceBNe, opsV_len, op_load, ag2, isC2, hz6, List.getElem?_concat_length, set_last, convV, hw1, hw2, hw3, op_cells, op_isC, op_full, op_len, ti3, ti5, ti25, ti2, ti9, ti47, ti4, ti38, ti49, Nat.le_refl, tag_cells, hk0, hk1, hk2, hk3, hk4, hk5, hk6, hop, hb4, hb12, ehb19, decide_true, decide_false]
        refine stepB_T (fun hg23_3 => ?_) (fun hg23_3 => ?_)
        · simp only [sS, ↓sT, if_true, if_false, Nat.reduceLT, Nat.reduceEqDiff, ↓sO, ↓WOps_g, sG, opV, loudV, cellsOf, strOp, evL, Nat.reduceAdd, beq_self_eq_true, bne_self_eq_false, Int.reduceBEq, Int.reduceBNe, opsV_len, op_load, ag2, isC2, hz6, List.getElem?_concat_length, set_last, convV, hw1, hw2, hw3, op_cells, op_isC, op_full, op_len, ti3, ti5, ti25, ti2, ti9, ti47, ti4, ti38, ti49, Nat.le_refl, tag_cells, hk0, hk1, hk2, hk3, hk4, hk5, hk6, hop, hb4, hb12, ehb19, hg23_3, decide_true, decide_false]
          refine stepB_T (fun hg23_6 => ?_) (fun hg23_6 => ?_)
          · have ehg23_6 := eq_of_beq hg23_6
            simp only [sS, ↓sT, if_true, if_false, Nat.reduceLT, Nat.reduceEqDiff, ↓sO, ↓WOps_g, sG, opV, loudV, cellsOf, strOp, evL, Nat.reduceAdd, beq_self_eq_true, bne_self_eq_false, Int.reduceBEq, Int.reduceBNe, opsV_len, op_load, ag2, isC2, hz6, List.getElem?_concat_length, set_last, convV, hw1, hw2, hw3, op_cells, op_isC, op_full, op_len, ti3, ti5, ti25, ti2, ti9, ti47, ti4, ti38, ti49, Nat.le_refl, tag_cells, hk0, hk1, hk2, hk3, hk4, hk5, hk6, hop, hb4, hb12, ehb19, hg23_3, ehg23_6, decide_true, decide_false]
            refine hN23 _ ?_; try clear hN23 hD23 N23
            refine WC_condE ?_
            simp only [sS, ↓sT, if_true, if_false, Nat.reduceLT, Nat.reduceEqDiff, ↓stepC_bool, hb4, hb12, ehb19, hg23_3, ehg23_6, Int.reduceBEq, Int.reduceBNe, beq_self_eq_true, bne_self_eq_false]
            refine ⟨fun hb => (by cases hb), fun hb => ?_⟩
            refine WC_skip ?_
            refine hN22 _ ?_; try clear hN22 hD22 N22
            refine WC_seqN (fun N24 hN24 hD24 => ?_)
            refine WC_seqR (fun N25 hN25 hD25 => ?_)
            simp only [sS, ↓sT, if_true, if_false, Nat.reduceLT, Nat.reduceEqDiff, ↓sO, ↓WOps_g, sG, opV, loudV, cellsOf, strOp, evL, Nat.reduceAdd, beq_self_eq_true, bne_self_eq_false, Int.reduceBEq, Int.reduceBNe, opsV_len, op_load, ag2, isC2, hz6, List.getElem?_concat_length, set_last, convV, hw1, hw2, hw3, op_cells, op_isC, op_full, op_len, ti3, ti5, ti25, ti2, ti9, ti47, ti4, ti38, ti49, Nat.le_refl, tag_cells, hk0, hk1, hk2, hk3, hk4, hk5, hk6, hop, hb4, hb12, ehb19, hg23_3, ehg23_6, decide_true, decide_false]
            refine hN25 _ ?_; try clear hN25 hD25 N25
            refine WC_condE ?_
            simp only [sS, ↓sT, if_true, if_false, Nat.reduceLT, Nat.reduceEqDiff, ↓stepC_bool, hb4, hb12, ehb19, hg23_3, ehg23_6, Int.reduceBEq, Int.reduceBNe, beq_self_eq_true, bne_self_eq_false]
            refine ⟨fun hb => (by cases hb), fun hb => ?_⟩
            refine WC_skip ?_
            refine hN24 _ ?_; try clear hN24 hD24 N24
            refine WC_seqR (fun N26 hN26 hD26 => ?_)
            simp only [sS, ↓sT, if_true, if_false, Nat.reduceLT, Nat.reduceEqDiff, ↓sO, ↓WOps_g, sG, opV, loudV, cellsOf, strOp, evL, Nat.reduceAdd, beq_self_eq_true, bne_self_eq_false, Int.reduceBEq, Int.reduceBNe, ti49, opsV_len, op_load, ag2, isC2, hz6, List.getElem?_concat_length, set_last, convV, hw1, hw2, hw3, op_cells, op_isC, op_full, op_len, ti3, ti5, ti25, ti2, ti9, ti47, ti4, ti38, ti49, Nat.le_refl, tag_cells, hk0, hk1, hk2, hk3, hk4, hk5, hk6, hop, hb4, hb12, ehb19, hg23_3, ehg23_6, decide_true, decide_false]
            refine WOps_callH (b := 0) (o := 0) (ys := [opW (turnO f i)]) (cs := _) (put_turn hf hi5 hJ hP hA) (by simp only [ev_func]) (by first | (simp only [evL, sS, ↓sT, if_true, if_false, Nat.reduceLT, Nat.reduceEqDiff]; done) | (simp only [evL, sS, ↓sT, if_true, if_false, Nat.reduceLT, Nat.reduceEqDiff]; rfl)) rfl (by intro y hy; obtain rfl := List.mem_singleton.1 hy; exact op_noP _) (fun c hc => by obtain ⟨l, _, hl⟩ := hP.mem hc; exact ⟨hl.facts.1, hl.facts.2.1⟩) hO ?_
            rintro _ _ n' ⟨c, rfl, hcode, cs', rfl, hP', hA'⟩ hnn
            refine ⟨cs', rfl, hP'.noP, rfl, ?_⟩
            simp only [put_some, List.set_cons_zero]
            replace hO := @back_own2 ow (cs.flatMap V.tokC) (cs'.flatMap V.tokC) (V.int .i64 c).toks
            generalize ownAfter ow (cs.flatMap V.tokC) ((V.int .i64 c).toks ++ cs'.flatMap V.tokC) = ow' at hO ⊢
            clear hJ hP hA
            obtain ⟨cs, hcs⟩ : ∃ x, x = cs' := ⟨_, rfl⟩
            subst hcs
            obtain ⟨ow, how⟩ : ∃ x, x = ow' := ⟨_, rfl⟩
            subst how
            have hP := hP'; have hA := hA'; clear hP' hA'
            have hJ : i + 1 = i ∨ i + 1 = i + 1 := .inr rfl
            simp only [sS, ↓sT, if_true, if_false, Nat.reduceLT, Nat.reduceEqDiff, ↓sO, ↓WOps_g, sG, opV, loudV, cellsOf, strOp, evL, Nat.reduceAdd, beq_self_eq_true, bne_self_eq_false, Int.reduceBEq, Int.reduceBNe, ti49, opsV_len, op_load, ag2, isC2, hz6, List.getElem?_concat_length, set_last, convV, hw1, hw2, hw3, op_cells, op_isC, op_full, op_len, ti3, ti5, ti25, ti2, ti9, ti47, ti4, ti38, ti49, Nat.le_refl, tag_cells, hk0, hk1, hk2, hk3, hk4, hk5, hk6, hop, hb4, hb12, ehb19, hg23_3, ehg23_6, decide_true, decide_false]
            refine hN26 _ ?_; try clear hN26 hD26 N26
            refine WC_seqR (fun N27 hN27 hD27 => ?_)
            simp only [sS, ↓sT, if_true, if_false, Nat.reduceLT, Nat.reduceEqDiff, ↓sO, ↓WOps_g, sG, opV, loudV, cellsOf, strOp, evL, Nat.reduceAdd, beq_self_eq_true, bne_self_eq_false, Int.reduceBEq, Int.reduceBNe, opsV_len, op_load, ag2, isC2, hz6, List.getElem?_concat_length, set_last, convV, hw1, hw2, hw3, op_cells, op_isC, op_full, op_len, ti3, ti5, ti25, ti2, ti9, ti47, ti4, ti38, ti49, Nat.le_refl, tag_cells, hk0, hk1, hk2, hk3, hk4, hk5, hk6, hop, hb4, hb12, ehb19, hg23_3, ehg23_6, decide_true, decide_false]
            refine hN27 _ ?_; try clear hN27 hD27 N27
            refine WC_condE ?_
            simp only [sS, ↓sT, if_true, if_false, Nat.reduceLT, Nat.reduceEqDiff, ↓stepC_bool, hb4, hb12, ehb19, hg23_3, ehg23_6, Int.reduceBEq, Int.reduceBNe, beq_self_eq_true, bne_self_eq_false]
            refine ⟨fun hb => (by cases hb), fun hb => ?_⟩
            refine WC_skip ?_
            refine hN13 _ ?_; try clear hN13 hD13 N13
            refine WC_regN (fun N28 hN28 => ?_)
            simp only [sS, ↓sT, if_true, if_false, Nat.reduceLT, Nat.reduceEqDiff, ↓sO, ↓WOps_g, sG, opV, loudV, cellsOf, strOp, evL, Nat.reduceAdd, beq_self_eq_true, bne_self_eq_false, Int.reduceBEq, Int.reduceBNe, opsV_len, op_load, ag2, isC2, hz6, List.getElem?_concat_length, set_last, convV, hw1, hw2, hw3, op_cells, op_isC, op_full, op_len, ti3, ti5, ti25, ti2, ti9, ti47, ti4, ti38, ti49, Nat.le_refl, tag_cells, hk0, hk1, hk2, hk3, hk4, hk5, hk6, hop, hb4, hb12, ehb19, hg23_3, ehg23_6, decide_true, decide_false]
            refine hN28 _ ?_; try clear hN28 N28
            first
            | (exfalso; simp only [beq_iff_eq, bne_iff_ne, beq_eq_false_iff_ne, bne_eq_false_iff_eq, ne_eq] at * <;> omega)
            | (refine ⟨i + 1, ⟨_, cs, _, ow, _, rfl, ⟨rfl, rfl, rfl, slotI ?_, slotI ?_, trivial⟩, hP, hA, hO, by omega⟩, by omega⟩
               · simp only [beq_iff_eq, bne_iff_ne, beq_eq_false_iff_ne, bne_eq_false_iff_eq, ne_eq] at *
                 first | omega | (rw [wrapI (by omega) (by omega)]; omega)
               · omega)
          · simp only [sS, ↓sT, if_true, if_false, Nat.reduceLT, Nat.reduceEqDiff, ↓sO, ↓WOps_g, sG, opV, loudV, cellsOf, strOp, evL, Nat.reduceAdd, beq_self_eq_true, bne_self_eq_false, Int.reduceBEq, Int.reduceBNe, opsV_len, op_load, ag2, isC2, hz6, List.getElem?_concat_length, set_last, convV, hw1, hw2, hw3, op_cells, op_isC, op_full, op_len, ti3, ti5, ti25, ti2, ti9, ti47, ti4, ti38, ti49, Nat.le_refl, tag_cells, hk0, hk1, hk2, hk3, hk4, hk5, hk6, hop, hb4, hb12, ehb19, hg23_3, hg23_6, decide_true, decide_false]
            refine hN23 _ ?_; try clear hN23 hD23 N23
            refine WC_condE ?_
            simp only [sS, ↓sT, if_true, if_false, Nat.reduceLT, Nat.reduceEqDiff, ↓stepC_bool, hb4, hb12, ehb19, hg23_3, hg23_6, Int.reduceBEq, Int.reduceBNe, beq_self_eq_true, bne_self_eq_false]
            refine ⟨fun hb => ?_, fun hb => (by cases hb)⟩
            refine WC_seqR (fun N29 hN29 hD29 => ?_)
            simp only [sS, ↓sT, if_true, if_false, Nat.reduceLT, Nat.reduceEqDiff, ↓sO, ↓WOps_g, sG, opV, loudV, cellsOf, strOp, evL, Nat.reduceAdd, beq_self_eq_true, bne_self_eq_false, Int.reduceBEq, Int.reduceBNe, opsV_len, op_load, ag2, isC2, hz6, List.getElem?_concat_length, set_last, convV, hw1, hw2, hw3, op_cells, op_isC, op_full, op_len, ti3, ti5, ti25, ti2, ti9, ti47, ti4, ti38, ti49, Nat.le_refl, tag_cells, hk0, hk1, hk2, hk3, hk4, hk5, hk6, hop, hb4, hb12, ehb19, hg23_3, hg23_6, decide_true, decide_false]
            refine hN29 _ ?_; try clear hN29 hD29 N29
            refine WC_ret ?_; (try simp only [Exit.after, Exit.out]); refine Kend_ret (by simp only [resOf, resL, resV, mkS_get, slots_get, cellsOf, load_str, load_bool, load_int, load_slice, ti3, sS, ↓sT, if_true, if_false, Nat.reduceLT, Nat.reduceEqDiff]; rfl) (by first | rfl | (simp only [load_str, load_bool, load_int, load_slice, ti3]; done) | (simp only [load_str, load_bool, load_int, load_slice, ti3, okV, ok1, okC, okP, List.all_cons, List.all_nil, Bool.and_true]; done)) ?_
            clear hN22 hD22 N22 hN13 hD13 N13 hN8 hD8 N8
            first
            | (exfalso; simp only [beq_iff_eq, bne_iff_ne, beq_eq_false_iff_ne, bne_eq_false_iff_eq, ne_eq, hsum, hall] at * <;> omega)
            | (exfalso; simp only [beq_iff_eq, bne_iff_ne, beq_eq_false_iff_ne, bne_eq_false_iff_eq, ne_eq] at * <;> omega)
            | exact congrArg V.bool (decide_eq_true h400)
        · simp only [sS, ↓sT, if_true, if_false, Nat.reduceLT, Nat.reduceEqDiff, ↓sO, ↓WOps_g, sG, opV, loudV, cellsOf, strOp, evL, Nat.reduceAdd, beq_self_eq_true, bne_self_eq_false, Int.reduceBEq, Int.reduceBNe, opsV_len, op_load, ag2, isC2, hz6, List.getElem?_concat_length, set_last, convV, hw1, hw2, hw3, op_cells, op_isC, op_full, op_len, ti3, ti5, ti25, ti2, ti9, ti47, ti4, ti38, ti49, Nat.le_refl, tag_cells, hk0, hk1, hk2, hk3, hk4, hk5, hk6, hop, hb4, hb12, ehb19, hg23_3, decide_true, decide_false]
          refine hN23 _ ?_; try clear hN23 hD23 N23
          refine WC_condE ?_
          simp only [sS, ↓sT, if_true, if_false, Nat.reduceLT, Nat.reduceEqDiff, ↓stepC_bool, hb4, hb12, ehb19, hg23_3, Int.reduceBEq, Int.reduceBNe, beq_self_eq_true, bne_self_eq_false]
          refine ⟨fun hb => (by cases hb), fun hb => ?_⟩
          refine WC_skip ?_
          refine hN22 _ ?_; try clear hN22 hD22 N22
          refine WC_seqN (fun N30 hN30 hD30 => ?_)
          refine WC_seqR (fun N31 hN31 hD31 => ?_)
          simp only [sS, ↓sT, if_true, if_false, Nat.reduceLT, Nat.reduceEqDiff, ↓sO, ↓WOps_g, sG, opV, loudV, cellsOf, strOp, evL, Nat.reduceAdd, beq_self_eq_true, bne_self_eq_false, Int.reduceBEq, Int.reduceBNe, opsV_len, op_load, ag2, isC2, hz6, List.getElem?_concat_length, set_last, convV, hw1, hw2, hw3, op_cells, op_isC, op_full, op_len, ti3, ti5, ti25, ti2, ti9, ti47, ti4, ti38, ti49, Nat.le_refl, tag_cells, hk0, hk1, hk2, hk3, hk4, hk5, hk6, hop, hb4, hb12, ehb19, hg23_3, decide_true, decide_false]
          refine hN31 _ ?_; try clear hN31 hD31 N31
          refine WC_condE ?_
          simp only [sS, ↓sT, if_true, if_false, Nat.reduceLT, Nat.reduceEqDiff, ↓stepC_bool, hb4, hb12, ehb19, hg23_3, Int.reduceBEq, Int.reduceBNe, beq_self_eq_true, bne_self_eq_false]
          refine ⟨fun hb32 => ?_, fun hb32 => ?_⟩
          · have ehb32 := eq_of_beq hb32
            refine WC_regN (fun N33 hN33 => ?_)
            simp only [sS, ↓sT, if_true, if_false, Nat.reduceLT, Nat.reduceEqDiff, ↓sO, ↓WOps_g, sG, opV, loudV, cellsOf, strOp, evL, Nat.reduceAdd, beq_self_eq_true, bne_self_eq_false, Int.reduceBEq, Int.reduceBNe, opsV_len, op_load, ag2, isC2, hz6, List.getElem?_concat_length, set_last, convV, hw1, hw2, hw3, op_cells, op_isC, op_full, op_len, ti3, ti5, ti25, ti2, ti9, ti47, ti4, ti38, ti49, Nat.le_refl, tag_cells, hk0, hk1, hk2, hk3, hk4, hk5, hk6, hop, hb4, hb12, ehb19, hg23_3, ehb32, decide_true, decide_false]
            refine hN33 _ ?_; try clear hN33 N33
            refine hN30 _ ?_; try clear hN30 hD30 N30
            refine WC_seqR (fun N34 hN34 hD34 => ?_)
            simp only [sS, ↓sT, if_true, if_false, Nat.reduceLT, Nat.reduceEqDiff, ↓sO, ↓WOps_g, sG, opV, loudV, cellsOf, strOp, evL, Nat.reduceAdd, beq_self_eq_true, bne_self_eq_false, Int.reduceBEq, Int.reduceBNe, ti49, opsV_len, op_load, ag2, isC2, hz6, List.getElem?_concat_length, set_last, convV, hw1, hw2, hw3, op_cells, op_isC, op_full, op_len, ti3, ti5, ti25, ti2, ti9, ti47, ti4, ti38, ti49, Nat.le_refl, tag_cells, hk0, hk1, hk2, hk3, hk4, hk5, hk6, hop, hb4, hb12, ehb19, hg23_3, ehb32, decide_true, decide_false]
            refine WOps_callH (b := 0) (o := 0) (ys := [opW (turnO f i)]) (cs := _) (put_turn hf hi5 hJ hP hA) (by simp only [ev_func]) (by first | (simp only [evL, sS, ↓sT, if_true, if_false, Nat.reduceLT, Nat.reduceEqDiff]; done) | (simp only [evL, sS, ↓sT, if_true, if_false, Nat.reduceLT, Nat.reduceEqDiff]; rfl)) rfl (by intro y hy; obtain rfl := List.mem_singleton.1 hy; exact op_noP _) (fun c hc => by obtain ⟨l, _, hl⟩ := hP.mem hc; exact ⟨hl.facts.1, hl.facts.2.1⟩) hO ?_
            rintro _ _ n' ⟨c, rfl, hcode, cs', rfl, hP', hA'⟩ hnn
            refine ⟨cs', rfl, hP'.noP, rfl, ?_⟩
            simp only [put_some, List.set_cons_zero]
            replace hO := @back_own2 ow (cs.flatMap V.tokC) (cs'.flatMap V.tokC) (V.int .i64 c).toks
            generalize ownAfter ow (cs.flatMap V.tokC) ((V.int .i64 c).toks ++ cs'.flatMap V.tokC) = ow' at hO ⊢
            clear hJ hP hA
            obtain ⟨cs, hcs⟩ : ∃ x, x = cs' := ⟨_, rfl⟩
            subst hcs
            obtain ⟨ow, how⟩ : ∃ x, x = ow' := ⟨_, rfl⟩
            subst how
            have hP := hP'; have hA := hA'; clear hP' hA'
            have hJ : i + 1 = i ∨ i + 1 = i + 1 := .inr rfl
            simp only [sS, ↓sT, if_true, if_false, Nat.reduceLT, Nat.reduceEqDiff, ↓sO, ↓WOps_g, sG, opV, loudV, cellsOf, strOp, evL, Nat.reduceAdd, beq_self_eq_true, bne_self_eq_false, Int.reduceBEq, Int.reduceBNe, ti49, opsV_len, op_load, ag2, isC2, hz6, List.getElem?_concat_length, set_last, convV, hw1, hw2, hw3, op_cells, op_isC, op_full, op_len, ti3, ti5, ti25, ti2, ti9, ti47, ti4, ti38, ti49, Nat.le_refl, tag_cells, hk0, hk1, hk2, hk3, hk4, hk5, hk6, hop, hb4, hb12, ehb19, hg23_3, ehb32, decide_true, decide_false]
            refine hN34 _ ?_; try clear hN34 hD34 N34
            refine WC_seqR (fun N35 hN35 hD35 => ?_)
            simp only [sS, ↓sT, if_true, if_false, Nat.reduceLT, Nat.reduceEqDiff, ↓sO, ↓WOps_g, sG, opV, loudV, cellsOf, strOp, evL, Nat.reduceAdd, beq_self_eq_true, bne_self_eq_false, Int.reduceBEq, Int.reduceBNe, opsV_len, op_load, ag2, isC2, hz6, List.getElem?_concat_length, set_last, convV, hw1, hw2, hw3, op_cells, op_isC, op_full, op_len, ti3, ti5, ti25, ti2, ti9, ti47, ti4, ti38, ti49, Nat.le_refl, tag_cells, hk0, hk1, hk2, hk3, hk4, hk5, hk6, hop, hb4, hb12, ehb19, hg23_3, ehb32, decide_true, decide_false]
            refine hN35 _ ?_; try clear hN35 hD35 N35
            refine WC_condE ?_
            simp only [sS, ↓sT, if_true, if_false, Nat.reduceLT, Nat.reduceEqDiff, ↓stepC_bool, hb4, hb12, ehb19, hg23_3, ehb32, Int.reduceBEq, Int.reduceBNe, beq_self_eq_true, bne_self_eq_false]
            refine ⟨fun hb36 => ?_, fun hb36 => ?_⟩
            · refine WC_seqR (fun N37 hN37 hD37 => ?_)
              simp only [sS, ↓sT, if_true, if_false, Nat.reduceLT, Nat.reduceEqDiff, ↓sO, ↓WOps_g, sG, opV, loudV, cellsOf, strOp, evL, Nat.reduceAdd, beq_self_eq_true, bne_self_eq_false, Int.reduceBEq, Int.reduceBNe, opsV_len, op_load, ag2, isC2, hz6, List.getElem?_concat_length, set_last, convV, hw1, hw2, hw3, op_cells, op_isC, op_full, op_len, ti3, ti5, ti25, ti2, ti9, ti47, ti4, ti38, ti49, Nat.le_refl, tag_cells, hk0, hk1, hk2, hk3, hk4, hk5, hk6, hop, hb4, hb12, ehb19, hg23_3, ehb32, hb36, decide_true, decide_false]
              refine hN37 _ ?_; try clear hN37 hD37 N37
              refine WC_ret ?_; (try simp only [Exit.after, Exit.out]); refine Kend_ret (by simp only [resOf, resL, resV, mkS_get, slots_get, cellsOf, load_str, load_bool, load_int, load_slice, ti3, sS, ↓sT, if_true, if_false, Nat.reduceLT, Nat.reduceEqDiff]; rfl) (by first | rfl | (simp only [load_str, load_bool, load_int, load_slice, ti3]; done) | (simp only [load_str, load_bool, load_int, load_slice, ti3, okV, ok1, okC, okP, List.all_cons, List.all_nil, Bool.and_true]; done)) ?_
              clear hN13 hD13 N13 hN8 hD8 N8
              first
              | (exfalso; simp only [beq_iff_eq, bne_iff_ne, beq_eq_false_iff_ne, bne_eq_false_iff_eq, ne_eq, hsum, hall] at * <;> omega)
              | (exfalso; simp only [beq_iff_eq, bne_iff_ne, beq_eq_false_iff_ne, bne_eq_false_iff_eq, ne_eq] at * <;> omega)
              | exact congrArg V.bool (decide_eq_true h400)
            · refine WC_skip ?_
              refine hN13 _ ?_; try clear hN13 hD13 N13
              refine WC_regN (fun N38 hN38 => ?_)
              simp only [sS, ↓sT, if_true, if_false, Nat.reduceLT, Nat.reduceEqDiff, ↓sO, ↓WOps_g, sG, opV, loudV, cellsOf, strOp, evL, Nat.reduceAdd, beq_self_eq_true, bne_self_eq_false, Int.reduceBEq, Int.reduceBNe, opsV_len, op_load, ag2, isC2, hz6, List.getElem?_concat_length, set_last, convV, hw1, hw2, hw3, op_cells, op_isC, op_full, op_len, ti3, ti5, ti25, ti2, ti9, ti47, ti4, ti38, ti49, Nat.le_refl, tag_cells, hk0, hk1, hk2, hk3, hk4, hk5, hk6, hop, hb4, hb12, ehb19, hg23_3, ehb32, hb36, decide_true, decide_false]
              refine hN38 _ ?_; try clear hN38 N38
              first
              | (exfalso; simp only [beq_iff_eq, bne_iff_ne, beq_eq_false_iff_ne, bne_eq_false_iff_eq, ne_eq] at * <;> omega)
              | (refine ⟨i + 1, ⟨_, cs, _, ow, _, rfl, ⟨rfl, rfl, rfl, slotI ?_, slotI ?_, trivial⟩, hP, hA, hO, by omega⟩, by omega⟩
                 · simp only [beq_iff_eq, bne_iff_ne, beq_eq_false_iff_ne, bne_eq_false_iff_eq, ne_eq] at *
                   first | omega | (rw [wrapI (by omega) (by omega)]; omega)
                 · omega)
          · refine WC_skip ?_
            refine hN30 _ ?_; try clear hN30 hD30 N30
            refine WC_seqR (fun N39 hN39 hD39 => ?_)
            simp only [sS, ↓sT, if_true, if_false, Nat.reduceLT, Nat.reduceEqDiff, ↓sO, ↓WOps_g, sG, opV, loudV, cellsOf, strOp, evL, Nat.reduceAdd, beq_self_eq_true, bne_self_eq_false, Int.reduceBEq, Int.reduceBNe, ti49, opsV_len, op_load, ag2, isC2, hz6, List.getElem?_concat_length, set_last, convV, hw1, hw2, hw3, op_cells, op_isC, op_full, op_len, ti3, ti5, ti25, ti2, ti9, ti47, ti4, ti38, ti49, Nat.le_refl, tag_cells, hk0, hk1, hk2, hk3, hk4, hk5, hk6, hop, hb4, hb12, ehb19, hg23_3, hb32, decide_true, decide_false]
            refine WOps_callH (b := 0) (o := 0) (ys := [opW (turnO f i)]) (cs := _) (put_turn hf hi5 hJ hP hA) (by simp only [ev_func]) (by first | (simp only [evL, sS, ↓sT, if_true, if_false, Nat.reduceLT, Nat.reduceEqDiff]; done) | (simp only [evL, sS, ↓sT, if_true, if_false, Nat.reduceLT, Nat.reduceEqDiff]; rfl)) rfl (by intro y hy; obtain rfl := List.mem_singleton.1 hy; exact op_noP _) (fun c hc => by obtain ⟨l, _, hl⟩ := hP.mem hc; exact ⟨hl.facts.1, hl.facts.2.1⟩) hO ?_
            rintro _ _ n' ⟨c, rfl, hcode, cs', rfl, hP', hA'⟩ hnn
            refine ⟨cs', rfl, hP'.noP, rfl, ?_⟩
            simp only [put_some, List.set_cons_zero]
            replace hO := @back_own2 ow (cs.flatMap V.tokC) (cs'.flatMap V.tokC) (V.int .i64 c).toks
            generalize ownAfter ow (cs.flatMap V.tokC) ((V.int .i64 c).toks ++ cs'.flatMap V.tokC) = ow' at hO ⊢
            clear hJ hP hA
            obtain ⟨cs, hcs⟩ : ∃ x, x = cs' := ⟨_, rfl⟩
            subst hcs
            obtain ⟨ow, how⟩ : ∃ x, x = ow' := ⟨_, rfl⟩
            subst how
            have hP := hP'; have hA := hA'; clear hP' hA'
            have hJ : i + 1 = i ∨ i + 1 = i + 1 := .inr rfl
            simp only [sS, ↓sT, if_true, if_false, Nat.reduceLT, Nat.reduceEqDiff, ↓sO, ↓WOps_g, sG, opV, loudV, cellsOf, strOp, evL, Nat.reduceAdd, beq_self_eq_true, bne_self_eq_false, Int.reduceBEq, Int.reduceBNe, ti49, opsV_len, op_load, ag2, isC2, hz6, List.getElem?_concat_length, set_last, convV, hw1, hw2, hw3, op_cells, op_isC, op_full, op_len, ti3, ti5, ti25, ti2, ti9, ti47, ti4, ti38, ti49, Nat.le_refl, tag_cells, hk0, hk1, hk2, hk3, hk4, hk5, hk6, hop, hb4, hb12, ehb19, hg23_3, hb32, decide_true, decide_false]
            refine hN39 _ ?_; try clear hN39 hD39 N39
            refine WC_seqR (fun N40 hN40 hD40 => ?_)
            simp only [sS, ↓sT, if_true, if_false, Nat.reduceLT, Nat.reduceEqDiff, ↓sO, ↓WOps_g, sG, opV, loudV, cellsOf, strOp, evL, Nat.reduceAdd, beq_self_eq_true, bne_self_eq_false, Int.reduceBEq, Int.reduceBNe, opsV_len, op_load, ag2, isC2, hz6, List.getElem?_concat_length, set_last, convV, hw1, hw2, hw3, op_cells, op_isC, op_full, op_len, ti3, ti5, ti25, ti2, ti9, ti47, ti4, ti38, ti49, Nat.le_refl, tag_cells, hk0, hk1, hk2, hk3, hk4, hk5, hk6, hop, hb4, hb12, ehb19, hg23_3, hb32, decide_true, decide_false]
            refine hN40 _ ?_; try clear hN40 hD40 N40
            refine WC_condE ?_
            simp only [sS, ↓sT, if_true, if_false, Nat.reduceLT, Nat.reduceEqDiff, ↓stepC_bool, hb4, hb12, ehb19, hg23_3, hb32, Int.reduceBEq, Int.reduceBNe, beq_self_eq_true, bne_self_eq_false]
            refine ⟨fun hb => (by cases hb), fun hb => ?_⟩
            refine WC_skip ?_
            refine hN13 _ ?_; try clear hN13 hD13 N13
            refine WC_regN (fun N41 hN41 => ?_)
            simp only [sS, ↓sT, if_true, if_false, Nat.reduceLT, Nat.reduceEqDiff, ↓sO, ↓WOps_g, sG, opV, loudV, cellsOf, strOp, evL, Nat.reduceAdd, beq_self_eq_true, bne_self_eq_false, Int.reduceBEq, Int.reduceBNe, opsV_len, op_load, ag2, isC2, hz6, List.getElem?_concat_length, set_last, convV, hw1, hw2, hw3, op_cells, op_isC, op_full, op_len, ti3, ti5, ti25, ti2, ti9, ti47, ti4, ti38, ti49, Nat.le_refl, tag_cells, hk0, hk1, hk2, hk3, hk4, hk5, hk6, hop, hb4, hb12, ehb19, hg23_3, hb32, decide_true, decide_false]
            refine hN41 _ ?_; try clear hN41 N41
            first
            | (exfalso; simp only [beq_iff_eq, bne_iff_ne, beq_eq_false_iff_ne, bne_eq_false_iff_eq, ne_eq] at * <;> omega)
            | (refine ⟨i + 1, ⟨_, cs, _, ow, _, rfl, ⟨rfl, rfl, rfl, slotI ?_, slotI ?_, trivial⟩, hP, hA, hO, by omega⟩, by omega⟩
               · simp only [beq_iff_eq, bne_iff_ne, beq_eq_false_iff_ne, bne_eq_false_iff_eq, ne_eq] at *
                 first | omega | (rw [wrapI (by omega) (by omega)]; omega)
               · omega)
      · refine WC_skip ?_
        refine hN17 _ ?_; try clear hN17 hD17 N17
        refine WC_seqR (fun N42 hN42 hD42 => ?_)
        simp only [sS, ↓sT, if_true, if_false, Nat.reduceLT, Nat.reduceEqDiff, ↓sO, ↓WOps_g, sG, opV, loudV, cellsOf, strOp, evL, Nat.reduceAdd, beq_self_eq_true, bne_self_eq_false, Int.reduceBEq, Int.reduceBNe, ti49, opsV_len, op_load, ag2, isC2, hz6, List.getElem?_concat_length, set_last, convV, hw1, hw2, hw3, op_cells, op_isC, op_full, op_len, ti3, ti5, ti25, ti2, ti9, ti47, ti4, ti38, ti49, Nat.le_refl, tag_cells, hk0, hk1, hk2, hk3, hk4, hk5, hk6, hop, hb4, hb12, hb19, decide_true, decide_false]
        refine WOps_callH (b := 0) (o := 0) (ys := [opW (turnO f i)]) (cs := _) (put_turn hf hi5 hJ hP hA) (by simp only [ev_func]) (by first | (simp only [evL, sS, ↓sT, if_true, if_false, Nat.reduceLT, Nat.reduceEqDiff]; done) | (simp only [evL, sS, ↓sT, if_true, if_false, Nat.reduceLT, Nat.reduceEqDiff]; rfl)) rfl (by intro y hy; obtain rfl := List.mem_singleton.1 hy; exact op_noP _) (fun c hc => by obtain ⟨l, _, hl⟩ := hP.mem hc; exact ⟨hl.facts.1, hl.facts.2.1⟩) hO ?_
        rintro _ _ n' ⟨c, rfl, hcode, cs', rfl, hP', hA'⟩ hnn
        refine ⟨cs', rfl, hP'.noP, rfl, ?_⟩
        simp only [put_some, List.set_cons_zero]
        replace hO := @back_own2 ow (cs.flatMap V.tokC) (cs'.flatMap V.tokC) (V.int .i64 c).toks
        generalize ownAfter ow (cs.flatMap V.tokC) ((V.int .i64 c).toks ++ cs'.flatMap V.tokC) = ow' at hO ⊢
        clear hJ hP hA
        obtain ⟨cs, hcs⟩ : ∃ x, x = cs' := ⟨_, rfl⟩
        subst hcs
        obtain ⟨ow, how⟩ : ∃ x, x = ow' := ⟨_, rfl⟩
        subst how
        have hP := hP'; have hA := hA'; clear hP' hA'
        have hJ : i + 1 = i ∨ i + 1 = i + 1 := .inr rfl
        simp only [sS, ↓sT, if_true, if_false, Nat.reduceLT, Nat.reduceEqDiff, ↓sO, ↓WOps_g, sG, opV, loudV, cellsOf, strOp, evL, Nat.reduceAdd, beq_self_eq_true, bne_self_eq_false, Int.reduceBEq, Int.reduceBNe, ti49, opsV_len, op_load, ag2, isC2, hz6, List.getElem?_concat_length, set_last, convV, hw1, hw2, hw3, op_cells, op_isC, op_full, op_len, ti3, ti5, ti25, ti2, ti9, ti47, ti4, ti38, ti49, Nat.le_refl, tag_cells, hk0, hk1, hk2, hk3, hk4, hk5, hk6, hop, hb4, hb12, hb19, decide_true, decide_false]
        refine hN42 _ ?_; try clear hN42 hD42 N42
        refine WC_seqN (fun N43 hN43 hD43 => ?_)
        refine WC_seqR (fun N44 hN44 hD44 => ?_)
        simp only [sS, ↓sT, if_true, if_false, Nat.reduceLT, Nat.reduceEqDiff, ↓sO, ↓WOps_g, sG, opV, loudV, cellsOf, strOp, evL, Nat.reduceAdd, beq_self_eq_true, bne_self_eq_false, Int.reduceBEq, Int.reduceBNe, opsV_len, op_load, ag2, isC2, hz6, List.getElem?_concat_length, set_last, convV, hw1, hw2, hw3, op_cells, op_isC, op_full, op_len, ti3, ti5, ti25, ti2, ti9, ti47, ti4, ti38, ti49, Nat.le_refl, tag_cells, hk0, hk1, hk2, hk3, hk4, hk5, hk6, hop, hb4, hb12, hb19, decide_true, decide_false]
        refine stepB_T (fun hg44_3 => ?_) (fun hg44_3 => ?_)
        · simp only [sS, ↓sT, if_true, if_false, Nat.reduceLT, Nat.reduceEqDiff, ↓sO, ↓WOps_g, sG, opV, loudV, cellsOf, strOp, evL, Nat.reduceAdd, beq_self_eq_true, bne_self_eq_false, Int.reduceBEq, Int.reduceBNe, opsV_len, op_load, ag2, isC2, hz6, List.getElem?_concat_length, set_last, convV, hw1, hw2, hw3, op_cells, op_isC, op_full, op_len, ti3, ti5, ti25, ti2, ti9, ti47, ti4, ti38, ti49, Nat.le_refl, tag_cells, hk0, hk1, hk2, hk3, hk4, hk5, hk6, hop, hb4, hb12, hb19, hg44_3, decide_true, decide_false]
          refine stepB_T (fun hg44_6 => ?_) (fun hg44_6 => ?_)
          · have ehg44_6 := eq_of_beq hg44_6
            simp only [sS, ↓sT, if_true, if_false, Nat.reduceLT, Nat.reduceEqDiff, ↓sO, ↓WOps_g, sG, opV, loudV, cellsOf, strOp, evL, Nat.reduceAdd, beq_self_eq_true, bne_self_eq_false, Int.reduceBEq, Int.reduceBNe, opsV_len, op_load, ag2, isC2, hz6, List.getElem?_concat_length, set_last, convV, hw1, hw2, hw3, op_cells, op_isC, op_full, op_len, ti3, ti5, ti25, ti2, ti9, ti47, ti4, ti38, ti49, Nat.le_refl, tag_cells, hk0, hk1, hk2, hk3, hk4, hk5, hk6, hop, hb4, hb12, hb19, hg44_3, ehg44_6, decide_true, decide_false]
            refine hN44 _ ?_; try clear hN44 hD44 N44
            refine WC_condE ?_
            simp only [sS, ↓sT, if_true, if_false, Nat.reduceLT, Nat.reduceEqDiff, ↓stepC_bool, hb4, hb12, hb19, hg44_3, ehg44_6, Int.reduceBEq, Int.reduceBNe, beq_self_eq_true, bne_self_eq_false]
            refine ⟨fun hb => ?_, fun hb => (by cases hb)⟩
            refine WC_seqR (fun N45 hN45 hD45 => ?_)
            simp only [sS, ↓sT, if_true, if_false, Nat.reduceLT, Nat.reduceEqDiff, ↓sO, ↓WOps_g, sG, opV, loudV, cellsOf, strOp, evL, Nat.reduceAdd, beq_self_eq_true, bne_self_eq_false, Int.reduceBEq, Int.reduceBNe, opsV_len, op_load, ag2, isC2, hz6, List.getElem?_concat_length, set_last, convV, hw1, hw2, hw3, op_cells, op_isC, op_full, op_len, ti3, ti5, ti25, ti2, ti9, ti47, ti4, ti38, ti49, Nat.le_refl, tag_cells, hk0, hk1, hk2, hk3, hk4, hk5, hk6, hop, hb4, hb12, hb19, hg44_3, ehg44_6, decide_true, decide_false]
            refine hN45 _ ?_; try clear hN45 hD45 N45
            refine WC_ret ?_; (try simp only [Exit.after, Exit.out]); refine Kend_ret (by simp only [resOf, resL, resV, mkS_get, slots_get, cellsOf, load_str, load_bool, load_int, load_slice, ti3, sS, ↓sT, if_true, if_false, Nat.reduceLT, Nat.reduceEqDiff]; rfl) (by first | rfl | (simp only [load_str, load_bool, load_int, load_slice, ti3]; done) | (simp only [load_str, load_bool, load_int, load_slice, ti3, okV, ok1, okC, okP, List.all_cons, List.all_nil, Bool.and_true]; done)) ?_
            clear hN43 hD43 N43 hN13 hD13 N13 hN8 hD8 N8
            first
            | (exfalso; simp only [beq_iff_eq, bne_iff_ne, beq_eq_false_iff_ne, bne_eq_false_iff_eq, ne_eq, hsum, hall] at * <;> omega)
            | (exfalso; simp only [beq_iff_eq, bne_iff_ne, beq_eq_false_iff_ne, bne_eq_false_iff_eq, ne_eq] at * <;> omega)
            | exact congrArg V.bool (decide_eq_true h400)
          · simp only [sS, ↓sT, if_true, if_false, Nat.reduceLT, Nat.reduceEqDiff, ↓sO, ↓WOps_g, sG, opV, loudV, cellsOf, strOp, evL, Nat.reduceAdd, beq_self_eq_true, bne_self_eq_false, Int.reduceBEq, Int.reduceBNe, opsV_len, op_load, ag2, isC2, hz6, List.getElem?_concat_length, set_last, convV, hw1, hw2, hw3, op_cells, op_isC, op_full, op_len, ti3, ti5, ti25, ti2, ti9, ti47, ti4, ti38, ti49, Nat.le_refl, tag_cells, hk0, hk1, hk2, hk3, hk4, hk5, hk6, hop, hb4, hb12, hb19, hg44_3, hg44_6, decide_true, decide_false]
            refine hN44 _ ?_; try clear hN44 hD44 N44
            refine WC_condE ?_
            simp only [sS, ↓sT, if_true, if_false, Nat.reduceLT, Nat.reduceEqDiff, ↓stepC_bool, hb4, hb12, hb19, hg44_3, hg44_6, Int.reduceBEq, Int.reduceBNe, beq_self_eq_true, bne_self_eq_false]
            refine ⟨fun hb => ?_, fun hb => (by cases hb)⟩
            refine WC_seqR (fun N46 hN46 hD46 => ?_)
            simp only [sS, ↓sT, if_true, if_false, Nat.reduceLT, Nat.reduceEqDiff, ↓sO, ↓WOps_g, sG, opV, loudV, cellsOf, strOp, evL, Nat.reduceAdd, beq_self_eq_true, bne_self_eq_false, Int.reduceBEq, Int.reduceBNe, opsV_len, op_load, ag2, isC2, hz6, List.getElem?_concat_length, set_last, convV, hw1, hw2, hw3, op_cells, op_isC, op_full, op_len, ti3, ti5, ti25, ti2, ti9, ti47, ti4, ti38, ti49, Nat.le_refl, tag_cells, hk0, hk1, hk2, hk3, hk4, hk5, hk6, hop, hb4, hb12, hb19, hg44_3, hg44_6, decide_true, decide_false]
            refine hN46 _ ?_; try clear hN46 hD46 N46
            refine WC_ret ?_; (try simp only [Exit.after, Exit.out]); refine Kend_ret (by simp only [resOf, resL, resV, mkS_get, slots_get, cellsOf, load_str, load_bool, load_int, load_slice, ti3, sS, ↓sT, if_true, if_false, Nat.reduceLT, Nat.reduceEqDiff]; rfl) (by first | rfl | (simp only [load_str, load_bool, load_int, load_slice, ti3]; done) | (simp only [load_str, load_bool, load_int, load_slice, ti3, okV, ok1, okC, okP, List.all_cons, List.all_nil, Bool.and_true]; done)) ?_
            clear hN43 hD43 N43 hN13 hD13 N13 hN8 hD8 N8
            first
            | (exfalso; simp only [beq_iff_eq, bne_iff_ne, beq_eq_false_iff_ne, bne_eq_false_iff_eq, ne_eq, hsum, hall] at * <;> omega)
            | (exfalso; simp only [beq_iff_eq, bne_iff_ne, beq_eq_false_iff_ne, bne_eq_false_iff_eq, ne_eq] at * <;> omega)
            | exact congrArg V.bool (decide_eq_true h400)
        · simp only [sS, ↓sT, if_true, if_false, Nat.reduceLT, Nat.reduceEqDiff, ↓sO, ↓WOps_g, sG, opV, loudV, cellsOf, strOp, evL, Nat.reduceAdd, beq_self_eq_true, bne_self_eq_false, Int.reduceBEq, Int.reduceBNe, opsV_len, op_load, ag2, isC2, hz6, List.getElem?_concat_length, set_last, convV, hw1, hw2, hw3, op_cells, op_isC, op_full, op_len, ti3, ti5, ti25, ti2, ti9, ti47, ti4, ti38, ti49, Nat.le_refl, tag_cells, hk0, hk1, hk2, hk3, hk4, hk5, hk6, hop, hb4, hb12, hb19, hg44_3, decide_true, decide_false]
          refine hN44 _ ?_; try clear hN44 hD44 N44
          refine WC_condE ?_
          simp only [sS, ↓sT, if_true, if_false, Nat.reduceLT, Nat.reduceEqDiff, ↓stepC_bool, hb4, hb12, hb19, hg44_3, Int.reduceBEq, Int.reduceBNe, beq_self_eq_true, bne_self_eq_false]
          refine ⟨fun hb => (by cases hb), fun hb => ?_⟩
          refine WC_skip ?_
          refine hN43 _ ?_; try clear hN43 hD43 N43
          refine WC_seqN (fun N47 hN47 hD47 => ?_)
          refine WC_seqR (fun N48 hN48 hD48 => ?_)
          simp only [sS, ↓sT, if_true, if_false, Nat.reduceLT, Nat.reduceEqDiff, ↓sO, ↓WOps_g, sG, opV, loudV, cellsOf, strOp, evL, Nat.reduceAdd, beq_self_eq_true, bne_self_eq_false, Int.reduceBEq, Int.reduceBNe, opsV_len, op_load, ag2, isC2, hz6, List.getElem?_concat_length, set_last, convV, hw1, hw2, hw3, op_cells, op_isC, op_full, op_len, ti3, ti5, ti25, ti2, ti9, ti47, ti4, ti38, ti49, Nat.le_refl, tag_cells, hk0, hk1, hk2, hk3, hk4, hk5, hk6, hop, hb4, hb12, hb19, hg44_3, decide_true, decide_false]
          refine hN48 _ ?_; try clear hN48 hD48 N48
          refine WC_condE ?_
          simp only [sS, ↓sT, if_true, if_false, Nat.reduceLT, Nat.reduceEqDiff, ↓stepC_bool, hb4, hb12, hb19, hg44_3, Int.reduceBEq, Int.reduceBNe, beq_self_eq_true, bne_self_eq_false]
          refine ⟨fun hb49 => ?_, fun hb49 => ?_⟩
          · have ehb49 := eq_of_beq hb49
            refine WC_regN (fun N50 hN50 => ?_)
            simp only [sS, ↓sT, if_true, if_false, Nat.reduceLT, Nat.reduceEqDiff, ↓sO, ↓WOps_g, sG, opV, loudV, cellsOf, strOp, evL, Nat.reduceAdd, beq_self_eq_true, bne_self_eq_false, Int.reduceBEq, Int.reduceBNe, opsV_len, op_load, ag2, isC2, hz6, List.getElem?_concat_length, set_last, convV, hw1, hw2, hw3, op_cells, op_isC, op_full, op_len, ti3, ti5, ti25, ti2, ti9, ti47, ti4, ti38, ti49, Nat.le_refl, tag_cells, hk0, hk1, hk2, hk3, hk4, hk5, hk6, hop, hb4, hb12, hb19, hg44_3, ehb49, decide_true, decide_false]
            refine hN50 _ ?_; try clear hN50 N50
            refine hN47 _ ?_; try clear hN47 hD47 N47
            refine WC_seqR (fun N51 hN51 hD51 => ?_)
            simp only [sS, ↓sT, if_true, if_false, Nat.reduceLT, Nat.reduceEqDiff, ↓sO, ↓WOps_g, sG, opV, loudV, cellsOf, strOp, evL, Nat.reduceAdd, beq_self_eq_true, bne_self_eq_false, Int.reduceBEq, Int.reduceBNe, ti49, opsV_len, op_load, ag2, isC2, hz6, List.getElem?_concat_length, set_last, convV, hw1, hw2, hw3, op_cells, op_isC, op_full, op_len, ti3, ti5, ti25, ti2, ti9, ti47, ti4, ti38, ti49, Nat.le_refl, tag_cells, hk0, hk1, hk2, hk3, hk4, hk5, hk6, hop, hb4, hb12, hb19, hg44_3, ehb49, decide_true, decide_false]
            refine WOps_callH (b := 0) (o := 0) (ys := [opW (turnO f i)]) (cs := _) (put_turn hf hi5 hJ hP hA) (by simp only [ev_func]) (by first | (simp only [evL, sS, ↓sT, if_true, if_false, Nat.reduceLT, Nat.reduceEqDiff]; done) | (simp only [evL, sS, ↓sT, if_true, if_false, Nat.reduceLT, Nat.reduceEqDiff]; rfl)) rfl (by intro y hy; obtain rfl := List.mem_singleton.1 hy; exact op_noP _) (fun c hc => by obtain ⟨l, _, hl⟩ := hP.mem hc; exact ⟨hl.facts.1, hl.facts.2.1⟩) hO ?_
            rintro _ _ n' ⟨c, rfl, hcode, cs', rfl, hP', hA'⟩ hnn
            refine ⟨cs', rfl, hP'.noP, rfl, ?_⟩
            simp only [put_some, List.set_cons_zero]
            replace hO := @back_own2 ow (cs.flatMap V.tokC) (cs'.flatMap V.tokC) (V.int .i64 c).toks
            generalize ownAfter ow (cs.flatMap V.tokC) ((V.int .i64 c).toks ++ cs'.flatMap V.tokC) = ow' at hO ⊢
            clear hJ hP hA
            obtain ⟨cs, hcs⟩ : ∃ x, x = cs' := ⟨_, rfl⟩
            subst hcs
            obtain ⟨ow, how⟩ : ∃ x, x = ow' := ⟨_, rfl⟩
            subst how
            have hP := hP'; have hA := hA'; clear hP' hA'
            have hJ : i + 1 = i ∨ i + 1 = i + 1 := .inr rfl
            simp only [sS, ↓sT, if_true, if_false, Nat.reduceLT, Nat.reduceEqDiff, ↓sO, ↓WOps_g, sG, opV, loudV, cellsOf, strOp, evL, Nat.reduceAdd, beq_self_eq_true, bne_self_eq_false, Int.reduceBEq, Int.reduceBNe, ti49, opsV_len, op_load, ag2, isC2, hz6, List.getElem?_concat_length, set_last, convV, hw1, hw2, hw3, op_cells, op_isC, op_full, op_len, ti3, ti5, ti25, ti2, ti9, ti47, ti4, ti38, ti49, Nat.le_refl, tag_cells, hk0, hk1, hk2, hk3, hk4, hk5, hk6, hop, hb4, hb12, hb19, hg44_3, ehb49, decide_true, decide_false]
            refine hN51 _ ?_; try clear hN51 hD51 N51
            refine WC_seqR (fun N52 hN52 hD52 => ?_)
            simp only [sS, ↓sT, if_true, if_false, Nat.reduceLT, Nat.reduceEqDiff, ↓sO, ↓WOps_g, sG, opV, loudV, cellsOf, strOp, evL, Nat.reduceAdd, beq_self_eq_true, bne_self_eq_false, Int.reduceBEq, Int.reduceBNe, opsV_len, op_load, ag2, isC2, hz6, List.getElem?_concat_length, set_last, convV, hw1, hw2, hw3, op_cells, op_isC, op_full, op_len, ti3, ti5, ti25, ti2, ti9, ti47, ti4, ti38, ti49, Nat.le_refl, tag_cells, hk0, hk1, hk2, hk3, hk4, hk5, hk6, hop, hb4, hb12, hb19, hg44_3, ehb49, decide_true, decide_false]
            refine hN52 _ ?_; try clear hN52 hD52 N52
            refine WC_condE ?_
            simp only [sS, ↓sT, if_true, if_false, Nat.reduceLT, Nat.reduceEqDiff, ↓stepC_bool, hb4, hb12, hb19, hg44_3, ehb49, Int.reduceBEq, Int.reduceBNe, beq_self_eq_true, bne_self_eq_false]
            refine ⟨fun hb53 => ?_, fun hb53 => ?_⟩
            · refine WC_seqR (fun N54 hN54 hD54 => ?_)
              simp only [sS, ↓sT, if_true, if_false, Nat.reduceLT, Nat.reduceEqDiff, ↓sO, ↓WOps_g, sG, opV, loudV, cellsOf, strOp, evL, Nat.reduceAdd, beq_self_eq_true, bne_self_eq_false, Int.reduceBEq, Int.reduceBNe, opsV_len, op_load, ag2, isC2, hz6, List.getElem?_concat_length, set_last, convV, hw1, hw2, hw3, op_cells, op_isC, op_full, op_len, ti3, ti5, ti25, ti2, ti9, ti47, ti4, ti38, ti49, Nat.le_refl, tag_cells, hk0, hk1, hk2, hk3, hk4, hk5, hk6, hop, hb4, hb12, hb19, hg44_3, ehb49, hb53, decide_true, decide_false]
              refine hN54 _ ?_; try clear hN54 hD54 N54
              refine WC_ret ?_; (try simp only [Exit.after, Exit.out]); refine Kend_ret (by simp only [resOf, resL, resV, mkS_get, slots_get, cellsOf, load_str, load_bool, load_int, load_slice, ti3, sS, ↓sT, if_true, if_false, Nat.reduceLT, Nat.reduceEqDiff]; rfl) (by first | rfl | (simp only [load_str, load_bool, load_int, load_slice, ti3]; done) | (simp only [load_str, load_bool, load_int, load_slice, ti3, okV, ok1, okC, okP, List.all_cons, List.all_nil, Bool.and_true]; done)) ?_
              clear hN13 hD13 N13 hN8 hD8 N8
              first
              | (exfalso; simp only [beq_iff_eq, bne_iff_ne, beq_eq_false_iff_ne, bne_eq_false_iff_eq, ne_eq, hsum, hall] at * <;> omega)
              | (exfalso; simp only [beq_iff_eq, bne_iff_ne, beq_eq_false_iff_ne, bne_eq_false_iff_eq, ne_eq] at * <;> omega)
              | exact congrArg V.bool (decide_eq_true h400)
            · refine WC_skip ?_
              refine hN13 _ ?_; try clear hN13 hD13 N13
              refine WC_regN (fun N55 hN55 => ?_)
              simp only [sS, ↓sT, if_true, if_false, Nat.reduceLT, Nat.reduceEqDiff, ↓sO, ↓WOps_g, sG, opV, loudV, cellsOf, strOp, evL, Nat.reduceAdd, beq_self_eq_true, bne_self_eq_false, Int.reduceBEq, Int.reduceBNe, opsV_len, op_load, ag2, isC2, hz6, List.getElem?_concat_length, set_last, convV, hw1, hw2, hw3, op_cells, op_isC, op_full, op_len, ti3, ti5, ti25, ti2, ti9, ti47, ti4, ti38, ti49, Nat.le_refl, tag_cells, hk0, hk1, hk2, hk3, hk4, hk5, hk6, hop, hb4, hb12, hb19, hg44_3, ehb49, hb53, decide_true, decide_false]
              refine hN55 _ ?_; try clear hN55 N55
              first
              | (exfalso; simp only [beq_iff_eq, bne_iff_ne, beq_eq_false_iff_ne, bne_eq_false_iff_eq, ne_eq] at * <;> omega)
              | (refine ⟨i + 1, ⟨_, cs, _, ow, _, rfl, ⟨rfl, rfl, rfl, slotI ?_, slotI ?_, trivial⟩, hP, hA, hO, by omega⟩, by omega⟩
                 · simp only [beq_iff_eq, bne_iff_ne, beq_eq_false_iff_ne, bne_eq_false_iff_eq, ne_eq] at *
                   first | omega | (rw [wrapI (by omega) (by omega)]; omega)
                 · omega)
          · refine WC_skip ?_
            refine hN47 _ ?_; try clear hN47 hD47 N47
            refine WC_seqR (fun N56 hN56 hD56 => ?_)
            simp only [sS, ↓sT, if_true, if_false, Nat.reduceLT, Nat.reduceEqDiff, ↓sO, ↓WOps_g, sG, opV, loudV, cellsOf, strOp, evL, Nat.reduceAdd, beq_self_eq_true, bne_self_eq_false, Int.reduceBEq, Int.reduceBNe, ti49, opsV_len, op_load, ag2, isC2, hz6, List.getElem?_concat_length, set_last, convV, hw1, hw2, hw3, op_cells, op_isC, op_full, op_len, ti3, ti5, ti25, ti2, ti9, ti47, ti4, ti38, ti49, Nat.le_refl, tag_cells, hk0, hk1, hk2, hk3, hk4, hk5, hk6, hop, hb4, hb12, hb19, hg44_3, hb49, decide_true, decide_false]
            refine WOps_callH (b := 0) (o := 0) (ys := [opW (turnO f i)]) (cs := _) (put_turn hf hi5 hJ hP hA) (by simp only [ev_func]) (by first | (simp only [evL, sS, ↓sT, if_true, if_false, Nat.reduceLT, Nat.reduceEqDiff]; done) | (simp only [evL, sS, ↓sT, if_true, if_false, Nat.reduceLT, Nat.reduceEqDiff]; rfl)) rfl (by intro y hy; obtain rfl := List.mem_singleton.1 hy; exact op_noP _) (fun c hc => by obtain ⟨l, _, hl⟩ := hP.mem hc; exact ⟨hl.facts.1, hl.facts.2.1⟩) hO ?_
            rintro _ _ n' ⟨c, rfl, hcode, cs', rfl, hP', hA'⟩ hnn
            refine ⟨cs', rfl, hP'.noP, rfl, ?_⟩
            simp only [put_some, List.set_cons_zero]
            replace hO := @back_own2 ow (cs.flatMap V.tokC) (cs'.flatMap V.tokC) (V.int .i64 c).toks
            generalize ownAfter ow (cs.flatMap V.tokC) ((V.int .i64 c).toks ++ cs'.flatMap V.tokC) = ow' at hO ⊢
            clear hJ hP hA
            obtain ⟨cs, hcs⟩ : ∃ x, x = cs' := ⟨_, rfl⟩
            subst hcs
            obtain ⟨ow, how⟩ : ∃ x, x = ow' := ⟨_, rfl⟩
            subst how
            have hP := hP'; have hA := hA'; clear hP' hA'
            have hJ : i + 1 = i ∨ i + 1 = i + 1 := .inr rfl
            simp only [sS, ↓sT, if_true, if_false, Nat.reduceLT, Nat.reduceEqDiff, ↓sO, ↓WOps_g, sG, opV, loudV, cellsOf, strOp, evL, Nat.reduceAdd, beq_self_eq_true, bne_self_eq_false, Int.reduceBEq, Int.reduceBNe, ti49, opsV_len, op_load, ag2, isC2, hz6, List.getElem?_concat_length, set_last, convV, hw1, hw2, hw3, op_cells, op_isC, op_full, op_len, ti3, ti5, ti25, ti2, ti9, ti47, ti4, ti38, ti49, Nat.le_refl, tag_cells, hk0, hk1, hk2, hk3, hk4, hk5, hk6, hop, hb4, hb12, hb19, hg44_3, hb49, decide_true, decide_false]
            refine hN56 _ ?_; try clear hN56 hD56 N56
            refine WC_seqR (fun N57 hN57 hD57 => ?_)
            simp only [sS, ↓sT, if_true, if_false, Nat.reduceLT, Nat.reduceEqDiff, ↓sO, ↓WOps_g, sG, opV, loudV, cellsOf, strOp, evL, Nat.reduceAdd, beq_self_eq_true, bne_self_eq_false, Int.reduceBEq, Int.reduceBNe, opsV_len, op_load, ag2, isC2, hz6, List.getElem?_concat_length, set_last, convV, hw1, hw2, hw3, op_cells, op_isC, op_full, op_len, ti3, ti5, ti25, ti2, ti9, ti47, ti4, ti38, ti49, Nat.le_refl, tag_cells, hk0, hk1, hk2, hk3, hk4, hk5, hk6, hop, hb4, hb12, hb19, hg44_3, hb49, decide_true, decide_false]
            refine hN57 _ ?_; try clear hN57 hD57 N57
            refine WC_condE ?_
            simp only [sS, ↓sT, if_true, if_false, Nat.reduceLT, Nat.reduceEqDiff, ↓stepC_bool, hb4, hb12, hb19, hg44_3, hb49, Int.reduceBEq, Int.reduceBNe, beq_self_eq_true, bne_self_eq_false]
            refine ⟨fun hb => (by cases hb), fun hb => ?_⟩
            refine WC_skip ?_
            refine hN13 _ ?_; try clear hN13 hD13 N13
            refine WC_regN (fun N58 hN58 => ?_)
            simp only [sS, ↓sT, if_true, if_false, Nat.reduceLT, Nat.reduceEqDiff, ↓sO, ↓WOps_g, sG, opV, loudV, cellsOf, strOp, evL, Nat.reduceAdd, beq_self_eq_true, bne_self_eq_false, Int.reduceBEq, Int.reduceBNe, opsV_len, op_load, ag2, isC2, hz6, List.getElem?_concat_length, set_last, convV, hw1, hw2, hw3, op_cells, op_isC, op_full, op_len, ti3, ti5, ti25, ti2, ti9, ti47, ti4, ti38, ti49, Nat.le_refl, tag_cells, hk0, hk1, hk2, hk3, hk4, hk5, hk6, hop, hb4, hb12, hb19, hg44_3, hb49, decide_true, decide_false]
            refine hN58 _ ?_; try clear hN58 N58
            first
            | (exfalso; simp only [beq_iff_eq, bne_iff_ne, beq_eq_false_iff_ne, bne_eq_false_iff_eq, ne_eq] at * <;> omega)
            | (refine ⟨i + 1, ⟨_, cs, _, ow, _, rfl, ⟨rfl, rfl, rfl, slotI ?_, slotI ?_, trivial⟩, hP, hA, hO, by omega⟩, by omega⟩
               · simp only [beq_iff_eq, bne_iff_ne, beq_eq_false_iff_ne, bne_eq_false_iff_eq, ne_eq] at *
                 first | omega | (rw [wrapI (by omega) (by omega)]; omega)
               · omega)
    · have hmin : min i 400 ≤ 400 := Nat.min_le_right _ _
      have hsum := @sum_lsts f (min i 400) hf hmin
      have hall := @all_ops f (min i 400) hf hmin
      have h400 : ((min i 400 : Nat) : Int) ≤ 400 := by omega
      refine WC_exit ?_
      refine hN8 _ ?_; try clear hN8 hD8 N8
      refine WC_seqR (fun N59 hN59 hD59 => ?_)
      simp only [sS, ↓sT, if_true, if_false, Nat.reduceLT, Nat.reduceEqDiff, ↓sO, ↓WOps_g, sG, opV, loudV, cellsOf, strOp, evL, Nat.reduceAdd, beq_self_eq_true, bne_self_eq_false, Int.reduceBEq, Int.reduceBNe, ti52, opsV_len, op_load, ag2, isC2, hz6, List.getElem?_concat_length, set_last, convV, hw1, hw2, hw3, op_cells, op_isC, op_full, op_len, ti3, ti5, ti25, ti2, ti9, ti47, ti4, ti38, ti49, Nat.le_refl, tag_cells, hb4, hb12, decide_true, decide_false]
      refine WOps_callL (c__punnet_pool_Pool_Len _ (cs.map V.bareC) hP.bare) (by simp only [ev_func]) (by first | (simp only [evL, sS, ↓sT, if_true, if_false, Nat.reduceLT, Nat.reduceEqDiff]; done) | (simp only [evL, sS, ↓sT, if_true, if_false, Nat.reduceLT, Nat.reduceEqDiff]; rfl)) (hP.lent rfl) (by first | rfl | exact rfl) ?_
      simp only [sS, ↓sT, if_true, if_false, Nat.reduceLT, Nat.reduceEqDiff, ↓sO, ↓WOps_g, sG, opV, loudV, cellsOf, strOp, evL, Nat.reduceAdd, beq_self_eq_true, bne_self_eq_false, Int.reduceBEq, Int.reduceBNe, ti52, opsV_len, op_load, ag2, isC2, hz6, List.getElem?_concat_length, set_last, convV, hw1, hw2, hw3, op_cells, op_isC, op_full, op_len, ti3, ti5, ti25, ti2, ti9, ti47, ti4, ti38, ti49, Nat.le_refl, tag_cells, hb4, hb12, decide_true, decide_false]
      refine stepB_T (fun hg59_4 => ?_) (fun hg59_4 => ?_)
      · simp only [sS, ↓sT, if_true, if_false, Nat.reduceLT, Nat.reduceEqDiff, ↓sO, ↓WOps_g, sG, opV, loudV, cellsOf, strOp, evL, Nat.reduceAdd, beq_self_eq_true, bne_self_eq_false, Int.reduceBEq, Int.reduceBNe, ti52, opsV_len, op_load, ag2, isC2, hz6, List.getElem?_concat_length, set_last, convV, hw1, hw2, hw3, op_cells, op_isC, op_full, op_len, ti3, ti5, ti25, ti2, ti9, ti47, ti4, ti38, ti49, Nat.le_refl, tag_cells, hb4, hb12, hg59_4, decide_true, decide_false]
        refine WOps_callH (b := 0) (o := 0) (ys := []) (cs := cs) (h__punnet_pool_Pool_Ops _ cs hP (fun l hl => lsts_drops f _ l hl) (lsts_lens hmin)) (by simp only [ev_func]) (by first | (simp only [evL, sS, ↓sT, if_true, if_false, Nat.reduceLT, Nat.reduceEqDiff]; done) | (simp only [evL, sS, ↓sT, if_true, if_false, Nat.reduceLT, Nat.reduceEqDiff]; rfl)) rfl (fun y hy => absurd hy List.not_mem_nil) (fun c hc => by obtain ⟨l, _, hl⟩ := hP.mem hc; exact ⟨hl.facts.1, hl.facts.2.1⟩) hO ?_
        rintro rr h' n' ⟨rfl, rfl⟩ hnn
        refine ⟨cs, rfl, hP.noP, (opsV_facts _).1, ?_⟩
        rw [(opsV_facts _).2.1, List.nil_append]
        generalize ownAfter ow (cs.flatMap V.tokC) (cs.flatMap V.tokC) = ow2
        simp only [sS, ↓sT, if_true, if_false, Nat.reduceLT, Nat.reduceEqDiff, ↓sO, ↓WOps_g, sG, opV, loudV, cellsOf, strOp, evL, Nat.reduceAdd, beq_self_eq_true, bne_self_eq_false, Int.reduceBEq, Int.reduceBNe, ti52, opsV_len, op_load, ag2, isC2, hz6, List.getElem?_concat_length, set_last, convV, hw1, hw2, hw3, op_cells, op_isC, op_full, op_len, ti3, ti5, ti25, ti2, ti9, ti47, ti4, ti38, ti49, Nat.le_refl, tag_cells, hb4, hb12, hg59_4, decide_true, decide_false]
        refine stepB_T (fun hg59_11 => ?_) (fun hg59_11 => ?_)
        · simp only [sS, ↓sT, if_true, if_false, Nat.reduceLT, Nat.reduceEqDiff, ↓sO, ↓WOps_g, sG, opV, loudV, cellsOf, strOp, evL, Nat.reduceAdd, beq_self_eq_true, bne_self_eq_false, Int.reduceBEq, Int.reduceBNe, ti52, opsV_len, op_load, ag2, isC2, hz6, List.getElem?_concat_length, set_last, convV, hw1, hw2, hw3, op_cells, op_isC, op_full, op_len, ti3, ti5, ti25, ti2, ti9, ti47, ti4, ti38, ti49, Nat.le_refl, tag_cells, hb4, hb12, hg59_4, hg59_11, decide_true, decide_false]
          refine hN59 _ ?_; try clear hN59 hD59 N59
          refine WC_ret ?_; (try simp only [Exit.after, Exit.out]); refine Kend_ret (by simp only [resOf, resL, resV, mkS_get, slots_get, cellsOf, load_str, load_bool, load_int, load_slice, ti3, sS, ↓sT, if_true, if_false, Nat.reduceLT, Nat.reduceEqDiff]; rfl) (by first | rfl | (simp only [load_str, load_bool, load_int, load_slice, ti3]; done) | (simp only [load_str, load_bool, load_int, load_slice, ti3, okV, ok1, okC, okP, List.all_cons, List.all_nil, Bool.and_true]; done)) ?_
          clear hN10 hD10 N10
          first
          | (exfalso; simp only [beq_iff_eq, bne_iff_ne, beq_eq_false_iff_ne, bne_eq_false_iff_eq, ne_eq, hsum, hall] at * <;> omega)
          | (exfalso; simp only [beq_iff_eq, bne_iff_ne, beq_eq_false_iff_ne, bne_eq_false_iff_eq, ne_eq] at * <;> omega)
          | exact congrArg V.bool (decide_eq_true h400)
        · simp only [sS, ↓sT, if_true, if_false, Nat.reduceLT, Nat.reduceEqDiff, ↓sO, ↓WOps_g, sG, opV, loudV, cellsOf, strOp, evL, Nat.reduceAdd, beq_self_eq_true, bne_self_eq_false, Int.reduceBEq, Int.reduceBNe, ti52, opsV_len, op_load, ag2, isC2, hz6, List.getElem?_concat_length, set_last, convV, hw1, hw2, hw3, op_cells, op_isC, op_full, op_len, ti3, ti5, ti25, ti2, ti9, ti47, ti4, ti38, ti49, Nat.le_refl, tag_cells, hb4, hb12, hg59_4, hg59_11, decide_true, decide_false]
          refine hN59 _ ?_; try clear hN59 hD59 N59
          refine WC_ret ?_; (try simp only [Exit.after, Exit.out]); refine Kend_ret (by simp only [resOf, resL, resV, mkS_get, slots_get, cellsOf, load_str, load_bool, load_int, load_slice, ti3, sS, ↓sT, if_true, if_false, Nat.reduceLT, Nat.reduceEqDiff]; rfl) (by first | rfl | (simp only [load_str, load_bool, load_int, load_slice, ti3]; done) | (simp only [load_str, load_bool, load_int, load_slice, ti3, okV, ok1, okC, okP, List.all_cons, List.all_nil, Bool.and_true]; done)) ?_
          clear hN10 hD10 N10
          first
          | (exfalso; simp only [beq_iff_eq, bne_iff_ne, beq_eq_false_iff_ne, bne_eq_false_iff_eq, ne_eq, hsum, hall] at * <;> omega)
          | (exfalso; simp only [beq_iff_eq, bne_iff_ne, beq_eq_false_iff_ne, bne_eq_false_iff_eq, ne_eq] at * <;> omega)
          | exact congrArg V.bool (decide_eq_true h400)
      · simp only [sS, ↓sT, if_true, if_false, Nat.reduceLT, Nat.reduceEqDiff, ↓sO, ↓WOps_g, sG, opV, loudV, cellsOf, strOp, evL, Nat.reduceAdd, beq_self_eq_true, bne_self_eq_false, Int.reduceBEq, Int.reduceBNe, ti52, opsV_len, op_load, ag2, isC2, hz6, List.getElem?_concat_length, set_last, convV, hw1, hw2, hw3, op_cells, op_isC, op_full, op_len, ti3, ti5, ti25, ti2, ti9, ti47, ti4, ti38, ti49, Nat.le_refl, tag_cells, hb4, hb12, hg59_4, decide_true, decide_false]
        refine hN59 _ ?_; try clear hN59 hD59 N59
        refine WC_ret ?_; (try simp only [Exit.after, Exit.out]); refine Kend_ret (by simp only [resOf, resL, resV, mkS_get, slots_get, cellsOf, load_str, load_bool, load_int, load_slice, ti3, sS, ↓sT, if_true, if_false, Nat.reduceLT, Nat.reduceEqDiff]; rfl) (by first | rfl | (simp only [load_str, load_bool, load_int, load_slice, ti3]; done) | (simp only [load_str, load_bool, load_int, load_slice, ti3, okV, ok1, okC, okP, List.all_cons, List.all_nil, Bool.and_true]; done)) ?_
        clear hN10 hD10 N10
        first
        | (exfalso; simp only [beq_iff_eq, bne_iff_ne, beq_eq_false_iff_ne, bne_eq_false_iff_eq, ne_eq, hsum, hall] at * <;> omega)
        | (exfalso; simp only [beq_iff_eq, bne_iff_ne, beq_eq_false_iff_ne, bne_eq_false_iff_eq, ne_eq] at * <;> omega)
        | exact congrArg V.bool (decide_eq_true h400)
end Go.PV
/- PoolFull: from the walk to the row. -/
namespace Go.Proofs.Ytpgfcfojojemjaa.poolFull
open Go.ChangeShapes Go.WideShapes Go.ChangeAt Go.RowKit Go.PV
theorem own : ownKnob Try.prog.godebug = none := by kernel_rfl
theorem laidOut : laidOutB Try.prog = true := by kernel_rfl
set_option maxRecDepth 100000 in
theorem lifted (os : Os) (started : os.Started) (H : Type) (enc : TypeId × Value → H) :
    ReturnsInHanded {} Try.checked os 6 .any (Rows.poolFullSpec.pre6 enc Try.prog Try.f6 Rows.poolFullRow.domain false) (Rows.poolFullSpec.post enc Try.prog Try.f6 false true false false) := by
  refine returnsInHanded_of_change_sized (C := Try.checked) own started (by kernel_rfl) Try.func6
    (ChangeSpec.witness6 (enc := enc) (C := Try.checked) false ⟨#[], #[.int .u8 0, .int .u8 0], []⟩ 8 (by kernel_rfl) (by kernel_rfl) (by kernel_rfl) (by kernel_rfl)) ?_
  intro W base args ds gs before hval0 hW hcnd hsz0 _
  have hval : ∀ (j : Nat) t v, Try.f6.params[j]? = some t → args[j]? = some v → Value.okWide Try.prog W .any base t v := hval0
  have hW' := hW
  obtain ⟨p, q, hA0, hV, rfl, hfz, hnd⟩ := hW
  have hA : DataW.TrodAll enc Try.prog W 0 (fun _ => true) true Try.f6.params.toList args.toList ds p := hA0
  rw [Try.params6] at hA hval
  obtain ⟨v0, vs0, d0, ds0, p0, q0, hargs, rfl, rfl, h0, r0⟩ := trodAll_cons hA
  obtain ⟨v1, vs1, d1, ds1, p1, q1, rfl, rfl, rfl, h1, r1⟩ := trodAll_cons r0
  obtain ⟨rfl, rfl, rfl⟩ := trodAll_nil r1
  obtain rfl : args = #[v0, v1] := by cases args; simp_all
  obtain ⟨rfl, rfl⟩ := trodVars_none hV
  have lt0 : ∀ x ∈ p0, x.block < W.heap.size := by obtain ⟨m, hm⟩ := h0; exact DataW.trod_lt m _ _ _ hm
  have lt1 : ∀ x ∈ p1, x.block < W.heap.size := by obtain ⟨m, hm⟩ := h1; exact DataW.trod_lt m _ _ _ hm
  have k0 := h0
  obtain ⟨a0, rfl, rfl, rfl, w0⟩ := open_int Try.underlying5 (hval 0 _ v0 rfl rfl) h0
  have k1 := h1
  obtain ⟨a1, rfl, rfl, rfl, w1⟩ := open_int Try.underlying5 (hval 1 _ v1 rfl rfl) h1
  clear hA0 hval0 hsz0
  refine (calls_end (c_punnet_punnetlaw26_PoolFull a0 a1 (by have h := w0; simp only [Lit.wf, Bool.and_eq_true, decide_eq_true_eq] at h; exact h) (by have h := w1; simp only [Lit.wf, Bool.and_eq_true, decide_eq_true_eq] at h; exact h)) ⟨rfl, fun k y hk => ?_⟩ (by rfl)).mono fun e W' ⟨he, bel⟩ => ?_
  · match k, hk with
    | 0, hk => obtain rfl := Option.some.inj hk; exact .int _ _
    | 1, hk => obtain rfl := Option.some.inj hk; exact .int _ _
    | k + 2, hk => simp at hk
  subst he
  exact ⟨_, rfl, _, _, _, [], _, [], hW', trodAll_mk1 (shut_bool Try.underlying4 _),
    (trodAll_cons_mk (Below.trod laidOut (by kernel_rfl) (of_decide_eq_true (by kernel_rfl)) k0 bel lt0) (trodAll_cons_mk (Below.trod laidOut (by kernel_rfl) (of_decide_eq_true (by kernel_rfl)) k1 bel lt1) trodAll_mk0)), rfl, bel.frame _, fun h => by cases h⟩
end Go.Proofs.Ytpgfcfojojemjaa.poolFull
