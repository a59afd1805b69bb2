/- What one vector lacks of another: words for the law. -/
import Derived.Test.YtpgfcfojojemjaaDot23
import Derived.Test.YtpgfcfojojemjaaDot15
namespace Go.PV
open Go.Proofs
set_option linter.unusedVariables false
set_option linter.unusedSimpArgs false
set_option maxRecDepth 10000

theorem lth0 (n : Nat) : (0 < n + 1) = True := by simp; try omega
theorem lth1 (n : Nat) : (1 < n + 1 + 1) = True := by simp; try omega
theorem lth2 (n : Nat) : (2 < n + 1 + 1 + 1) = True := by simp; try omega
theorem lth3 (n : Nat) : (3 < n + 1 + 1 + 1 + 1) = True := by simp; try omega
theorem lth4 (n : Nat) : (4 < n + 1 + 1 + 1 + 1 + 1) = True := by simp; try omega
theorem lth5 (n : Nat) : (5 < n + 1 + 1 + 1 + 1 + 1 + 1) = True := by simp; try omega
theorem lth6 (n : Nat) : (6 < n + 1 + 1 + 1 + 1 + 1 + 1 + 1) = True := by simp; try omega
theorem lth7 (n : Nat) : (7 < n + 1 + 1 + 1 + 1 + 1 + 1 + 1 + 1) = True := by simp; try omega
theorem lth8 (n : Nat) : (8 < n + 1 + 1 + 1 + 1 + 1 + 1 + 1 + 1 + 1) = True := by simp; try omega
theorem lth9 (n : Nat) : (9 < n + 1 + 1 + 1 + 1 + 1 + 1 + 1 + 1 + 1 + 1) = True := by simp; try omega
theorem lth10 (n : Nat) : (10 < n + 1 + 1 + 1 + 1 + 1 + 1 + 1 + 1 + 1 + 1 + 1) = True := by simp; try omega
theorem lth11 (n : Nat) : (11 < n + 1 + 1 + 1 + 1 + 1 + 1 + 1 + 1 + 1 + 1 + 1 + 1) = True := by simp; try omega
theorem getD_set (u : List Int) (j k : Nat) (x : Int) (hj : j < u.length) : (u.set j x).getD k 0 = if j = k then x else u.getD k 0 := by
  simp only [List.getD, List.getElem?_set]
  by_cases h : j = k
  · subst h; simp only [if_true, hj, Option.getD_some]
  · simp only [if_neg h]
/-- the first tag that is lacking, and what is lacking when it is there -/
theorem lack_head {b : List Int} : ∀ (n i : Nat) (u : List Int) (q : Int × Int) (r : List (Int × Int)), n + i = 6 → u.length = 6 → lackF u b n i = q :: r →
    ∃ j, i ≤ j ∧ j < 6 ∧ u.getD j 0 < b.getD j 0 ∧ q = ((j : Int) + 1, u.getD j 0 + 1) ∧ lackF (u.set j (u.getD j 0 + 1)) b n i = r
  | 0, i, u, q, r, hn, hu, h => by cases h
  | n + 1, i, u, q, r, hn, hu, h => by
    rw [lackF] at h
    by_cases hlt : u.getD i 0 < b.getD i 0
    · rw [lackAt_one hlt, List.cons_append, List.cons.injEq] at h
      refine ⟨i, Nat.le_refl _, by omega, hlt, h.1.symm, ?_⟩
      rw [lackF, getD_set _ _ _ _ (by omega), if_pos rfl, lackF_set _ _ (by omega)]
      exact h.2
    · rw [lackAt_none hlt, List.nil_append] at h
      obtain ⟨j, h1, h2, h3, h4, h5⟩ := lack_head n (i + 1) u q r (by omega) hu h
      refine ⟨j, by omega, h2, h3, h4, ?_⟩
      rw [lackF, getD_set _ _ _ _ (by omega), if_neg (by omega), lackAt_none hlt, h5]; rfl
theorem lack_nil {b : List Int} : ∀ (n i : Nat) (u : List Int), n + i = 6 → lackF u b n i = [] → ∀ j, i ≤ j → j < 6 → ¬ u.getD j 0 < b.getD j 0
  | 0, i, u, hn, h, j, h1, h2 => by omega
  | n + 1, i, u, hn, h, j, h1, h2 => by
    rw [lackF] at h
    have h3 := List.append_eq_nil_iff.1 h
    by_cases hij : i = j
    · subst hij
      intro hlt
      rw [lackAt_one hlt] at h3
      exact absurd h3.1 (by simp)
    · exact lack_nil n (i + 1) u (by omega) h3.2 j (by omega) h2
theorem sum_set : ∀ (u : List Int) (j : Nat) (x : Int), j < u.length → (u.set j (u.getD j 0 + x)).sum = u.sum + x
  | [], j, x, h => absurd h (by simp)
  | y :: u, 0, x, h => by simp; omega
  | y :: u, j + 1, x, h => by
    have := sum_set u j x (by simpa using h)
    simp only [List.set_cons_succ, List.sum_cons, List.getD_cons_succ, this]
    omega
/-- the vectors on the way from a to the join with b: u, when t tags have been put -/
structure Way (a b : List Int) (u : List Int) (t : Nat) : Prop where
  len : u.length = 6
  right : rightB u = true
  left : lacksFrom u b 0 = (lacksFrom a b 0).drop t
  join : joinL u b = joinL a b
  le : ∀ k, a.getD k 0 ≤ u.getD k 0
  sum : u.sum = a.sum + t
theorem Way.zero {a b : List Int} (la : a.length = 6) (ra : rightB a = true) : Way a b a 0 := ⟨la, ra, rfl, rfl, fun _ => Int.le_refl _, by simp⟩
theorem rightB_getD {u : List Int} (h : ∀ k, k < 6 → 0 ≤ u.getD k 0 ∧ u.getD k 0 ≤ 400) (hu : u.length = 6) : rightB u = true :=
  right_true fun k y hy => by
    have hk : k < u.length := (List.getElem?_eq_some_iff.1 hy).1
    have := h k (by omega)
    simp only [List.getD, hy, Option.getD_some] at this
    exact this
theorem Way.step {a b u : List Int} {t : Nat} {q : Int × Int} (w : Way a b u t) (la : a.length = 6) (lb : b.length = 6) (ra : rightB a = true) (rb : rightB b = true) (hq : (lacksFrom a b 0)[t]? = some q) :
    ∃ u', withS u q.1 q.2 = (u', 0) ∧ Way a b u' (t + 1) ∧ hasB b q.1 q.2 = true ∧ hasB a q.1 q.2 = false := by
  have hd : lacksFrom u b 0 = q :: (lacksFrom a b 0).drop (t + 1) := by
    rw [w.left]
    obtain ⟨ht, rfl⟩ := List.getElem?_eq_some_iff.1 hq
    exact List.drop_eq_getElem_cons ht
  obtain ⟨j, _, h6, hlt, rfl, hrest⟩ := lack_head 6 0 u q _ rfl w.len hd
  have hj : ((j : Int) + 1 - 1).toNat = j := by omega
  have hl := w.len
  have h0 := (right_get w.right j).1
  have hb4 := (right_get rb j).2
  have hx : u.getD ((j : Int) + 1 - 1).toNat 0 = u.getD j 0 := by rw [hj]
  have hw := with_next (v := u) (r := (j : Int) + 1) (x := u.getD j 0) hl w.right (by omega) (by omega) hx h0 (by omega)
  have hs := set_facts (v := u) (r := (j : Int) + 1) (x := u.getD j 0) hl w.right (by omega) (by omega) hx h0 (by omega)
  rw [hj] at hw hs
  have ht : tagB ((j : Int) + 1) (u.getD j 0 + 1) = true := tagB_iff.2 (by omega)
  refine ⟨_, hw.1, ⟨by simp [hl], hs.2.2, hrest, ?_, fun k => ?_, ?_⟩, ?_, ?_⟩
  · rw [← w.join]
    apply List.ext_getElem?
    intro k
    rcases Nat.lt_or_ge k 6 with hk | hk
    · rw [join_get (by simp [hl]) lb hk, join_get hl lb hk, getD_set _ _ _ _ (by omega)]
      split
      · rename_i h; subst h
        congr 1
        simp only [mx]
        repeat' split
        all_goals omega
      · rfl
    · rw [List.getElem?_eq_none (by rw [join_len (by simp [hl]) lb]; exact hk), List.getElem?_eq_none (by rw [join_len hl lb]; exact hk)]
  · rw [getD_set _ _ _ _ (by omega)]
    have := w.le k
    split
    · rename_i h; subst h; omega
    · exact this
  · rw [sum_set u j 1 (by omega), w.sum]; simp; omega
  · simp only [hasB, ht, hj, Bool.true_and]; exact decide_eq_true (by omega)
  · have := w.le j
    simp only [hasB, ht, hj, Bool.true_and]; exact decide_eq_false (by omega)
theorem Way.last {a b u : List Int} (w : Way a b u (lacksFrom a b 0).length) (lb : b.length = 6) : u = joinL a b := by
  have hn := lack_nil 6 0 u rfl (by have := w.left; rw [List.drop_length] at this; exact this)
  rw [← w.join]
  apply List.ext_getElem?
  intro k
  rcases Nat.lt_or_ge k 6 with hk | hk
  · rw [join_get w.len lb hk]
    have h1 := hn k (Nat.zero_le _) hk
    have h2 : u[k]? = some (u.getD k 0) := by
      have hk' : k < u.length := by rw [w.len]; exact hk
      simp [List.getD, List.getElem?_eq_getElem hk']
    rw [h2]
    congr 1
    unfold mx
    split <;> omega
  · rw [List.getElem?_eq_none (by rw [w.len]; exact hk), List.getElem?_eq_none (by rw [join_len w.len lb]; exact hk)]
end Go.PV
