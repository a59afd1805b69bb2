/- Slices of tags: words; what one vector lacks of another. -/
import Derived.Test.YtpgfcfojojemjaaDot18
namespace Go.PV
open Go.Proofs
set_option linter.unusedVariables false
set_option linter.unusedSimpArgs false
set_option maxRecDepth 10000

def tagE (q : Int × Int) : V := tagV q.1 q.2
/-- the slice of tags l as it grows -/
def SL (l : List (Int × Int)) (x : V) (ow : List (Nat × Nat)) : Prop :=
  (l = [] ∧ x = .nils ∧ ow = []) ∨ (l ≠ [] ∧ ∃ k, x = .slice 2 (l.map tagE) false (some k) ∧ ow = [(k, l.length)])
/-- the slice of tags l, of which nobody owns a rest -/
def tagsV (l : List (Int × Int)) : V := if l.isEmpty then .nils else .slice 2 (l.map tagE) false none

theorem app_tag {l : List (Int × Int)} {x : V} {ow : List (Nat × Nat)} {nx : Nat} {ie : TI} (h : SL l x ow) (hs : ie.sz = 2) (q : Int × Int) (hl : l.length + 1 ≤ maxApp) :
    ∃ x' ow' nx', appendV ie ow nx x [tagE q] = some (x', ow', nx') ∧ SL (l ++ [q]) x' ow' := by
  rcases h with ⟨rfl, rfl, rfl⟩ | ⟨hne, k, rfl, rfl⟩
  · refine ⟨_, _, _, by simp only [appendV, List.length_cons, List.length_nil]; rw [if_pos (by simpa using hl)]; rfl, .inr ⟨by simp, nx, ?_, ?_⟩⟩
    · simp [hs]
    · simp
  · refine ⟨_, _, _, by simp only [appendV, List.length_map, List.length_cons, List.length_nil]; rw [if_pos ⟨hs.symm, by simpa using hl⟩]; simp; exact ⟨rfl, rfl, rfl⟩, .inr ⟨by simp, k, ?_, ?_⟩⟩
    · simp
    · simp

/-- the tags of place i from x (without) to y -/
def lackAt (i : Nat) (x y : Int) : List (Int × Int) := (List.range (y - x).toNat).map fun k : Nat => ((i : Int) + 1, x + 1 + (k : Int))
def lackF (u b : List Int) : Nat → Nat → List (Int × Int)
  | 0, _ => []
  | n + 1, i => lackAt i (u.getD i 0) (b.getD i 0) ++ lackF u b n (i + 1)
/-- what u lacks of b, from place i on -/
def lacksFrom (u b : List Int) (i : Nat) : List (Int × Int) := lackF u b (6 - i) i
theorem lackAt_none {i : Nat} {x y : Int} (h : ¬ x < y) : lackAt i x y = [] := by
  rw [lackAt, show (y - x).toNat = 0 from by omega]; rfl
theorem lackAt_one {i : Nat} {x y : Int} (h : x < y) : lackAt i x y = ((i : Int) + 1, x + 1) :: lackAt i (x + 1) y := by
  rw [lackAt, lackAt, show (y - x).toNat = (y - (x + 1)).toNat + 1 from by omega, List.range_succ_eq_map, List.map_cons, List.map_map]
  congr 1
  · simp
  · apply List.map_congr_left
    intro k _
    simp; omega
theorem lacksFrom_step {u b : List Int} {i : Nat} (hi : i < 6) : lacksFrom u b i = lackAt i (u.getD i 0) (b.getD i 0) ++ lacksFrom u b (i + 1) := by
  rw [lacksFrom, show 6 - i = (6 - (i + 1)) + 1 from by omega, lackF]; rfl
theorem lackF_set {u b : List Int} {j : Nat} {x : Int} : ∀ (n i : Nat), j < i → lackF (u.set j x) b n i = lackF u b n i
  | 0, _, _ => rfl
  | n + 1, i, h => by
    rw [lackF, lackF, lackF_set n (i + 1) (by omega)]
    congr 2
    simp only [List.getD]
    rw [List.getElem?_set_ne (by omega)]
end Go.PV
