/- Vectors and tags: words. -/
import Derived.Test.YtpgfcfojojemjaaTypes
import Derived.IntWalk
namespace Go.PV
open Go.Proofs
set_option linter.unusedVariables false
set_option linter.unusedSimpArgs false

def vecV (v : List Int) : V := .agg (v.map (V.int .i64))
theorem vec_cells (v : List Int) : (vecV v).cells = v.map (V.int .i64) := rfl
theorem all_ints (v : List Int) : (v.map (V.int .i64)).all V.isCell = true := by simp [V.isCell]
theorem vec_toks (v : List Int) : (vecV v).toks = [] := by simp [vecV, V.toks, V.cells, V.tokC]
theorem vec_bare (v : List Int) : (vecV v).bare = vecV v := by simp [vecV, V.bare, V.bare1, V.bareC]
theorem vec_keep (v : List Int) (ow : List (Nat × Nat)) : (vecV v).keep ow = vecV v := by simp [vecV, V.keep, V.keep1, V.keepC]
theorem vec_noP (v : List Int) : (vecV v).noP = true := by simp [vecV, V.noP, V.noP1, V.noP0]
theorem vec_ok (v : List Int) (m : Nat) : okV m (vecV v) = true := by simp [vecV, okV, ok1, okC, okP]
theorem vec_load {v : List Int} (hv : v.length = 6) {n b : Nat} {z : Option (List V)} : loadV ⟨.arr n 3, 6, b, z⟩ (v.map (V.int .i64)) = some (vecV v) := by
  simp [loadV, TD.agg, hv, vecV]
  rw [List.take_of_length_le (by simp [hv])]
theorem vec_at {v : List Int} {k : Nat} {x : Int} (h : v[k]? = some x) : ((v.map (V.int .i64)).drop k).head? = some (.int .i64 x) := by
  simp [List.head?_drop, h]
theorem vec_index {v : List Int} {i x : Int} (h0 : 0 ≤ i) (h6 : i < 6) (h : v[i.toNat]? = some x) : indexV Try.prog 23 (vecV v) (.int .i64 i) = some (.int .i64 x) := by
  simp only [indexV, ti23, vecV, ti3]
  rw [if_pos (by omega)]
  simp [partV, TD.agg, h]
def tagV (r n : Int) : V := .agg [.int .i64 r, .int .i64 n]
theorem wrapI {x : Int} (h0 : -9223372036854775808 ≤ x) (h1 : x ≤ 9223372036854775807) : IntKind.i64.wrap x = x := by rw [IntKind.wrap_i64]; omega
theorem bool_neq (a b : Bool) : binV Try.prog .neq 4 (.bool a) (.bool b) = some (.bool (!(a == b))) := by simp [binV, eqlV, ti4]
theorem bool_eql (a b : Bool) : binV Try.prog .eql 4 (.bool a) (.bool b) = some (.bool (a == b)) := by simp [binV, eqlV, ti4]
end Go.PV
