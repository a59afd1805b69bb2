/- Tags: words. -/
import Derived.Test.YtmccikbdiipdkaaTypes
import Derived.IntWalk
import Derived.Test.YtmccikbdiipdkaaPWd
namespace Go.PV
open Go.Proofs
set_option linter.unusedVariables false
set_option linter.unusedSimpArgs false

def tagV (r n : Int) : V := .agg [.int .i64 r, .int .i64 n]
theorem wrapI {x : Int} (h0 : -9223372036854775808 ≤ x) (h1 : x ≤ 9223372036854775807) : IntKind.i64.wrap x = x := by rw [IntKind.wrap_i64]; omega
theorem bool_neq (a b : Bool) : binV Try.prog .neq 4 (.bool a) (.bool b) = some (.bool (!(a == b))) := by simp [binV, eqlV, ti4]
theorem bool_eql (a b : Bool) : binV Try.prog .eql 4 (.bool a) (.bool b) = some (.bool (a == b)) := by simp [binV, eqlV, ti4]
def tagB (r n : Int) : Bool := decide (1 ≤ r) && decide (r ≤ 6) && decide (1 ≤ n) && decide (n ≤ 1099511627776)
theorem tag_cells (r n : Int) : (tagV r n).cells = [.int .i64 r, .int .i64 n] := rfl
theorem tag_bare (r n : Int) : (tagV r n).bare = tagV r n := rfl
theorem tag_noP (r n : Int) : (tagV r n).noP = true := rfl
theorem tag_toks (r n : Int) : (tagV r n).toks = [] := rfl
theorem tag_keep (r n : Int) (ow : List (Nat × Nat)) : (tagV r n).keep ow = tagV r n := rfl
theorem tag_isC (r n : Int) : ([.int .i64 r, .int .i64 n] : List V).all V.isCell = true := rfl

theorem mixed : Try.prog.follows .mixedOrders = true := by kernel_rfl
theorem tagB_iff {r n : Int} : tagB r n = true ↔ 1 ≤ r ∧ r ≤ 6 ∧ 1 ≤ n ∧ n ≤ 1099511627776 := by simp [tagB, and_assoc]
theorem tag_load {l : List (Nat × TypeId)} {b : Nat} {z : Option (List V)} {r n : Int} : loadV ⟨.struct l, 2, b, z⟩ [.int .i64 r, .int .i64 n] = some (tagV r n) := rfl
theorem tag_bare1 (r n : Int) : (tagV r n).bare1 = tagV r n := rfl
theorem wrL_full {α : Type} {cs ys : List α} (h : cs.length = ys.length) : wrL cs 0 ys = ys := by
  apply List.ext_getElem?
  intro k
  rcases Nat.lt_or_ge k ys.length with hk | hk
  · have := wrL_in ys cs 0 k (by omega) hk
    simpa using this
  · rw [List.getElem?_eq_none hk, List.getElem?_eq_none (by rw [wrL_length]; omega)]
theorem tag_fold (r n : Int) : V.agg [.int .i64 r, .int .i64 n] = tagV r n := rfl
theorem tag_full (a b c d : V) : wrL [a, b] 0 [c, d] = [c, d] := rfl
theorem tag_neq (r n r' n' : Int) : binV Try.prog .neq 23 (tagV r n) (tagV r' n') = some (.bool (!((r == r') && (n == n')))) := by
  simp [binV, eqlV, tagV, ti23, eqK23, cellsEq, cellEq]
theorem tag_eql (r n r' n' : Int) : binV Try.prog .eql 23 (tagV r n) (tagV r' n') = some (.bool ((r == r') && (n == n'))) := by
  simp [binV, eqlV, tagV, ti23, eqK23, cellsEq, cellEq]

def tagE (q : Int × Int) : V := tagV q.1 q.2
theorem range_one : ([0] = List.range 1) = True := by simp
theorem tag_clean (r n : Int) : (tagV r n).clean = true := rfl
theorem cat_at {α : Type} (l : List α) (x : α) : (l ++ [x])[l.length]? = some x := by simp
theorem cat_set {α : Type} (l : List α) (x y : α) : (l ++ [x]).set l.length y = l ++ [y] := by simp
theorem tagE_cells (q : Int × Int) : (tagE q).cells = [.int .i64 q.1, .int .i64 q.2] := rfl
/-- a bare slice of the tags l -/
def TS (l : List (Int × Int)) (x : V) : Prop := (l = [] ∧ x = .nils) ∨ ∃ ex, x = .slice 2 (l.map tagE) ex none
theorem TS.bare {l : List (Int × Int)} {x : V} (h : TS l x) : x.bare = x := by
  rcases h with ⟨_, rfl⟩ | ⟨ex, rfl⟩ <;> rfl
theorem TS.noP {l : List (Int × Int)} {x : V} (h : TS l x) : x.noP = true := by
  rcases h with ⟨_, rfl⟩ | ⟨ex, rfl⟩ <;> simp [V.noP, V.noP1, V.noP0]
theorem TS.len {l : List (Int × Int)} {x : V} (h : TS l x) : lenV Try.prog 26 x = some (.int .i64 l.length) := by
  rcases h with ⟨rfl, rfl⟩ | ⟨ex, rfl⟩ <;> simp [lenV, ti26]
theorem TS.ia {l : List (Int × Int)} {x : V} (h : TS l x) {i : Nat} {q : Int × Int} (hq : l[i]? = some q) : indexAddrV Try.prog 26 x (.int .i64 i) = some (.rptr [.int .i64 q.1, .int .i64 q.2]) := by
  rcases h with ⟨rfl, rfl⟩ | ⟨ex, rfl⟩
  · simp at hq
  · simp [indexAddrV, ti26, ti23, hq, tagE_cells]
theorem TS.noP1 {l : List (Int × Int)} {x : V} (h : TS l x) : x.noP1 = true := by
  rcases h with ⟨_, rfl⟩ | ⟨ex, rfl⟩ <;> simp [V.noP1, V.noP0]
theorem TS.bare1 {l : List (Int × Int)} {x : V} (h : TS l x) : x.bare1 = x := by
  rcases h with ⟨_, rfl⟩ | ⟨ex, rfl⟩ <;> rfl
theorem TS.tnoP {l : List (Int × Int)} {x : V} (h : TS l x) (c : Int) : (V.tup [x, .int .i64 c]).noP = true := by
  rcases h with ⟨_, rfl⟩ | ⟨ex, rfl⟩ <;> simp [V.noP, V.noP1, V.noP0]
theorem TS.tbare {l : List (Int × Int)} {x : V} (h : TS l x) (c : Int) : (V.tup [x, .int .i64 c]).bare = .tup [x, .int .i64 c] := by
  rcases h with ⟨_, rfl⟩ | ⟨ex, rfl⟩ <;> rfl
theorem TS.toks {l : List (Int × Int)} {x : V} (h : TS l x) : V.toks x = [] := by
  rcases h with ⟨_, rfl⟩ | ⟨ex, rfl⟩ <;> rfl
theorem range_two : ([0, 1] = List.range 2) = True := by simp [List.range_succ_eq_map]
theorem keep_bool (ow : List (Nat × Nat)) (b : Bool) : V.keep ow (.bool b) = .bool b := rfl
theorem keep_int (ow : List (Nat × Nat)) (k : IntKind) (n : Int) : V.keep ow (.int k n) = .int k n := rfl
theorem tag_load2 {l : List (Nat × TypeId)} {b : Nat} {z : Option (List V)} {r n : Int} {rest : List V} : loadV ⟨.struct l, 2, b, z⟩ (.int .i64 r :: .int .i64 n :: rest) = some (tagV r n) := by simp [loadV, TD.agg, tagV]
theorem load_str {n b : Nat} {z : Option (List V)} (x : V) (r : List V) : loadV ⟨.str, n, b, z⟩ (x :: r) = some x := rfl
theorem load_bool {n b : Nat} {z : Option (List V)} (x : V) (r : List V) : loadV ⟨.bool, n, b, z⟩ (x :: r) = some x := rfl
theorem load_int {k : IntKind} {n b : Nat} {z : Option (List V)} (x : V) (r : List V) : loadV ⟨.int k, n, b, z⟩ (x :: r) = some x := rfl
theorem load_slice {e n b : Nat} {z : Option (List V)} (x : V) (r : List V) : loadV ⟨.slice e, n, b, z⟩ (x :: r) = some x := rfl
end Go.PV
