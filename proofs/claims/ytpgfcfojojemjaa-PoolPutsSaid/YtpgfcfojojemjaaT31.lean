/- The types of the program. -/
import Derived.Test.YtpgfcfojojemjaaPWe
import Derived.Test.YtpgfcfojojemjaaChecked
import Derived.IntWalk
import Derived.Test.YtpgfcfojojemjaaPWd
namespace Go.PV
open Go.Proofs
theorem ti2 : ti Try.prog 2 = some ⟨.int .i64, 1, 8, some [.int .i64 0]⟩ := by kernel_rfl
theorem ti3 : ti Try.prog 3 = some ⟨.int .i64, 1, 8, some [.int .i64 0]⟩ := by kernel_rfl
theorem ti4 : ti Try.prog 4 = some ⟨.bool, 1, 1, some [.bool false]⟩ := by kernel_rfl
theorem ti9 : ti Try.prog 9 = some ⟨.str, 1, 16, some [.str []]⟩ := by kernel_rfl
theorem ti23 : ti Try.prog 23 = some ⟨.arr 6 3, 6, 48, some [.int .i64 0, .int .i64 0, .int .i64 0, .int .i64 0, .int .i64 0, .int .i64 0]⟩ := by kernel_rfl
theorem ti25 : ti Try.prog 25 = some ⟨.struct [(0, 3), (1, 3)], 2, 16, some [.int .i64 0, .int .i64 0]⟩ := by kernel_rfl
theorem ti38 : ti Try.prog 38 = some ⟨.slice 25, 1, 24, some [.nils]⟩ := by kernel_rfl
theorem ti47 : ti Try.prog 47 = some ⟨.struct [(0, 3), (1, 9), (2, 9)], 3, 40, some [.int .i64 0, .str [], .str []]⟩ := by kernel_rfl
theorem ti49 : ti Try.prog 49 = some ⟨.struct [(0, 25), (2, 25), (4, 2), (5, 9), (6, 3), (7, 9), (8, 47), (11, 2), (12, 4), (13, 9), (14, 38)], 15, 176, some [.int .i64 0, .int .i64 0, .int .i64 0, .int .i64 0, .int .i64 0, .str [], .int .i64 0, .str [], .int .i64 0, .str [], .str [], .int .i64 0, .bool false, .str [], .nils]⟩ := by kernel_rfl
theorem ti52 : ti Try.prog 52 = some ⟨.slice 49, 1, 24, some [.nils]⟩ := by kernel_rfl
theorem ti80 : ti Try.prog 80 = some ⟨.arr 6 52, 6, 144, some [.nils, .nils, .nils, .nils, .nils, .nils]⟩ := by kernel_rfl
theorem ti82 : ti Try.prog 82 = some ⟨.struct [(0, 80)], 6, 144, some [.nils, .nils, .nils, .nils, .nils, .nils]⟩ := by kernel_rfl
theorem ti95 : ti Try.prog 95 = some ⟨.slice 3, 1, 24, some [.nils]⟩ := by kernel_rfl
theorem fa25_0 (b o : Nat) : fieldAddrV Try.prog 25 (.ptr b o) 0 = some (.ptr b (o + 0)) := by simp [fieldAddrV, ti25, ti3]
theorem fr25_0 (cs : List V) : fieldAddrV Try.prog 25 (.rptr cs) 0 = some (.rptr (cs.drop 0)) := by simp [fieldAddrV, ti25, ti3]
theorem fv25_0 (cs : List V) : fieldV Try.prog 25 (.agg cs) 0 = cs[0]? := by simp [fieldV, ti25, ti3, partV, TD.agg]
theorem fa25_1 (b o : Nat) : fieldAddrV Try.prog 25 (.ptr b o) 1 = some (.ptr b (o + 1)) := by simp [fieldAddrV, ti25, ti3]
theorem fr25_1 (cs : List V) : fieldAddrV Try.prog 25 (.rptr cs) 1 = some (.rptr (cs.drop 1)) := by simp [fieldAddrV, ti25, ti3]
theorem fv25_1 (cs : List V) : fieldV Try.prog 25 (.agg cs) 1 = cs[1]? := by simp [fieldV, ti25, ti3, partV, TD.agg]
theorem fa47_0 (b o : Nat) : fieldAddrV Try.prog 47 (.ptr b o) 0 = some (.ptr b (o + 0)) := by simp [fieldAddrV, ti47, ti3]
theorem fr47_0 (cs : List V) : fieldAddrV Try.prog 47 (.rptr cs) 0 = some (.rptr (cs.drop 0)) := by simp [fieldAddrV, ti47, ti3]
theorem fv47_0 (cs : List V) : fieldV Try.prog 47 (.agg cs) 0 = cs[0]? := by simp [fieldV, ti47, ti3, partV, TD.agg]
theorem fa47_1 (b o : Nat) : fieldAddrV Try.prog 47 (.ptr b o) 1 = some (.ptr b (o + 1)) := by simp [fieldAddrV, ti47, ti9]
theorem fr47_1 (cs : List V) : fieldAddrV Try.prog 47 (.rptr cs) 1 = some (.rptr (cs.drop 1)) := by simp [fieldAddrV, ti47, ti9]
theorem fv47_1 (cs : List V) : fieldV Try.prog 47 (.agg cs) 1 = cs[1]? := by simp [fieldV, ti47, ti9, partV, TD.agg]
theorem fa47_2 (b o : Nat) : fieldAddrV Try.prog 47 (.ptr b o) 2 = some (.ptr b (o + 2)) := by simp [fieldAddrV, ti47, ti9]
theorem fr47_2 (cs : List V) : fieldAddrV Try.prog 47 (.rptr cs) 2 = some (.rptr (cs.drop 2)) := by simp [fieldAddrV, ti47, ti9]
theorem fv47_2 (cs : List V) : fieldV Try.prog 47 (.agg cs) 2 = cs[2]? := by simp [fieldV, ti47, ti9, partV, TD.agg]
theorem fa49_0 (b o : Nat) : fieldAddrV Try.prog 49 (.ptr b o) 0 = some (.ptr b (o + 0)) := by simp [fieldAddrV, ti49, ti25]
theorem fr49_0 (cs : List V) : fieldAddrV Try.prog 49 (.rptr cs) 0 = some (.rptr (cs.drop 0)) := by simp [fieldAddrV, ti49, ti25]
theorem fv49_0 (cs : List V) : fieldV Try.prog 49 (.agg cs) 0 = if 0 + 2 ≤ cs.length then some (.agg ((cs.drop 0).take 2)) else none := by simp [fieldV, ti49, ti25, partV, TD.agg]
theorem fa49_1 (b o : Nat) : fieldAddrV Try.prog 49 (.ptr b o) 1 = some (.ptr b (o + 2)) := by simp [fieldAddrV, ti49, ti25]
theorem fr49_1 (cs : List V) : fieldAddrV Try.prog 49 (.rptr cs) 1 = some (.rptr (cs.drop 2)) := by simp [fieldAddrV, ti49, ti25]
theorem fv49_1 (cs : List V) : fieldV Try.prog 49 (.agg cs) 1 = if 2 + 2 ≤ cs.length then some (.agg ((cs.drop 2).take 2)) else none := by simp [fieldV, ti49, ti25, partV, TD.agg]
theorem fa49_2 (b o : Nat) : fieldAddrV Try.prog 49 (.ptr b o) 2 = some (.ptr b (o + 4)) := by simp [fieldAddrV, ti49, ti2]
theorem fr49_2 (cs : List V) : fieldAddrV Try.prog 49 (.rptr cs) 2 = some (.rptr (cs.drop 4)) := by simp [fieldAddrV, ti49, ti2]
theorem fv49_2 (cs : List V) : fieldV Try.prog 49 (.agg cs) 2 = cs[4]? := by simp [fieldV, ti49, ti2, partV, TD.agg]
theorem fa49_3 (b o : Nat) : fieldAddrV Try.prog 49 (.ptr b o) 3 = some (.ptr b (o + 5)) := by simp [fieldAddrV, ti49, ti9]
theorem fr49_3 (cs : List V) : fieldAddrV Try.prog 49 (.rptr cs) 3 = some (.rptr (cs.drop 5)) := by simp [fieldAddrV, ti49, ti9]
theorem fv49_3 (cs : List V) : fieldV Try.prog 49 (.agg cs) 3 = cs[5]? := by simp [fieldV, ti49, ti9, partV, TD.agg]
theorem fa49_4 (b o : Nat) : fieldAddrV Try.prog 49 (.ptr b o) 4 = some (.ptr b (o + 6)) := by simp [fieldAddrV, ti49, ti3]
theorem fr49_4 (cs : List V) : fieldAddrV Try.prog 49 (.rptr cs) 4 = some (.rptr (cs.drop 6)) := by simp [fieldAddrV, ti49, ti3]
theorem fv49_4 (cs : List V) : fieldV Try.prog 49 (.agg cs) 4 = cs[6]? := by simp [fieldV, ti49, ti3, partV, TD.agg]
theorem fa49_5 (b o : Nat) : fieldAddrV Try.prog 49 (.ptr b o) 5 = some (.ptr b (o + 7)) := by simp [fieldAddrV, ti49, ti9]
theorem fr49_5 (cs : List V) : fieldAddrV Try.prog 49 (.rptr cs) 5 = some (.rptr (cs.drop 7)) := by simp [fieldAddrV, ti49, ti9]
theorem fv49_5 (cs : List V) : fieldV Try.prog 49 (.agg cs) 5 = cs[7]? := by simp [fieldV, ti49, ti9, partV, TD.agg]
theorem fa49_6 (b o : Nat) : fieldAddrV Try.prog 49 (.ptr b o) 6 = some (.ptr b (o + 8)) := by simp [fieldAddrV, ti49, ti47]
theorem fr49_6 (cs : List V) : fieldAddrV Try.prog 49 (.rptr cs) 6 = some (.rptr (cs.drop 8)) := by simp [fieldAddrV, ti49, ti47]
theorem fv49_6 (cs : List V) : fieldV Try.prog 49 (.agg cs) 6 = if 8 + 3 ≤ cs.length then some (.agg ((cs.drop 8).take 3)) else none := by simp [fieldV, ti49, ti47, partV, TD.agg]
theorem fa49_7 (b o : Nat) : fieldAddrV Try.prog 49 (.ptr b o) 7 = some (.ptr b (o + 11)) := by simp [fieldAddrV, ti49, ti2]
theorem fr49_7 (cs : List V) : fieldAddrV Try.prog 49 (.rptr cs) 7 = some (.rptr (cs.drop 11)) := by simp [fieldAddrV, ti49, ti2]
theorem fv49_7 (cs : List V) : fieldV Try.prog 49 (.agg cs) 7 = cs[11]? := by simp [fieldV, ti49, ti2, partV, TD.agg]
theorem fa49_8 (b o : Nat) : fieldAddrV Try.prog 49 (.ptr b o) 8 = some (.ptr b (o + 12)) := by simp [fieldAddrV, ti49, ti4]
theorem fr49_8 (cs : List V) : fieldAddrV Try.prog 49 (.rptr cs) 8 = some (.rptr (cs.drop 12)) := by simp [fieldAddrV, ti49, ti4]
theorem fv49_8 (cs : List V) : fieldV Try.prog 49 (.agg cs) 8 = cs[12]? := by simp [fieldV, ti49, ti4, partV, TD.agg]
theorem fa49_9 (b o : Nat) : fieldAddrV Try.prog 49 (.ptr b o) 9 = some (.ptr b (o + 13)) := by simp [fieldAddrV, ti49, ti9]
theorem fr49_9 (cs : List V) : fieldAddrV Try.prog 49 (.rptr cs) 9 = some (.rptr (cs.drop 13)) := by simp [fieldAddrV, ti49, ti9]
theorem fv49_9 (cs : List V) : fieldV Try.prog 49 (.agg cs) 9 = cs[13]? := by simp [fieldV, ti49, ti9, partV, TD.agg]
theorem fa49_10 (b o : Nat) : fieldAddrV Try.prog 49 (.ptr b o) 10 = some (.ptr b (o + 14)) := by simp [fieldAddrV, ti49, ti38]
theorem fr49_10 (cs : List V) : fieldAddrV Try.prog 49 (.rptr cs) 10 = some (.rptr (cs.drop 14)) := by simp [fieldAddrV, ti49, ti38]
theorem fv49_10 (cs : List V) : fieldV Try.prog 49 (.agg cs) 10 = cs[14]? := by simp [fieldV, ti49, ti38, partV, TD.agg]
theorem fa82_0 (b o : Nat) : fieldAddrV Try.prog 82 (.ptr b o) 0 = some (.ptr b (o + 0)) := by simp [fieldAddrV, ti82, ti80]
theorem fr82_0 (cs : List V) : fieldAddrV Try.prog 82 (.rptr cs) 0 = some (.rptr (cs.drop 0)) := by simp [fieldAddrV, ti82, ti80]
theorem fv82_0 (cs : List V) : fieldV Try.prog 82 (.agg cs) 0 = if 0 + 6 ≤ cs.length then some (.agg ((cs.drop 0).take 6)) else none := by simp [fieldV, ti82, ti80, partV, TD.agg]
theorem fS25 : type_of% (And.intro @fa25_0 (And.intro @fr25_0 (And.intro @fv25_0 (And.intro @fa25_1 (And.intro @fr25_1 (@fv25_1)))))) := And.intro @fa25_0 (And.intro @fr25_0 (And.intro @fv25_0 (And.intro @fa25_1 (And.intro @fr25_1 (@fv25_1)))))
theorem fS47 : type_of% (And.intro @fa47_0 (And.intro @fr47_0 (And.intro @fv47_0 (And.intro @fa47_1 (And.intro @fr47_1 (And.intro @fv47_1 (And.intro @fa47_2 (And.intro @fr47_2 (@fv47_2))))))))) := And.intro @fa47_0 (And.intro @fr47_0 (And.intro @fv47_0 (And.intro @fa47_1 (And.intro @fr47_1 (And.intro @fv47_1 (And.intro @fa47_2 (And.intro @fr47_2 (@fv47_2))))))))
theorem fS49 : type_of% (And.intro @fa49_0 (And.intro @fr49_0 (And.intro @fv49_0 (And.intro @fa49_1 (And.intro @fr49_1 (And.intro @fv49_1 (And.intro @fa49_2 (And.intro @fr49_2 (And.intro @fv49_2 (And.intro @fa49_3 (And.intro @fr49_3 (And.intro @fv49_3 (And.intro @fa49_4 (And.intro @fr49_4 (And.intro @fv49_4 (And.intro @fa49_5 (And.intro @fr49_5 (And.intro @fv49_5 (And.intro @fa49_6 (And.intro @fr49_6 (And.intro @fv49_6 (And.intro @fa49_7 (And.intro @fr49_7 (And.intro @fv49_7 (And.intro @fa49_8 (And.intro @fr49_8 (And.intro @fv49_8 (And.intro @fa49_9 (And.intro @fr49_9 (And.intro @fv49_9 (And.intro @fa49_10 (And.intro @fr49_10 (@fv49_10))))))))))))))))))))))))))))))))) := And.intro @fa49_0 (And.intro @fr49_0 (And.intro @fv49_0 (And.intro @fa49_1 (And.intro @fr49_1 (And.intro @fv49_1 (And.intro @fa49_2 (And.intro @fr49_2 (And.intro @fv49_2 (And.intro @fa49_3 (And.intro @fr49_3 (And.intro @fv49_3 (And.intro @fa49_4 (And.intro @fr49_4 (And.intro @fv49_4 (And.intro @fa49_5 (And.intro @fr49_5 (And.intro @fv49_5 (And.intro @fa49_6 (And.intro @fr49_6 (And.intro @fv49_6 (And.intro @fa49_7 (And.intro @fr49_7 (And.intro @fv49_7 (And.intro @fa49_8 (And.intro @fr49_8 (And.intro @fv49_8 (And.intro @fa49_9 (And.intro @fr49_9 (And.intro @fv49_9 (And.intro @fa49_10 (And.intro @fr49_10 (@fv49_10))))))))))))))))))))))))))))))))
theorem fS82 : type_of% (And.intro @fa82_0 (And.intro @fr82_0 (@fv82_0))) := And.intro @fa82_0 (And.intro @fr82_0 (@fv82_0))
theorem fk3 (d : Nat) : flatK Try.prog (d + 1) 3 = some [.int .i64] := flatK_int Try.underlying3 (i := Try.t3) (by kernel_rfl) rfl
theorem fk23 (d : Nat) : flatK Try.prog (d + 2) 23 = some [.int .i64, .int .i64, .int .i64, .int .i64, .int .i64, .int .i64] := flatK_arr Try.underlying23 (i := Try.t23) (by kernel_rfl) (fk3 d) rfl
theorem eqK23 : eqK Try.prog 23 = some [.int .i64, .int .i64, .int .i64, .int .i64, .int .i64, .int .i64] := eqK_of Try.eqGuardType23 (fk23 62)
theorem fk25 (d : Nat) : flatK Try.prog (d + 2) 25 = some [.int .i64, .int .i64] := by
  refine flatK_struct Try.underlying25 (i := Try.t25) (by kernel_rfl) Try.stoodInHeld25 ?_ rfl
  refine fields_cons (ks := [.int .i64]) (r := [.int .i64]) ?_ rfl (fk3 (d + 0)) rfl ?_
  · kernel_rfl
  refine fields_cons (ks := [.int .i64]) (r := []) ?_ rfl (fk3 (d + 0)) rfl ?_
  · kernel_rfl
  exact fields_nil _ _
theorem eqK25 : eqK Try.prog 25 = some [.int .i64, .int .i64] := eqK_of Try.eqGuardType25 (fk25 62)
theorem fk9 (d : Nat) : flatK Try.prog (d + 1) 9 = some [.str] := flatK_str Try.underlying9 (i := Try.t9) (by kernel_rfl) rfl
theorem fk47 (d : Nat) : flatK Try.prog (d + 2) 47 = some [.int .i64, .str, .str] := by
  refine flatK_struct Try.underlying47 (i := Try.t47) (by kernel_rfl) Try.stoodInHeld47 ?_ rfl
  refine fields_cons (ks := [.int .i64]) (r := [.str, .str]) ?_ rfl (fk3 (d + 0)) rfl ?_
  · kernel_rfl
  refine fields_cons (ks := [.str]) (r := [.str]) ?_ rfl (fk9 (d + 0)) rfl ?_
  · kernel_rfl
  refine fields_cons (ks := [.str]) (r := []) ?_ rfl (fk9 (d + 0)) rfl ?_
  · kernel_rfl
  exact fields_nil _ _
theorem eqK47 : eqK Try.prog 47 = some [.int .i64, .str, .str] := eqK_of Try.eqGuardType47 (fk47 62)
end Go.PV
/- Tags: words. -/
namespace Go.PV
open Go.Proofs
set_option linter.unusedVariables false
set_option linter.unusedSimpArgs false

def tagV (r n : Int) : V := .agg [.int .i64 r, .int .i64 n]
theorem wrapI {x : Int} (h0 : -9223372036854775808 ≤ x) (h1 : x ≤ 9223372036854775807) : IntKind.i64.wrap x = x := by rw [IntKind.wrap_i64]; omega
theorem bool_eql (a b : Bool) : binV Try.prog .eql 4 (.bool a) (.bool b) = some (.bool (a == b)) := by simp [binV, eqlV, ti4]
def tagB (r n : Int) : Bool := decide (1 ≤ r) && decide (r ≤ 6) && decide (1 ≤ n) && decide (n ≤ 1099511627776)
theorem tag_cells (r n : Int) : (tagV r n).cells = [.int .i64 r, .int .i64 n] := rfl
theorem tag_bare (r n : Int) : (tagV r n).bare = tagV r n := rfl
theorem tag_noP (r n : Int) : (tagV r n).noP = true := rfl
theorem tag_toks (r n : Int) : (tagV r n).toks = [] := rfl
theorem tag_isC (r n : Int) : ([.int .i64 r, .int .i64 n] : List V).all V.isCell = true := rfl

theorem mixed : Try.prog.follows .mixedOrders = true := by kernel_rfl
theorem tagB_iff {r n : Int} : tagB r n = true ↔ 1 ≤ r ∧ r ≤ 6 ∧ 1 ≤ n ∧ n ≤ 1099511627776 := by simp [tagB, and_assoc]
theorem tag_load {l : List (Nat × TypeId)} {b : Nat} {z : Option (List V)} {r n : Int} : loadV ⟨.struct l, 2, b, z⟩ [.int .i64 r, .int .i64 n] = some (tagV r n) := rfl
theorem wrL_full {α : Type} {cs ys : List α} (h : cs.length = ys.length) : wrL cs 0 ys = ys := by
  apply List.ext_getElem?
  intro k
  rcases Nat.lt_or_ge k ys.length with hk | hk
  · have := wrL_in ys cs 0 k (by omega) hk
    simpa using this
  · rw [List.getElem?_eq_none hk,List.getElem?_eq_none (by rw [wrL_length]; omega)]
theorem tag_fold (r n : Int) : V.agg [.int .i64 r, .int .i64 n] = tagV r n := rfl
theorem tag_full (a b c d : V) : wrL [a, b] 0 [c, d] = [c, d] := rfl
theorem tag_neq (r n r' n' : Int) : binV Try.prog .neq 25 (tagV r n) (tagV r' n') = some (.bool (!((r == r') && (n == n')))) := by
  simp [binV,eqlV,tagV,ti25,eqK25,cellsEq,cellEq]
theorem tag_eql (r n r' n' : Int) : binV Try.prog .eql 25 (tagV r n) (tagV r' n') = some (.bool ((r == r') && (n == n'))) := by
  simp [binV,eqlV,tagV,ti25,eqK25,cellsEq,cellEq]

def tagE (q : Int × Int) : V := tagV q.1 q.2
theorem range_one : ([0] = List.range 1) = True := by simp
theorem cat_at {α : Type} (l : List α) (x : α) : (l ++ [x])[l.length]? = some x := by simp
theorem cat_set {α : Type} (l : List α) (x y : α) : (l ++ [x]).set l.length y = l ++ [y] := by simp
theorem tagE_cells (q : Int × Int) : (tagE q).cells = [.int .i64 q.1, .int .i64 q.2] := rfl
/-- a bare slice of the tags l -/
def TS (l : List (Int × Int)) (x : V) : Prop := (l = [] ∧ x = .nils) ∨ ∃ ex, x = .slice 2 (l.map tagE) ex none
theorem TS.bare {l : List (Int × Int)} {x : V} (h : TS l x) : x.bare = x := by
  rcases h with ⟨_,rfl⟩ | ⟨ex,rfl⟩ <;> rfl
theorem TS.noP {l : List (Int × Int)} {x : V} (h : TS l x) : x.noP = true := by
  rcases h with ⟨_,rfl⟩ | ⟨ex,rfl⟩ <;> simp [V.noP,V.noP1,V.noP0]
theorem TS.len {l : List (Int × Int)} {x : V} (h : TS l x) : lenV Try.prog 38 x = some (.int .i64 l.length) := by
  rcases h with ⟨rfl,rfl⟩ | ⟨ex,rfl⟩ <;> simp [lenV,ti38]
theorem TS.ia {l : List (Int × Int)} {x : V} (h : TS l x) {i : Nat} {q : Int × Int} (hq : l[i]? = some q) : indexAddrV Try.prog 38 x (.int .i64 i) = some (.rptr [.int .i64 q.1, .int .i64 q.2]) := by
  rcases h with ⟨rfl,rfl⟩ | ⟨ex,rfl⟩
  · simp at hq
  · simp [indexAddrV,ti38,ti25,hq,tagE_cells]
theorem TS.noP1 {l : List (Int × Int)} {x : V} (h : TS l x) : x.noP1 = true := by
  rcases h with ⟨_,rfl⟩ | ⟨ex,rfl⟩ <;> simp [V.noP1,V.noP0]
theorem TS.bare1 {l : List (Int × Int)} {x : V} (h : TS l x) : x.bare1 = x := by
  rcases h with ⟨_,rfl⟩ | ⟨ex,rfl⟩ <;> rfl
theorem TS.toks {l : List (Int × Int)} {x : V} (h : TS l x) : V.toks x = [] := by
  rcases h with ⟨_,rfl⟩ | ⟨ex,rfl⟩ <;> rfl
theorem range_two : ([0, 1] = List.range 2) = True := by simp [List.range_succ_eq_map]
theorem keep_bool (ow : List (Nat × Nat)) (b : Bool) : V.keep ow (.bool b) = .bool b := rfl
theorem keep_int (ow : List (Nat × Nat)) (k : IntKind) (n : Int) : V.keep ow (.int k n) = .int k n := rfl
theorem tag_load2 {l : List (Nat × TypeId)} {b : Nat} {z : Option (List V)} {r n : Int} {rest : List V} : loadV ⟨.struct l, 2, b, z⟩ (.int .i64 r :: .int .i64 n :: rest) = some (tagV r n) := by simp [loadV, TD.agg, tagV]
theorem lth0 (n : Nat) : (0 < n + 1) = True := by simp; try omega
theorem lth1 (n : Nat) : (1 < n + 1 + 1) = True := by simp; try omega
theorem lth2 (n : Nat) : (2 < n + 1 + 1 + 1) = True := by simp; try omega
theorem icell_int (k : IntKind) (n : Int) : (V.int k n).isCell = true := rfl
theorem icell_str (s : List UInt8) : (V.str s).isCell = true := rfl
theorem icell_bool (b : Bool) : (V.bool b).isCell = true := rfl
theorem load_str {n b : Nat} {z : Option (List V)} (x : V) (r : List V) : loadV ⟨.str, n, b, z⟩ (x :: r) = some x := rfl
theorem load_bool {n b : Nat} {z : Option (List V)} (x : V) (r : List V) : loadV ⟨.bool, n, b, z⟩ (x :: r) = some x := rfl
theorem load_int {k : IntKind} {n b : Nat} {z : Option (List V)} (x : V) (r : List V) : loadV ⟨.int k, n, b, z⟩ (x :: r) = some x := rfl
theorem load_slice {e n b : Nat} {z : Option (List V)} (x : V) (r : List V) : loadV ⟨.slice e, n, b, z⟩ (x :: r) = some x := rfl
end Go.PV
/- Closed calls: the table of types that are compared. -/
namespace Go.PV
open Go.Proofs
theorem names : namesOk Try.prog = true := by kernel_rfl
noncomputable def tab : List (Nat × List TD) := [(25, [.int .i64, .int .i64]), (47, [.int .i64, .str, .str])]
theorem tabOk : TabOk Try.prog tab := by
  intro q hq
  simp only [tab,List.mem_cons,List.not_mem_nil,or_false] at hq
  rcases hq with rfl | rfl
  · exact .inl ⟨⟨_,_,_,_,ti25⟩,eqK25⟩
  · exact .inl ⟨⟨_,_,_,_,ti47⟩,eqK47⟩
end Go.PV
/- Vectors and tags: words. -/
namespace Go.PV
open Go.Proofs
set_option linter.unusedVariables false
set_option linter.unusedSimpArgs false

def vecV (v : List Int) : V := .agg (v.map (V.int .i64))
theorem vec_cells (v : List Int) : (vecV v).cells = v.map (V.int .i64) := rfl
theorem all_ints (v : List Int) : (v.map (V.int .i64)).all V.isCell = true := by simp [V.isCell]
theorem vec_toks (v : List Int) : (vecV v).toks = [] := by simp [vecV, V.toks, V.cells, V.tokC]
theorem vec_bare (v : List Int) : (vecV v).bare = vecV v := by simp [vecV, V.bare, V.bare1, V.bareC]
theorem vec_keep (v : List Int) (ow : List (Nat × Nat)) : (vecV v).keep ow = vecV v := by simp [vecV, V.keep, V.keep1, V.keepC]
theorem vec_noP (v : List Int) : (vecV v).noP = true := by simp [vecV, V.noP, V.noP1, V.noP0]
theorem vec_ok (v : List Int) (m : Nat) : okV m (vecV v) = true := by simp [vecV, okV, ok1, okC, okP]
theorem vec_load {v : List Int} (hv : v.length = 6) {n b : Nat} {z : Option (List V)} : loadV ⟨.arr n 3, 6, b, z⟩ (v.map (V.int .i64)) = some (vecV v) := by
  simp [loadV,TD.agg,hv,vecV]
  rw [List.take_of_length_le (by simp [hv])]
theorem vec_at {v : List Int} {k : Nat} {x : Int} (h : v[k]? = some x) : ((v.map (V.int .i64)).drop k).head? = some (.int .i64 x) := by
  simp [List.head?_drop,h]
theorem vec_index {v : List Int} {i x : Int} (h0 : 0 ≤ i) (h6 : i < 6) (h : v[i.toNat]? = some x) : indexV Try.prog 23 (vecV v) (.int .i64 i) = some (.int .i64 x) := by
  simp only [indexV,ti23,vecV,ti3]
  rw [if_pos (by omega)]
  simp [partV,TD.agg,h]
end Go.PV
/- Vectors: dot.Right. -/
namespace Go.PV
open Go.Proofs
set_option linter.unusedVariables false
set_option linter.unusedSimpArgs false
set_option maxRecDepth 10000

def rightB (v : List Int) : Bool := v.all fun n => decide (0 ≤ n) && decide (n ≤ 400)

theorem right_false {v : List Int} {i : Nat} {x : Int} (hx : v[i]? = some x) (h : x < 0 ∨ x > 400) : rightB v = false := by
  rw [rightB,List.all_eq_false]
  exact ⟨x,List.mem_of_getElem? hx,by simp; omega⟩
theorem right_true {v : List Int} (h : ∀ (k : Nat) y, v[k]? = some y → 0 ≤ y ∧ y ≤ 400) : rightB v = true := by
  rw [rightB,List.all_eq_true]
  intro x hx
  obtain ⟨k,hk⟩ := List.mem_iff_getElem?.1 hx
  have := h k x hk
  simp; omega
theorem right_iff {v : List Int} : rightB v = true ↔ ∀ (k : Nat) y, v[k]? = some y → 0 ≤ y ∧ y ≤ 400 := by
  refine ⟨fun h k y hy => ?_,right_true⟩
  have := List.all_eq_true.1 h y (List.mem_of_getElem? hy)
  simp at this; omega

theorem c_punnet_dot_Right (v : List Int) (hv : v.length = 6) : VC Try.prog 16 [vecV v] [] (fun r _ => r = .bool (rightB v)) := by
  refine VC_enter (nt := 16) (rs := [.tmp 2]) (ow := []) (m := 0) Try.func16 rfl (by rfl) rfl rfl (by simp) (by simp [ownOf,vec_toks]) rfl (fun n => ?_)
  simp only [zipT]
  refine WC_seq_k (fun N1 hN1 => ?_)
  refine WC_region ?_
  simp only [sS,↓sT,Nat.reduceLT,Nat.reduceEqDiff,↓WOps_box,↓WOps_assign,↓WOps_nil,loudV,opV,vec_cells,all_ints,List.nil_append,List.length_nil]
  refine hN1 _ ?_; clear hN1 N1
  refine WC_seq_k (fun N2 hN2 => ?_)
  refine WC_seq_k (fun N3 hN3 => ?_)
  refine WC_region ?_
  simp only [sS,↓sT,Nat.reduceLT,Nat.reduceEqDiff,↓WOps_load,↓WOps_move,↓WOps_nil,opV,cellsOf,ti23,List.getElem?_cons_zero,List.drop_zero,vec_load hv]
  refine hN3 _ ?_; clear hN3 N3
  refine WC_block ?_
  refine WC_loopG (σ := Nat) (fun i s => ∃ ps, s = ⟨mkS 16 ps, [v.map (V.int .i64)], [], n⟩ ∧ Has ps [(6, .int .i64 i), (5, vecV v)] ∧ i ≤ 6 ∧ ∀ k, k < i → ∀ y, v[k]? = some y → 0 ≤ y ∧ y ≤ 400) (fun t => 6 - t) 0 ?_ (fun i s hI => ?_)  -- LOOP writes [2, 4, 6, 7, 8, 9, 10, 11, 12, 13, 14, 15]
  · exact ⟨_,rfl,⟨rfl,rfl,trivial⟩,by omega,fun k hk => by omega⟩
  obtain ⟨ps,rfl,hps,hi,hall⟩ := hI
  refine WC_has hps ?_; clear hps ps
  refine WC_seq_k (fun N4 hN4 => ?_)
  refine WC_region ?_
  simp only [sS,↓sT,Nat.reduceLT,Nat.reduceEqDiff,↓WOps_binOp,↓WOps_nil,opV,bin_lss]
  refine hN4 _ ?_; clear hN4 N4
  refine WC_seq_k (fun N5 hN5 => ?_)
  refine WC_condE ?_
  simp only [sS,↓sT,Nat.reduceLT,Nat.reduceEqDiff,↓stepC_bool]
  refine ⟨fun hb => ?_,fun hb => ?_⟩
  · refine WC_skip ?_
    refine hN5 _ ?_; clear hN5 N5
    have hi6 : i < 6 := by have := of_decide_eq_true hb; omega
    obtain ⟨x,hx⟩ : ∃ x,v[i]? = some x := ⟨_,List.getElem?_eq_getElem (by omega)⟩
    have hix := vec_index (i := (i : Int)) (by omega) (by omega) (by simpa using hx)
    refine WC_seq_k (fun N6 hN6 => ?_)
    refine WC_block ?_
    refine WC_seq_k (fun N7 hN7 => ?_)
    refine WC_region ?_
    simp only [sS,↓sT,Nat.reduceLT,Nat.reduceEqDiff,↓WOps_index,↓WOps_assign,↓WOps_nil,opV,hix]
    refine hN7 _ ?_; clear hN7 N7
    refine WC_seq_k (fun N8 hN8 => ?_)
    refine WC_region ?_
    simp only [sS,↓sT,Nat.reduceLT,Nat.reduceEqDiff,↓WOps_move,↓WOps_binOp,↓WOps_g,↓WOps_pick,↓WOps_nil,opV,bin_lss,bin_gtr]
    refine stepB_F (fun hg => ?_) (fun hg => ?_)
    all_goals simp only [sS,↓sT,Nat.reduceLT,Nat.reduceEqDiff,↓sO,↓WOps_g,sG,opV,loudV,cellsOf,strOp,evL,Nat.reduceAdd,Int.reduceBEq,Int.reduceBNe,hg]
    · refine hN8 _ ?_; clear hN8 N8
      refine WC_condE ?_
      simp only [sS,↓sT,Nat.reduceLT,Nat.reduceEqDiff,↓stepC_bool]
      refine ⟨fun hc => ?_,fun hc => ?_⟩
      · refine WC_seq_k (fun N9 hN9 => ?_)
        refine WC_region ?_
        simp only [sS,↓sT,Nat.reduceLT,Nat.reduceEqDiff,↓WOps_assign,↓WOps_nil,opV]
        refine hN9 _ ?_; clear hN9 N9
        refine WC_ret ?_; (try simp only [Exit.after,Exit.out]); refine Kend_ret (by simp only [resOf,resL,resV,slots_get,sS,↓sT,Nat.reduceLT,Nat.reduceEqDiff]; rfl) (by rfl) ?_
        show V.bool false = _
        rw [right_false hx (.inr (of_decide_eq_true hc))]
      · refine WC_skip ?_
        refine hN6 _ ?_; clear hN6 N6
        refine WC_region ?_
        simp only [sS,↓sT,Nat.reduceLT,Nat.reduceEqDiff,↓WOps_binOp,↓WOps_move,↓WOps_nil,opV,bin_add,wrapI (x := (i : Int) + 1) (by omega) (by omega)]
        refine ⟨i + 1,⟨_,rfl,⟨rfl,rfl,trivial⟩,by omega,fun k hk y hy => ?_⟩,by omega⟩
        have h1 := of_decide_eq_false hg
        have h2 := of_decide_eq_false hc
        rcases Nat.lt_or_ge k i with hki | hki
        · exact hall k hki y hy
        · obtain rfl : k = i := by omega
          rw [hx] at hy
          obtain rfl := Option.some.inj hy
          omega
    · refine hN8 _ ?_; clear hN8 N8
      refine WC_condE ?_
      simp only [sS,↓sT,Nat.reduceLT,Nat.reduceEqDiff,↓stepC_bool]
      refine ⟨fun hc => ?_,fun hc => by cases hc⟩
      refine WC_seq_k (fun N9 hN9 => ?_)
      refine WC_region ?_
      simp only [sS,↓sT,Nat.reduceLT,Nat.reduceEqDiff,↓WOps_assign,↓WOps_nil,opV]
      refine hN9 _ ?_; clear hN9 N9
      refine WC_ret ?_; (try simp only [Exit.after,Exit.out]); refine Kend_ret (by simp only [resOf,resL,resV,slots_get,sS,↓sT,Nat.reduceLT,Nat.reduceEqDiff]; rfl) (by rfl) ?_
      show V.bool false = _
      rw [right_false hx (.inl (of_decide_eq_true hg))]
  · refine WC_exit ?_
    refine hN2 _ ?_
    refine WC_seq_k (fun N9 hN9 => ?_)
    refine WC_region ?_
    simp only [sS,↓sT,Nat.reduceLT,Nat.reduceEqDiff,↓WOps_assign,↓WOps_nil,opV]
    refine hN9 _ ?_; clear hN9 N9
    refine WC_ret ?_; (try simp only [Exit.after,Exit.out]); refine Kend_ret (by simp only [resOf,resL,resV,slots_get,sS,↓sT,Nat.reduceLT,Nat.reduceEqDiff]; rfl) (by rfl) ?_
    show V.bool true = _
    have := of_decide_eq_false hb
    rw [right_true (fun k y hy => hall k (by have := (List.getElem?_eq_some_iff.1 hy).1; omega) y hy)]
end Go.PV
/- Tags: tree.Tag, punnetref17.Tag. -/
namespace Go.PV
open Go.Proofs
set_option linter.unusedVariables false
set_option linter.unusedSimpArgs false
set_option maxRecDepth 10000

theorem c_punnet_tree_Tag (r t : Int) : VC Try.prog 48 [tagV r t] [] (fun q _ => q = .bool (tagB r t)) := by
  refine VC_enter (nt := 21) (rs := [.tmp 2]) (ow := []) (m := 0) Try.func48 rfl (by rfl) rfl rfl (by simp) (by simp [ownOf,tag_toks]) rfl (fun n => ?_)
  simp only [zipT]
  refine WC_seqR (fun N1 hN1 hD1 => ?_)
  simp only [sS,↓sT,Nat.reduceLT,Nat.reduceEqDiff,↓sO,↓WOps_g,sG,opV,loudV,cellsOf,strOp,evL,Nat.reduceAdd,Int.reduceBEq,Int.reduceBNe,tag_cells,tag_isC]
  refine hN1 _ ?_; clear hN1 hD1 N1
  refine WC_seqR (fun N2 hN2 hD2 => ?_)
  have J : ∀ b,b = tagB r t → N2 ⟨mkS 21 [(2, .bool b)], [[.int .i64 r, .int .i64 t]], [],n⟩ := by
    intro b hb
    refine hN2 _ ?_
    refine WC_ret ?_
    try simp only [Exit.after,Exit.out]
    refine Kend_ret (by simp only [resOf,resL,resV,slots_get,sS,↓sT,Nat.reduceLT,Nat.reduceEqDiff]; rfl) (by rfl) ?_
    show V.bool b = _
    rw [hb]
  simp only [sS,↓sT,Nat.reduceLT,Nat.reduceEqDiff,↓sO,↓WOps_g,sG,opV,loudV,cellsOf,strOp,evL,Nat.reduceAdd,Int.reduceBEq,Int.reduceBNe,fS25,ti3]
  refine stepB_T (fun hg => ?_) (fun hg => ?_)  -- guard 3
  all_goals simp only [sS,↓sT,Nat.reduceLT,Nat.reduceEqDiff,↓sO,↓WOps_g,sG,opV,loudV,cellsOf,strOp,evL,Nat.reduceAdd,Int.reduceBEq,Int.reduceBNe,fS25,ti3,hg]
  · refine stepB_T (fun hg2 => ?_) (fun hg2 => ?_)  -- guard 8
    all_goals simp only [sS,↓sT,Nat.reduceLT,Nat.reduceEqDiff,↓sO,↓WOps_g,sG,opV,loudV,cellsOf,strOp,evL,Nat.reduceAdd,Int.reduceBEq,Int.reduceBNe,fS25,ti3,hg2]
    · refine stepB_T (fun hg3 => ?_) (fun hg3 => ?_)  -- guard 13
      all_goals simp only [sS,↓sT,Nat.reduceLT,Nat.reduceEqDiff,↓sO,↓WOps_g,sG,opV,loudV,cellsOf,strOp,evL,Nat.reduceAdd,Int.reduceBEq,Int.reduceBNe,fS25,ti3,hg3]
      all_goals (refine hD2 [2] _ _ _ _ _ (J _ ?_); clear J hN2 hD2; rw [Bool.eq_iff_iff]; simp_all [tagB]; try omega)
    · refine hD2 [2] _ _ _ _ _ (J _ ?_); clear J hN2 hD2; rw [Bool.eq_iff_iff]; simp_all [tagB]; try omega
  · refine hD2 [2] _ _ _ _ _ (J _ ?_); clear J hN2 hD2; rw [Bool.eq_iff_iff]; simp_all [tagB]; try omega
theorem c_punnet_punnetref17_Tag (r t : Int) : VC Try.prog 49 [tagV r t] [] (fun q _ => q = .bool (tagB r t)) := by
  refine VC_enter (nt := 21) (rs := [.tmp 2]) (ow := []) (m := 0) Try.func49 rfl (by rfl) rfl rfl (by simp) (by simp [ownOf,tag_toks]) rfl (fun n => ?_)
  simp only [zipT]
  refine WC_seqR (fun N1 hN1 hD1 => ?_)
  simp only [sS,↓sT,Nat.reduceLT,Nat.reduceEqDiff,↓sO,↓WOps_g,sG,opV,loudV,cellsOf,strOp,evL,Nat.reduceAdd,Int.reduceBEq,Int.reduceBNe,tag_cells,tag_isC]
  refine hN1 _ ?_; clear hN1 hD1 N1
  refine WC_seqR (fun N2 hN2 hD2 => ?_)
  have J : ∀ b,b = tagB r t → N2 ⟨mkS 21 [(2, .bool b)], [[.int .i64 r, .int .i64 t]], [],n⟩ := by
    intro b hb
    refine hN2 _ ?_
    refine WC_ret ?_
    try simp only [Exit.after,Exit.out]
    refine Kend_ret (by simp only [resOf,resL,resV,slots_get,sS,↓sT,Nat.reduceLT,Nat.reduceEqDiff]; rfl) (by rfl) ?_
    show V.bool b = _
    rw [hb]
  simp only [sS,↓sT,Nat.reduceLT,Nat.reduceEqDiff,↓sO,↓WOps_g,sG,opV,loudV,cellsOf,strOp,evL,Nat.reduceAdd,Int.reduceBEq,Int.reduceBNe,fS25,ti3]
  refine stepB_T (fun hg => ?_) (fun hg => ?_)  -- guard 3
  all_goals simp only [sS,↓sT,Nat.reduceLT,Nat.reduceEqDiff,↓sO,↓WOps_g,sG,opV,loudV,cellsOf,strOp,evL,Nat.reduceAdd,Int.reduceBEq,Int.reduceBNe,fS25,ti3,hg]
  · refine stepB_T (fun hg2 => ?_) (fun hg2 => ?_)  -- guard 8
    all_goals simp only [sS,↓sT,Nat.reduceLT,Nat.reduceEqDiff,↓sO,↓WOps_g,sG,opV,loudV,cellsOf,strOp,evL,Nat.reduceAdd,Int.reduceBEq,Int.reduceBNe,fS25,ti3,hg2]
    · refine stepB_T (fun hg3 => ?_) (fun hg3 => ?_)  -- guard 13
      all_goals simp only [sS,↓sT,Nat.reduceLT,Nat.reduceEqDiff,↓sO,↓WOps_g,sG,opV,loudV,cellsOf,strOp,evL,Nat.reduceAdd,Int.reduceBEq,Int.reduceBNe,fS25,ti3,hg3]
      all_goals (refine hD2 [2] _ _ _ _ _ (J _ ?_); clear J hN2 hD2; (rw [Bool.eq_iff_iff]; simp_all [tagB]; try omega))
    · refine hD2 [2] _ _ _ _ _ (J _ ?_); clear J hN2 hD2; (rw [Bool.eq_iff_iff]; simp_all [tagB]; try omega)
  · refine hD2 [2] _ _ _ _ _ (J _ ?_); clear J hN2 hD2; (rw [Bool.eq_iff_iff]; simp_all [tagB]; try omega)
end Go.PV
/- dot.Has, punnetref25.Has. -/
namespace Go.PV
open Go.Proofs
set_option linter.unusedVariables false
set_option linter.unusedSimpArgs false
set_option maxRecDepth 10000

def hasB (v : List Int) (r n : Int) : Bool := tagB r n && decide (n ≤ v.getD (r - 1).toNat 0)
theorem vec_ia (b o : Nat) (i : Int) : indexAddrV Try.prog 23 (.ptr b o) (.int .i64 i) = if 0 ≤ i ∧ i < 6 then some (.ptr b (o + i.toNat)) else none := by
  simp [indexAddrV,ti23,ti3]
theorem vec_get {v : List Int} {k : Nat} (h : k < v.length) : ((v.map (V.int .i64)).drop k).head? = some (.int .i64 (v.getD k 0)) :=
  vec_at (by simp [List.getD,h])

theorem c_punnet_dot_Has (v : List Int) (hv : v.length = 6) (r t : Int) : VC Try.prog 18 [vecV v, tagV r t] [] (fun q _ => q = .bool (hasB v r t)) := by
  refine VC_enter (nt := 17) (rs := [.tmp 4]) (ow := []) (m := 0) Try.func18 rfl (by rfl) rfl rfl (by simp) (by simp [ownOf,vec_toks,tag_toks]) rfl (fun n => ?_)
  simp only [zipT,Nat.zero_add]
  refine WC_seqR (fun N1 hN1 hD1 => ?_)
  simp only [sS,↓sT,Nat.reduceLT,Nat.reduceEqDiff,↓sO,↓WOps_g,sG,opV,loudV,cellsOf,strOp,evL,Nat.reduceAdd,Int.reduceBEq,Int.reduceBNe,tag_cells,tag_isC,vec_cells,all_ints]
  refine hN1 _ ?_; clear hN1 hD1 N1
  refine WC_seqD mixed [] [0,0,0,0,0,0,0,0,0,0,0,0,0] (by decide +kernel) (fun N2 hN2 hD2 => ?_)
  have J : ∀ b,b = hasB v r t → N2 ⟨mkS 17 [(4, .bool b)], [v.map (V.int .i64), [.int .i64 r, .int .i64 t]], [],n⟩ := by
    intro b hb
    refine hN2 _ ?_
    refine WC_ret ?_
    try simp only [Exit.after,Exit.out]
    refine Kend_ret (by simp only [resOf,resL,resV,slots_get,sS,↓sT,Nat.reduceLT,Nat.reduceEqDiff]; rfl) (by rfl) ?_
    show V.bool b = _
    rw [hb]
  simp only [sS,↓sT,Nat.reduceLT,Nat.reduceEqDiff,↓sD,↓D_g,memOk,lets0,lets1,List.not_mem_nil,not_false_eq_true,true_and,and_true,sG,opV,loudV,cellsOf,strOp,evL,Nat.reduceAdd,Int.reduceBEq,Int.reduceBNe,ti25,fS25,ti3,tag_load]
  refine D_callP (c_punnet_tree_Tag r t) (by simp only [ev_func]) (by simp only [evL,sS,↓sT,Nat.reduceLT,Nat.reduceEqDiff]; rfl) (by simp only [List.map,tag_bare]) rfl rfl rfl ?_
  simp only [sS,↓sT,Nat.reduceLT,Nat.reduceEqDiff,↓sD,↓D_g,memOk,lets0,lets1,List.not_mem_nil,not_false_eq_true,true_and,and_true,sG,opV,loudV,cellsOf,strOp,evL,Nat.reduceAdd,Int.reduceBEq,Int.reduceBNe,ti25,fS25,ti3]
  refine stepB_T (fun hg => ?_) (fun hg => ?_)  -- guard 2
  · obtain ⟨h1,h2,h3,h4⟩ := tagB_iff.1 hg
    have hi : 0 ≤ r - 1 ∧ r - 1 < 6 := by omega
    simp only [sS,↓sT,Nat.reduceLT,Nat.reduceEqDiff,↓sD,↓D_g,memOk,lets0,lets1,List.not_mem_nil,not_false_eq_true,true_and,and_true,sG,opV,loudV,cellsOf,strOp,evL,Nat.reduceAdd,Int.reduceBEq,Int.reduceBNe,ti25,fS25,ti3,vec_ia,hg,wrapI (x := r - 1) (by omega) (by omega),hi,vec_get (v := v) (k := (r - 1).toNat) (by omega),and_self]
    refine hD2 [4] _ _ _ _ _ (J _ ?_)
    simp [hasB,hg]
  · simp only [sS,↓sT,Nat.reduceLT,Nat.reduceEqDiff,↓sD,↓D_g,memOk,lets0,lets1,List.not_mem_nil,not_false_eq_true,true_and,and_true,sG,opV,loudV,cellsOf,strOp,evL,Nat.reduceAdd,Int.reduceBEq,Int.reduceBNe,hg]
    refine hD2 [4] _ _ _ _ _ (J _ ?_)
    simp [hasB,hg]

theorem c_punnet_punnetref25_Has (v : List Int) (hv : v.length = 6) (r t : Int) : VC Try.prog 19 [vecV v, tagV r t] [] (fun q _ => q = .bool (hasB v r t)) := by
  refine VC_enter (nt := 17) (rs := [.tmp 4]) (ow := []) (m := 0) Try.func19 rfl (by rfl) rfl rfl (by simp) (by simp [ownOf,vec_toks,tag_toks]) rfl (fun n => ?_)
  simp only [zipT,Nat.zero_add]
  refine WC_seqR (fun N1 hN1 hD1 => ?_)
  simp only [sS,↓sT,Nat.reduceLT,Nat.reduceEqDiff,↓sO,↓WOps_g,sG,opV,loudV,cellsOf,strOp,evL,Nat.reduceAdd,Int.reduceBEq,Int.reduceBNe,tag_cells,tag_isC,vec_cells,all_ints]
  refine hN1 _ ?_; clear hN1 hD1 N1
  refine WC_seqD mixed [] [0,0,0,0,0,0,0,0,0,0,0,0,0] (by decide +kernel) (fun N2 hN2 hD2 => ?_)
  have J : ∀ b,b = hasB v r t → N2 ⟨mkS 17 [(4, .bool b)], [v.map (V.int .i64), [.int .i64 r, .int .i64 t]], [],n⟩ := by
    intro b hb
    refine hN2 _ ?_
    refine WC_ret ?_
    try simp only [Exit.after,Exit.out]
    refine Kend_ret (by simp only [resOf,resL,resV,slots_get,sS,↓sT,Nat.reduceLT,Nat.reduceEqDiff]; rfl) (by rfl) ?_
    show V.bool b = _
    rw [hb]
  simp only [sS,↓sT,Nat.reduceLT,Nat.reduceEqDiff,↓sD,↓D_g,memOk,lets0,lets1,List.not_mem_nil,not_false_eq_true,true_and,and_true,sG,opV,loudV,cellsOf,strOp,evL,Nat.reduceAdd,Int.reduceBEq,Int.reduceBNe,ti25,fS25,ti3,tag_load]
  refine D_callP (c_punnet_punnetref17_Tag r t) (by simp only [ev_func]) (by simp only [evL,sS,↓sT,Nat.reduceLT,Nat.reduceEqDiff]; rfl) (by simp only [List.map,tag_bare]) rfl rfl rfl ?_
  simp only [sS,↓sT,Nat.reduceLT,Nat.reduceEqDiff,↓sD,↓D_g,memOk,lets0,lets1,List.not_mem_nil,not_false_eq_true,true_and,and_true,sG,opV,loudV,cellsOf,strOp,evL,Nat.reduceAdd,Int.reduceBEq,Int.reduceBNe,ti25,fS25,ti3]
  refine stepB_T (fun hg => ?_) (fun hg => ?_)  -- guard 2
  · obtain ⟨h1,h2,h3,h4⟩ := tagB_iff.1 hg
    have hi : 0 ≤ r - 1 ∧ r - 1 < 6 := by omega
    simp only [sS,↓sT,Nat.reduceLT,Nat.reduceEqDiff,↓sD,↓D_g,memOk,lets0,lets1,List.not_mem_nil,not_false_eq_true,true_and,and_true,sG,opV,loudV,cellsOf,strOp,evL,Nat.reduceAdd,Int.reduceBEq,Int.reduceBNe,ti25,fS25,ti3,vec_ia,hg,wrapI (x := r - 1) (by omega) (by omega),hi,vec_get (v := v) (k := (r - 1).toNat) (by omega),and_self]
    refine hD2 [4] _ _ _ _ _ (J _ ?_)
    simp [hasB,hg]
  · simp only [sS,↓sT,Nat.reduceLT,Nat.reduceEqDiff,↓sD,↓D_g,memOk,lets0,lets1,List.not_mem_nil,not_false_eq_true,true_and,and_true,sG,opV,loudV,cellsOf,strOp,evL,Nat.reduceAdd,Int.reduceBEq,Int.reduceBNe,hg]
    refine hD2 [4] _ _ _ _ _ (J _ ?_)
    simp [hasB,hg]
end Go.PV
/- dot.Next, dot.With. -/
namespace Go.PV
open Go.Proofs
set_option linter.unusedVariables false
set_option linter.unusedSimpArgs false
set_option maxRecDepth 10000

end Go.PV
/- dot.With. -/
namespace Go.PV
open Go.Proofs
set_option linter.unusedVariables false
set_option linter.unusedSimpArgs false
set_option maxRecDepth 10000

theorem vec_set (v : List Int) (k : Nat) (x : Int) : wrL (v.map (V.int .i64)) k [.int .i64 x] = (v.set k x).map (V.int .i64) := by simp [wrL, List.map_set]
end Go.PV
/- dot.Join. -/
namespace Go.PV
open Go.Proofs
set_option linter.unusedVariables false
set_option linter.unusedSimpArgs false
set_option maxRecDepth 10000

def mx (a b : Int) : Int := if b > a then b else a
theorem eqK_vec : eqK Try.prog 23 = some (List.replicate 6 (.int .i64)) := eqK23
theorem cells_eq : ∀ (k : Nat) (a b : List Int), a.length = k → b.length = k → cellsEq (List.replicate k (.int .i64)) (a.map (V.int .i64)) (b.map (V.int .i64)) = some (a == b)
  | 0, [], [],_,_ => rfl
  | k + 1,x :: a,y :: b,ha,hb => by
    simp only [List.replicate_succ,List.map_cons,cellsEq,cells_eq k a b (by simpa using ha) (by simpa using hb),cellEq]
    simp
theorem vec_eq {a b : List Int} (ha : a.length = 6) (hb : b.length = 6) : binV Try.prog .eql 23 (vecV a) (vecV b) = some (.bool (a == b)) := by
  simp only [binV,eqlV,vecV,ti23,eqK_vec,cells_eq 6 a b ha hb,Option.map_some]
end Go.PV
/- punnetref25.Right, Join, Covers. -/
namespace Go.PV
open Go.Proofs
set_option linter.unusedVariables false
set_option linter.unusedSimpArgs false
set_option maxRecDepth 10000

end Go.PV
/- punnetref25.Join, Covers. -/
namespace Go.PV
open Go.Proofs
set_option linter.unusedVariables false
set_option linter.unusedSimpArgs false
set_option maxRecDepth 10000

end Go.PV
/- punnetref25.Next. -/
namespace Go.PV
open Go.Proofs
set_option linter.unusedVariables false
set_option linter.unusedSimpArgs false
set_option maxRecDepth 10000

end Go.PV
/- punnetref25.With. -/
namespace Go.PV
open Go.Proofs
set_option linter.unusedVariables false
set_option linter.unusedSimpArgs false
set_option maxRecDepth 10000

end Go.PV
/- punnetlaw25.awake. -/
namespace Go.PV
open Go.Proofs
set_option linter.unusedVariables false
set_option linter.unusedSimpArgs false
set_option maxRecDepth 10000

end Go.PV
/- punnetlaw25.DotTags: the walk. -/
namespace Go.PV
open Go.Proofs
set_option linter.unusedVariables false
set_option linter.unusedSimpArgs false
set_option maxRecDepth 10000

end Go.PV
/- dot.Sum. -/
namespace Go.PV
open Go.Proofs
set_option linter.unusedVariables false
set_option linter.unusedSimpArgs false
set_option maxRecDepth 10000

def sumS (v : List Int) : Int × Int := if rightB v = false then (0, 5) else (v.sum, 0)
theorem sum_take {v : List Int} {i : Nat} {x : Int} (hx : v[i]? = some x) : (v.take (i + 1)).sum = (v.take i).sum + x := by
  rw [List.take_add_one,hx]; simp
theorem sum_bound {v : List Int} (hr : rightB v = true) : ∀ i, 0 ≤ (v.take i).sum ∧ (v.take i).sum ≤ 400 * i
  | 0 => by simp
  | i + 1 => by
    have ih := sum_bound hr i
    cases hx : v[i]? with
    | none => rw [List.take_add_one,hx]; simp; omega
    | some x => rw [sum_take hx]; have := right_iff.1 hr i x hx; omega

theorem c_punnet_dot_Sum (v : List Int) (hv : v.length = 6) : VC Try.prog 27 [vecV v] [] (fun q _ => q = .tup [.int .i64 (sumS v).1, .int .i64 (sumS v).2]) := by
  refine VC_enter (nt := 19) (rs := [.tmp 2, .tmp 3]) (ow := []) (m := 0) Try.func27 rfl (by rfl) rfl rfl (by simp) (by simp only [ownOf,List.flatMap_cons,vec_toks]; rfl) rfl (fun n => ?_)
  simp only [zipT,Nat.zero_add]
  refine WC_seqR (fun N1 hN1 hD1 => ?_)
  simp only [sS,↓sT,Nat.reduceLT,Nat.reduceEqDiff,↓sO,↓WOps_g,sG,opV,loudV,cellsOf,strOp,evL,Nat.reduceAdd,Int.reduceBEq,Int.reduceBNe,vec_load hv,tag_load,vec_cells,all_ints,tag_cells,tag_isC,ti25,ti23,ti3,List.getElem?_cons_zero,List.getElem?_cons_succ,List.drop_zero]
  refine hN1 _ ?_; try clear hN1 hD1 N1
  refine WC_seqN (fun N2 hN2 hD2 => ?_)
  refine WC_seqR (fun N3 hN3 hD3 => ?_)
  simp only [sS,↓sT,Nat.reduceLT,Nat.reduceEqDiff,↓sO,↓WOps_g,sG,opV,loudV,cellsOf,strOp,evL,Nat.reduceAdd,Int.reduceBEq,Int.reduceBNe,vec_load hv,tag_load,vec_cells,all_ints,tag_cells,tag_isC,ti25,ti23,ti3,List.getElem?_cons_zero,List.getElem?_cons_succ,List.drop_zero]
  refine WOps_callP (c_punnet_dot_Right v hv) (by simp only [ev_func]) (by simp only [evL,sS,↓sT,Nat.reduceLT,Nat.reduceEqDiff]; rfl) (by simp only [List.map,vec_bare]) (by simp [vec_noP]) rfl rfl ?_
  simp only [sS,↓sT,Nat.reduceLT,Nat.reduceEqDiff,↓sO,↓WOps_g,sG,opV,loudV,cellsOf,strOp,evL,Nat.reduceAdd,Int.reduceBEq,Int.reduceBNe,vec_load hv,tag_load,vec_cells,all_ints,tag_cells,tag_isC,ti25,ti23,ti3,List.getElem?_cons_zero,List.getElem?_cons_succ,List.drop_zero]
  refine hN3 _ ?_; try clear hN3 hD3 N3
  refine WC_condE ?_
  simp only [sS,↓sT,Nat.reduceLT,Nat.reduceEqDiff,↓stepC_bool]
  refine ⟨fun hb => ?_,fun hb => ?_⟩
  · refine WC_seqR (fun N4 hN4 hD4 => ?_)
    simp only [sS,↓sT,Nat.reduceLT,Nat.reduceEqDiff,↓sO,↓WOps_g,sG,opV,loudV,cellsOf,strOp,evL,Nat.reduceAdd,Int.reduceBEq,Int.reduceBNe,vec_load hv,tag_load,vec_cells,all_ints,tag_cells,tag_isC,ti25,ti23,ti3,List.getElem?_cons_zero,List.getElem?_cons_succ,List.drop_zero]
    refine hN4 _ ?_; try clear hN4 hD4 N4
    refine WC_ret ?_; (try simp only [Exit.after,Exit.out]); refine Kend_ret (by simp only [resOf,resL,resV,mkS_get,slots_get,cellsOf,vec_load hv,tag_load,vec_cells,all_ints,tag_cells,tag_isC,ti25,ti23,ti3,List.getElem?_cons_zero,List.getElem?_cons_succ,List.drop_zero,sS,↓sT,Nat.reduceLT,Nat.reduceEqDiff]; rfl) (by first | rfl | (simp only [vec_load hv,tag_load,vec_cells,all_ints,tag_cells,tag_isC,ti25,ti23,ti3,List.getElem?_cons_zero,List.getElem?_cons_succ,List.drop_zero]; done) | (simp only [vec_load hv,tag_load,vec_cells,all_ints,tag_cells,tag_isC,ti25,ti23,ti3,List.getElem?_cons_zero,List.getElem?_cons_succ,List.drop_zero,okV,ok1,okC,okP,List.all_cons,List.all_nil,Bool.and_true]; done)) ?_
    have hr : rightB v = false := by simpa using hb
    simp only [sumS,hr]; rfl
  · have hr : rightB v = true := by simpa using hb
    clear hb
    refine WC_skip ?_
    refine hN2 _ ?_; try clear hN2 hD2 N2
    refine WC_seqR (fun N5 hN5 hD5 => ?_)
    simp only [sS,↓sT,Nat.reduceLT,Nat.reduceEqDiff,↓sO,↓WOps_g,sG,opV,loudV,cellsOf,strOp,evL,Nat.reduceAdd,Int.reduceBEq,Int.reduceBNe,vec_load hv,tag_load,vec_cells,all_ints,tag_cells,tag_isC,ti25,ti23,ti3,List.getElem?_cons_zero,List.getElem?_cons_succ,List.drop_zero]
    refine hN5 _ ?_; try clear hN5 hD5 N5
    refine WC_seqN (fun N6 hN6 hD6 => ?_)
    refine WC_seqR (fun N7 hN7 hD7 => ?_)
    simp only [sS,↓sT,Nat.reduceLT,Nat.reduceEqDiff,↓sO,↓WOps_g,sG,opV,loudV,cellsOf,strOp,evL,Nat.reduceAdd,Int.reduceBEq,Int.reduceBNe,vec_load hv,tag_load,vec_cells,all_ints,tag_cells,tag_isC,ti25,ti23,ti3,List.getElem?_cons_zero,List.getElem?_cons_succ,List.drop_zero]
    refine hN7 _ ?_; try clear hN7 hD7 N7
    refine WC_block ?_
    refine WC_loopG (σ := Nat) (fun i s => ∃ ps,s = ⟨mkS 19 ps, [v.map (V.int .i64)], [],n⟩ ∧ Has ps [(11, .int .i64 i),(10,vecV v),(4, .int .i64 (v.take i).sum)] ∧ i ≤ 6) (fun t => 6 - t) 0 ?_ (fun i s hI => ?_)
    · exact ⟨_,rfl,⟨rfl,rfl,rfl,trivial⟩,by omega⟩
    obtain ⟨ps,rfl,hps,hI⟩ := hI
    refine WC_has hps ?_; clear hps ps
    refine WC_seqR (fun N8 hN8 hD8 => ?_)
    simp only [sS,↓sT,Nat.reduceLT,Nat.reduceEqDiff,↓sO,↓WOps_g,sG,opV,loudV,cellsOf,strOp,evL,Nat.reduceAdd,Int.reduceBEq,Int.reduceBNe,vec_load hv,tag_load,vec_cells,all_ints,tag_cells,tag_isC,ti25,ti23,ti3,List.getElem?_cons_zero,List.getElem?_cons_succ,List.drop_zero]
    refine hN8 _ ?_; try clear hN8 hD8 N8
    refine WC_seqN (fun N9 hN9 hD9 => ?_)
    refine WC_condE ?_
    simp only [sS,↓sT,Nat.reduceLT,Nat.reduceEqDiff,↓stepC_bool]
    refine ⟨fun hb => ?_,fun hb => ?_⟩
    · have hi6 : i < 6 := by have := of_decide_eq_true hb; omega
      obtain ⟨x,hx⟩ : ∃ x,v[i]? = some x := ⟨_,List.getElem?_eq_getElem (by omega)⟩
      have hix := vec_index (i := (i : Int)) (by omega) (by omega) (by simpa using hx)
      have hs := sum_bound hr i
      have hs1 := sum_bound hr (i + 1)
      have e := sum_take hx
      have hxb := right_iff.1 hr i x hx
      refine WC_skip ?_
      refine hN9 _ ?_; try clear hN9 hD9 N9
      refine WC_seqN (fun N10 hN10 hD10 => ?_)
      refine WC_block ?_
      refine WC_seqR (fun N11 hN11 hD11 => ?_)
      simp only [sS,↓sT,Nat.reduceLT,Nat.reduceEqDiff,↓sO,↓WOps_g,sG,opV,loudV,cellsOf,strOp,evL,Nat.reduceAdd,Int.reduceBEq,Int.reduceBNe,vec_load hv,tag_load,vec_cells,all_ints,tag_cells,tag_isC,ti25,ti23,ti3,List.getElem?_cons_zero,List.getElem?_cons_succ,List.drop_zero,hix]
      refine hN11 _ ?_; try clear hN11 hD11 N11
      refine WC_regN (fun N12 hN12 => ?_)
      simp only [sS,↓sT,Nat.reduceLT,Nat.reduceEqDiff,↓sO,↓WOps_g,sG,opV,loudV,cellsOf,strOp,evL,Nat.reduceAdd,Int.reduceBEq,Int.reduceBNe,vec_load hv,tag_load,vec_cells,all_ints,tag_cells,tag_isC,ti25,ti23,ti3,List.getElem?_cons_zero,List.getElem?_cons_succ,List.drop_zero,wrapI (x := (v.take i).sum + x) (by omega) (by omega)]
      refine hN12 _ ?_; try clear hN12 N12
      refine hN10 _ ?_; try clear hN10 hD10 N10
      refine WC_regN (fun N13 hN13 => ?_)
      simp only [sS,↓sT,Nat.reduceLT,Nat.reduceEqDiff,↓sO,↓WOps_g,sG,opV,loudV,cellsOf,strOp,evL,Nat.reduceAdd,Int.reduceBEq,Int.reduceBNe,vec_load hv,tag_load,vec_cells,all_ints,tag_cells,tag_isC,ti25,ti23,ti3,List.getElem?_cons_zero,List.getElem?_cons_succ,List.drop_zero,wrapI (x := (i : Int) + 1) (by omega) (by omega)]
      refine hN13 _ ?_; try clear hN13 N13
      refine ⟨i + 1,⟨_,rfl, ?_, ?_⟩, ?_⟩
      · rw [e]; exact ⟨rfl,rfl,rfl,trivial⟩
      · omega
      · omega
    · refine WC_exit ?_
      refine hN6 _ ?_; try clear hN6 hD6 N6
      refine WC_seqR (fun N14 hN14 hD14 => ?_)
      simp only [sS,↓sT,Nat.reduceLT,Nat.reduceEqDiff,↓sO,↓WOps_g,sG,opV,loudV,cellsOf,strOp,evL,Nat.reduceAdd,Int.reduceBEq,Int.reduceBNe,vec_load hv,tag_load,vec_cells,all_ints,tag_cells,tag_isC,ti25,ti23,ti3,List.getElem?_cons_zero,List.getElem?_cons_succ,List.drop_zero]
      refine hN14 _ ?_; try clear hN14 hD14 N14
      refine WC_ret ?_; (try simp only [Exit.after,Exit.out]); refine Kend_ret (by simp only [resOf,resL,resV,mkS_get,slots_get,cellsOf,vec_load hv,tag_load,vec_cells,all_ints,tag_cells,tag_isC,ti25,ti23,ti3,List.getElem?_cons_zero,List.getElem?_cons_succ,List.drop_zero,sS,↓sT,Nat.reduceLT,Nat.reduceEqDiff]; rfl) (by first | rfl | (simp only [vec_load hv,tag_load,vec_cells,all_ints,tag_cells,tag_isC,ti25,ti23,ti3,List.getElem?_cons_zero,List.getElem?_cons_succ,List.drop_zero]; done) | (simp only [vec_load hv,tag_load,vec_cells,all_ints,tag_cells,tag_isC,ti25,ti23,ti3,List.getElem?_cons_zero,List.getElem?_cons_succ,List.drop_zero,okV,ok1,okC,okP,List.all_cons,List.all_nil,Bool.and_true]; done)) ?_
      have h6 := of_decide_eq_false hb
      have : i = 6 := by omega
      subst this
      rw [List.take_of_length_le (by omega)]
      simp only [sumS,hr]; rfl
end Go.PV
/- Slices of tags: words; what one vector lacks of another. -/
namespace Go.PV
open Go.Proofs
set_option linter.unusedVariables false
set_option linter.unusedSimpArgs false
set_option maxRecDepth 10000

end Go.PV
/- dot.Lacks. -/
namespace Go.PV
open Go.Proofs
set_option linter.unusedVariables false
set_option linter.unusedSimpArgs false
set_option maxRecDepth 10000

end Go.PV
/- dot.Lacks: the contract. -/
namespace Go.PV
open Go.Proofs
set_option linter.unusedVariables false
set_option linter.unusedSimpArgs false
set_option maxRecDepth 10000

end Go.PV
/- ref25.Lacks. -/
namespace Go.PV
open Go.Proofs
set_option linter.unusedVariables false
set_option linter.unusedSimpArgs false
set_option maxRecDepth 10000

end Go.PV
/- ref17.SameTags. -/
namespace Go.PV
open Go.Proofs
set_option linter.unusedVariables false
set_option linter.unusedSimpArgs false
set_option maxRecDepth 10000

theorem c_punnet_punnetref17_SameTags (l m : List (Int × Int)) (x y : V) (hx : TS l x) (hy : TS m y) (hL : l.length ≤ 4611686018427387904) : VC Try.prog 26 [x, y] [] (fun r _ => r = .bool (l == m)) := by
  refine VC_enter (nt := 26) (rs := [.tmp 4]) (ow := []) (m := 0) Try.func26 rfl (by rfl) rfl rfl (by simp) (by simp [ownOf,hx.toks,hy.toks]) rfl (fun n => ?_)
  simp only [zipT]
  refine WC_seqR (fun N1 hN1 hD1 => ?_)
  simp only [sS,↓sT,Nat.reduceLT,Nat.reduceEqDiff,↓sO,↓WOps_g,sG,opV,loudV,cellsOf,strOp,evL,Nat.reduceAdd,Int.reduceBEq,Int.reduceBNe]
  refine hN1 _ ?_; try clear hN1 hD1 N1
  refine WC_seqN (fun N2 hN2 hD2 => ?_)
  refine WC_seqR (fun N3 hN3 hD3 => ?_)
  simp only [sS,↓sT,Nat.reduceLT,Nat.reduceEqDiff,↓sO,↓WOps_g,sG,opV,loudV,cellsOf,strOp,evL,Nat.reduceAdd,Int.reduceBEq,Int.reduceBNe,hx.len,hy.len,ti25,ti3,ti38,tag_load,tag_neq]
  refine hN3 _ ?_; try clear hN3 hD3 N3
  refine WC_condE ?_
  simp only [sS,↓sT,Nat.reduceLT,Nat.reduceEqDiff,↓stepC_bool]
  refine ⟨fun hb => ?_,fun hb => ?_⟩
  · refine WC_seqR (fun N4 hN4 hD4 => ?_)
    simp only [sS,↓sT,Nat.reduceLT,Nat.reduceEqDiff,↓sO,↓WOps_g,sG,opV,loudV,cellsOf,strOp,evL,Nat.reduceAdd,Int.reduceBEq,Int.reduceBNe]
    refine hN4 _ ?_; try clear hN4 hD4 N4
    refine WC_ret ?_; (try simp only [Exit.after,Exit.out]); refine Kend_ret (by simp only [resOf,resL,resV,mkS_get,slots_get,cellsOf,ti25,ti3,ti38,tag_load,tag_neq,sS,↓sT,Nat.reduceLT,Nat.reduceEqDiff]; rfl) (by first | rfl | (simp only [ti25,ti3,ti38,tag_load,tag_neq]; done) | (simp only [ti25,ti3,ti38,tag_load,tag_neq,okV,ok1,okC,okP,List.all_cons,List.all_nil,Bool.and_true]; done)) ?_
    have : ¬ (l = m) := fun h => by subst h; simp at hb
    rw [beq_eq_false_iff_ne.2 this]; rfl
  · have hlm : l.length = m.length := by simp at hb; omega
    clear hb
    refine WC_skip ?_
    refine hN2 _ ?_; try clear hN2 hD2 N2
    refine WC_seqN (fun N5 hN5 hD5 => ?_)
    refine WC_seqR (fun N6 hN6 hD6 => ?_)
    simp only [sS,↓sT,Nat.reduceLT,Nat.reduceEqDiff,↓sO,↓WOps_g,sG,opV,loudV,cellsOf,strOp,evL,Nat.reduceAdd,Int.reduceBEq,Int.reduceBNe]
    refine hN6 _ ?_; try clear hN6 hD6 N6
    refine WC_block ?_
    refine WC_loopG (σ := Nat) (fun t s => ∃ ps,s = ⟨mkS 26 ps, [], [],n⟩ ∧ Has ps [(5, .int .i64 t),(0,x),(1,y)] ∧ t ≤ l.length ∧ l.take t = m.take t) (fun t => l.length - t) 0 ?_ (fun t s hI => ?_)
    · exact ⟨_,rfl,⟨rfl,rfl,rfl,trivial⟩,by omega,by simp⟩
    obtain ⟨ps,rfl,hps,hI,htk⟩ := hI
    refine WC_has hps ?_; clear hps ps
    refine WC_seqN (fun N7 hN7 hD7 => ?_)
    refine WC_seqR (fun N8 hN8 hD8 => ?_)
    simp only [sS,↓sT,Nat.reduceLT,Nat.reduceEqDiff,↓sO,↓WOps_g,sG,opV,loudV,cellsOf,strOp,evL,Nat.reduceAdd,Int.reduceBEq,Int.reduceBNe,hx.len,ti25,ti3,ti38,tag_load,tag_neq]
    refine hN8 _ ?_; try clear hN8 hD8 N8
    refine WC_condE ?_
    simp only [sS,↓sT,Nat.reduceLT,Nat.reduceEqDiff,↓stepC_bool]
    refine ⟨fun hb => ?_,fun hb => ?_⟩
    · have ht : t < l.length := by have := of_decide_eq_true hb; omega
      clear hb
      obtain ⟨p,hp⟩ : ∃ p,l[t]? = some p := ⟨_,List.getElem?_eq_getElem ht⟩
      obtain ⟨q,hq⟩ : ∃ q,m[t]? = some q := ⟨_,List.getElem?_eq_getElem (by omega)⟩
      refine WC_skip ?_
      refine hN7 _ ?_; try clear hN7 hD7 N7
      refine WC_seqN (fun N9 hN9 hD9 => ?_)
      refine WC_block ?_
      refine WC_seqD mixed [] [0,0,0,0,0,0,0,0,0] (by decide +kernel) (fun N10 hN10 hD10 => ?_)
      simp only [sS,↓sT,Nat.reduceLT,Nat.reduceEqDiff,↓sD,↓D_g,memOk,lets0,lets1,List.not_mem_nil,not_false_eq_true,true_and,and_true,sG,opV,loudV,cellsOf,strOp,evL,Nat.reduceAdd,Int.reduceBEq,Int.reduceBNe,hx.ia hp,hy.ia hq,ti25,ti3,ti38,tag_load,tag_neq]
      refine hN10 _ ?_; try clear hN10 hD10 N10
      refine WC_condE ?_
      simp only [sS,↓sT,Nat.reduceLT,Nat.reduceEqDiff,↓stepC_bool]
      refine ⟨fun hb => ?_,fun hb => ?_⟩
      · refine WC_seqR (fun N11 hN11 hD11 => ?_)
        simp only [sS,↓sT,Nat.reduceLT,Nat.reduceEqDiff,↓sO,↓WOps_g,sG,opV,loudV,cellsOf,strOp,evL,Nat.reduceAdd,Int.reduceBEq,Int.reduceBNe]
        refine hN11 _ ?_; try clear hN11 hD11 N11
        refine WC_ret ?_; (try simp only [Exit.after,Exit.out]); refine Kend_ret (by simp only [resOf,resL,resV,mkS_get,slots_get,cellsOf,ti25,ti3,ti38,tag_load,tag_neq,sS,↓sT,Nat.reduceLT,Nat.reduceEqDiff]; rfl) (by first | rfl | (simp only [ti25,ti3,ti38,tag_load,tag_neq]; done) | (simp only [ti25,ti3,ti38,tag_load,tag_neq,okV,ok1,okC,okP,List.all_cons,List.all_nil,Bool.and_true]; done)) ?_
        have : ¬ (l = m) := fun h => by
          subst h
          rw [hp] at hq
          obtain rfl := Option.some.inj hq
          simp at hb
        rw [beq_eq_false_iff_ne.2 this]; rfl
      · have hpq : p = q := by
          obtain ⟨p1,p2⟩ := p
          obtain ⟨q1,q2⟩ := q
          simpa using hb
        refine WC_skip ?_
        refine hN9 _ ?_; try clear hN9 hD9 N9
        refine WC_regN (fun N12 hN12 => ?_)
        simp only [sS,↓sT,Nat.reduceLT,Nat.reduceEqDiff,↓sO,↓WOps_g,sG,opV,loudV,cellsOf,strOp,evL,Nat.reduceAdd,Int.reduceBEq,Int.reduceBNe,wrapI (x := (t : Int) + 1) (by omega) (by omega)]
        refine hN12 _ ?_; try clear hN12 N12
        refine ⟨t + 1,⟨_,rfl,⟨rfl,rfl,rfl,trivial⟩,ht, ?_⟩,(by omega)⟩
        rw [List.take_add_one,List.take_add_one,hp,hq,htk,hpq]
    · have ht : t = l.length := by have := of_decide_eq_false hb; omega
      refine WC_exit ?_
      refine hN5 _ ?_; try clear hN5 hD5 N5
      refine WC_seqR (fun N13 hN13 hD13 => ?_)
      simp only [sS,↓sT,Nat.reduceLT,Nat.reduceEqDiff,↓sO,↓WOps_g,sG,opV,loudV,cellsOf,strOp,evL,Nat.reduceAdd,Int.reduceBEq,Int.reduceBNe]
      refine hN13 _ ?_; try clear hN13 hD13 N13
      refine WC_ret ?_; (try simp only [Exit.after,Exit.out]); refine Kend_ret (by simp only [resOf,resL,resV,mkS_get,slots_get,cellsOf,ti25,ti3,ti38,tag_load,tag_neq,sS,↓sT,Nat.reduceLT,Nat.reduceEqDiff]; rfl) (by first | rfl | (simp only [ti25,ti3,ti38,tag_load,tag_neq]; done) | (simp only [ti25,ti3,ti38,tag_load,tag_neq,okV,ok1,okC,okP,List.all_cons,List.all_nil,Bool.and_true]; done)) ?_
      have : l = m := by
        rw [ht,List.take_length,hlm,List.take_length] at htk
        exact htk
      rw [beq_iff_eq.2 this]; rfl
end Go.PV
/- Ops: words; the orders of ints and tags. -/
namespace Go.PV
open Go.Proofs
set_option linter.unusedVariables false
set_option linter.unusedSimpArgs false
set_option maxRecDepth 10000

theorem c_cmp_isNaN_int_ (x : Int) : VC Try.prog 73 [.int .i64 x] [] (fun r _ => r = .bool false) := by
  refine VC_enter (nt := 6) (rs := [.tmp 2]) (ow := []) (m := 0) Try.func73 rfl (by rfl) rfl rfl (by simp) rfl rfl (fun n => ?_)
  simp only [zipT]
  refine WC_seqR (fun N1 hN1 hD1 => ?_)
  simp only [sS,↓sT,Nat.reduceLT,Nat.reduceEqDiff,↓sO,↓WOps_g,sG,opV,loudV,cellsOf,strOp,evL,Nat.reduceAdd,Int.reduceBEq,Int.reduceBNe]
  refine hN1 _ ?_; try clear hN1 hD1 N1
  refine WC_seqR (fun N2 hN2 hD2 => ?_)
  simp only [sS,↓sT,Nat.reduceLT,Nat.reduceEqDiff,↓sO,↓WOps_g,sG,opV,loudV,cellsOf,strOp,evL,Nat.reduceAdd,Int.reduceBEq,Int.reduceBNe]
  refine hN2 _ ?_; try clear hN2 hD2 N2
  refine WC_ret ?_; (try simp only [Exit.after,Exit.out]); refine Kend_ret (by simp only [resOf,resL,resV,mkS_get,slots_get,cellsOf,ti3,ti95,ti25,sS,↓sT,Nat.reduceLT,Nat.reduceEqDiff]; rfl) (by first | rfl | (simp only [ti3,ti95,ti25]; done) | (simp only [ti3,ti95,ti25,okV,ok1,okC,okP,List.all_cons,List.all_nil,Bool.and_true]; done)) ?_
  rfl
def cmpI (x y : Int) : Int := if x < y then -1 else if y < x then 1 else 0
theorem c_cmp_Compare_int_ (x y : Int) : VC Try.prog 72 [.int .i64 x, .int .i64 y] [] (fun r _ => r = .int .i64 (cmpI x y)) := by
  refine VC_enter (nt := 20) (rs := [.tmp 4]) (ow := []) (m := 0) Try.func72 rfl (by rfl) rfl rfl (by simp) rfl rfl (fun n => ?_)
  simp only [zipT]
  refine WC_seqR (fun N1 hN1 hD1 => ?_)
  simp only [sS,↓sT,Nat.reduceLT,Nat.reduceEqDiff,↓sO,↓WOps_g,sG,opV,loudV,cellsOf,strOp,evL,Nat.reduceAdd,Int.reduceBEq,Int.reduceBNe]
  refine hN1 _ ?_; try clear hN1 hD1 N1
  refine WC_seqR (fun N2 hN2 hD2 => ?_)
  simp only [sS,↓sT,Nat.reduceLT,Nat.reduceEqDiff,↓sO,↓WOps_g,sG,opV,loudV,cellsOf,strOp,evL,Nat.reduceAdd,Int.reduceBEq,Int.reduceBNe]
  refine WOps_callP (c_cmp_isNaN_int_ x) (by simp only [ev_func]) (by simp only [evL,sS,↓sT,Nat.reduceLT,Nat.reduceEqDiff]; rfl) rfl rfl rfl rfl ?_
  simp only [sS,↓sT,Nat.reduceLT,Nat.reduceEqDiff,↓sO,↓WOps_g,sG,opV,loudV,cellsOf,strOp,evL,Nat.reduceAdd,Int.reduceBEq,Int.reduceBNe]
  refine hN2 _ ?_; try clear hN2 hD2 N2
  refine WC_seqR (fun N3 hN3 hD3 => ?_)
  simp only [sS,↓sT,Nat.reduceLT,Nat.reduceEqDiff,↓sO,↓WOps_g,sG,opV,loudV,cellsOf,strOp,evL,Nat.reduceAdd,Int.reduceBEq,Int.reduceBNe]
  refine WOps_callP (c_cmp_isNaN_int_ y) (by simp only [ev_func]) (by simp only [evL,sS,↓sT,Nat.reduceLT,Nat.reduceEqDiff]; rfl) rfl rfl rfl rfl ?_
  simp only [sS,↓sT,Nat.reduceLT,Nat.reduceEqDiff,↓sO,↓WOps_g,sG,opV,loudV,cellsOf,strOp,evL,Nat.reduceAdd,Int.reduceBEq,Int.reduceBNe]
  refine hN3 _ ?_; try clear hN3 hD3 N3
  refine WC_seqN (fun N4 hN4 hD4 => ?_)
  refine WC_seqR (fun N5 hN5 hD5 => ?_)
  simp only [sS,↓sT,Nat.reduceLT,Nat.reduceEqDiff,↓sO,↓WOps_g,sG,opV,loudV,cellsOf,strOp,evL,Nat.reduceAdd,Int.reduceBEq,Int.reduceBNe]
  refine hN5 _ ?_; try clear hN5 hD5 N5
  refine WC_condE ?_
  simp only [sS,↓sT,Nat.reduceLT,Nat.reduceEqDiff,↓stepC_bool]
  refine ⟨fun hb => (by cases hb),fun hb => ?_⟩
  refine WC_skip ?_
  refine hN4 _ ?_; try clear hN4 hD4 N4
  refine WC_seqN (fun N10 hN10 hD10 => ?_)
  refine WC_seqR (fun N11 hN11 hD11 => ?_)
  simp only [sS,↓sT,Nat.reduceLT,Nat.reduceEqDiff,↓sO,↓WOps_g,sG,opV,loudV,cellsOf,strOp,evL,Nat.reduceAdd,Int.reduceBEq,Int.reduceBNe]
  refine hN11 _ ?_; try clear hN11 hD11 N11
  refine WC_condE ?_
  simp only [sS,↓sT,Nat.reduceLT,Nat.reduceEqDiff,↓stepC_bool]
  refine ⟨fun hb => (by cases hb),fun hb => ?_⟩
  refine WC_skip ?_
  refine hN10 _ ?_; try clear hN10 hD10 N10
  refine WC_seqN (fun N13 hN13 hD13 => ?_)
  refine WC_seqR (fun N14 hN14 hD14 => ?_)
  simp only [sS,↓sT,Nat.reduceLT,Nat.reduceEqDiff,↓sO,↓WOps_g,sG,opV,loudV,cellsOf,strOp,evL,Nat.reduceAdd,Int.reduceBEq,Int.reduceBNe]
  by_cases h1 : x < y
  · simp only [sS,↓sT,Nat.reduceLT,Nat.reduceEqDiff,↓sO,↓WOps_g,sG,opV,loudV,cellsOf,strOp,evL,Nat.reduceAdd,Int.reduceBEq,Int.reduceBNe,h1,decide_true]
    refine hN14 _ ?_; try clear hN14 hD14 N14
    refine WC_condE ?_
    simp only [sS,↓sT,Nat.reduceLT,Nat.reduceEqDiff,↓stepC_bool]
    refine ⟨fun hb => ?_,fun hb => (by cases hb)⟩
    refine WC_seqR (fun N15 hN15 hD15 => ?_)
    simp only [sS,↓sT,Nat.reduceLT,Nat.reduceEqDiff,↓sO,↓WOps_g,sG,opV,loudV,cellsOf,strOp,evL,Nat.reduceAdd,Int.reduceBEq,Int.reduceBNe]
    refine hN15 _ ?_; try clear hN15 hD15 N15
    refine WC_ret ?_; (try simp only [Exit.after,Exit.out]); refine Kend_ret (by simp only [resOf,resL,resV,mkS_get,slots_get,cellsOf,ti3,ti95,ti25,sS,↓sT,Nat.reduceLT,Nat.reduceEqDiff]; rfl) (by first | rfl | (simp only [ti3,ti95,ti25]; done) | (simp only [ti3,ti95,ti25,okV,ok1,okC,okP,List.all_cons,List.all_nil,Bool.and_true]; done)) ?_
    simp only [cmpI,if_pos h1]; rfl
  · simp only [sS,↓sT,Nat.reduceLT,Nat.reduceEqDiff,↓sO,↓WOps_g,sG,opV,loudV,cellsOf,strOp,evL,Nat.reduceAdd,Int.reduceBEq,Int.reduceBNe,h1,decide_false]
    refine hN14 _ ?_; try clear hN14 hD14 N14
    refine WC_condE ?_
    simp only [sS,↓sT,Nat.reduceLT,Nat.reduceEqDiff,↓stepC_bool]
    refine ⟨fun hb => (by cases hb),fun hb => ?_⟩
    refine WC_skip ?_
    refine hN13 _ ?_; try clear hN13 hD13 N13
    refine WC_seqN (fun N16 hN16 hD16 => ?_)
    refine WC_seqR (fun N17 hN17 hD17 => ?_)
    simp only [sS,↓sT,Nat.reduceLT,Nat.reduceEqDiff,↓sO,↓WOps_g,sG,opV,loudV,cellsOf,strOp,evL,Nat.reduceAdd,Int.reduceBEq,Int.reduceBNe]
    by_cases h2 : y < x
    · simp only [sS,↓sT,Nat.reduceLT,Nat.reduceEqDiff,↓sO,↓WOps_g,sG,opV,loudV,cellsOf,strOp,evL,Nat.reduceAdd,Int.reduceBEq,Int.reduceBNe,gt_iff_lt,h2,decide_true]
      refine hN17 _ ?_; try clear hN17 hD17 N17
      refine WC_condE ?_
      simp only [sS,↓sT,Nat.reduceLT,Nat.reduceEqDiff,↓stepC_bool]
      refine ⟨fun hb => ?_,fun hb => (by cases hb)⟩
      refine WC_seqR (fun N18 hN18 hD18 => ?_)
      simp only [sS,↓sT,Nat.reduceLT,Nat.reduceEqDiff,↓sO,↓WOps_g,sG,opV,loudV,cellsOf,strOp,evL,Nat.reduceAdd,Int.reduceBEq,Int.reduceBNe]
      refine hN18 _ ?_; try clear hN18 hD18 N18
      refine WC_ret ?_; (try simp only [Exit.after,Exit.out]); refine Kend_ret (by simp only [resOf,resL,resV,mkS_get,slots_get,cellsOf,ti3,ti95,ti25,sS,↓sT,Nat.reduceLT,Nat.reduceEqDiff]; rfl) (by first | rfl | (simp only [ti3,ti95,ti25]; done) | (simp only [ti3,ti95,ti25,okV,ok1,okC,okP,List.all_cons,List.all_nil,Bool.and_true]; done)) ?_
      simp only [cmpI,if_neg h1,if_pos h2]; rfl
    · simp only [sS,↓sT,Nat.reduceLT,Nat.reduceEqDiff,↓sO,↓WOps_g,sG,opV,loudV,cellsOf,strOp,evL,Nat.reduceAdd,Int.reduceBEq,Int.reduceBNe,gt_iff_lt,h2,decide_false]
      refine hN17 _ ?_; try clear hN17 hD17 N17
      refine WC_condE ?_
      simp only [sS,↓sT,Nat.reduceLT,Nat.reduceEqDiff,↓stepC_bool]
      refine ⟨fun hb => (by cases hb),fun hb => ?_⟩
      refine WC_skip ?_
      refine hN16 _ ?_; try clear hN16 hD16 N16
      refine WC_seqR (fun N19 hN19 hD19 => ?_)
      simp only [sS,↓sT,Nat.reduceLT,Nat.reduceEqDiff,↓sO,↓WOps_g,sG,opV,loudV,cellsOf,strOp,evL,Nat.reduceAdd,Int.reduceBEq,Int.reduceBNe]
      refine hN19 _ ?_; try clear hN19 hD19 N19
      refine WC_ret ?_; (try simp only [Exit.after,Exit.out]); refine Kend_ret (by simp only [resOf,resL,resV,mkS_get,slots_get,cellsOf,ti3,ti95,ti25,sS,↓sT,Nat.reduceLT,Nat.reduceEqDiff]; rfl) (by first | rfl | (simp only [ti3,ti95,ti25]; done) | (simp only [ti3,ti95,ti25,okV,ok1,okC,okP,List.all_cons,List.all_nil,Bool.and_true]; done)) ?_
      simp only [cmpI,if_neg h1,if_neg h2]; rfl
def orI : List Int → Int
  | [] => 0
  | x :: l => if x = 0 then orI l else x
theorem orI_zero : ∀ {l : List Int} {i : Nat}, (∀ k, k < i → l.getD k 0 = 0) → orI l = orI (l.drop i)
  | l,0,_ => by simp
  | [],i + 1,_ => by simp
  | x :: l,i + 1,h => by
    have h0 := h 0 (by omega)
    simp only [List.getD_cons_zero] at h0
    rw [orI,if_pos h0,List.drop_succ_cons]
    exact orI_zero fun k hk => by have := h (k + 1) (by omega); simpa using this
theorem ints_ia (l : List Int) (ex : Bool) {i : Nat} {x : Int} (h : l[i]? = some x) : indexAddrV Try.prog 95 (.slice 1 (l.map (V.int .i64)) ex none) (.int .i64 i) = some (.rptr [.int .i64 x]) := by
  simp [indexAddrV,ti95,ti3,h,V.cells]
theorem c_cmp_Or_int_ (l : List Int) (ex : Bool) (hl : l.length ≤ 1000000) : VC Try.prog 71 [.slice 1 (l.map (V.int .i64)) ex none] [] (fun r _ => r = .int .i64 (orI l)) := by
  refine VC_enter (nt := 18) (rs := [.tmp 2]) (ow := []) (m := 0) Try.func71 rfl (by rfl) rfl rfl (by simp) rfl rfl (fun n => ?_)
  simp only [zipT]
  refine WC_seqR (fun N1 hN1 hD1 => ?_)
  simp only [sS,↓sT,Nat.reduceLT,Nat.reduceEqDiff,↓sO,↓WOps_g,sG,opV,loudV,cellsOf,strOp,evL,Nat.reduceAdd,Int.reduceBEq,Int.reduceBNe]
  refine hN1 _ ?_; try clear hN1 hD1 N1
  refine WC_seqR (fun N2 hN2 hD2 => ?_)
  simp only [sS,↓sT,Nat.reduceLT,Nat.reduceEqDiff,↓sO,↓WOps_g,sG,opV,loudV,cellsOf,strOp,evL,Nat.reduceAdd,Int.reduceBEq,Int.reduceBNe]
  refine hN2 _ ?_; try clear hN2 hD2 N2
  refine WC_seqN (fun N3 hN3 hD3 => ?_)
  refine WC_seqR (fun N4 hN4 hD4 => ?_)
  simp only [sS,↓sT,Nat.reduceLT,Nat.reduceEqDiff,↓sO,↓WOps_g,sG,opV,loudV,cellsOf,strOp,evL,Nat.reduceAdd,Int.reduceBEq,Int.reduceBNe,lenV,ti3,ti95,ti25]
  refine hN4 _ ?_; try clear hN4 hD4 N4
  refine WC_block ?_
  refine WC_loopG (σ := Nat) (fun t s => ∃ ps,s = ⟨mkS 18 ps, [], [],n⟩ ∧ Has ps [(8, .int .i64 t),(7, .int .i64 l.length),(6, .slice 1 (l.map (V.int .i64)) ex none),(3, .int .i64 0)] ∧ t ≤ l.length ∧ ∀ k,k < t → l.getD k 0 = 0) (fun t => l.length - t) 0 ?_ (fun t s hI => ?_)
  · exact ⟨_,rfl,⟨rfl,rfl,rfl,rfl,trivial⟩,by omega,fun k hk => by omega⟩
  obtain ⟨ps,rfl,hps,hle,hz⟩ := hI
  refine WC_has hps ?_; clear hps ps
  refine WC_seqR (fun N5 hN5 hD5 => ?_)
  simp only [sS,↓sT,Nat.reduceLT,Nat.reduceEqDiff,↓sO,↓WOps_g,sG,opV,loudV,cellsOf,strOp,evL,Nat.reduceAdd,Int.reduceBEq,Int.reduceBNe]
  refine hN5 _ ?_; try clear hN5 hD5 N5
  refine WC_seqN (fun N6 hN6 hD6 => ?_)
  refine WC_condE ?_
  simp only [sS,↓sT,Nat.reduceLT,Nat.reduceEqDiff,↓stepC_bool]
  refine ⟨fun hb => ?_,fun hb => ?_⟩
  · have ht : t < l.length := by have := of_decide_eq_true hb; omega
    obtain ⟨x,hx⟩ : ∃ x,l[t]? = some x := ⟨_,List.getElem?_eq_getElem ht⟩
    refine WC_skip ?_
    refine hN6 _ ?_; try clear hN6 hD6 N6
    refine WC_seqN (fun N7 hN7 hD7 => ?_)
    refine WC_block ?_
    refine WC_seqR (fun N8 hN8 hD8 => ?_)
    simp only [sS,↓sT,Nat.reduceLT,Nat.reduceEqDiff,↓sO,↓WOps_g,sG,opV,loudV,cellsOf,strOp,evL,Nat.reduceAdd,Int.reduceBEq,Int.reduceBNe,ints_ia l ex hx,ti3,ti95,ti25,loadV,TD.agg]
    refine hN8 _ ?_; try clear hN8 hD8 N8
    refine WC_seqR (fun N9 hN9 hD9 => ?_)
    simp only [sS,↓sT,Nat.reduceLT,Nat.reduceEqDiff,↓sO,↓WOps_g,sG,opV,loudV,cellsOf,strOp,evL,Nat.reduceAdd,Int.reduceBEq,Int.reduceBNe]
    refine hN9 _ ?_; try clear hN9 hD9 N9
    refine WC_condE ?_
    simp only [sS,↓sT,Nat.reduceLT,Nat.reduceEqDiff,↓stepC_bool]
    refine ⟨fun hb => ?_,fun hb => ?_⟩
    · refine WC_seqR (fun N10 hN10 hD10 => ?_)
      simp only [sS,↓sT,Nat.reduceLT,Nat.reduceEqDiff,↓sO,↓WOps_g,sG,opV,loudV,cellsOf,strOp,evL,Nat.reduceAdd,Int.reduceBEq,Int.reduceBNe]
      refine hN10 _ ?_; try clear hN10 hD10 N10
      refine WC_ret ?_; (try simp only [Exit.after,Exit.out]); refine Kend_ret (by simp only [resOf,resL,resV,mkS_get,slots_get,cellsOf,ti3,ti95,ti25,sS,↓sT,Nat.reduceLT,Nat.reduceEqDiff]; rfl) (by first | rfl | (simp only [ti3,ti95,ti25]; done) | (simp only [ti3,ti95,ti25,okV,ok1,okC,okP,List.all_cons,List.all_nil,Bool.and_true]; done)) ?_
      have hx0 : x ≠ 0 := by simpa using hb
      obtain ⟨h1,h2⟩ := List.getElem?_eq_some_iff.1 hx
      rw [orI_zero hz,List.drop_eq_getElem_cons h1,h2,orI,if_neg hx0]; rfl
    · have hx0 : x = 0 := by simpa using hb
      refine WC_skip ?_
      refine hN7 _ ?_; try clear hN7 hD7 N7
      refine WC_regN (fun N11 hN11 => ?_)
      simp only [sS,↓sT,Nat.reduceLT,Nat.reduceEqDiff,↓sO,↓WOps_g,sG,opV,loudV,cellsOf,strOp,evL,Nat.reduceAdd,Int.reduceBEq,Int.reduceBNe,wrapI (x := (t : Int) + 1) (by omega) (by omega)]
      refine hN11 _ ?_; try clear hN11 N11
      refine ⟨t + 1,⟨_,rfl,⟨rfl,rfl,rfl,rfl,trivial⟩,ht,fun k hk => ?_⟩,by omega⟩
      rcases Nat.lt_or_ge k t with h | h
      · exact hz k h
      · obtain rfl : k = t := by omega
        simp [List.getD,hx,hx0]
  · have ht : t = l.length := by have := of_decide_eq_false hb; omega
    refine WC_exit ?_
    refine hN3 _ ?_; try clear hN3 hD3 N3
    refine WC_seqR (fun N12 hN12 hD12 => ?_)
    simp only [sS,↓sT,Nat.reduceLT,Nat.reduceEqDiff,↓sO,↓WOps_g,sG,opV,loudV,cellsOf,strOp,evL,Nat.reduceAdd,Int.reduceBEq,Int.reduceBNe]
    refine hN12 _ ?_; try clear hN12 hD12 N12
    refine WC_ret ?_; (try simp only [Exit.after,Exit.out]); refine Kend_ret (by simp only [resOf,resL,resV,mkS_get,slots_get,cellsOf,ti3,ti95,ti25,sS,↓sT,Nat.reduceLT,Nat.reduceEqDiff]; rfl) (by first | rfl | (simp only [ti3,ti95,ti25]; done) | (simp only [ti3,ti95,ti25,okV,ok1,okC,okP,List.all_cons,List.all_nil,Bool.and_true]; done)) ?_
    rw [orI_zero hz,ht,List.drop_length]; rfl

/-- one tag ahead of the other -/
def lessB (r n r' n' : Int) : Bool := decide (r < r') || (decide (r = r') && decide (n < n'))
theorem or_less (r n r' n' : Int) : decide (orI [cmpI r r', cmpI n n'] < 0) = lessB r n r' n' := by
  simp only [orI,cmpI,lessB]
  repeat' split
  all_goals simp_all
  all_goals omega
theorem c_punnet_tree_order (r t r' t' : Int) : VC Try.prog 70 [tagV r t, tagV r' t'] [] (fun q _ => q = .int .i64 (orI [cmpI r r', cmpI t t'])) := by
  refine VC_enter (nt := 17) (rs := [.tmp 4]) (ow := []) (m := 0) Try.func70 rfl (by rfl) rfl rfl (by simp) (by simp [ownOf,tag_toks]) rfl (fun n => ?_)
  simp only [zipT]
  refine WC_seqR (fun N1 hN1 hD1 => ?_)
  simp only [sS,↓sT,Nat.reduceLT,Nat.reduceEqDiff,↓sO,↓WOps_g,sG,opV,loudV,cellsOf,strOp,evL,Nat.reduceAdd,Int.reduceBEq,Int.reduceBNe,ti3,ti95,ti25,tag_cells,tag_isC,tag_full]
  refine hN1 _ ?_; try clear hN1 hD1 N1
  refine WC_seqD mixed [] [0,0,0,0,1,0,0,0,0,0,0,0,0] (by decide +kernel) (fun N2 hN2 hD2 => ?_)
  simp only [sS,↓sT,Nat.reduceLT,Nat.reduceEqDiff,↓sD,↓D_g,memOk,lets0,lets1,List.not_mem_nil,not_false_eq_true,true_and,and_true,sG,opV,loudV,cellsOf,strOp,evL,Nat.reduceAdd,Int.reduceBEq,Int.reduceBNe,fS25,ti3,ti95,ti25,loadV,TD.agg]
  refine D_callP (c_cmp_Compare_int_ _ _) (by simp only [ev_func]) (by simp only [evL,sS,↓sT,Nat.reduceLT,Nat.reduceEqDiff]; rfl) rfl rfl rfl rfl ?_
  simp only [sS,↓sT,Nat.reduceLT,Nat.reduceEqDiff,↓sD,↓D_g,memOk,lets0,lets1,List.not_mem_nil,not_false_eq_true,true_and,and_true,sG,opV,loudV,cellsOf,strOp,evL,Nat.reduceAdd,Int.reduceBEq,Int.reduceBNe,fS25,ti3,ti95,ti25,loadV,TD.agg]
  refine D_callP (c_cmp_Compare_int_ _ _) (by simp only [ev_func]) (by simp only [evL,sS,↓sT,Nat.reduceLT,Nat.reduceEqDiff]; rfl) rfl rfl rfl rfl ?_
  simp only [sS,↓sT,Nat.reduceLT,Nat.reduceEqDiff,↓sD,↓D_g,memOk,lets0,lets1,List.not_mem_nil,not_false_eq_true,true_and,and_true,sG,opV,loudV,cellsOf,strOp,evL,Nat.reduceAdd,Int.reduceBEq,Int.reduceBNe,fS25,ti3,ti95,ti25,loadV,TD.agg,buildSliceV,range_two]
  refine D_callP (c_cmp_Or_int_ [cmpI r r',cmpI t t'] true (by simp)) (by simp only [ev_func]) (by simp only [evL,sS,↓sT,Nat.reduceLT,Nat.reduceEqDiff]; rfl) rfl rfl rfl rfl ?_
  simp only [sS,↓sT,Nat.reduceLT,Nat.reduceEqDiff,↓sD,↓D_g,memOk,lets0,lets1,List.not_mem_nil,not_false_eq_true,true_and,and_true,sG,opV,loudV,cellsOf,strOp,evL,Nat.reduceAdd,Int.reduceBEq,Int.reduceBNe]
  refine hN2 _ ?_; try clear hN2 hD2 N2
  refine WC_ret ?_; (try simp only [Exit.after,Exit.out]); refine Kend_ret (by simp only [resOf,resL,resV,mkS_get,slots_get,cellsOf,ti3,ti95,ti25,sS,↓sT,Nat.reduceLT,Nat.reduceEqDiff]; rfl) (by first | rfl | (simp only [ti3,ti95,ti25]; done) | (simp only [ti3,ti95,ti25,okV,ok1,okC,okP,List.all_cons,List.all_nil,Bool.and_true]; done)) ?_
  rfl
theorem c_punnet_tree_Less (r t r' t' : Int) : VC Try.prog 64 [tagV r t, tagV r' t'] [] (fun q _ => q = .bool (lessB r t r' t')) := by
  refine VC_enter (nt := 9) (rs := [.tmp 4]) (ow := []) (m := 0) Try.func64 rfl (by rfl) rfl rfl (by simp) (by simp [ownOf,tag_toks]) rfl (fun n => ?_)
  simp only [zipT]
  refine WC_seqR (fun N1 hN1 hD1 => ?_)
  simp only [sS,↓sT,Nat.reduceLT,Nat.reduceEqDiff,↓sO,↓WOps_g,sG,opV,loudV,cellsOf,strOp,evL,Nat.reduceAdd,Int.reduceBEq,Int.reduceBNe,ti3,ti95,ti25,tag_cells,tag_isC,tag_full]
  refine hN1 _ ?_; try clear hN1 hD1 N1
  refine WC_seqR (fun N2 hN2 hD2 => ?_)
  simp only [sS,↓sT,Nat.reduceLT,Nat.reduceEqDiff,↓sO,↓WOps_g,sG,opV,loudV,cellsOf,strOp,evL,Nat.reduceAdd,Int.reduceBEq,Int.reduceBNe,ti3,ti95,ti25,tag_load]
  refine WOps_callP (c_punnet_tree_order r t r' t') (by simp only [ev_func]) (by simp only [evL,sS,↓sT,Nat.reduceLT,Nat.reduceEqDiff]; rfl) (by simp only [List.map,tag_bare]) (by simp [tag_noP]) rfl rfl ?_
  simp only [sS,↓sT,Nat.reduceLT,Nat.reduceEqDiff,↓sO,↓WOps_g,sG,opV,loudV,cellsOf,strOp,evL,Nat.reduceAdd,Int.reduceBEq,Int.reduceBNe,or_less]
  refine hN2 _ ?_; try clear hN2 hD2 N2
  refine WC_ret ?_; (try simp only [Exit.after,Exit.out]); refine Kend_ret (by simp only [resOf,resL,resV,mkS_get,slots_get,cellsOf,ti3,ti95,ti25,sS,↓sT,Nat.reduceLT,Nat.reduceEqDiff]; rfl) (by first | rfl | (simp only [ti3,ti95,ti25]; done) | (simp only [ti3,ti95,ti25,okV,ok1,okC,okP,List.all_cons,List.all_nil,Bool.and_true]; done)) ?_
  rfl
theorem c_punnet_punnetref17_Less (r t r' t' : Int) : VC Try.prog 55 [tagV r t, tagV r' t'] [] (fun q _ => q = .bool (lessB r t r' t')) := by
  refine VC_enter (nt := 24) (rs := [.tmp 4]) (ow := []) (m := 0) Try.func55 rfl (by rfl) rfl rfl (by simp) (by simp [ownOf,tag_toks]) rfl (fun n => ?_)
  simp only [zipT]
  refine WC_seqR (fun N1 hN1 hD1 => ?_)
  simp only [sS,↓sT,Nat.reduceLT,Nat.reduceEqDiff,↓sO,↓WOps_g,sG,opV,loudV,cellsOf,strOp,evL,Nat.reduceAdd,Int.reduceBEq,Int.reduceBNe,ti3,ti95,ti25,tag_cells,tag_isC,tag_full]
  refine hN1 _ ?_; try clear hN1 hD1 N1
  refine WC_seqR (fun N2 hN2 hD2 => ?_)
  simp only [sS,↓sT,Nat.reduceLT,Nat.reduceEqDiff,↓sO,↓WOps_g,sG,opV,loudV,cellsOf,strOp,evL,Nat.reduceAdd,Int.reduceBEq,Int.reduceBNe,fS25,ti3,ti95,ti25,loadV,TD.agg]
  refine stepB_F (fun hg5 => ?_) (fun hg5 => ?_)
  all_goals simp only [sS,↓sT,Nat.reduceLT,Nat.reduceEqDiff,↓sO,↓WOps_g,sG,opV,loudV,cellsOf,strOp,evL,Nat.reduceAdd,Int.reduceBEq,Int.reduceBNe,fS25,ti3,ti95,ti25,loadV,TD.agg,hg5,decide_true,decide_false]
  · refine stepB_T (fun hg11 => ?_) (fun hg11 => ?_)
    all_goals simp only [sS,↓sT,Nat.reduceLT,Nat.reduceEqDiff,↓sO,↓WOps_g,sG,opV,loudV,cellsOf,strOp,evL,Nat.reduceAdd,Int.reduceBEq,Int.reduceBNe,fS25,ti3,ti95,ti25,loadV,TD.agg,hg5,hg11,decide_true,decide_false]
    all_goals refine hN2 _ ?_; try clear hN2 hD2 N2
    · refine WC_ret ?_; (try simp only [Exit.after,Exit.out]); refine Kend_ret (by simp only [resOf,resL,resV,mkS_get,slots_get,cellsOf,ti3,ti95,ti25,sS,↓sT,Nat.reduceLT,Nat.reduceEqDiff]; rfl) (by first | rfl | (simp only [ti3,ti95,ti25]; done) | (simp only [ti3,ti95,ti25,okV,ok1,okC,okP,List.all_cons,List.all_nil,Bool.and_true]; done)) ?_
      simp_all [lessB,keep_bool]
    · refine WC_ret ?_; (try simp only [Exit.after,Exit.out]); refine Kend_ret (by simp only [resOf,resL,resV,mkS_get,slots_get,cellsOf,ti3,ti95,ti25,sS,↓sT,Nat.reduceLT,Nat.reduceEqDiff]; rfl) (by first | rfl | (simp only [ti3,ti95,ti25]; done) | (simp only [ti3,ti95,ti25,okV,ok1,okC,okP,List.all_cons,List.all_nil,Bool.and_true]; done)) ?_
      simp_all [lessB,keep_bool]
  · refine hN2 _ ?_; try clear hN2 hD2 N2
    refine WC_ret ?_; (try simp only [Exit.after,Exit.out]); refine Kend_ret (by simp only [resOf,resL,resV,mkS_get,slots_get,cellsOf,ti3,ti95,ti25,sS,↓sT,Nat.reduceLT,Nat.reduceEqDiff]; rfl) (by first | rfl | (simp only [ti3,ti95,ti25]; done) | (simp only [ti3,ti95,ti25,okV,ok1,okC,okP,List.all_cons,List.all_nil,Bool.and_true]; done)) ?_
    simp_all [lessB,keep_bool]
end Go.PV
/- Ops: words; which one is heavy. -/
namespace Go.PV
open Go.Proofs
set_option linter.unusedVariables false
set_option linter.unusedSimpArgs false
set_option maxRecDepth 10000

/-- drops: the tags, and the slice that has them -/
structure Dr where
  l : List (Int × Int)
  v : V
  ok : TS l v
def Dr.nil : Dr := ⟨[], .nils, .inl ⟨rfl, rfl⟩⟩
structure OpS where
  idR : Int
  idN : Int
  scR : Int
  scN : Int
  time : Int
  cart : List UInt8
  kind : Int
  item : List UInt8
  atS : Int
  atG : List UInt8
  atN : List UInt8
  delta : Int
  has : Bool
  text : List UInt8
  drops : Dr
def dropsW (d : Dr) : V := d.v
def OpS.dropsL (o : OpS) : List (Int × Int) := o.drops.l
def opCells (o : OpS) : List V := [.int .i64 o.idR, .int .i64 o.idN, .int .i64 o.scR, .int .i64 o.scN, .int .i64 o.time, .str o.cart, .int .i64 o.kind, .str o.item, .int .i64 o.atS, .str o.atG, .str o.atN, .int .i64 o.delta, .bool o.has, .str o.text, dropsW o.drops]
def opW (o : OpS) : V := .agg (opCells o)
theorem op_cells (o : OpS) : (opW o).cells = opCells o := rfl
theorem dropsW_TS (d : Dr) : TS d.l (dropsW d) := d.ok
theorem dropsW_isC (d : Dr) : (dropsW d).isCell = true := by
  obtain ⟨l,v,h⟩ := d
  rcases h with ⟨_,rfl⟩ | ⟨ex,rfl⟩ <;> rfl
theorem dropsW_bareC (d : Dr) : (dropsW d).bareC = dropsW d := by
  obtain ⟨l,v,h⟩ := d
  rcases h with ⟨_,rfl⟩ | ⟨ex,rfl⟩ <;> rfl
theorem dropsW_noP0 (d : Dr) : (dropsW d).noP0 = true := by
  obtain ⟨l,v,h⟩ := d
  rcases h with ⟨_,rfl⟩ | ⟨ex,rfl⟩ <;> rfl
theorem dropsW_tokC (d : Dr) : (dropsW d).tokC = [] := by
  obtain ⟨l,v,h⟩ := d
  rcases h with ⟨_,rfl⟩ | ⟨ex,rfl⟩ <;> rfl
theorem op_isC (o : OpS) : (opCells o).all V.isCell = true := by
  simp only [opCells,List.all_cons,List.all_nil,dropsW_isC]; rfl
theorem op_len (o : OpS) : (opCells o).length = 15 := rfl
theorem op_bare (o : OpS) : (opW o).bare = opW o := by
  simp only [opW,opCells,V.bare,V.bare1,List.map_cons,List.map_nil,dropsW_bareC]; rfl
theorem op_noP (o : OpS) : (opW o).noP = true := by
  simp only [opW,opCells,V.noP,V.noP1,List.all_cons,List.all_nil,dropsW_noP0]; rfl
theorem op_toks (o : OpS) : (opW o).toks = [] := by
  simp only [opW,opCells,V.toks,V.cells,List.flatMap_cons,List.flatMap_nil,dropsW_tokC]; rfl
theorem op_full (o : OpS) {z : List V} (h : z.length = 15) : wrL z 0 (opCells o) = opCells o := wrL_full (by rw [h]; rfl)
structure OpOk (o : OpS) : Prop where
  cart : o.cart.length ≤ 9223372036854775807
  item : o.item.length ≤ 9223372036854775807
  atG : o.atG.length ≤ 9223372036854775807
  atN : o.atN.length ≤ 9223372036854775807
  text : o.text.length ≤ 9223372036854775807
  drops : o.dropsL.length ≤ 9223372036854775807
def heavyB (o : OpS) : Bool := decide (200 < (o.cart.length : Int)) || decide (200 < (o.item.length : Int)) || decide (200 < (o.atG.length : Int)) || decide (200 < (o.atN.length : Int)) || decide (200 < (o.text.length : Int)) || decide (200 < (o.dropsL.length : Int))
theorem op_load {l : List (Nat × TypeId)} {b : Nat} {z : Option (List V)} (o : OpS) : loadV ⟨.struct l, 15, b, z⟩ (opCells o) = some (opW o) := rfl

theorem len_str (s : List UInt8) : lenV Try.prog 9 (.str s) = some (.int .i64 s.length) := by simp [lenV, ti9]
theorem c_punnet_punnetref20_Heavy (o : OpS) : VC Try.prog 47 [opW o] [] (fun r _ => r = .bool (heavyB o)) := by
  refine VC_enter (nt := 39) (rs := [.tmp 2]) (ow := []) (m := 0) Try.func47 rfl (by rfl) rfl rfl (by simp) (by simp [ownOf,op_toks]) rfl (fun n => ?_)
  simp only [zipT]
  have hd := (dropsW_TS o.drops).len
  refine WC_seqR (fun N1 hN1 hD1 => ?_)
  simp only [sS,↓sT,Nat.reduceLT,Nat.reduceEqDiff,↓sO,↓WOps_g,sG,opV,loudV,cellsOf,strOp,evL,Nat.reduceAdd,Int.reduceBEq,Int.reduceBNe,ti3,ti2,ti4,ti9,ti38,ti25,ti47,ti49,op_cells,op_isC,op_full,op_load]
  refine hN1 _ ?_; try clear hN1 hD1 N1
  refine WC_seqR (fun N2 hN2 hD2 => ?_)
  by_cases h1 : (o.cart.length : Int) > 200
  · simp only [sS,↓sT,Nat.reduceLT,Nat.reduceEqDiff,↓sO,↓WOps_g,sG,opV,loudV,cellsOf,strOp,evL,Nat.reduceAdd,Int.reduceBEq,Int.reduceBNe,ti3,ti2,ti4,ti9,ti38,ti25,ti47,ti49,op_cells,op_isC,op_full,op_load,fS49,len_str,loadV,TD.agg,opCells,fS47,hd,h1,decide_true,decide_false]
    refine hN2 _ ?_; try clear hN2 hD2 N2
    refine WC_ret ?_; (try simp only [Exit.after,Exit.out]); refine Kend_ret (by simp only [resOf,resL,resV,mkS_get,slots_get,cellsOf,ti3,ti2,ti4,ti9,ti38,ti25,ti47,ti49,op_cells,op_isC,op_full,op_load,sS,↓sT,Nat.reduceLT,Nat.reduceEqDiff]; rfl) (by first | rfl | (simp only [ti3,ti2,ti4,ti9,ti38,ti25,ti47,ti49,op_cells,op_isC,op_full,op_load]; done) | (simp only [ti3,ti2,ti4,ti9,ti38,ti25,ti47,ti49,op_cells,op_isC,op_full,op_load,okV,ok1,okC,okP,List.all_cons,List.all_nil,Bool.and_true]; done)) ?_
    rw [keep_bool,heavyB]; congr 1; symm; simp only [Bool.or_eq_true,decide_eq_true_eq]; omega
  by_cases h2 : (o.item.length : Int) > 200
  · simp only [sS,↓sT,Nat.reduceLT,Nat.reduceEqDiff,↓sO,↓WOps_g,sG,opV,loudV,cellsOf,strOp,evL,Nat.reduceAdd,Int.reduceBEq,Int.reduceBNe,ti3,ti2,ti4,ti9,ti38,ti25,ti47,ti49,op_cells,op_isC,op_full,op_load,fS49,len_str,loadV,TD.agg,opCells,fS47,hd,h1,h2,decide_true,decide_false]
    refine hN2 _ ?_; try clear hN2 hD2 N2
    refine WC_ret ?_; (try simp only [Exit.after,Exit.out]); refine Kend_ret (by simp only [resOf,resL,resV,mkS_get,slots_get,cellsOf,ti3,ti2,ti4,ti9,ti38,ti25,ti47,ti49,op_cells,op_isC,op_full,op_load,sS,↓sT,Nat.reduceLT,Nat.reduceEqDiff]; rfl) (by first | rfl | (simp only [ti3,ti2,ti4,ti9,ti38,ti25,ti47,ti49,op_cells,op_isC,op_full,op_load]; done) | (simp only [ti3,ti2,ti4,ti9,ti38,ti25,ti47,ti49,op_cells,op_isC,op_full,op_load,okV,ok1,okC,okP,List.all_cons,List.all_nil,Bool.and_true]; done)) ?_
    rw [keep_bool,heavyB]; congr 1; symm; simp only [Bool.or_eq_true,decide_eq_true_eq]; omega
  by_cases h3 : (o.atG.length : Int) > 200
  · simp only [sS,↓sT,Nat.reduceLT,Nat.reduceEqDiff,↓sO,↓WOps_g,sG,opV,loudV,cellsOf,strOp,evL,Nat.reduceAdd,Int.reduceBEq,Int.reduceBNe,ti3,ti2,ti4,ti9,ti38,ti25,ti47,ti49,op_cells,op_isC,op_full,op_load,fS49,len_str,loadV,TD.agg,opCells,fS47,hd,h1,h2,h3,decide_true,decide_false]
    refine hN2 _ ?_; try clear hN2 hD2 N2
    refine WC_ret ?_; (try simp only [Exit.after,Exit.out]); refine Kend_ret (by simp only [resOf,resL,resV,mkS_get,slots_get,cellsOf,ti3,ti2,ti4,ti9,ti38,ti25,ti47,ti49,op_cells,op_isC,op_full,op_load,sS,↓sT,Nat.reduceLT,Nat.reduceEqDiff]; rfl) (by first | rfl | (simp only [ti3,ti2,ti4,ti9,ti38,ti25,ti47,ti49,op_cells,op_isC,op_full,op_load]; done) | (simp only [ti3,ti2,ti4,ti9,ti38,ti25,ti47,ti49,op_cells,op_isC,op_full,op_load,okV,ok1,okC,okP,List.all_cons,List.all_nil,Bool.and_true]; done)) ?_
    rw [keep_bool,heavyB]; congr 1; symm; simp only [Bool.or_eq_true,decide_eq_true_eq]; omega
  by_cases h4 : (o.atN.length : Int) > 200
  · simp only [sS,↓sT,Nat.reduceLT,Nat.reduceEqDiff,↓sO,↓WOps_g,sG,opV,loudV,cellsOf,strOp,evL,Nat.reduceAdd,Int.reduceBEq,Int.reduceBNe,ti3,ti2,ti4,ti9,ti38,ti25,ti47,ti49,op_cells,op_isC,op_full,op_load,fS49,len_str,loadV,TD.agg,opCells,fS47,hd,h1,h2,h3,h4,decide_true,decide_false]
    refine hN2 _ ?_; try clear hN2 hD2 N2
    refine WC_ret ?_; (try simp only [Exit.after,Exit.out]); refine Kend_ret (by simp only [resOf,resL,resV,mkS_get,slots_get,cellsOf,ti3,ti2,ti4,ti9,ti38,ti25,ti47,ti49,op_cells,op_isC,op_full,op_load,sS,↓sT,Nat.reduceLT,Nat.reduceEqDiff]; rfl) (by first | rfl | (simp only [ti3,ti2,ti4,ti9,ti38,ti25,ti47,ti49,op_cells,op_isC,op_full,op_load]; done) | (simp only [ti3,ti2,ti4,ti9,ti38,ti25,ti47,ti49,op_cells,op_isC,op_full,op_load,okV,ok1,okC,okP,List.all_cons,List.all_nil,Bool.and_true]; done)) ?_
    rw [keep_bool,heavyB]; congr 1; symm; simp only [Bool.or_eq_true,decide_eq_true_eq]; omega
  by_cases h5 : (o.text.length : Int) > 200
  · simp only [sS,↓sT,Nat.reduceLT,Nat.reduceEqDiff,↓sO,↓WOps_g,sG,opV,loudV,cellsOf,strOp,evL,Nat.reduceAdd,Int.reduceBEq,Int.reduceBNe,ti3,ti2,ti4,ti9,ti38,ti25,ti47,ti49,op_cells,op_isC,op_full,op_load,fS49,len_str,loadV,TD.agg,opCells,fS47,hd,h1,h2,h3,h4,h5,decide_true,decide_false]
    refine hN2 _ ?_; try clear hN2 hD2 N2
    refine WC_ret ?_; (try simp only [Exit.after,Exit.out]); refine Kend_ret (by simp only [resOf,resL,resV,mkS_get,slots_get,cellsOf,ti3,ti2,ti4,ti9,ti38,ti25,ti47,ti49,op_cells,op_isC,op_full,op_load,sS,↓sT,Nat.reduceLT,Nat.reduceEqDiff]; rfl) (by first | rfl | (simp only [ti3,ti2,ti4,ti9,ti38,ti25,ti47,ti49,op_cells,op_isC,op_full,op_load]; done) | (simp only [ti3,ti2,ti4,ti9,ti38,ti25,ti47,ti49,op_cells,op_isC,op_full,op_load,okV,ok1,okC,okP,List.all_cons,List.all_nil,Bool.and_true]; done)) ?_
    rw [keep_bool,heavyB]; congr 1; symm; simp only [Bool.or_eq_true,decide_eq_true_eq]; omega
  simp only [sS,↓sT,Nat.reduceLT,Nat.reduceEqDiff,↓sO,↓WOps_g,sG,opV,loudV,cellsOf,strOp,evL,Nat.reduceAdd,Int.reduceBEq,Int.reduceBNe,ti3,ti2,ti4,ti9,ti38,ti25,ti47,ti49,op_cells,op_isC,op_full,op_load,fS49,len_str,loadV,TD.agg,opCells,fS47,hd,h1,h2,h3,h4,h5,decide_true,decide_false]
  refine hN2 _ ?_; try clear hN2 hD2 N2
  refine WC_ret ?_; (try simp only [Exit.after,Exit.out]); refine Kend_ret (by simp only [resOf,resL,resV,mkS_get,slots_get,cellsOf,ti3,ti2,ti4,ti9,ti38,ti25,ti47,ti49,op_cells,op_isC,op_full,op_load,sS,↓sT,Nat.reduceLT,Nat.reduceEqDiff]; rfl) (by first | rfl | (simp only [ti3,ti2,ti4,ti9,ti38,ti25,ti47,ti49,op_cells,op_isC,op_full,op_load]; done) | (simp only [ti3,ti2,ti4,ti9,ti38,ti25,ti47,ti49,op_cells,op_isC,op_full,op_load,okV,ok1,okC,okP,List.all_cons,List.all_nil,Bool.and_true]; done)) ?_
  simp only [gt_iff_lt] at h1 h2 h3 h4 h5; simp only [keep_bool,heavyB,gt_iff_lt,h1,h2,h3,h4,h5,decide_false,Bool.false_or,OpS.dropsL]; rfl
end Go.PV
/- Names. -/
namespace Go.PV
open Go.Proofs
set_option linter.unusedVariables false
set_option linter.unusedSimpArgs false
set_option maxRecDepth 10000
set_option maxHeartbeats 1000000

theorem len_strN (s : List UInt8) : lenV Try.prog 9 (.str s) = some (.int .i64 s.length) := by simp [lenV, ti9]
theorem str_ix {s : List UInt8} {i : Nat} {c : UInt8} (h : s[i]? = some c) : indexV Try.prog 9 (.str s) (.int .i64 i) = some (.int .u8 c.toNat) := by
  simp [indexV,ti9,h,byteV]
theorem str_ix0 {s : List UInt8} {c : UInt8} (h : s[0]? = some c) : indexV Try.prog 9 (.str s) (.int .i64 0) = some (.int .u8 c.toNat) := str_ix h
def letterB (c : Int) : Bool := decide (97 ≤ c) && decide (c ≤ 122)
def digitB (c : Int) : Bool := decide (48 ≤ c) && decide (c ≤ 57)
def signB (c : UInt8) : Bool := letterB c.toNat || digitB c.toNat
def nameB : List UInt8 → Bool
  | [] => false
  | c :: s => decide (s.length < 12) && letterB c.toNat && s.all signB
theorem c_punnet_name_letter (c : Int) : VC Try.prog 65 [.int .u8 c] [] (fun r _ => r = .bool (letterB c)) := by
 refine VC_enter (nt := 9) (rs := [.tmp 2]) (ow := []) (m := 0) Try.func65 rfl (by rfl) rfl rfl (by simp) rfl rfl (fun n => ?_)
 simp only [zipT,Nat.zero_add]
 refine WC_seqR (fun N1 hN1 hD1 => ?_)
 simp only [sS,↓sT,Nat.reduceLT,Nat.reduceEqDiff,↓sO,↓WOps_g,sG,opV,loudV,cellsOf,strOp,evL,Nat.reduceAdd,Int.reduceBEq,Int.reduceBNe]
 refine hN1 _ ?_; try clear hN1 hD1 N1
 refine WC_seqR (fun N2 hN2 hD2 => ?_)
 simp only [sS,↓sT,Nat.reduceLT,Nat.reduceEqDiff,↓sO,↓WOps_g,sG,opV,loudV,cellsOf,strOp,evL,Nat.reduceAdd,Int.reduceBEq,Int.reduceBNe]
 refine stepB_T (fun hg2_2 => ?_) (fun hg2_2 => ?_)
 ·simp only [sS,↓sT,Nat.reduceLT,Nat.reduceEqDiff,↓sO,↓WOps_g,sG,opV,loudV,cellsOf,strOp,evL,Nat.reduceAdd,Int.reduceBEq,Int.reduceBNe,hg2_2]
  refine hN2 _ ?_; try clear hN2 hD2 N2
  refine WC_ret ?_; (try simp only [Exit.after,Exit.out]); refine Kend_ret (by simp only [resOf,resL,resV,mkS_get,slots_get,cellsOf,ti3,sS,↓sT,Nat.reduceLT,Nat.reduceEqDiff]; rfl) (by first | rfl | (simp only [ti3]; done) | (simp only [ti3,okV,ok1,okC,okP,List.all_cons,List.all_nil,Bool.and_true]; done)) ?_
  (simp_all [letterB,keep_bool] <;> omega)
 ·simp only [sS,↓sT,Nat.reduceLT,Nat.reduceEqDiff,↓sO,↓WOps_g,sG,opV,loudV,cellsOf,strOp,evL,Nat.reduceAdd,Int.reduceBEq,Int.reduceBNe,hg2_2]
  refine hN2 _ ?_; try clear hN2 hD2 N2
  refine WC_ret ?_; (try simp only [Exit.after,Exit.out]); refine Kend_ret (by simp only [resOf,resL,resV,mkS_get,slots_get,cellsOf,ti3,sS,↓sT,Nat.reduceLT,Nat.reduceEqDiff]; rfl) (by first | rfl | (simp only [ti3]; done) | (simp only [ti3,okV,ok1,okC,okP,List.all_cons,List.all_nil,Bool.and_true]; done)) ?_
  (simp_all [letterB,keep_bool] <;> omega)
theorem c_punnet_name_Text (s : List UInt8) : VC Try.prog 60 [.str s] [] (fun r _ => r = .bool (decide ((s.length : Int) ≤ 40))) := by
 refine VC_enter (nt := 6) (rs := [.tmp 2]) (ow := []) (m := 0) Try.func60 rfl (by rfl) rfl rfl (by simp) rfl rfl (fun n => ?_)
 simp only [zipT,Nat.zero_add]
 refine WC_seqR (fun N1 hN1 hD1 => ?_)
 simp only [sS,↓sT,Nat.reduceLT,Nat.reduceEqDiff,↓sO,↓WOps_g,sG,opV,loudV,cellsOf,strOp,evL,Nat.reduceAdd,Int.reduceBEq,Int.reduceBNe,len_strN]
 refine hN1 _ ?_; try clear hN1 hD1 N1
 refine WC_seqR (fun N2 hN2 hD2 => ?_)
 simp only [sS,↓sT,Nat.reduceLT,Nat.reduceEqDiff,↓sO,↓WOps_g,sG,opV,loudV,cellsOf,strOp,evL,Nat.reduceAdd,Int.reduceBEq,Int.reduceBNe,ti9,len_strN]
 refine hN2 _ ?_; try clear hN2 hD2 N2
 refine WC_ret ?_; (try simp only [Exit.after,Exit.out]); refine Kend_ret (by simp only [resOf,resL,resV,mkS_get,slots_get,cellsOf,ti3,sS,↓sT,Nat.reduceLT,Nat.reduceEqDiff]; rfl) (by first | rfl | (simp only [ti3]; done) | (simp only [ti3,okV,ok1,okC,okP,List.all_cons,List.all_nil,Bool.and_true]; done)) ?_
 rfl
theorem all_take {s : List UInt8} {i : Nat} {c : UInt8} (h : s[i]? = some c) : (s.take (i + 1)).all signB = ((s.take i).all signB && signB c) := by
  rw [List.take_add_one,h]; simp
theorem nameB_cons {s : List UInt8} {c : UInt8} (h : s[0]? = some c) : nameB s = (decide (s.length ≤ 12) && letterB c.toNat && s.all signB) := by
  cases s with
  | nil => cases h
  | cons d s =>
    obtain rfl : d = c := by simpa using h
    simp only [nameB,List.length_cons,List.all_cons,signB]
    cases hl : letterB d.toNat
    · simp
    · simp [Nat.lt_iff_add_one_le]
theorem all_false {s : List UInt8} {i : Nat} {c : UInt8} (h : s[i]? = some c) (hc : signB c = false) : s.all signB = false := by
  rw [List.all_eq_false]
  exact ⟨c,List.mem_of_getElem? h,by simp [hc]⟩
theorem c_punnet_name_Name (s : List UInt8) (c : UInt8) (hc : s[0]? = some c) : VC Try.prog 58 [.str s] [] (fun r _ => r = .bool (nameB s)) := by
 refine VC_enter (nt := 40) (rs := [.tmp 2]) (ow := []) (m := 0) Try.func58 rfl (by rfl) rfl rfl (by simp) rfl rfl (fun n => ?_)
 simp only [zipT,Nat.zero_add]
 refine WC_seqR (fun N1 hN1 hD1 => ?_)
 simp only [sS,↓sT,Nat.reduceLT,Nat.reduceEqDiff,↓sO,↓WOps_g,sG,opV,loudV,cellsOf,strOp,evL,Nat.reduceAdd,Int.reduceBEq,Int.reduceBNe,len_strN,bs_mk,str_ix0 hc,gt_iff_lt]
 refine hN1 _ ?_; try clear hN1 hD1 N1
 refine WC_seqN (fun N2 hN2 hD2 => ?_)
 refine WC_seqR (fun N3 hN3 hD3 => ?_)
 simp only [sS,↓sT,Nat.reduceLT,Nat.reduceEqDiff,↓sO,↓WOps_g,sG,opV,loudV,cellsOf,strOp,evL,Nat.reduceAdd,Int.reduceBEq,Int.reduceBNe,ti9,len_strN,bs_mk,str_ix0 hc,gt_iff_lt]
 refine stepB_F (fun hg3_2 => ?_) (fun hg3_2 => ?_)
 ·simp only [sS,↓sT,Nat.reduceLT,Nat.reduceEqDiff,↓sO,↓WOps_g,sG,opV,loudV,cellsOf,strOp,evL,Nat.reduceAdd,Int.reduceBEq,Int.reduceBNe,ti9,len_strN,bs_mk,str_ix0 hc,gt_iff_lt,hg3_2]
  refine stepB_F (fun hg3_7 => ?_) (fun hg3_7 => ?_)
  ·simp only [sS,↓sT,Nat.reduceLT,Nat.reduceEqDiff,↓sO,↓WOps_g,sG,opV,loudV,cellsOf,strOp,evL,Nat.reduceAdd,Int.reduceBEq,Int.reduceBNe,ti9,len_strN,bs_mk,str_ix0 hc,gt_iff_lt,hg3_2,hg3_7]
   refine WOps_callP (c_punnet_name_letter _) (by simp only [ev_func]) (by simp only [evL,sS,↓sT,Nat.reduceLT,Nat.reduceEqDiff]; rfl) (by first | rfl | (simp only [List.map,bare_int]; done) | (simp only [List.map,bare_int]; exact rfl)) (by first | rfl | simp [noP_int]) (by first | rfl | simp [noP_int]) rfl ?_
   simp only [sS,↓sT,Nat.reduceLT,Nat.reduceEqDiff,↓sO,↓WOps_g,sG,opV,loudV,cellsOf,strOp,evL,Nat.reduceAdd,Int.reduceBEq,Int.reduceBNe,ti9,len_strN,bs_mk,str_ix0 hc,gt_iff_lt,hg3_2,hg3_7]
   refine hN3 _ ?_; try clear hN3 hD3 N3
   refine WC_condE ?_
   simp only [sS,↓sT,Nat.reduceLT,Nat.reduceEqDiff,↓stepC_bool]
   refine ⟨fun hb4 => ?_,fun hb4 => ?_⟩
   ·refine WC_seqR (fun N5 hN5 hD5 => ?_)
    simp only [sS,↓sT,Nat.reduceLT,Nat.reduceEqDiff,↓sO,↓WOps_g,sG,opV,loudV,cellsOf,strOp,evL,Nat.reduceAdd,Int.reduceBEq,Int.reduceBNe,len_strN,bs_mk,str_ix0 hc,gt_iff_lt]
    refine hN5 _ ?_; try clear hN5 hD5 N5
    refine WC_ret ?_; (try simp only [Exit.after,Exit.out]); refine Kend_ret (by simp only [resOf,resL,resV,mkS_get,slots_get,cellsOf,ti3,sS,↓sT,Nat.reduceLT,Nat.reduceEqDiff]; rfl) (by first | rfl | (simp only [ti3]; done) | (simp only [ti3,okV,ok1,okC,okP,List.all_cons,List.all_nil,Bool.and_true]; done)) ?_
    clear hN2 hD2 N2
    rw [keep_bool,nameB_cons hc]
    first | (simp_all; done) | (simp_all; omega) | (rw [all_false hc2 (by simp_all [signB,digitB] <;> omega)]; simp) | skip
   ·refine WC_skip ?_
    refine hN2 _ ?_; try clear hN2 hD2 N2
    refine WC_seqN (fun N6 hN6 hD6 => ?_)
    refine WC_seqR (fun N7 hN7 hD7 => ?_)
    simp only [sS,↓sT,Nat.reduceLT,Nat.reduceEqDiff,↓sO,↓WOps_g,sG,opV,loudV,cellsOf,strOp,evL,Nat.reduceAdd,Int.reduceBEq,Int.reduceBNe,ti9,len_strN,bs_mk,str_ix0 hc,gt_iff_lt]
    refine hN7 _ ?_; try clear hN7 hD7 N7
    refine WC_block ?_
    refine WC_loopG (σ := Nat) (fun t s' => ∃ ps,s' = ⟨mkS 40 ps, [], [],n⟩ ∧ Has ps [(0, .str s),(18, .int .i64 s.length),(19, .int .i64 t)] ∧ t ≤ s.length ∧ (s.take t).all signB = true) (fun t => s.length - t) 0 ?_ (fun t s' hI => ?_)
    · exact ⟨_,rfl,⟨rfl,rfl,rfl,trivial⟩,by omega,rfl⟩
    obtain ⟨ps,rfl,hps,htl,htk⟩ := hI
    refine WC_has hps ?_; clear hps ps
    refine WC_seqR (fun N8 hN8 hD8 => ?_)
    simp only [sS,↓sT,Nat.reduceLT,Nat.reduceEqDiff,↓sO,↓WOps_g,sG,opV,loudV,cellsOf,strOp,evL,Nat.reduceAdd,Int.reduceBEq,Int.reduceBNe,len_strN,bs_mk,str_ix0 hc,gt_iff_lt]
    refine hN8 _ ?_; try clear hN8 hD8 N8
    refine WC_seqN (fun N9 hN9 hD9 => ?_)
    refine WC_condE ?_
    simp only [sS,↓sT,Nat.reduceLT,Nat.reduceEqDiff,↓stepC_bool]
    refine ⟨fun hb10 => ?_,fun hb10 => ?_⟩
    ·have ht : t < s.length := by have := of_decide_eq_true hb10; omega
     clear hb10
     obtain ⟨c2,hc2⟩ : ∃ c2,s[t]? = some c2 := ⟨_,List.getElem?_eq_getElem ht⟩
     have hix := str_ix hc2
     have hlen : s.length ≤ 12 := by have := of_decide_eq_false hg3_7; omega
     refine WC_skip ?_
     refine hN9 _ ?_; try clear hN9 hD9 N9
     refine WC_seqN (fun N11 hN11 hD11 => ?_)
     refine WC_block ?_
     refine WC_seqR (fun N12 hN12 hD12 => ?_)
     simp only [sS,↓sT,Nat.reduceLT,Nat.reduceEqDiff,↓sO,↓WOps_g,sG,opV,loudV,cellsOf,strOp,evL,Nat.reduceAdd,Int.reduceBEq,Int.reduceBNe,len_strN,bs_mk,str_ix0 hc,gt_iff_lt,hix,wrapI (x := (t : Int) + 1) (by omega) (by omega)]
     refine hN12 _ ?_; try clear hN12 hD12 N12
     refine WC_seqR (fun N13 hN13 hD13 => ?_)
     simp only [sS,↓sT,Nat.reduceLT,Nat.reduceEqDiff,↓sO,↓WOps_g,sG,opV,loudV,cellsOf,strOp,evL,Nat.reduceAdd,Int.reduceBEq,Int.reduceBNe,ti9,len_strN,bs_mk,str_ix0 hc,gt_iff_lt,hix,wrapI (x := (t : Int) + 1) (by omega) (by omega)]
     refine WOps_callP (c_punnet_name_letter _) (by simp only [ev_func]) (by simp only [evL,sS,↓sT,Nat.reduceLT,Nat.reduceEqDiff]; rfl) (by first | rfl | (simp only [List.map,bare_int]; done) | (simp only [List.map,bare_int]; exact rfl)) (by first | rfl | simp [noP_int]) (by first | rfl | simp [noP_int]) rfl ?_
     simp only [sS,↓sT,Nat.reduceLT,Nat.reduceEqDiff,↓sO,↓WOps_g,sG,opV,loudV,cellsOf,strOp,evL,Nat.reduceAdd,Int.reduceBEq,Int.reduceBNe,ti9,len_strN,bs_mk,str_ix0 hc,gt_iff_lt,hix,wrapI (x := (t : Int) + 1) (by omega) (by omega)]
     refine stepB_T (fun hg13_5 => ?_) (fun hg13_5 => ?_)
     ·simp only [sS,↓sT,Nat.reduceLT,Nat.reduceEqDiff,↓sO,↓WOps_g,sG,opV,loudV,cellsOf,strOp,evL,Nat.reduceAdd,Int.reduceBEq,Int.reduceBNe,ti9,len_strN,bs_mk,str_ix0 hc,gt_iff_lt,hix,wrapI (x := (t : Int) + 1) (by omega) (by omega),hg13_5]
      refine stepB_F (fun hg13_10 => ?_) (fun hg13_10 => ?_)
      ·simp only [sS,↓sT,Nat.reduceLT,Nat.reduceEqDiff,↓sO,↓WOps_g,sG,opV,loudV,cellsOf,strOp,evL,Nat.reduceAdd,Int.reduceBEq,Int.reduceBNe,ti9,len_strN,bs_mk,str_ix0 hc,gt_iff_lt,hix,wrapI (x := (t : Int) + 1) (by omega) (by omega),hg13_5,hg13_10]
       refine hN13 _ ?_; try clear hN13 hD13 N13
       refine WC_condE ?_
       simp only [sS,↓sT,Nat.reduceLT,Nat.reduceEqDiff,↓stepC_bool]
       refine ⟨fun hb14 => ?_,fun hb14 => ?_⟩
       ·refine WC_seqR (fun N15 hN15 hD15 => ?_)
        simp only [sS,↓sT,Nat.reduceLT,Nat.reduceEqDiff,↓sO,↓WOps_g,sG,opV,loudV,cellsOf,strOp,evL,Nat.reduceAdd,Int.reduceBEq,Int.reduceBNe,len_strN,bs_mk,str_ix0 hc,gt_iff_lt,hix,wrapI (x := (t : Int) + 1) (by omega) (by omega)]
        refine hN15 _ ?_; try clear hN15 hD15 N15
        refine WC_ret ?_; (try simp only [Exit.after,Exit.out]); refine Kend_ret (by simp only [resOf,resL,resV,mkS_get,slots_get,cellsOf,ti3,sS,↓sT,Nat.reduceLT,Nat.reduceEqDiff]; rfl) (by first | rfl | (simp only [ti3]; done) | (simp only [ti3,okV,ok1,okC,okP,List.all_cons,List.all_nil,Bool.and_true]; done)) ?_
        clear hN11 hD11 N11 hN6 hD6 N6
        rw [keep_bool,nameB_cons hc]
        first | (simp_all; done) | (simp_all; omega) | (rw [all_false hc2 (by simp_all [signB,digitB] <;> omega)]; simp) | skip
       ·refine WC_skip ?_
        refine hN11 _ ?_; try clear hN11 hD11 N11
        refine WC_regN (fun N16 hN16 => ?_)
        simp only [sS,↓sT,Nat.reduceLT,Nat.reduceEqDiff,↓sO,↓WOps_g,sG,opV,loudV,cellsOf,strOp,evL,Nat.reduceAdd,Int.reduceBEq,Int.reduceBNe,len_strN,bs_mk,str_ix0 hc,gt_iff_lt,hix,wrapI (x := (t : Int) + 1) (by omega) (by omega)]
        refine hN16 _ ?_; try clear hN16 N16
        refine ⟨t + 1,⟨_,rfl,⟨rfl,rfl,rfl,trivial⟩,ht, ?_⟩,by omega⟩
        rw [all_take hc2,htk]; simp_all [signB,digitB]
      ·simp only [sS,↓sT,Nat.reduceLT,Nat.reduceEqDiff,↓sO,↓WOps_g,sG,opV,loudV,cellsOf,strOp,evL,Nat.reduceAdd,Int.reduceBEq,Int.reduceBNe,ti9,len_strN,bs_mk,str_ix0 hc,gt_iff_lt,hix,wrapI (x := (t : Int) + 1) (by omega) (by omega),hg13_5,hg13_10]
       refine hN13 _ ?_; try clear hN13 hD13 N13
       refine WC_condE ?_
       simp only [sS,↓sT,Nat.reduceLT,Nat.reduceEqDiff,↓stepC_bool]
       refine ⟨fun hb => ?_,fun hb => (by cases hb)⟩
       refine WC_seqR (fun N17 hN17 hD17 => ?_)
       simp only [sS,↓sT,Nat.reduceLT,Nat.reduceEqDiff,↓sO,↓WOps_g,sG,opV,loudV,cellsOf,strOp,evL,Nat.reduceAdd,Int.reduceBEq,Int.reduceBNe,len_strN,bs_mk,str_ix0 hc,gt_iff_lt,hix,wrapI (x := (t : Int) + 1) (by omega) (by omega)]
       refine hN17 _ ?_; try clear hN17 hD17 N17
       refine WC_ret ?_; (try simp only [Exit.after,Exit.out]); refine Kend_ret (by simp only [resOf,resL,resV,mkS_get,slots_get,cellsOf,ti3,sS,↓sT,Nat.reduceLT,Nat.reduceEqDiff]; rfl) (by first | rfl | (simp only [ti3]; done) | (simp only [ti3,okV,ok1,okC,okP,List.all_cons,List.all_nil,Bool.and_true]; done)) ?_
       clear hN11 hD11 N11 hN6 hD6 N6
       rw [keep_bool,nameB_cons hc]
       first | (simp_all; done) | (simp_all; omega) | (rw [all_false hc2 (by simp_all [signB,digitB] <;> omega)]; simp) | skip
     ·simp only [sS,↓sT,Nat.reduceLT,Nat.reduceEqDiff,↓sO,↓WOps_g,sG,opV,loudV,cellsOf,strOp,evL,Nat.reduceAdd,Int.reduceBEq,Int.reduceBNe,ti9,len_strN,bs_mk,str_ix0 hc,gt_iff_lt,hix,wrapI (x := (t : Int) + 1) (by omega) (by omega),hg13_5]
      refine hN13 _ ?_; try clear hN13 hD13 N13
      refine WC_condE ?_
      simp only [sS,↓sT,Nat.reduceLT,Nat.reduceEqDiff,↓stepC_bool]
      refine ⟨fun hb => (by cases hb),fun hb => ?_⟩
      refine WC_skip ?_
      refine hN11 _ ?_; try clear hN11 hD11 N11
      refine WC_regN (fun N18 hN18 => ?_)
      simp only [sS,↓sT,Nat.reduceLT,Nat.reduceEqDiff,↓sO,↓WOps_g,sG,opV,loudV,cellsOf,strOp,evL,Nat.reduceAdd,Int.reduceBEq,Int.reduceBNe,len_strN,bs_mk,str_ix0 hc,gt_iff_lt,hix,wrapI (x := (t : Int) + 1) (by omega) (by omega)]
      refine hN18 _ ?_; try clear hN18 N18
      refine ⟨t + 1,⟨_,rfl,⟨rfl,rfl,rfl,trivial⟩,ht, ?_⟩,by omega⟩
      rw [all_take hc2,htk]; simp_all [signB,digitB]
    ·have ht : t = s.length := by have := of_decide_eq_false hb10; omega
     clear hb10
     refine WC_exit ?_
     refine hN6 _ ?_; try clear hN6 hD6 N6
     refine WC_seqR (fun N19 hN19 hD19 => ?_)
     simp only [sS,↓sT,Nat.reduceLT,Nat.reduceEqDiff,↓sO,↓WOps_g,sG,opV,loudV,cellsOf,strOp,evL,Nat.reduceAdd,Int.reduceBEq,Int.reduceBNe,len_strN,bs_mk,str_ix0 hc,gt_iff_lt]
     refine hN19 _ ?_; try clear hN19 hD19 N19
     refine WC_ret ?_; (try simp only [Exit.after,Exit.out]); refine Kend_ret (by simp only [resOf,resL,resV,mkS_get,slots_get,cellsOf,ti3,sS,↓sT,Nat.reduceLT,Nat.reduceEqDiff]; rfl) (by first | rfl | (simp only [ti3]; done) | (simp only [ti3,okV,ok1,okC,okP,List.all_cons,List.all_nil,Bool.and_true]; done)) ?_
     clear hN9 hD9 N9
     rw [keep_bool,nameB_cons hc]
     first | (simp_all; done) | (simp_all; omega) | (rw [all_false hc2 (by simp_all [signB,digitB] <;> omega)]; simp) | skip
  ·simp only [sS,↓sT,Nat.reduceLT,Nat.reduceEqDiff,↓sO,↓WOps_g,sG,opV,loudV,cellsOf,strOp,evL,Nat.reduceAdd,Int.reduceBEq,Int.reduceBNe,ti9,len_strN,bs_mk,str_ix0 hc,gt_iff_lt,hg3_2,hg3_7]
   refine hN3 _ ?_; try clear hN3 hD3 N3
   refine WC_condE ?_
   simp only [sS,↓sT,Nat.reduceLT,Nat.reduceEqDiff,↓stepC_bool]
   refine ⟨fun hb => ?_,fun hb => (by cases hb)⟩
   refine WC_seqR (fun N20 hN20 hD20 => ?_)
   simp only [sS,↓sT,Nat.reduceLT,Nat.reduceEqDiff,↓sO,↓WOps_g,sG,opV,loudV,cellsOf,strOp,evL,Nat.reduceAdd,Int.reduceBEq,Int.reduceBNe,len_strN,bs_mk,str_ix0 hc,gt_iff_lt]
   refine hN20 _ ?_; try clear hN20 hD20 N20
   refine WC_ret ?_; (try simp only [Exit.after,Exit.out]); refine Kend_ret (by simp only [resOf,resL,resV,mkS_get,slots_get,cellsOf,ti3,sS,↓sT,Nat.reduceLT,Nat.reduceEqDiff]; rfl) (by first | rfl | (simp only [ti3]; done) | (simp only [ti3,okV,ok1,okC,okP,List.all_cons,List.all_nil,Bool.and_true]; done)) ?_
   clear hN2 hD2 N2
   rw [keep_bool,nameB_cons hc]
   first | (simp_all; done) | (simp_all; omega) | (rw [all_false hc2 (by simp_all [signB,digitB] <;> omega)]; simp) | skip
 ·simp only [sS,↓sT,Nat.reduceLT,Nat.reduceEqDiff,↓sO,↓WOps_g,sG,opV,loudV,cellsOf,strOp,evL,Nat.reduceAdd,Int.reduceBEq,Int.reduceBNe,ti9,len_strN,bs_mk,str_ix0 hc,gt_iff_lt,hg3_2]
  refine hN3 _ ?_; try clear hN3 hD3 N3
  refine WC_condE ?_
  simp only [sS,↓sT,Nat.reduceLT,Nat.reduceEqDiff,↓stepC_bool]
  refine ⟨fun hb => ?_,fun hb => (by cases hb)⟩
  refine WC_seqR (fun N21 hN21 hD21 => ?_)
  simp only [sS,↓sT,Nat.reduceLT,Nat.reduceEqDiff,↓sO,↓WOps_g,sG,opV,loudV,cellsOf,strOp,evL,Nat.reduceAdd,Int.reduceBEq,Int.reduceBNe,len_strN,bs_mk,str_ix0 hc,gt_iff_lt]
  refine hN21 _ ?_; try clear hN21 hD21 N21
  refine WC_ret ?_; (try simp only [Exit.after,Exit.out]); refine Kend_ret (by simp only [resOf,resL,resV,mkS_get,slots_get,cellsOf,ti3,sS,↓sT,Nat.reduceLT,Nat.reduceEqDiff]; rfl) (by first | rfl | (simp only [ti3]; done) | (simp only [ti3,okV,ok1,okC,okP,List.all_cons,List.all_nil,Bool.and_true]; done)) ?_
  clear hN2 hD2 N2
  rw [keep_bool,nameB_cons hc]
  first | (simp_all; done) | (simp_all; omega) | (rw [all_false hc2 (by simp_all [signB,digitB] <;> omega)]; simp) | skip
theorem c_name (s : List UInt8) : VC Try.prog 58 [.str s] [] (fun r _ => r = .bool (nameB s)) := by
  cases s with
  | nil => exact VC_closed (tab := tab) 10000 20 mixed names tabOk rfl rfl rfl rfl (by kernel_rfl)
  | cons c s => exact c_punnet_name_Name _ c rfl
theorem name_leaf {s : List UInt8} {c c2 : UInt8} {t : Nat} (hc2 : s[t]? = some c2) (h0 : t = 0 → c2 = c) (hl : letterB c2.toNat = false) (hd : digitB c2.toNat = false ∨ t = 0) : (decide (s.length ≤ 12) && letterB c.toNat && s.all signB) = false := by
  rcases hd with hd | hz
  · rw [all_false hc2 (by rw [signB,hl,hd]; rfl)]; simp
  · obtain rfl := h0 hz
    rw [hl]; simp
theorem c_punnet_punnetref05_Name (s : List UInt8) (c : UInt8) (hc : s[0]? = some c) : VC Try.prog 66 [.str s] [] (fun r _ => r = .bool (nameB s)) := by
 refine VC_enter (nt := 50) (rs := [.tmp 2]) (ow := []) (m := 0) Try.func66 rfl (by rfl) rfl rfl (by simp) rfl rfl (fun n => ?_)
 simp only [zipT,Nat.zero_add]
 have hpos : 0 < s.length := (List.getElem?_eq_some_iff.1 hc).1
 refine WC_seqR (fun N1 hN1 hD1 => ?_)
 simp only [sS,↓sT,Nat.reduceLT,Nat.reduceEqDiff,↓sO,↓WOps_g,sG,opV,loudV,cellsOf,strOp,evL,Nat.reduceAdd,Int.reduceBEq,Int.reduceBNe,len_strN,bs_mk,gt_iff_lt]
 refine hN1 _ ?_; try clear hN1 hD1 N1
 refine WC_seqN (fun N2 hN2 hD2 => ?_)
 refine WC_seqR (fun N3 hN3 hD3 => ?_)
 simp only [sS,↓sT,Nat.reduceLT,Nat.reduceEqDiff,↓sO,↓WOps_g,sG,opV,loudV,cellsOf,strOp,evL,Nat.reduceAdd,Int.reduceBEq,Int.reduceBNe,ti9,len_strN,bs_mk,gt_iff_lt]
 refine stepB_F (fun hg3_3 => ?_) (fun hg3_3 => ?_)
 ·simp only [sS,↓sT,Nat.reduceLT,Nat.reduceEqDiff,↓sO,↓WOps_g,sG,opV,loudV,cellsOf,strOp,evL,Nat.reduceAdd,Int.reduceBEq,Int.reduceBNe,ti9,len_strN,bs_mk,gt_iff_lt,hg3_3]
  refine hN3 _ ?_; try clear hN3 hD3 N3
  refine WC_condE ?_
  simp only [sS,↓sT,Nat.reduceLT,Nat.reduceEqDiff,↓stepC_bool]
  refine ⟨fun hb4 => ?_,fun hb4 => ?_⟩
  ·refine WC_seqR (fun N5 hN5 hD5 => ?_)
   simp only [sS,↓sT,Nat.reduceLT,Nat.reduceEqDiff,↓sO,↓WOps_g,sG,opV,loudV,cellsOf,strOp,evL,Nat.reduceAdd,Int.reduceBEq,Int.reduceBNe,len_strN,bs_mk,gt_iff_lt]
   refine hN5 _ ?_; try clear hN5 hD5 N5
   refine WC_ret ?_; (try simp only [Exit.after,Exit.out]); refine Kend_ret (by simp only [resOf,resL,resV,mkS_get,slots_get,cellsOf,ti3,sS,↓sT,Nat.reduceLT,Nat.reduceEqDiff]; rfl) (by first | rfl | (simp only [ti3]; done) | (simp only [ti3,okV,ok1,okC,okP,List.all_cons,List.all_nil,Bool.and_true]; done)) ?_
   clear hN2 hD2 N2
   rw [keep_bool,nameB_cons hc]
   first
   | (exfalso; have := of_decide_eq_true hg3_3; omega)
   | (refine congrArg V.bool (name_leaf hc2 h0 ?_ ?_).symm
      · first | (simp_all [letterB]; done) | (simp_all [letterB]; omega)
      · first | (right; simp_all; done) | (left; simp_all [digitB]; done) | (left; simp_all [digitB]; omega))
   | (simp_all; done)
   | (simp_all; omega)
  ·refine WC_skip ?_
   refine hN2 _ ?_; try clear hN2 hD2 N2
   refine WC_seqN (fun N6 hN6 hD6 => ?_)
   refine WC_seqR (fun N7 hN7 hD7 => ?_)
   simp only [sS,↓sT,Nat.reduceLT,Nat.reduceEqDiff,↓sO,↓WOps_g,sG,opV,loudV,cellsOf,strOp,evL,Nat.reduceAdd,Int.reduceBEq,Int.reduceBNe,len_strN,bs_mk,gt_iff_lt]
   refine hN7 _ ?_; try clear hN7 hD7 N7
   refine WC_block ?_
   refine WC_loopG (σ := Nat) (fun t s' => ∃ ps,s' = ⟨mkS 50 ps, [], [],n⟩ ∧ Has ps [(0, .str s),(3, .int .i64 t)] ∧ t ≤ s.length ∧ (s.take t).all signB = true ∧ (0 < t → letterB c.toNat = true)) (fun t => s.length - t) 0 ?_ (fun t s' hI => ?_)
   · exact ⟨_,rfl,⟨rfl,rfl,trivial⟩,by omega,rfl,fun h => by omega⟩
   obtain ⟨ps,rfl,hps,htl,htk,hhead⟩ := hI
   refine WC_has hps ?_; clear hps ps
   refine WC_seqN (fun N8 hN8 hD8 => ?_)
   refine WC_seqR (fun N9 hN9 hD9 => ?_)
   simp only [sS,↓sT,Nat.reduceLT,Nat.reduceEqDiff,↓sO,↓WOps_g,sG,opV,loudV,cellsOf,strOp,evL,Nat.reduceAdd,Int.reduceBEq,Int.reduceBNe,ti9,len_strN,bs_mk,gt_iff_lt]
   refine hN9 _ ?_; try clear hN9 hD9 N9
   refine WC_condE ?_
   simp only [sS,↓sT,Nat.reduceLT,Nat.reduceEqDiff,↓stepC_bool]
   refine ⟨fun hb10 => ?_,fun hb10 => ?_⟩
   ·have ht : t < s.length := by have := of_decide_eq_true hb10; omega
    clear hb10
    obtain ⟨c2,hc2⟩ : ∃ c2,s[t]? = some c2 := ⟨_,List.getElem?_eq_getElem ht⟩
    have hix := str_ix hc2
    have h0 : t = 0 → c2 = c := fun h => by subst h; rw [hc] at hc2; exact (Option.some.inj hc2).symm
    have hlen : s.length ≤ 12 := by have := of_decide_eq_false hb4; omega
    refine WC_skip ?_
    refine hN8 _ ?_; try clear hN8 hD8 N8
    refine WC_seqN (fun N11 hN11 hD11 => ?_)
    refine WC_block ?_
    refine WC_seqR (fun N12 hN12 hD12 => ?_)
    simp only [sS,↓sT,Nat.reduceLT,Nat.reduceEqDiff,↓sO,↓WOps_g,sG,opV,loudV,cellsOf,strOp,evL,Nat.reduceAdd,Int.reduceBEq,Int.reduceBNe,ti9,len_strN,bs_mk,gt_iff_lt,hix,wrapI (x := (t : Int) + 1) (by omega) (by omega)]
    refine stepB_T (fun hg12_4 => ?_) (fun hg12_4 => ?_)
    ·simp only [sS,↓sT,Nat.reduceLT,Nat.reduceEqDiff,↓sO,↓WOps_g,sG,opV,loudV,cellsOf,strOp,evL,Nat.reduceAdd,Int.reduceBEq,Int.reduceBNe,ti9,len_strN,bs_mk,gt_iff_lt,hix,wrapI (x := (t : Int) + 1) (by omega) (by omega),hg12_4]
     refine hN12 _ ?_; try clear hN12 hD12 N12
     refine WC_seqR (fun N13 hN13 hD13 => ?_)
     simp only [sS,↓sT,Nat.reduceLT,Nat.reduceEqDiff,↓sO,↓WOps_g,sG,opV,loudV,cellsOf,strOp,evL,Nat.reduceAdd,Int.reduceBEq,Int.reduceBNe,ti9,len_strN,bs_mk,gt_iff_lt,hix,wrapI (x := (t : Int) + 1) (by omega) (by omega)]
     refine stepB_T (fun hg13_4 => ?_) (fun hg13_4 => ?_)
     ·simp only [sS,↓sT,Nat.reduceLT,Nat.reduceEqDiff,↓sO,↓WOps_g,sG,opV,loudV,cellsOf,strOp,evL,Nat.reduceAdd,Int.reduceBEq,Int.reduceBNe,ti9,len_strN,bs_mk,gt_iff_lt,hix,wrapI (x := (t : Int) + 1) (by omega) (by omega),hg13_4]
      refine hN13 _ ?_; try clear hN13 hD13 N13
      refine WC_seqR (fun N14 hN14 hD14 => ?_)
      simp only [sS,↓sT,Nat.reduceLT,Nat.reduceEqDiff,↓sO,↓WOps_g,sG,opV,loudV,cellsOf,strOp,evL,Nat.reduceAdd,Int.reduceBEq,Int.reduceBNe,len_strN,bs_mk,gt_iff_lt,hix,wrapI (x := (t : Int) + 1) (by omega) (by omega)]
      refine stepB_T (fun hg14_2 => ?_) (fun hg14_2 => ?_)
      ·simp only [sS,↓sT,Nat.reduceLT,Nat.reduceEqDiff,↓sO,↓WOps_g,sG,opV,loudV,cellsOf,strOp,evL,Nat.reduceAdd,Int.reduceBEq,Int.reduceBNe,len_strN,bs_mk,gt_iff_lt,hix,wrapI (x := (t : Int) + 1) (by omega) (by omega),hg14_2]
       refine stepB_F (fun hg14_5 => ?_) (fun hg14_5 => ?_)
       ·simp only [sS,↓sT,Nat.reduceLT,Nat.reduceEqDiff,↓sO,↓WOps_g,sG,opV,loudV,cellsOf,strOp,evL,Nat.reduceAdd,Int.reduceBEq,Int.reduceBNe,len_strN,bs_mk,gt_iff_lt,hix,wrapI (x := (t : Int) + 1) (by omega) (by omega),hg14_2,hg14_5]
        refine hN14 _ ?_; try clear hN14 hD14 N14
        refine WC_condE ?_
        simp only [sS,↓sT,Nat.reduceLT,Nat.reduceEqDiff,↓stepC_bool]
        refine ⟨fun hb15 => ?_,fun hb15 => ?_⟩
        ·refine WC_seqR (fun N16 hN16 hD16 => ?_)
         simp only [sS,↓sT,Nat.reduceLT,Nat.reduceEqDiff,↓sO,↓WOps_g,sG,opV,loudV,cellsOf,strOp,evL,Nat.reduceAdd,Int.reduceBEq,Int.reduceBNe,len_strN,bs_mk,gt_iff_lt,hix,wrapI (x := (t : Int) + 1) (by omega) (by omega)]
         refine hN16 _ ?_; try clear hN16 hD16 N16
         refine WC_ret ?_; (try simp only [Exit.after,Exit.out]); refine Kend_ret (by simp only [resOf,resL,resV,mkS_get,slots_get,cellsOf,ti3,sS,↓sT,Nat.reduceLT,Nat.reduceEqDiff]; rfl) (by first | rfl | (simp only [ti3]; done) | (simp only [ti3,okV,ok1,okC,okP,List.all_cons,List.all_nil,Bool.and_true]; done)) ?_
         clear hN11 hD11 N11 hN6 hD6 N6
         rw [keep_bool,nameB_cons hc]
         first
         | (exfalso; have := of_decide_eq_true hg3_3; omega)
         | (refine congrArg V.bool (name_leaf hc2 h0 ?_ ?_).symm
            · first | (simp_all [letterB]; done) | (simp_all [letterB]; omega)
            · first | (right; simp_all; done) | (left; simp_all [digitB]; done) | (left; simp_all [digitB]; omega))
         | (simp_all; done)
         | (simp_all; omega)
        ·refine WC_skip ?_
         refine hN11 _ ?_; try clear hN11 hD11 N11
         refine WC_regN (fun N17 hN17 => ?_)
         simp only [sS,↓sT,Nat.reduceLT,Nat.reduceEqDiff,↓sO,↓WOps_g,sG,opV,loudV,cellsOf,strOp,evL,Nat.reduceAdd,Int.reduceBEq,Int.reduceBNe,len_strN,bs_mk,gt_iff_lt,hix,wrapI (x := (t : Int) + 1) (by omega) (by omega)]
         refine hN17 _ ?_; try clear hN17 N17
         refine ⟨t + 1,⟨_,rfl,⟨rfl,rfl,trivial⟩,ht, ?_,fun _ => ?_⟩,by omega⟩
         · rw [all_take hc2,htk]; simp_all [signB,digitB,letterB] <;> omega
         · rcases Nat.eq_zero_or_pos t with h | h
           · obtain rfl := h0 h; first | (simp_all [letterB]; done) | (simp_all [letterB] <;> omega)
           · exact hhead h
       ·simp only [sS,↓sT,Nat.reduceLT,Nat.reduceEqDiff,↓sO,↓WOps_g,sG,opV,loudV,cellsOf,strOp,evL,Nat.reduceAdd,Int.reduceBEq,Int.reduceBNe,len_strN,bs_mk,gt_iff_lt,hix,wrapI (x := (t : Int) + 1) (by omega) (by omega),hg14_2,hg14_5]
        refine hN14 _ ?_; try clear hN14 hD14 N14
        refine WC_condE ?_
        simp only [sS,↓sT,Nat.reduceLT,Nat.reduceEqDiff,↓stepC_bool]
        refine ⟨fun hb => ?_,fun hb => (by cases hb)⟩
        refine WC_seqR (fun N18 hN18 hD18 => ?_)
        simp only [sS,↓sT,Nat.reduceLT,Nat.reduceEqDiff,↓sO,↓WOps_g,sG,opV,loudV,cellsOf,strOp,evL,Nat.reduceAdd,Int.reduceBEq,Int.reduceBNe,len_strN,bs_mk,gt_iff_lt,hix,wrapI (x := (t : Int) + 1) (by omega) (by omega)]
        refine hN18 _ ?_; try clear hN18 hD18 N18
        refine WC_ret ?_; (try simp only [Exit.after,Exit.out]); refine Kend_ret (by simp only [resOf,resL,resV,mkS_get,slots_get,cellsOf,ti3,sS,↓sT,Nat.reduceLT,Nat.reduceEqDiff]; rfl) (by first | rfl | (simp only [ti3]; done) | (simp only [ti3,okV,ok1,okC,okP,List.all_cons,List.all_nil,Bool.and_true]; done)) ?_
        clear hN11 hD11 N11 hN6 hD6 N6
        rw [keep_bool,nameB_cons hc]
        first
        | (exfalso; have := of_decide_eq_true hg3_3; omega)
        | (refine congrArg V.bool (name_leaf hc2 h0 ?_ ?_).symm
           · first | (simp_all [letterB]; done) | (simp_all [letterB]; omega)
           · first | (right; simp_all; done) | (left; simp_all [digitB]; done) | (left; simp_all [digitB]; omega))
        | (simp_all; done)
        | (simp_all; omega)
      ·simp only [sS,↓sT,Nat.reduceLT,Nat.reduceEqDiff,↓sO,↓WOps_g,sG,opV,loudV,cellsOf,strOp,evL,Nat.reduceAdd,Int.reduceBEq,Int.reduceBNe,len_strN,bs_mk,gt_iff_lt,hix,wrapI (x := (t : Int) + 1) (by omega) (by omega),hg14_2]
       refine hN14 _ ?_; try clear hN14 hD14 N14
       refine WC_condE ?_
       simp only [sS,↓sT,Nat.reduceLT,Nat.reduceEqDiff,↓stepC_bool]
       refine ⟨fun hb => (by cases hb),fun hb => ?_⟩
       refine WC_skip ?_
       refine hN11 _ ?_; try clear hN11 hD11 N11
       refine WC_regN (fun N19 hN19 => ?_)
       simp only [sS,↓sT,Nat.reduceLT,Nat.reduceEqDiff,↓sO,↓WOps_g,sG,opV,loudV,cellsOf,strOp,evL,Nat.reduceAdd,Int.reduceBEq,Int.reduceBNe,len_strN,bs_mk,gt_iff_lt,hix,wrapI (x := (t : Int) + 1) (by omega) (by omega)]
       refine hN19 _ ?_; try clear hN19 N19
       refine ⟨t + 1,⟨_,rfl,⟨rfl,rfl,trivial⟩,ht, ?_,fun _ => ?_⟩,by omega⟩
       · rw [all_take hc2,htk]; simp_all [signB,digitB,letterB] <;> omega
       · rcases Nat.eq_zero_or_pos t with h | h
         · obtain rfl := h0 h; first | (simp_all [letterB]; done) | (simp_all [letterB] <;> omega)
         · exact hhead h
     ·simp only [sS,↓sT,Nat.reduceLT,Nat.reduceEqDiff,↓sO,↓WOps_g,sG,opV,loudV,cellsOf,strOp,evL,Nat.reduceAdd,Int.reduceBEq,Int.reduceBNe,ti9,len_strN,bs_mk,gt_iff_lt,hix,wrapI (x := (t : Int) + 1) (by omega) (by omega),hg13_4]
      refine hN13 _ ?_; try clear hN13 hD13 N13
      refine WC_seqR (fun N20 hN20 hD20 => ?_)
      simp only [sS,↓sT,Nat.reduceLT,Nat.reduceEqDiff,↓sO,↓WOps_g,sG,opV,loudV,cellsOf,strOp,evL,Nat.reduceAdd,Int.reduceBEq,Int.reduceBNe,len_strN,bs_mk,gt_iff_lt,hix,wrapI (x := (t : Int) + 1) (by omega) (by omega)]
      refine stepB_T (fun hg20_2 => ?_) (fun hg20_2 => ?_)
      ·simp only [sS,↓sT,Nat.reduceLT,Nat.reduceEqDiff,↓sO,↓WOps_g,sG,opV,loudV,cellsOf,strOp,evL,Nat.reduceAdd,Int.reduceBEq,Int.reduceBNe,len_strN,bs_mk,gt_iff_lt,hix,wrapI (x := (t : Int) + 1) (by omega) (by omega),hg20_2]
       refine hN20 _ ?_; try clear hN20 hD20 N20
       refine WC_condE ?_
       simp only [sS,↓sT,Nat.reduceLT,Nat.reduceEqDiff,↓stepC_bool]
       refine ⟨fun hb => ?_,fun hb => (by cases hb)⟩
       refine WC_seqR (fun N21 hN21 hD21 => ?_)
       simp only [sS,↓sT,Nat.reduceLT,Nat.reduceEqDiff,↓sO,↓WOps_g,sG,opV,loudV,cellsOf,strOp,evL,Nat.reduceAdd,Int.reduceBEq,Int.reduceBNe,len_strN,bs_mk,gt_iff_lt,hix,wrapI (x := (t : Int) + 1) (by omega) (by omega)]
       refine hN21 _ ?_; try clear hN21 hD21 N21
       refine WC_ret ?_; (try simp only [Exit.after,Exit.out]); refine Kend_ret (by simp only [resOf,resL,resV,mkS_get,slots_get,cellsOf,ti3,sS,↓sT,Nat.reduceLT,Nat.reduceEqDiff]; rfl) (by first | rfl | (simp only [ti3]; done) | (simp only [ti3,okV,ok1,okC,okP,List.all_cons,List.all_nil,Bool.and_true]; done)) ?_
       clear hN11 hD11 N11 hN6 hD6 N6
       rw [keep_bool,nameB_cons hc]
       first
       | (exfalso; have := of_decide_eq_true hg3_3; omega)
       | (refine congrArg V.bool (name_leaf hc2 h0 ?_ ?_).symm
          · first | (simp_all [letterB]; done) | (simp_all [letterB]; omega)
          · first | (right; simp_all; done) | (left; simp_all [digitB]; done) | (left; simp_all [digitB]; omega))
       | (simp_all; done)
       | (simp_all; omega)
      ·simp only [sS,↓sT,Nat.reduceLT,Nat.reduceEqDiff,↓sO,↓WOps_g,sG,opV,loudV,cellsOf,strOp,evL,Nat.reduceAdd,Int.reduceBEq,Int.reduceBNe,len_strN,bs_mk,gt_iff_lt,hix,wrapI (x := (t : Int) + 1) (by omega) (by omega),hg20_2]
       refine hN20 _ ?_; try clear hN20 hD20 N20
       refine WC_condE ?_
       simp only [sS,↓sT,Nat.reduceLT,Nat.reduceEqDiff,↓stepC_bool]
       refine ⟨fun hb => (by cases hb),fun hb => ?_⟩
       refine WC_skip ?_
       refine hN11 _ ?_; try clear hN11 hD11 N11
       refine WC_regN (fun N22 hN22 => ?_)
       simp only [sS,↓sT,Nat.reduceLT,Nat.reduceEqDiff,↓sO,↓WOps_g,sG,opV,loudV,cellsOf,strOp,evL,Nat.reduceAdd,Int.reduceBEq,Int.reduceBNe,len_strN,bs_mk,gt_iff_lt,hix,wrapI (x := (t : Int) + 1) (by omega) (by omega)]
       refine hN22 _ ?_; try clear hN22 N22
       refine ⟨t + 1,⟨_,rfl,⟨rfl,rfl,trivial⟩,ht, ?_,fun _ => ?_⟩,by omega⟩
       · rw [all_take hc2,htk]; simp_all [signB,digitB,letterB] <;> omega
       · rcases Nat.eq_zero_or_pos t with h | h
         · obtain rfl := h0 h; first | (simp_all [letterB]; done) | (simp_all [letterB] <;> omega)
         · exact hhead h
    ·simp only [sS,↓sT,Nat.reduceLT,Nat.reduceEqDiff,↓sO,↓WOps_g,sG,opV,loudV,cellsOf,strOp,evL,Nat.reduceAdd,Int.reduceBEq,Int.reduceBNe,ti9,len_strN,bs_mk,gt_iff_lt,hix,wrapI (x := (t : Int) + 1) (by omega) (by omega),hg12_4]
     refine hN12 _ ?_; try clear hN12 hD12 N12
     refine WC_seqR (fun N23 hN23 hD23 => ?_)
     simp only [sS,↓sT,Nat.reduceLT,Nat.reduceEqDiff,↓sO,↓WOps_g,sG,opV,loudV,cellsOf,strOp,evL,Nat.reduceAdd,Int.reduceBEq,Int.reduceBNe,ti9,len_strN,bs_mk,gt_iff_lt,hix,wrapI (x := (t : Int) + 1) (by omega) (by omega)]
     refine stepB_T (fun hg23_4 => ?_) (fun hg23_4 => ?_)
     ·simp only [sS,↓sT,Nat.reduceLT,Nat.reduceEqDiff,↓sO,↓WOps_g,sG,opV,loudV,cellsOf,strOp,evL,Nat.reduceAdd,Int.reduceBEq,Int.reduceBNe,ti9,len_strN,bs_mk,gt_iff_lt,hix,wrapI (x := (t : Int) + 1) (by omega) (by omega),hg23_4]
      refine hN23 _ ?_; try clear hN23 hD23 N23
      refine WC_seqR (fun N24 hN24 hD24 => ?_)
      simp only [sS,↓sT,Nat.reduceLT,Nat.reduceEqDiff,↓sO,↓WOps_g,sG,opV,loudV,cellsOf,strOp,evL,Nat.reduceAdd,Int.reduceBEq,Int.reduceBNe,len_strN,bs_mk,gt_iff_lt,hix,wrapI (x := (t : Int) + 1) (by omega) (by omega)]
      refine stepB_F (fun hg24_5 => ?_) (fun hg24_5 => ?_)
      ·simp only [sS,↓sT,Nat.reduceLT,Nat.reduceEqDiff,↓sO,↓WOps_g,sG,opV,loudV,cellsOf,strOp,evL,Nat.reduceAdd,Int.reduceBEq,Int.reduceBNe,len_strN,bs_mk,gt_iff_lt,hix,wrapI (x := (t : Int) + 1) (by omega) (by omega),hg24_5]
       refine hN24 _ ?_; try clear hN24 hD24 N24
       refine WC_condE ?_
       simp only [sS,↓sT,Nat.reduceLT,Nat.reduceEqDiff,↓stepC_bool]
       refine ⟨fun hb25 => ?_,fun hb25 => ?_⟩
       ·refine WC_seqR (fun N26 hN26 hD26 => ?_)
        simp only [sS,↓sT,Nat.reduceLT,Nat.reduceEqDiff,↓sO,↓WOps_g,sG,opV,loudV,cellsOf,strOp,evL,Nat.reduceAdd,Int.reduceBEq,Int.reduceBNe,len_strN,bs_mk,gt_iff_lt,hix,wrapI (x := (t : Int) + 1) (by omega) (by omega)]
        refine hN26 _ ?_; try clear hN26 hD26 N26
        refine WC_ret ?_; (try simp only [Exit.after,Exit.out]); refine Kend_ret (by simp only [resOf,resL,resV,mkS_get,slots_get,cellsOf,ti3,sS,↓sT,Nat.reduceLT,Nat.reduceEqDiff]; rfl) (by first | rfl | (simp only [ti3]; done) | (simp only [ti3,okV,ok1,okC,okP,List.all_cons,List.all_nil,Bool.and_true]; done)) ?_
        clear hN11 hD11 N11 hN6 hD6 N6
        rw [keep_bool,nameB_cons hc]
        first
        | (exfalso; have := of_decide_eq_true hg3_3; omega)
        | (refine congrArg V.bool (name_leaf hc2 h0 ?_ ?_).symm
           · first | (simp_all [letterB]; done) | (simp_all [letterB]; omega)
           · first | (right; simp_all; done) | (left; simp_all [digitB]; done) | (left; simp_all [digitB]; omega))
        | (simp_all; done)
        | (simp_all; omega)
       ·refine WC_skip ?_
        refine hN11 _ ?_; try clear hN11 hD11 N11
        refine WC_regN (fun N27 hN27 => ?_)
        simp only [sS,↓sT,Nat.reduceLT,Nat.reduceEqDiff,↓sO,↓WOps_g,sG,opV,loudV,cellsOf,strOp,evL,Nat.reduceAdd,Int.reduceBEq,Int.reduceBNe,len_strN,bs_mk,gt_iff_lt,hix,wrapI (x := (t : Int) + 1) (by omega) (by omega)]
        refine hN27 _ ?_; try clear hN27 N27
        refine ⟨t + 1,⟨_,rfl,⟨rfl,rfl,trivial⟩,ht, ?_,fun _ => ?_⟩,by omega⟩
        · rw [all_take hc2,htk]; simp_all [signB,digitB,letterB] <;> omega
        · rcases Nat.eq_zero_or_pos t with h | h
          · obtain rfl := h0 h; first | (simp_all [letterB]; done) | (simp_all [letterB] <;> omega)
          · exact hhead h
      ·simp only [sS,↓sT,Nat.reduceLT,Nat.reduceEqDiff,↓sO,↓WOps_g,sG,opV,loudV,cellsOf,strOp,evL,Nat.reduceAdd,Int.reduceBEq,Int.reduceBNe,len_strN,bs_mk,gt_iff_lt,hix,wrapI (x := (t : Int) + 1) (by omega) (by omega),hg24_5]
       refine hN24 _ ?_; try clear hN24 hD24 N24
       refine WC_condE ?_
       simp only [sS,↓sT,Nat.reduceLT,Nat.reduceEqDiff,↓stepC_bool]
       refine ⟨fun hb => ?_,fun hb => (by cases hb)⟩
       refine WC_seqR (fun N28 hN28 hD28 => ?_)
       simp only [sS,↓sT,Nat.reduceLT,Nat.reduceEqDiff,↓sO,↓WOps_g,sG,opV,loudV,cellsOf,strOp,evL,Nat.reduceAdd,Int.reduceBEq,Int.reduceBNe,len_strN,bs_mk,gt_iff_lt,hix,wrapI (x := (t : Int) + 1) (by omega) (by omega)]
       refine hN28 _ ?_; try clear hN28 hD28 N28
       refine WC_ret ?_; (try simp only [Exit.after,Exit.out]); refine Kend_ret (by simp only [resOf,resL,resV,mkS_get,slots_get,cellsOf,ti3,sS,↓sT,Nat.reduceLT,Nat.reduceEqDiff]; rfl) (by first | rfl | (simp only [ti3]; done) | (simp only [ti3,okV,ok1,okC,okP,List.all_cons,List.all_nil,Bool.and_true]; done)) ?_
       clear hN11 hD11 N11 hN6 hD6 N6
       rw [keep_bool,nameB_cons hc]
       first
       | (exfalso; have := of_decide_eq_true hg3_3; omega)
       | (refine congrArg V.bool (name_leaf hc2 h0 ?_ ?_).symm
          · first | (simp_all [letterB]; done) | (simp_all [letterB]; omega)
          · first | (right; simp_all; done) | (left; simp_all [digitB]; done) | (left; simp_all [digitB]; omega))
       | (simp_all; done)
       | (simp_all; omega)
     ·simp only [sS,↓sT,Nat.reduceLT,Nat.reduceEqDiff,↓sO,↓WOps_g,sG,opV,loudV,cellsOf,strOp,evL,Nat.reduceAdd,Int.reduceBEq,Int.reduceBNe,ti9,len_strN,bs_mk,gt_iff_lt,hix,wrapI (x := (t : Int) + 1) (by omega) (by omega),hg23_4]
      refine hN23 _ ?_; try clear hN23 hD23 N23
      refine WC_seqR (fun N29 hN29 hD29 => ?_)
      simp only [sS,↓sT,Nat.reduceLT,Nat.reduceEqDiff,↓sO,↓WOps_g,sG,opV,loudV,cellsOf,strOp,evL,Nat.reduceAdd,Int.reduceBEq,Int.reduceBNe,len_strN,bs_mk,gt_iff_lt,hix,wrapI (x := (t : Int) + 1) (by omega) (by omega)]
      refine hN29 _ ?_; try clear hN29 hD29 N29
      refine WC_condE ?_
      simp only [sS,↓sT,Nat.reduceLT,Nat.reduceEqDiff,↓stepC_bool]
      refine ⟨fun hb => ?_,fun hb => (by cases hb)⟩
      refine WC_seqR (fun N30 hN30 hD30 => ?_)
      simp only [sS,↓sT,Nat.reduceLT,Nat.reduceEqDiff,↓sO,↓WOps_g,sG,opV,loudV,cellsOf,strOp,evL,Nat.reduceAdd,Int.reduceBEq,Int.reduceBNe,len_strN,bs_mk,gt_iff_lt,hix,wrapI (x := (t : Int) + 1) (by omega) (by omega)]
      refine hN30 _ ?_; try clear hN30 hD30 N30
      refine WC_ret ?_; (try simp only [Exit.after,Exit.out]); refine Kend_ret (by simp only [resOf,resL,resV,mkS_get,slots_get,cellsOf,ti3,sS,↓sT,Nat.reduceLT,Nat.reduceEqDiff]; rfl) (by first | rfl | (simp only [ti3]; done) | (simp only [ti3,okV,ok1,okC,okP,List.all_cons,List.all_nil,Bool.and_true]; done)) ?_
      clear hN11 hD11 N11 hN6 hD6 N6
      rw [keep_bool,nameB_cons hc]
      first
      | (exfalso; have := of_decide_eq_true hg3_3; omega)
      | (refine congrArg V.bool (name_leaf hc2 h0 ?_ ?_).symm
         · first | (simp_all [letterB]; done) | (simp_all [letterB]; omega)
         · first | (right; simp_all; done) | (left; simp_all [digitB]; done) | (left; simp_all [digitB]; omega))
      | (simp_all; done)
      | (simp_all; omega)
   ·have ht : t = s.length := by have := of_decide_eq_false hb10; omega
    have hhd := hhead (by omega)
    clear hb10
    refine WC_exit ?_
    refine hN6 _ ?_; try clear hN6 hD6 N6
    refine WC_seqR (fun N31 hN31 hD31 => ?_)
    simp only [sS,↓sT,Nat.reduceLT,Nat.reduceEqDiff,↓sO,↓WOps_g,sG,opV,loudV,cellsOf,strOp,evL,Nat.reduceAdd,Int.reduceBEq,Int.reduceBNe,len_strN,bs_mk,gt_iff_lt]
    refine hN31 _ ?_; try clear hN31 hD31 N31
    refine WC_ret ?_; (try simp only [Exit.after,Exit.out]); refine Kend_ret (by simp only [resOf,resL,resV,mkS_get,slots_get,cellsOf,ti3,sS,↓sT,Nat.reduceLT,Nat.reduceEqDiff]; rfl) (by first | rfl | (simp only [ti3]; done) | (simp only [ti3,okV,ok1,okC,okP,List.all_cons,List.all_nil,Bool.and_true]; done)) ?_
    clear hN8 hD8 N8
    rw [keep_bool,nameB_cons hc]
    first
    | (exfalso; have := of_decide_eq_true hg3_3; omega)
    | (refine congrArg V.bool (name_leaf hc2 h0 ?_ ?_).symm
       · first | (simp_all [letterB]; done) | (simp_all [letterB]; omega)
       · first | (right; simp_all; done) | (left; simp_all [digitB]; done) | (left; simp_all [digitB]; omega))
    | (simp_all; done)
    | (simp_all; omega)
 ·simp only [sS,↓sT,Nat.reduceLT,Nat.reduceEqDiff,↓sO,↓WOps_g,sG,opV,loudV,cellsOf,strOp,evL,Nat.reduceAdd,Int.reduceBEq,Int.reduceBNe,ti9,len_strN,bs_mk,gt_iff_lt,hg3_3]
  refine hN3 _ ?_; try clear hN3 hD3 N3
  refine WC_condE ?_
  simp only [sS,↓sT,Nat.reduceLT,Nat.reduceEqDiff,↓stepC_bool]
  refine ⟨fun hb => ?_,fun hb => (by cases hb)⟩
  refine WC_seqR (fun N32 hN32 hD32 => ?_)
  simp only [sS,↓sT,Nat.reduceLT,Nat.reduceEqDiff,↓sO,↓WOps_g,sG,opV,loudV,cellsOf,strOp,evL,Nat.reduceAdd,Int.reduceBEq,Int.reduceBNe,len_strN,bs_mk,gt_iff_lt]
  refine hN32 _ ?_; try clear hN32 hD32 N32
  refine WC_ret ?_; (try simp only [Exit.after,Exit.out]); refine Kend_ret (by simp only [resOf,resL,resV,mkS_get,slots_get,cellsOf,ti3,sS,↓sT,Nat.reduceLT,Nat.reduceEqDiff]; rfl) (by first | rfl | (simp only [ti3]; done) | (simp only [ti3,okV,ok1,okC,okP,List.all_cons,List.all_nil,Bool.and_true]; done)) ?_
  clear hN2 hD2 N2
  rw [keep_bool,nameB_cons hc]
  first
  | (exfalso; have := of_decide_eq_true hg3_3; omega)
  | (refine congrArg V.bool (name_leaf hc2 h0 ?_ ?_).symm
     · first | (simp_all [letterB]; done) | (simp_all [letterB]; omega)
     · first | (right; simp_all; done) | (left; simp_all [digitB]; done) | (left; simp_all [digitB]; omega))
  | (simp_all; done)
  | (simp_all; omega)
theorem c_refname (s : List UInt8) : VC Try.prog 66 [.str s] [] (fun r _ => r = .bool (nameB s)) := by
  cases s with
  | nil => exact VC_closed (tab := tab) 10000 20 mixed names tabOk rfl rfl rfl rfl (by kernel_rfl)
  | cons c s => exact c_punnet_punnetref05_Name _ c rfl
end Go.PV
