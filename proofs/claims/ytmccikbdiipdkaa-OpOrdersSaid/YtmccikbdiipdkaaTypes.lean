/- The types of the program. -/
import Derived.Test.YtmccikbdiipdkaaPWb
import Derived.Test.YtmccikbdiipdkaaChecked
namespace Go.PV
open Go.Proofs
theorem ti1 : ti Try.prog 1 = some ⟨.func, 1, 8, some [.nilf]⟩ := by kernel_rfl
theorem ti2 : ti Try.prog 2 = some ⟨.int .i64, 1, 8, some [.int .i64 0]⟩ := by kernel_rfl
theorem ti3 : ti Try.prog 3 = some ⟨.int .i64, 1, 8, some [.int .i64 0]⟩ := by kernel_rfl
theorem ti4 : ti Try.prog 4 = some ⟨.bool, 1, 1, some [.bool false]⟩ := by kernel_rfl
theorem ti5 : ti Try.prog 5 = some ⟨.int .u8, 1, 1, some [.int .u8 0]⟩ := by kernel_rfl
theorem ti6 : ti Try.prog 6 = some ⟨.int .u8, 1, 1, some [.int .u8 0]⟩ := by kernel_rfl
theorem ti7 : ti Try.prog 7 = some ⟨.struct [(0, 2), (1, 3), (2, 4), (3, 6)], 4, 24, some [.int .i64 0, .int .i64 0, .bool false, .int .u8 0]⟩ := by kernel_rfl
theorem ti8 : ti Try.prog 8 = some ⟨.struct [(0, 2), (1, 3), (2, 4), (3, 6)], 4, 24, some [.int .i64 0, .int .i64 0, .bool false, .int .u8 0]⟩ := by kernel_rfl
theorem ti9 : ti Try.prog 9 = some ⟨.str, 1, 16, some [.str []]⟩ := by kernel_rfl
theorem ti10 : ti Try.prog 10 = some ⟨.str, 1, 16, some [.str []]⟩ := by kernel_rfl
theorem ti11 : ti Try.prog 11 = some ⟨.str, 1, 16, some [.str []]⟩ := by kernel_rfl
theorem ti12 : ti Try.prog 12 = some ⟨.int .u64, 1, 8, some [.int .u64 0]⟩ := by kernel_rfl
theorem ti13 : ti Try.prog 13 = some ⟨.struct [(0, 9), (1, 12)], 2, 24, some [.str [], .int .u64 0]⟩ := by kernel_rfl
theorem ti14 : ti Try.prog 14 = some ⟨.struct [(0, 9), (1, 12)], 2, 24, some [.str [], .int .u64 0]⟩ := by kernel_rfl
theorem ti15 : ti Try.prog 15 = some ⟨.ptr 108, 1, 8, some [.nilp]⟩ := by kernel_rfl
theorem ti16 : ti Try.prog 16 = some ⟨.ptr 111, 1, 8, some [.nilp]⟩ := by kernel_rfl
theorem ti17 : ti Try.prog 17 = some ⟨.ptr 120, 1, 8, some [.nilp]⟩ := by kernel_rfl
theorem ti18 : ti Try.prog 18 = some ⟨.struct [(0, 17)], 1, 8, some [.nilp]⟩ := by kernel_rfl
theorem ti19 : ti Try.prog 19 = some ⟨.struct [(0, 17)], 1, 8, some [.nilp]⟩ := by kernel_rfl
theorem ti21 : ti Try.prog 21 = some ⟨.int .i32, 1, 4, some [.int .i32 0]⟩ := by kernel_rfl
theorem ti22 : ti Try.prog 22 = some ⟨.struct [(0, 3), (1, 3)], 2, 16, some [.int .i64 0, .int .i64 0]⟩ := by kernel_rfl
theorem ti23 : ti Try.prog 23 = some ⟨.struct [(0, 3), (1, 3)], 2, 16, some [.int .i64 0, .int .i64 0]⟩ := by kernel_rfl
theorem ti24 : ti Try.prog 24 = some ⟨.struct [(0, 3), (1, 9), (2, 9)], 3, 40, some [.int .i64 0, .str [], .str []]⟩ := by kernel_rfl
theorem ti25 : ti Try.prog 25 = some ⟨.struct [(0, 3), (1, 9), (2, 9)], 3, 40, some [.int .i64 0, .str [], .str []]⟩ := by kernel_rfl
theorem ti26 : ti Try.prog 26 = some ⟨.slice 23, 1, 24, some [.nils]⟩ := by kernel_rfl
theorem ti27 : ti Try.prog 27 = some ⟨.struct [(0, 23), (2, 23), (4, 2), (5, 9), (6, 3), (7, 9), (8, 25), (11, 2), (12, 4), (13, 9), (14, 26)], 15, 176, some [.int .i64 0, .int .i64 0, .int .i64 0, .int .i64 0, .int .i64 0, .str [], .int .i64 0, .str [], .int .i64 0, .str [], .str [], .int .i64 0, .bool false, .str [], .nils]⟩ := by kernel_rfl
theorem ti28 : ti Try.prog 28 = some ⟨.struct [(0, 23), (2, 23), (4, 2), (5, 9), (6, 3), (7, 9), (8, 25), (11, 2), (12, 4), (13, 9), (14, 26)], 15, 176, some [.int .i64 0, .int .i64 0, .int .i64 0, .int .i64 0, .int .i64 0, .str [], .int .i64 0, .str [], .int .i64 0, .str [], .str [], .int .i64 0, .bool false, .str [], .nils]⟩ := by kernel_rfl
theorem ti29 : ti Try.prog 29 = some ⟨.func, 1, 8, some [.nilf]⟩ := by kernel_rfl
theorem ti30 : ti Try.prog 30 = some ⟨.func, 1, 8, some [.nilf]⟩ := by kernel_rfl
theorem ti31 : ti Try.prog 31 = some ⟨.func, 1, 8, some [.nilf]⟩ := by kernel_rfl
theorem ti32 : ti Try.prog 32 = some ⟨.func, 1, 8, some [.nilf]⟩ := by kernel_rfl
theorem ti33 : ti Try.prog 33 = some ⟨.func, 1, 8, some [.nilf]⟩ := by kernel_rfl
theorem ti34 : ti Try.prog 34 = some ⟨.ptr 57, 1, 8, some [.nilp]⟩ := by kernel_rfl
theorem ti35 : ti Try.prog 35 = some ⟨.func, 1, 8, some [.nilf]⟩ := by kernel_rfl
theorem ti36 : ti Try.prog 36 = some ⟨.slice 5, 1, 24, some [.nils]⟩ := by kernel_rfl
theorem ti37 : ti Try.prog 37 = some ⟨.func, 1, 8, some [.nilf]⟩ := by kernel_rfl
theorem ti38 : ti Try.prog 38 = some ⟨.func, 1, 8, some [.nilf]⟩ := by kernel_rfl
theorem ti39 : ti Try.prog 39 = some ⟨.int .i64, 1, 8, some [.int .i64 0]⟩ := by kernel_rfl
theorem ti40 : ti Try.prog 40 = some ⟨.func, 1, 8, some [.nilf]⟩ := by kernel_rfl
theorem ti41 : ti Try.prog 41 = some ⟨.slice 36, 1, 24, some [.nils]⟩ := by kernel_rfl
theorem ti43 : ti Try.prog 43 = some ⟨.func, 1, 8, some [.nilf]⟩ := by kernel_rfl
theorem ti44 : ti Try.prog 44 = some ⟨.func, 1, 8, some [.nilf]⟩ := by kernel_rfl
theorem ti45 : ti Try.prog 45 = some ⟨.func, 1, 8, some [.nilf]⟩ := by kernel_rfl
theorem ti46 : ti Try.prog 46 = some ⟨.func, 1, 8, some [.nilf]⟩ := by kernel_rfl
theorem ti47 : ti Try.prog 47 = some ⟨.slice 80, 1, 24, some [.nils]⟩ := by kernel_rfl
theorem ti48 : ti Try.prog 48 = some ⟨.func, 1, 8, some [.nilf]⟩ := by kernel_rfl
theorem ti49 : ti Try.prog 49 = some ⟨.func, 1, 8, some [.nilf]⟩ := by kernel_rfl
theorem ti50 : ti Try.prog 50 = some ⟨.func, 1, 8, some [.nilf]⟩ := by kernel_rfl
theorem ti51 : ti Try.prog 51 = some ⟨.func, 1, 8, some [.nilf]⟩ := by kernel_rfl
theorem ti52 : ti Try.prog 52 = some ⟨.func, 1, 8, some [.nilf]⟩ := by kernel_rfl
theorem ti53 : ti Try.prog 53 = some ⟨.func, 1, 8, some [.nilf]⟩ := by kernel_rfl
theorem ti54 : ti Try.prog 54 = some ⟨.func, 1, 8, some [.nilf]⟩ := by kernel_rfl
theorem ti55 : ti Try.prog 55 = some ⟨.func, 1, 8, some [.nilf]⟩ := by kernel_rfl
theorem ti56 : ti Try.prog 56 = some ⟨.struct [(0, 36), (1, 3), (2, 3), (3, 4)], 4, 48, some [.nils, .int .i64 0, .int .i64 0, .bool false]⟩ := by kernel_rfl
theorem ti57 : ti Try.prog 57 = some ⟨.struct [(0, 36), (1, 3), (2, 3), (3, 4)], 4, 48, some [.nils, .int .i64 0, .int .i64 0, .bool false]⟩ := by kernel_rfl
theorem ti58 : ti Try.prog 58 = some ⟨.func, 1, 8, some [.nilf]⟩ := by kernel_rfl
theorem ti59 : ti Try.prog 59 = some ⟨.func, 1, 8, some [.nilf]⟩ := by kernel_rfl
theorem ti60 : ti Try.prog 60 = some ⟨.func, 1, 8, some [.nilf]⟩ := by kernel_rfl
theorem ti61 : ti Try.prog 61 = some ⟨.func, 1, 8, some [.nilf]⟩ := by kernel_rfl
theorem ti62 : ti Try.prog 62 = some ⟨.func, 1, 8, some [.nilf]⟩ := by kernel_rfl
theorem ti63 : ti Try.prog 63 = some ⟨.func, 1, 8, some [.nilf]⟩ := by kernel_rfl
theorem ti64 : ti Try.prog 64 = some ⟨.func, 1, 8, some [.nilf]⟩ := by kernel_rfl
theorem ti65 : ti Try.prog 65 = some ⟨.func, 1, 8, some [.nilf]⟩ := by kernel_rfl
theorem ti66 : ti Try.prog 66 = some ⟨.func, 1, 8, some [.nilf]⟩ := by kernel_rfl
theorem ti67 : ti Try.prog 67 = some ⟨.func, 1, 8, some [.nilf]⟩ := by kernel_rfl
theorem ti68 : ti Try.prog 68 = some ⟨.func, 1, 8, some [.nilf]⟩ := by kernel_rfl
theorem ti69 : ti Try.prog 69 = some ⟨.arr 6 3, 6, 48, some [.int .i64 0, .int .i64 0, .int .i64 0, .int .i64 0, .int .i64 0, .int .i64 0]⟩ := by kernel_rfl
theorem ti70 : ti Try.prog 70 = some ⟨.arr 6 3, 6, 48, some [.int .i64 0, .int .i64 0, .int .i64 0, .int .i64 0, .int .i64 0, .int .i64 0]⟩ := by kernel_rfl
theorem ti71 : ti Try.prog 71 = some ⟨.struct [(0, 3), (1, 2), (2, 9), (3, 4), (4, 23), (6, 70), (12, 25), (15, 3)], 16, 152, some [.int .i64 0, .int .i64 0, .str [], .bool false, .int .i64 0, .int .i64 0, .int .i64 0, .int .i64 0, .int .i64 0, .int .i64 0, .int .i64 0, .int .i64 0, .int .i64 0, .str [], .str [], .int .i64 0]⟩ := by kernel_rfl
theorem ti72 : ti Try.prog 72 = some ⟨.struct [(0, 3), (1, 2), (2, 9), (3, 4), (4, 23), (6, 70), (12, 25), (15, 3)], 16, 152, some [.int .i64 0, .int .i64 0, .str [], .bool false, .int .i64 0, .int .i64 0, .int .i64 0, .int .i64 0, .int .i64 0, .int .i64 0, .int .i64 0, .int .i64 0, .int .i64 0, .str [], .str [], .int .i64 0]⟩ := by kernel_rfl
theorem ti73 : ti Try.prog 73 = some ⟨.func, 1, 8, some [.nilf]⟩ := by kernel_rfl
theorem ti74 : ti Try.prog 74 = some ⟨.func, 1, 8, some [.nilf]⟩ := by kernel_rfl
theorem ti75 : ti Try.prog 75 = some ⟨.slice 72, 1, 24, some [.nils]⟩ := by kernel_rfl
theorem ti77 : ti Try.prog 77 = some ⟨.func, 1, 8, some [.nilf]⟩ := by kernel_rfl
theorem ti78 : ti Try.prog 78 = some ⟨.slice 9, 1, 24, some [.nils]⟩ := by kernel_rfl
theorem ti79 : ti Try.prog 79 = some ⟨.struct [(0, 25), (3, 3), (4, 9), (5, 78), (6, 2)], 7, 96, some [.int .i64 0, .str [], .str [], .int .i64 0, .str [], .nils, .int .i64 0]⟩ := by kernel_rfl
theorem ti80 : ti Try.prog 80 = some ⟨.struct [(0, 25), (3, 3), (4, 9), (5, 78), (6, 2)], 7, 96, some [.int .i64 0, .str [], .str [], .int .i64 0, .str [], .nils, .int .i64 0]⟩ := by kernel_rfl
theorem ti82 : ti Try.prog 82 = some ⟨.func, 1, 8, some [.nilf]⟩ := by kernel_rfl
theorem ti83 : ti Try.prog 83 = some ⟨.func, 1, 8, some [.nilf]⟩ := by kernel_rfl
theorem ti84 : ti Try.prog 84 = some ⟨.func, 1, 8, some [.nilf]⟩ := by kernel_rfl
theorem ti86 : ti Try.prog 86 = some ⟨.func, 1, 8, some [.nilf]⟩ := by kernel_rfl
theorem ti87 : ti Try.prog 87 = some ⟨.func, 1, 8, some [.nilf]⟩ := by kernel_rfl
theorem ti88 : ti Try.prog 88 = some ⟨.int .u64, 1, 8, some [.int .u64 0]⟩ := by kernel_rfl
theorem ti89 : ti Try.prog 89 = some ⟨.func, 1, 8, some [.nilf]⟩ := by kernel_rfl
theorem ti91 : ti Try.prog 91 = some ⟨.func, 1, 8, some [.nilf]⟩ := by kernel_rfl
theorem ti92 : ti Try.prog 92 = some ⟨.func, 1, 8, some [.nilf]⟩ := by kernel_rfl
theorem ti93 : ti Try.prog 93 = some ⟨.func, 1, 8, some [.nilf]⟩ := by kernel_rfl
theorem ti94 : ti Try.prog 94 = some ⟨.func, 1, 8, some [.nilf]⟩ := by kernel_rfl
theorem ti95 : ti Try.prog 95 = some ⟨.func, 1, 8, some [.nilf]⟩ := by kernel_rfl
theorem ti96 : ti Try.prog 96 = some ⟨.func, 1, 8, some [.nilf]⟩ := by kernel_rfl
theorem ti97 : ti Try.prog 97 = some ⟨.func, 1, 8, some [.nilf]⟩ := by kernel_rfl
theorem ti98 : ti Try.prog 98 = some ⟨.func, 1, 8, some [.nilf]⟩ := by kernel_rfl
theorem ti99 : ti Try.prog 99 = some ⟨.int .u64, 1, 8, some [.int .u64 0]⟩ := by kernel_rfl
theorem ti100 : ti Try.prog 100 = some ⟨.func, 1, 8, some [.nilf]⟩ := by kernel_rfl
theorem ti101 : ti Try.prog 101 = some ⟨.func, 1, 8, some [.nilf]⟩ := by kernel_rfl
theorem ti102 : ti Try.prog 102 = some ⟨.func, 1, 8, some [.nilf]⟩ := by kernel_rfl
theorem ti103 : ti Try.prog 103 = some ⟨.func, 1, 8, some [.nilf]⟩ := by kernel_rfl
theorem ti104 : ti Try.prog 104 = some ⟨.func, 1, 8, some [.nilf]⟩ := by kernel_rfl
theorem ti105 : ti Try.prog 105 = some ⟨.slice 3, 1, 24, some [.nils]⟩ := by kernel_rfl
theorem ti106 : ti Try.prog 106 = some ⟨.func, 1, 8, some [.nilf]⟩ := by kernel_rfl
theorem ti107 : ti Try.prog 107 = some ⟨.struct [(0, 17), (1, 17), (2, 17), (3, 9)], 4, 40, some [.nilp, .nilp, .nilp, .str []]⟩ := by kernel_rfl
theorem ti108 : ti Try.prog 108 = some ⟨.struct [(0, 17), (1, 17), (2, 17), (3, 9)], 4, 40, some [.nilp, .nilp, .nilp, .str []]⟩ := by kernel_rfl
theorem ti109 : ti Try.prog 109 = some ⟨.arr 0 16, 0, 0, some []⟩ := by kernel_rfl
theorem ti110 : ti Try.prog 110 = some ⟨.struct [(0, 109)], 0, 0, some []⟩ := by kernel_rfl
theorem ti111 : ti Try.prog 111 = some ⟨.struct [(0, 109)], 0, 0, some []⟩ := by kernel_rfl
theorem ti112 : ti Try.prog 112 = some ⟨.int .u32, 1, 4, some [.int .u32 0]⟩ := by kernel_rfl
theorem ti113 : ti Try.prog 113 = some ⟨.int .u8, 1, 1, some [.int .u8 0]⟩ := by kernel_rfl
theorem ti114 : ti Try.prog 114 = some ⟨.int .u8, 1, 1, some [.int .u8 0]⟩ := by kernel_rfl
theorem ti115 : ti Try.prog 115 = some ⟨.func, 1, 8, some [.nilf]⟩ := by kernel_rfl
theorem ti116 : ti Try.prog 116 = some ⟨.ptr 5, 1, 8, some [.nilp]⟩ := by kernel_rfl
theorem ti117 : ti Try.prog 117 = some ⟨.int .i32, 1, 4, some [.int .i32 0]⟩ := by kernel_rfl
theorem ti118 : ti Try.prog 118 = some ⟨.int .i32, 1, 4, some [.int .i32 0]⟩ := by kernel_rfl
theorem ti119 : ti Try.prog 119 = some ⟨.struct [(0, 12), (1, 12), (2, 112), (3, 113), (4, 5), (5, 5), (6, 114), (7, 115), (8, 116), (9, 117), (10, 118)], 11, 48, some [.int .u64 0, .int .u64 0, .int .u32 0, .int .u8 0, .int .u8 0, .int .u8 0, .int .u8 0, .nilf, .nilp, .int .i32 0, .int .i32 0]⟩ := by kernel_rfl
theorem ti120 : ti Try.prog 120 = some ⟨.struct [(0, 12), (1, 12), (2, 112), (3, 113), (4, 5), (5, 5), (6, 114), (7, 115), (8, 116), (9, 117), (10, 118)], 11, 48, some [.int .u64 0, .int .u64 0, .int .u32 0, .int .u8 0, .int .u8 0, .int .u8 0, .int .u8 0, .nilf, .nilp, .int .i32 0, .int .i32 0]⟩ := by kernel_rfl
theorem ti121 : ti Try.prog 121 = some ⟨.other, 1, 8, some [.nilp]⟩ := by kernel_rfl
theorem fa7_0 (b o : Nat) : fieldAddrV Try.prog 7 (.ptr b o) 0 = some (.ptr b (o + 0)) := by simp [fieldAddrV, ti7, ti2]
theorem fr7_0 (cs : List V) : fieldAddrV Try.prog 7 (.rptr cs) 0 = some (.rptr (cs.drop 0)) := by simp [fieldAddrV, ti7, ti2]
theorem fv7_0 (cs : List V) : fieldV Try.prog 7 (.agg cs) 0 = cs[0]? := by simp [fieldV, ti7, ti2, partV, TD.agg]
theorem fa7_1 (b o : Nat) : fieldAddrV Try.prog 7 (.ptr b o) 1 = some (.ptr b (o + 1)) := by simp [fieldAddrV, ti7, ti3]
theorem fr7_1 (cs : List V) : fieldAddrV Try.prog 7 (.rptr cs) 1 = some (.rptr (cs.drop 1)) := by simp [fieldAddrV, ti7, ti3]
theorem fv7_1 (cs : List V) : fieldV Try.prog 7 (.agg cs) 1 = cs[1]? := by simp [fieldV, ti7, ti3, partV, TD.agg]
theorem fa7_2 (b o : Nat) : fieldAddrV Try.prog 7 (.ptr b o) 2 = some (.ptr b (o + 2)) := by simp [fieldAddrV, ti7, ti4]
theorem fr7_2 (cs : List V) : fieldAddrV Try.prog 7 (.rptr cs) 2 = some (.rptr (cs.drop 2)) := by simp [fieldAddrV, ti7, ti4]
theorem fv7_2 (cs : List V) : fieldV Try.prog 7 (.agg cs) 2 = cs[2]? := by simp [fieldV, ti7, ti4, partV, TD.agg]
theorem fa7_3 (b o : Nat) : fieldAddrV Try.prog 7 (.ptr b o) 3 = some (.ptr b (o + 3)) := by simp [fieldAddrV, ti7, ti6]
theorem fr7_3 (cs : List V) : fieldAddrV Try.prog 7 (.rptr cs) 3 = some (.rptr (cs.drop 3)) := by simp [fieldAddrV, ti7, ti6]
theorem fv7_3 (cs : List V) : fieldV Try.prog 7 (.agg cs) 3 = cs[3]? := by simp [fieldV, ti7, ti6, partV, TD.agg]
theorem fa8_0 (b o : Nat) : fieldAddrV Try.prog 8 (.ptr b o) 0 = some (.ptr b (o + 0)) := by simp [fieldAddrV, ti8, ti2]
theorem fr8_0 (cs : List V) : fieldAddrV Try.prog 8 (.rptr cs) 0 = some (.rptr (cs.drop 0)) := by simp [fieldAddrV, ti8, ti2]
theorem fv8_0 (cs : List V) : fieldV Try.prog 8 (.agg cs) 0 = cs[0]? := by simp [fieldV, ti8, ti2, partV, TD.agg]
theorem fa8_1 (b o : Nat) : fieldAddrV Try.prog 8 (.ptr b o) 1 = some (.ptr b (o + 1)) := by simp [fieldAddrV, ti8, ti3]
theorem fr8_1 (cs : List V) : fieldAddrV Try.prog 8 (.rptr cs) 1 = some (.rptr (cs.drop 1)) := by simp [fieldAddrV, ti8, ti3]
theorem fv8_1 (cs : List V) : fieldV Try.prog 8 (.agg cs) 1 = cs[1]? := by simp [fieldV, ti8, ti3, partV, TD.agg]
theorem fa8_2 (b o : Nat) : fieldAddrV Try.prog 8 (.ptr b o) 2 = some (.ptr b (o + 2)) := by simp [fieldAddrV, ti8, ti4]
theorem fr8_2 (cs : List V) : fieldAddrV Try.prog 8 (.rptr cs) 2 = some (.rptr (cs.drop 2)) := by simp [fieldAddrV, ti8, ti4]
theorem fv8_2 (cs : List V) : fieldV Try.prog 8 (.agg cs) 2 = cs[2]? := by simp [fieldV, ti8, ti4, partV, TD.agg]
theorem fa8_3 (b o : Nat) : fieldAddrV Try.prog 8 (.ptr b o) 3 = some (.ptr b (o + 3)) := by simp [fieldAddrV, ti8, ti6]
theorem fr8_3 (cs : List V) : fieldAddrV Try.prog 8 (.rptr cs) 3 = some (.rptr (cs.drop 3)) := by simp [fieldAddrV, ti8, ti6]
theorem fv8_3 (cs : List V) : fieldV Try.prog 8 (.agg cs) 3 = cs[3]? := by simp [fieldV, ti8, ti6, partV, TD.agg]
theorem fa13_0 (b o : Nat) : fieldAddrV Try.prog 13 (.ptr b o) 0 = some (.ptr b (o + 0)) := by simp [fieldAddrV, ti13, ti9]
theorem fr13_0 (cs : List V) : fieldAddrV Try.prog 13 (.rptr cs) 0 = some (.rptr (cs.drop 0)) := by simp [fieldAddrV, ti13, ti9]
theorem fv13_0 (cs : List V) : fieldV Try.prog 13 (.agg cs) 0 = cs[0]? := by simp [fieldV, ti13, ti9, partV, TD.agg]
theorem fa13_1 (b o : Nat) : fieldAddrV Try.prog 13 (.ptr b o) 1 = some (.ptr b (o + 1)) := by simp [fieldAddrV, ti13, ti12]
theorem fr13_1 (cs : List V) : fieldAddrV Try.prog 13 (.rptr cs) 1 = some (.rptr (cs.drop 1)) := by simp [fieldAddrV, ti13, ti12]
theorem fv13_1 (cs : List V) : fieldV Try.prog 13 (.agg cs) 1 = cs[1]? := by simp [fieldV, ti13, ti12, partV, TD.agg]
theorem fa14_0 (b o : Nat) : fieldAddrV Try.prog 14 (.ptr b o) 0 = some (.ptr b (o + 0)) := by simp [fieldAddrV, ti14, ti9]
theorem fr14_0 (cs : List V) : fieldAddrV Try.prog 14 (.rptr cs) 0 = some (.rptr (cs.drop 0)) := by simp [fieldAddrV, ti14, ti9]
theorem fv14_0 (cs : List V) : fieldV Try.prog 14 (.agg cs) 0 = cs[0]? := by simp [fieldV, ti14, ti9, partV, TD.agg]
theorem fa14_1 (b o : Nat) : fieldAddrV Try.prog 14 (.ptr b o) 1 = some (.ptr b (o + 1)) := by simp [fieldAddrV, ti14, ti12]
theorem fr14_1 (cs : List V) : fieldAddrV Try.prog 14 (.rptr cs) 1 = some (.rptr (cs.drop 1)) := by simp [fieldAddrV, ti14, ti12]
theorem fv14_1 (cs : List V) : fieldV Try.prog 14 (.agg cs) 1 = cs[1]? := by simp [fieldV, ti14, ti12, partV, TD.agg]
theorem fa18_0 (b o : Nat) : fieldAddrV Try.prog 18 (.ptr b o) 0 = some (.ptr b (o + 0)) := by simp [fieldAddrV, ti18, ti17]
theorem fr18_0 (cs : List V) : fieldAddrV Try.prog 18 (.rptr cs) 0 = some (.rptr (cs.drop 0)) := by simp [fieldAddrV, ti18, ti17]
theorem fv18_0 (cs : List V) : fieldV Try.prog 18 (.agg cs) 0 = cs[0]? := by simp [fieldV, ti18, ti17, partV, TD.agg]
theorem fa19_0 (b o : Nat) : fieldAddrV Try.prog 19 (.ptr b o) 0 = some (.ptr b (o + 0)) := by simp [fieldAddrV, ti19, ti17]
theorem fr19_0 (cs : List V) : fieldAddrV Try.prog 19 (.rptr cs) 0 = some (.rptr (cs.drop 0)) := by simp [fieldAddrV, ti19, ti17]
theorem fv19_0 (cs : List V) : fieldV Try.prog 19 (.agg cs) 0 = cs[0]? := by simp [fieldV, ti19, ti17, partV, TD.agg]
theorem fa22_0 (b o : Nat) : fieldAddrV Try.prog 22 (.ptr b o) 0 = some (.ptr b (o + 0)) := by simp [fieldAddrV, ti22, ti3]
theorem fr22_0 (cs : List V) : fieldAddrV Try.prog 22 (.rptr cs) 0 = some (.rptr (cs.drop 0)) := by simp [fieldAddrV, ti22, ti3]
theorem fv22_0 (cs : List V) : fieldV Try.prog 22 (.agg cs) 0 = cs[0]? := by simp [fieldV, ti22, ti3, partV, TD.agg]
theorem fa22_1 (b o : Nat) : fieldAddrV Try.prog 22 (.ptr b o) 1 = some (.ptr b (o + 1)) := by simp [fieldAddrV, ti22, ti3]
theorem fr22_1 (cs : List V) : fieldAddrV Try.prog 22 (.rptr cs) 1 = some (.rptr (cs.drop 1)) := by simp [fieldAddrV, ti22, ti3]
theorem fv22_1 (cs : List V) : fieldV Try.prog 22 (.agg cs) 1 = cs[1]? := by simp [fieldV, ti22, ti3, partV, TD.agg]
theorem fa23_0 (b o : Nat) : fieldAddrV Try.prog 23 (.ptr b o) 0 = some (.ptr b (o + 0)) := by simp [fieldAddrV, ti23, ti3]
theorem fr23_0 (cs : List V) : fieldAddrV Try.prog 23 (.rptr cs) 0 = some (.rptr (cs.drop 0)) := by simp [fieldAddrV, ti23, ti3]
theorem fv23_0 (cs : List V) : fieldV Try.prog 23 (.agg cs) 0 = cs[0]? := by simp [fieldV, ti23, ti3, partV, TD.agg]
theorem fa23_1 (b o : Nat) : fieldAddrV Try.prog 23 (.ptr b o) 1 = some (.ptr b (o + 1)) := by simp [fieldAddrV, ti23, ti3]
theorem fr23_1 (cs : List V) : fieldAddrV Try.prog 23 (.rptr cs) 1 = some (.rptr (cs.drop 1)) := by simp [fieldAddrV, ti23, ti3]
theorem fv23_1 (cs : List V) : fieldV Try.prog 23 (.agg cs) 1 = cs[1]? := by simp [fieldV, ti23, ti3, partV, TD.agg]
theorem fa24_0 (b o : Nat) : fieldAddrV Try.prog 24 (.ptr b o) 0 = some (.ptr b (o + 0)) := by simp [fieldAddrV, ti24, ti3]
theorem fr24_0 (cs : List V) : fieldAddrV Try.prog 24 (.rptr cs) 0 = some (.rptr (cs.drop 0)) := by simp [fieldAddrV, ti24, ti3]
theorem fv24_0 (cs : List V) : fieldV Try.prog 24 (.agg cs) 0 = cs[0]? := by simp [fieldV, ti24, ti3, partV, TD.agg]
theorem fa24_1 (b o : Nat) : fieldAddrV Try.prog 24 (.ptr b o) 1 = some (.ptr b (o + 1)) := by simp [fieldAddrV, ti24, ti9]
theorem fr24_1 (cs : List V) : fieldAddrV Try.prog 24 (.rptr cs) 1 = some (.rptr (cs.drop 1)) := by simp [fieldAddrV, ti24, ti9]
theorem fv24_1 (cs : List V) : fieldV Try.prog 24 (.agg cs) 1 = cs[1]? := by simp [fieldV, ti24, ti9, partV, TD.agg]
theorem fa24_2 (b o : Nat) : fieldAddrV Try.prog 24 (.ptr b o) 2 = some (.ptr b (o + 2)) := by simp [fieldAddrV, ti24, ti9]
theorem fr24_2 (cs : List V) : fieldAddrV Try.prog 24 (.rptr cs) 2 = some (.rptr (cs.drop 2)) := by simp [fieldAddrV, ti24, ti9]
theorem fv24_2 (cs : List V) : fieldV Try.prog 24 (.agg cs) 2 = cs[2]? := by simp [fieldV, ti24, ti9, partV, TD.agg]
theorem fa25_0 (b o : Nat) : fieldAddrV Try.prog 25 (.ptr b o) 0 = some (.ptr b (o + 0)) := by simp [fieldAddrV, ti25, ti3]
theorem fr25_0 (cs : List V) : fieldAddrV Try.prog 25 (.rptr cs) 0 = some (.rptr (cs.drop 0)) := by simp [fieldAddrV, ti25, ti3]
theorem fv25_0 (cs : List V) : fieldV Try.prog 25 (.agg cs) 0 = cs[0]? := by simp [fieldV, ti25, ti3, partV, TD.agg]
theorem fa25_1 (b o : Nat) : fieldAddrV Try.prog 25 (.ptr b o) 1 = some (.ptr b (o + 1)) := by simp [fieldAddrV, ti25, ti9]
theorem fr25_1 (cs : List V) : fieldAddrV Try.prog 25 (.rptr cs) 1 = some (.rptr (cs.drop 1)) := by simp [fieldAddrV, ti25, ti9]
theorem fv25_1 (cs : List V) : fieldV Try.prog 25 (.agg cs) 1 = cs[1]? := by simp [fieldV, ti25, ti9, partV, TD.agg]
theorem fa25_2 (b o : Nat) : fieldAddrV Try.prog 25 (.ptr b o) 2 = some (.ptr b (o + 2)) := by simp [fieldAddrV, ti25, ti9]
theorem fr25_2 (cs : List V) : fieldAddrV Try.prog 25 (.rptr cs) 2 = some (.rptr (cs.drop 2)) := by simp [fieldAddrV, ti25, ti9]
theorem fv25_2 (cs : List V) : fieldV Try.prog 25 (.agg cs) 2 = cs[2]? := by simp [fieldV, ti25, ti9, partV, TD.agg]
theorem fa27_0 (b o : Nat) : fieldAddrV Try.prog 27 (.ptr b o) 0 = some (.ptr b (o + 0)) := by simp [fieldAddrV, ti27, ti23]
theorem fr27_0 (cs : List V) : fieldAddrV Try.prog 27 (.rptr cs) 0 = some (.rptr (cs.drop 0)) := by simp [fieldAddrV, ti27, ti23]
theorem fv27_0 (cs : List V) : fieldV Try.prog 27 (.agg cs) 0 = if 0 + 2 ≤ cs.length then some (.agg ((cs.drop 0).take 2)) else none := by simp [fieldV, ti27, ti23, partV, TD.agg]
theorem fa27_1 (b o : Nat) : fieldAddrV Try.prog 27 (.ptr b o) 1 = some (.ptr b (o + 2)) := by simp [fieldAddrV, ti27, ti23]
theorem fr27_1 (cs : List V) : fieldAddrV Try.prog 27 (.rptr cs) 1 = some (.rptr (cs.drop 2)) := by simp [fieldAddrV, ti27, ti23]
theorem fv27_1 (cs : List V) : fieldV Try.prog 27 (.agg cs) 1 = if 2 + 2 ≤ cs.length then some (.agg ((cs.drop 2).take 2)) else none := by simp [fieldV, ti27, ti23, partV, TD.agg]
theorem fa27_2 (b o : Nat) : fieldAddrV Try.prog 27 (.ptr b o) 2 = some (.ptr b (o + 4)) := by simp [fieldAddrV, ti27, ti2]
theorem fr27_2 (cs : List V) : fieldAddrV Try.prog 27 (.rptr cs) 2 = some (.rptr (cs.drop 4)) := by simp [fieldAddrV, ti27, ti2]
theorem fv27_2 (cs : List V) : fieldV Try.prog 27 (.agg cs) 2 = cs[4]? := by simp [fieldV, ti27, ti2, partV, TD.agg]
theorem fa27_3 (b o : Nat) : fieldAddrV Try.prog 27 (.ptr b o) 3 = some (.ptr b (o + 5)) := by simp [fieldAddrV, ti27, ti9]
theorem fr27_3 (cs : List V) : fieldAddrV Try.prog 27 (.rptr cs) 3 = some (.rptr (cs.drop 5)) := by simp [fieldAddrV, ti27, ti9]
theorem fv27_3 (cs : List V) : fieldV Try.prog 27 (.agg cs) 3 = cs[5]? := by simp [fieldV, ti27, ti9, partV, TD.agg]
theorem fa27_4 (b o : Nat) : fieldAddrV Try.prog 27 (.ptr b o) 4 = some (.ptr b (o + 6)) := by simp [fieldAddrV, ti27, ti3]
theorem fr27_4 (cs : List V) : fieldAddrV Try.prog 27 (.rptr cs) 4 = some (.rptr (cs.drop 6)) := by simp [fieldAddrV, ti27, ti3]
theorem fv27_4 (cs : List V) : fieldV Try.prog 27 (.agg cs) 4 = cs[6]? := by simp [fieldV, ti27, ti3, partV, TD.agg]
theorem fa27_5 (b o : Nat) : fieldAddrV Try.prog 27 (.ptr b o) 5 = some (.ptr b (o + 7)) := by simp [fieldAddrV, ti27, ti9]
theorem fr27_5 (cs : List V) : fieldAddrV Try.prog 27 (.rptr cs) 5 = some (.rptr (cs.drop 7)) := by simp [fieldAddrV, ti27, ti9]
theorem fv27_5 (cs : List V) : fieldV Try.prog 27 (.agg cs) 5 = cs[7]? := by simp [fieldV, ti27, ti9, partV, TD.agg]
theorem fa27_6 (b o : Nat) : fieldAddrV Try.prog 27 (.ptr b o) 6 = some (.ptr b (o + 8)) := by simp [fieldAddrV, ti27, ti25]
theorem fr27_6 (cs : List V) : fieldAddrV Try.prog 27 (.rptr cs) 6 = some (.rptr (cs.drop 8)) := by simp [fieldAddrV, ti27, ti25]
theorem fv27_6 (cs : List V) : fieldV Try.prog 27 (.agg cs) 6 = if 8 + 3 ≤ cs.length then some (.agg ((cs.drop 8).take 3)) else none := by simp [fieldV, ti27, ti25, partV, TD.agg]
theorem fa27_7 (b o : Nat) : fieldAddrV Try.prog 27 (.ptr b o) 7 = some (.ptr b (o + 11)) := by simp [fieldAddrV, ti27, ti2]
theorem fr27_7 (cs : List V) : fieldAddrV Try.prog 27 (.rptr cs) 7 = some (.rptr (cs.drop 11)) := by simp [fieldAddrV, ti27, ti2]
theorem fv27_7 (cs : List V) : fieldV Try.prog 27 (.agg cs) 7 = cs[11]? := by simp [fieldV, ti27, ti2, partV, TD.agg]
theorem fa27_8 (b o : Nat) : fieldAddrV Try.prog 27 (.ptr b o) 8 = some (.ptr b (o + 12)) := by simp [fieldAddrV, ti27, ti4]
theorem fr27_8 (cs : List V) : fieldAddrV Try.prog 27 (.rptr cs) 8 = some (.rptr (cs.drop 12)) := by simp [fieldAddrV, ti27, ti4]
theorem fv27_8 (cs : List V) : fieldV Try.prog 27 (.agg cs) 8 = cs[12]? := by simp [fieldV, ti27, ti4, partV, TD.agg]
theorem fa27_9 (b o : Nat) : fieldAddrV Try.prog 27 (.ptr b o) 9 = some (.ptr b (o + 13)) := by simp [fieldAddrV, ti27, ti9]
theorem fr27_9 (cs : List V) : fieldAddrV Try.prog 27 (.rptr cs) 9 = some (.rptr (cs.drop 13)) := by simp [fieldAddrV, ti27, ti9]
theorem fv27_9 (cs : List V) : fieldV Try.prog 27 (.agg cs) 9 = cs[13]? := by simp [fieldV, ti27, ti9, partV, TD.agg]
theorem fa27_10 (b o : Nat) : fieldAddrV Try.prog 27 (.ptr b o) 10 = some (.ptr b (o + 14)) := by simp [fieldAddrV, ti27, ti26]
theorem fr27_10 (cs : List V) : fieldAddrV Try.prog 27 (.rptr cs) 10 = some (.rptr (cs.drop 14)) := by simp [fieldAddrV, ti27, ti26]
theorem fv27_10 (cs : List V) : fieldV Try.prog 27 (.agg cs) 10 = cs[14]? := by simp [fieldV, ti27, ti26, partV, TD.agg]
theorem fa28_0 (b o : Nat) : fieldAddrV Try.prog 28 (.ptr b o) 0 = some (.ptr b (o + 0)) := by simp [fieldAddrV, ti28, ti23]
theorem fr28_0 (cs : List V) : fieldAddrV Try.prog 28 (.rptr cs) 0 = some (.rptr (cs.drop 0)) := by simp [fieldAddrV, ti28, ti23]
theorem fv28_0 (cs : List V) : fieldV Try.prog 28 (.agg cs) 0 = if 0 + 2 ≤ cs.length then some (.agg ((cs.drop 0).take 2)) else none := by simp [fieldV, ti28, ti23, partV, TD.agg]
theorem fa28_1 (b o : Nat) : fieldAddrV Try.prog 28 (.ptr b o) 1 = some (.ptr b (o + 2)) := by simp [fieldAddrV, ti28, ti23]
theorem fr28_1 (cs : List V) : fieldAddrV Try.prog 28 (.rptr cs) 1 = some (.rptr (cs.drop 2)) := by simp [fieldAddrV, ti28, ti23]
theorem fv28_1 (cs : List V) : fieldV Try.prog 28 (.agg cs) 1 = if 2 + 2 ≤ cs.length then some (.agg ((cs.drop 2).take 2)) else none := by simp [fieldV, ti28, ti23, partV, TD.agg]
theorem fa28_2 (b o : Nat) : fieldAddrV Try.prog 28 (.ptr b o) 2 = some (.ptr b (o + 4)) := by simp [fieldAddrV, ti28, ti2]
theorem fr28_2 (cs : List V) : fieldAddrV Try.prog 28 (.rptr cs) 2 = some (.rptr (cs.drop 4)) := by simp [fieldAddrV, ti28, ti2]
theorem fv28_2 (cs : List V) : fieldV Try.prog 28 (.agg cs) 2 = cs[4]? := by simp [fieldV, ti28, ti2, partV, TD.agg]
theorem fa28_3 (b o : Nat) : fieldAddrV Try.prog 28 (.ptr b o) 3 = some (.ptr b (o + 5)) := by simp [fieldAddrV, ti28, ti9]
theorem fr28_3 (cs : List V) : fieldAddrV Try.prog 28 (.rptr cs) 3 = some (.rptr (cs.drop 5)) := by simp [fieldAddrV, ti28, ti9]
theorem fv28_3 (cs : List V) : fieldV Try.prog 28 (.agg cs) 3 = cs[5]? := by simp [fieldV, ti28, ti9, partV, TD.agg]
theorem fa28_4 (b o : Nat) : fieldAddrV Try.prog 28 (.ptr b o) 4 = some (.ptr b (o + 6)) := by simp [fieldAddrV, ti28, ti3]
theorem fr28_4 (cs : List V) : fieldAddrV Try.prog 28 (.rptr cs) 4 = some (.rptr (cs.drop 6)) := by simp [fieldAddrV, ti28, ti3]
theorem fv28_4 (cs : List V) : fieldV Try.prog 28 (.agg cs) 4 = cs[6]? := by simp [fieldV, ti28, ti3, partV, TD.agg]
theorem fa28_5 (b o : Nat) : fieldAddrV Try.prog 28 (.ptr b o) 5 = some (.ptr b (o + 7)) := by simp [fieldAddrV, ti28, ti9]
theorem fr28_5 (cs : List V) : fieldAddrV Try.prog 28 (.rptr cs) 5 = some (.rptr (cs.drop 7)) := by simp [fieldAddrV, ti28, ti9]
theorem fv28_5 (cs : List V) : fieldV Try.prog 28 (.agg cs) 5 = cs[7]? := by simp [fieldV, ti28, ti9, partV, TD.agg]
theorem fa28_6 (b o : Nat) : fieldAddrV Try.prog 28 (.ptr b o) 6 = some (.ptr b (o + 8)) := by simp [fieldAddrV, ti28, ti25]
theorem fr28_6 (cs : List V) : fieldAddrV Try.prog 28 (.rptr cs) 6 = some (.rptr (cs.drop 8)) := by simp [fieldAddrV, ti28, ti25]
theorem fv28_6 (cs : List V) : fieldV Try.prog 28 (.agg cs) 6 = if 8 + 3 ≤ cs.length then some (.agg ((cs.drop 8).take 3)) else none := by simp [fieldV, ti28, ti25, partV, TD.agg]
theorem fa28_7 (b o : Nat) : fieldAddrV Try.prog 28 (.ptr b o) 7 = some (.ptr b (o + 11)) := by simp [fieldAddrV, ti28, ti2]
theorem fr28_7 (cs : List V) : fieldAddrV Try.prog 28 (.rptr cs) 7 = some (.rptr (cs.drop 11)) := by simp [fieldAddrV, ti28, ti2]
theorem fv28_7 (cs : List V) : fieldV Try.prog 28 (.agg cs) 7 = cs[11]? := by simp [fieldV, ti28, ti2, partV, TD.agg]
theorem fa28_8 (b o : Nat) : fieldAddrV Try.prog 28 (.ptr b o) 8 = some (.ptr b (o + 12)) := by simp [fieldAddrV, ti28, ti4]
theorem fr28_8 (cs : List V) : fieldAddrV Try.prog 28 (.rptr cs) 8 = some (.rptr (cs.drop 12)) := by simp [fieldAddrV, ti28, ti4]
theorem fv28_8 (cs : List V) : fieldV Try.prog 28 (.agg cs) 8 = cs[12]? := by simp [fieldV, ti28, ti4, partV, TD.agg]
theorem fa28_9 (b o : Nat) : fieldAddrV Try.prog 28 (.ptr b o) 9 = some (.ptr b (o + 13)) := by simp [fieldAddrV, ti28, ti9]
theorem fr28_9 (cs : List V) : fieldAddrV Try.prog 28 (.rptr cs) 9 = some (.rptr (cs.drop 13)) := by simp [fieldAddrV, ti28, ti9]
theorem fv28_9 (cs : List V) : fieldV Try.prog 28 (.agg cs) 9 = cs[13]? := by simp [fieldV, ti28, ti9, partV, TD.agg]
theorem fa28_10 (b o : Nat) : fieldAddrV Try.prog 28 (.ptr b o) 10 = some (.ptr b (o + 14)) := by simp [fieldAddrV, ti28, ti26]
theorem fr28_10 (cs : List V) : fieldAddrV Try.prog 28 (.rptr cs) 10 = some (.rptr (cs.drop 14)) := by simp [fieldAddrV, ti28, ti26]
theorem fv28_10 (cs : List V) : fieldV Try.prog 28 (.agg cs) 10 = cs[14]? := by simp [fieldV, ti28, ti26, partV, TD.agg]
theorem fa56_0 (b o : Nat) : fieldAddrV Try.prog 56 (.ptr b o) 0 = some (.ptr b (o + 0)) := by simp [fieldAddrV, ti56, ti36]
theorem fr56_0 (cs : List V) : fieldAddrV Try.prog 56 (.rptr cs) 0 = some (.rptr (cs.drop 0)) := by simp [fieldAddrV, ti56, ti36]
theorem fv56_0 (cs : List V) : fieldV Try.prog 56 (.agg cs) 0 = cs[0]? := by simp [fieldV, ti56, ti36, partV, TD.agg]
theorem fa56_1 (b o : Nat) : fieldAddrV Try.prog 56 (.ptr b o) 1 = some (.ptr b (o + 1)) := by simp [fieldAddrV, ti56, ti3]
theorem fr56_1 (cs : List V) : fieldAddrV Try.prog 56 (.rptr cs) 1 = some (.rptr (cs.drop 1)) := by simp [fieldAddrV, ti56, ti3]
theorem fv56_1 (cs : List V) : fieldV Try.prog 56 (.agg cs) 1 = cs[1]? := by simp [fieldV, ti56, ti3, partV, TD.agg]
theorem fa56_2 (b o : Nat) : fieldAddrV Try.prog 56 (.ptr b o) 2 = some (.ptr b (o + 2)) := by simp [fieldAddrV, ti56, ti3]
theorem fr56_2 (cs : List V) : fieldAddrV Try.prog 56 (.rptr cs) 2 = some (.rptr (cs.drop 2)) := by simp [fieldAddrV, ti56, ti3]
theorem fv56_2 (cs : List V) : fieldV Try.prog 56 (.agg cs) 2 = cs[2]? := by simp [fieldV, ti56, ti3, partV, TD.agg]
theorem fa56_3 (b o : Nat) : fieldAddrV Try.prog 56 (.ptr b o) 3 = some (.ptr b (o + 3)) := by simp [fieldAddrV, ti56, ti4]
theorem fr56_3 (cs : List V) : fieldAddrV Try.prog 56 (.rptr cs) 3 = some (.rptr (cs.drop 3)) := by simp [fieldAddrV, ti56, ti4]
theorem fv56_3 (cs : List V) : fieldV Try.prog 56 (.agg cs) 3 = cs[3]? := by simp [fieldV, ti56, ti4, partV, TD.agg]
theorem fa57_0 (b o : Nat) : fieldAddrV Try.prog 57 (.ptr b o) 0 = some (.ptr b (o + 0)) := by simp [fieldAddrV, ti57, ti36]
theorem fr57_0 (cs : List V) : fieldAddrV Try.prog 57 (.rptr cs) 0 = some (.rptr (cs.drop 0)) := by simp [fieldAddrV, ti57, ti36]
theorem fv57_0 (cs : List V) : fieldV Try.prog 57 (.agg cs) 0 = cs[0]? := by simp [fieldV, ti57, ti36, partV, TD.agg]
theorem fa57_1 (b o : Nat) : fieldAddrV Try.prog 57 (.ptr b o) 1 = some (.ptr b (o + 1)) := by simp [fieldAddrV, ti57, ti3]
theorem fr57_1 (cs : List V) : fieldAddrV Try.prog 57 (.rptr cs) 1 = some (.rptr (cs.drop 1)) := by simp [fieldAddrV, ti57, ti3]
theorem fv57_1 (cs : List V) : fieldV Try.prog 57 (.agg cs) 1 = cs[1]? := by simp [fieldV, ti57, ti3, partV, TD.agg]
theorem fa57_2 (b o : Nat) : fieldAddrV Try.prog 57 (.ptr b o) 2 = some (.ptr b (o + 2)) := by simp [fieldAddrV, ti57, ti3]
theorem fr57_2 (cs : List V) : fieldAddrV Try.prog 57 (.rptr cs) 2 = some (.rptr (cs.drop 2)) := by simp [fieldAddrV, ti57, ti3]
theorem fv57_2 (cs : List V) : fieldV Try.prog 57 (.agg cs) 2 = cs[2]? := by simp [fieldV, ti57, ti3, partV, TD.agg]
theorem fa57_3 (b o : Nat) : fieldAddrV Try.prog 57 (.ptr b o) 3 = some (.ptr b (o + 3)) := by simp [fieldAddrV, ti57, ti4]
theorem fr57_3 (cs : List V) : fieldAddrV Try.prog 57 (.rptr cs) 3 = some (.rptr (cs.drop 3)) := by simp [fieldAddrV, ti57, ti4]
theorem fv57_3 (cs : List V) : fieldV Try.prog 57 (.agg cs) 3 = cs[3]? := by simp [fieldV, ti57, ti4, partV, TD.agg]
theorem fa71_0 (b o : Nat) : fieldAddrV Try.prog 71 (.ptr b o) 0 = some (.ptr b (o + 0)) := by simp [fieldAddrV, ti71, ti3]
theorem fr71_0 (cs : List V) : fieldAddrV Try.prog 71 (.rptr cs) 0 = some (.rptr (cs.drop 0)) := by simp [fieldAddrV, ti71, ti3]
theorem fv71_0 (cs : List V) : fieldV Try.prog 71 (.agg cs) 0 = cs[0]? := by simp [fieldV, ti71, ti3, partV, TD.agg]
theorem fa71_1 (b o : Nat) : fieldAddrV Try.prog 71 (.ptr b o) 1 = some (.ptr b (o + 1)) := by simp [fieldAddrV, ti71, ti2]
theorem fr71_1 (cs : List V) : fieldAddrV Try.prog 71 (.rptr cs) 1 = some (.rptr (cs.drop 1)) := by simp [fieldAddrV, ti71, ti2]
theorem fv71_1 (cs : List V) : fieldV Try.prog 71 (.agg cs) 1 = cs[1]? := by simp [fieldV, ti71, ti2, partV, TD.agg]
theorem fa71_2 (b o : Nat) : fieldAddrV Try.prog 71 (.ptr b o) 2 = some (.ptr b (o + 2)) := by simp [fieldAddrV, ti71, ti9]
theorem fr71_2 (cs : List V) : fieldAddrV Try.prog 71 (.rptr cs) 2 = some (.rptr (cs.drop 2)) := by simp [fieldAddrV, ti71, ti9]
theorem fv71_2 (cs : List V) : fieldV Try.prog 71 (.agg cs) 2 = cs[2]? := by simp [fieldV, ti71, ti9, partV, TD.agg]
theorem fa71_3 (b o : Nat) : fieldAddrV Try.prog 71 (.ptr b o) 3 = some (.ptr b (o + 3)) := by simp [fieldAddrV, ti71, ti4]
theorem fr71_3 (cs : List V) : fieldAddrV Try.prog 71 (.rptr cs) 3 = some (.rptr (cs.drop 3)) := by simp [fieldAddrV, ti71, ti4]
theorem fv71_3 (cs : List V) : fieldV Try.prog 71 (.agg cs) 3 = cs[3]? := by simp [fieldV, ti71, ti4, partV, TD.agg]
theorem fa71_4 (b o : Nat) : fieldAddrV Try.prog 71 (.ptr b o) 4 = some (.ptr b (o + 4)) := by simp [fieldAddrV, ti71, ti23]
theorem fr71_4 (cs : List V) : fieldAddrV Try.prog 71 (.rptr cs) 4 = some (.rptr (cs.drop 4)) := by simp [fieldAddrV, ti71, ti23]
theorem fv71_4 (cs : List V) : fieldV Try.prog 71 (.agg cs) 4 = if 4 + 2 ≤ cs.length then some (.agg ((cs.drop 4).take 2)) else none := by simp [fieldV, ti71, ti23, partV, TD.agg]
theorem fa71_5 (b o : Nat) : fieldAddrV Try.prog 71 (.ptr b o) 5 = some (.ptr b (o + 6)) := by simp [fieldAddrV, ti71, ti70]
theorem fr71_5 (cs : List V) : fieldAddrV Try.prog 71 (.rptr cs) 5 = some (.rptr (cs.drop 6)) := by simp [fieldAddrV, ti71, ti70]
theorem fv71_5 (cs : List V) : fieldV Try.prog 71 (.agg cs) 5 = if 6 + 6 ≤ cs.length then some (.agg ((cs.drop 6).take 6)) else none := by simp [fieldV, ti71, ti70, partV, TD.agg]
theorem fa71_6 (b o : Nat) : fieldAddrV Try.prog 71 (.ptr b o) 6 = some (.ptr b (o + 12)) := by simp [fieldAddrV, ti71, ti25]
theorem fr71_6 (cs : List V) : fieldAddrV Try.prog 71 (.rptr cs) 6 = some (.rptr (cs.drop 12)) := by simp [fieldAddrV, ti71, ti25]
theorem fv71_6 (cs : List V) : fieldV Try.prog 71 (.agg cs) 6 = if 12 + 3 ≤ cs.length then some (.agg ((cs.drop 12).take 3)) else none := by simp [fieldV, ti71, ti25, partV, TD.agg]
theorem fa71_7 (b o : Nat) : fieldAddrV Try.prog 71 (.ptr b o) 7 = some (.ptr b (o + 15)) := by simp [fieldAddrV, ti71, ti3]
theorem fr71_7 (cs : List V) : fieldAddrV Try.prog 71 (.rptr cs) 7 = some (.rptr (cs.drop 15)) := by simp [fieldAddrV, ti71, ti3]
theorem fv71_7 (cs : List V) : fieldV Try.prog 71 (.agg cs) 7 = cs[15]? := by simp [fieldV, ti71, ti3, partV, TD.agg]
theorem fa72_0 (b o : Nat) : fieldAddrV Try.prog 72 (.ptr b o) 0 = some (.ptr b (o + 0)) := by simp [fieldAddrV, ti72, ti3]
theorem fr72_0 (cs : List V) : fieldAddrV Try.prog 72 (.rptr cs) 0 = some (.rptr (cs.drop 0)) := by simp [fieldAddrV, ti72, ti3]
theorem fv72_0 (cs : List V) : fieldV Try.prog 72 (.agg cs) 0 = cs[0]? := by simp [fieldV, ti72, ti3, partV, TD.agg]
theorem fa72_1 (b o : Nat) : fieldAddrV Try.prog 72 (.ptr b o) 1 = some (.ptr b (o + 1)) := by simp [fieldAddrV, ti72, ti2]
theorem fr72_1 (cs : List V) : fieldAddrV Try.prog 72 (.rptr cs) 1 = some (.rptr (cs.drop 1)) := by simp [fieldAddrV, ti72, ti2]
theorem fv72_1 (cs : List V) : fieldV Try.prog 72 (.agg cs) 1 = cs[1]? := by simp [fieldV, ti72, ti2, partV, TD.agg]
theorem fa72_2 (b o : Nat) : fieldAddrV Try.prog 72 (.ptr b o) 2 = some (.ptr b (o + 2)) := by simp [fieldAddrV, ti72, ti9]
theorem fr72_2 (cs : List V) : fieldAddrV Try.prog 72 (.rptr cs) 2 = some (.rptr (cs.drop 2)) := by simp [fieldAddrV, ti72, ti9]
theorem fv72_2 (cs : List V) : fieldV Try.prog 72 (.agg cs) 2 = cs[2]? := by simp [fieldV, ti72, ti9, partV, TD.agg]
theorem fa72_3 (b o : Nat) : fieldAddrV Try.prog 72 (.ptr b o) 3 = some (.ptr b (o + 3)) := by simp [fieldAddrV, ti72, ti4]
theorem fr72_3 (cs : List V) : fieldAddrV Try.prog 72 (.rptr cs) 3 = some (.rptr (cs.drop 3)) := by simp [fieldAddrV, ti72, ti4]
theorem fv72_3 (cs : List V) : fieldV Try.prog 72 (.agg cs) 3 = cs[3]? := by simp [fieldV, ti72, ti4, partV, TD.agg]
theorem fa72_4 (b o : Nat) : fieldAddrV Try.prog 72 (.ptr b o) 4 = some (.ptr b (o + 4)) := by simp [fieldAddrV, ti72, ti23]
theorem fr72_4 (cs : List V) : fieldAddrV Try.prog 72 (.rptr cs) 4 = some (.rptr (cs.drop 4)) := by simp [fieldAddrV, ti72, ti23]
theorem fv72_4 (cs : List V) : fieldV Try.prog 72 (.agg cs) 4 = if 4 + 2 ≤ cs.length then some (.agg ((cs.drop 4).take 2)) else none := by simp [fieldV, ti72, ti23, partV, TD.agg]
theorem fa72_5 (b o : Nat) : fieldAddrV Try.prog 72 (.ptr b o) 5 = some (.ptr b (o + 6)) := by simp [fieldAddrV, ti72, ti70]
theorem fr72_5 (cs : List V) : fieldAddrV Try.prog 72 (.rptr cs) 5 = some (.rptr (cs.drop 6)) := by simp [fieldAddrV, ti72, ti70]
theorem fv72_5 (cs : List V) : fieldV Try.prog 72 (.agg cs) 5 = if 6 + 6 ≤ cs.length then some (.agg ((cs.drop 6).take 6)) else none := by simp [fieldV, ti72, ti70, partV, TD.agg]
theorem fa72_6 (b o : Nat) : fieldAddrV Try.prog 72 (.ptr b o) 6 = some (.ptr b (o + 12)) := by simp [fieldAddrV, ti72, ti25]
theorem fr72_6 (cs : List V) : fieldAddrV Try.prog 72 (.rptr cs) 6 = some (.rptr (cs.drop 12)) := by simp [fieldAddrV, ti72, ti25]
theorem fv72_6 (cs : List V) : fieldV Try.prog 72 (.agg cs) 6 = if 12 + 3 ≤ cs.length then some (.agg ((cs.drop 12).take 3)) else none := by simp [fieldV, ti72, ti25, partV, TD.agg]
theorem fa72_7 (b o : Nat) : fieldAddrV Try.prog 72 (.ptr b o) 7 = some (.ptr b (o + 15)) := by simp [fieldAddrV, ti72, ti3]
theorem fr72_7 (cs : List V) : fieldAddrV Try.prog 72 (.rptr cs) 7 = some (.rptr (cs.drop 15)) := by simp [fieldAddrV, ti72, ti3]
theorem fv72_7 (cs : List V) : fieldV Try.prog 72 (.agg cs) 7 = cs[15]? := by simp [fieldV, ti72, ti3, partV, TD.agg]
theorem fa79_0 (b o : Nat) : fieldAddrV Try.prog 79 (.ptr b o) 0 = some (.ptr b (o + 0)) := by simp [fieldAddrV, ti79, ti25]
theorem fr79_0 (cs : List V) : fieldAddrV Try.prog 79 (.rptr cs) 0 = some (.rptr (cs.drop 0)) := by simp [fieldAddrV, ti79, ti25]
theorem fv79_0 (cs : List V) : fieldV Try.prog 79 (.agg cs) 0 = if 0 + 3 ≤ cs.length then some (.agg ((cs.drop 0).take 3)) else none := by simp [fieldV, ti79, ti25, partV, TD.agg]
theorem fa79_1 (b o : Nat) : fieldAddrV Try.prog 79 (.ptr b o) 1 = some (.ptr b (o + 3)) := by simp [fieldAddrV, ti79, ti3]
theorem fr79_1 (cs : List V) : fieldAddrV Try.prog 79 (.rptr cs) 1 = some (.rptr (cs.drop 3)) := by simp [fieldAddrV, ti79, ti3]
theorem fv79_1 (cs : List V) : fieldV Try.prog 79 (.agg cs) 1 = cs[3]? := by simp [fieldV, ti79, ti3, partV, TD.agg]
theorem fa79_2 (b o : Nat) : fieldAddrV Try.prog 79 (.ptr b o) 2 = some (.ptr b (o + 4)) := by simp [fieldAddrV, ti79, ti9]
theorem fr79_2 (cs : List V) : fieldAddrV Try.prog 79 (.rptr cs) 2 = some (.rptr (cs.drop 4)) := by simp [fieldAddrV, ti79, ti9]
theorem fv79_2 (cs : List V) : fieldV Try.prog 79 (.agg cs) 2 = cs[4]? := by simp [fieldV, ti79, ti9, partV, TD.agg]
theorem fa79_3 (b o : Nat) : fieldAddrV Try.prog 79 (.ptr b o) 3 = some (.ptr b (o + 5)) := by simp [fieldAddrV, ti79, ti78]
theorem fr79_3 (cs : List V) : fieldAddrV Try.prog 79 (.rptr cs) 3 = some (.rptr (cs.drop 5)) := by simp [fieldAddrV, ti79, ti78]
theorem fv79_3 (cs : List V) : fieldV Try.prog 79 (.agg cs) 3 = cs[5]? := by simp [fieldV, ti79, ti78, partV, TD.agg]
theorem fa79_4 (b o : Nat) : fieldAddrV Try.prog 79 (.ptr b o) 4 = some (.ptr b (o + 6)) := by simp [fieldAddrV, ti79, ti2]
theorem fr79_4 (cs : List V) : fieldAddrV Try.prog 79 (.rptr cs) 4 = some (.rptr (cs.drop 6)) := by simp [fieldAddrV, ti79, ti2]
theorem fv79_4 (cs : List V) : fieldV Try.prog 79 (.agg cs) 4 = cs[6]? := by simp [fieldV, ti79, ti2, partV, TD.agg]
theorem fa80_0 (b o : Nat) : fieldAddrV Try.prog 80 (.ptr b o) 0 = some (.ptr b (o + 0)) := by simp [fieldAddrV, ti80, ti25]
theorem fr80_0 (cs : List V) : fieldAddrV Try.prog 80 (.rptr cs) 0 = some (.rptr (cs.drop 0)) := by simp [fieldAddrV, ti80, ti25]
theorem fv80_0 (cs : List V) : fieldV Try.prog 80 (.agg cs) 0 = if 0 + 3 ≤ cs.length then some (.agg ((cs.drop 0).take 3)) else none := by simp [fieldV, ti80, ti25, partV, TD.agg]
theorem fa80_1 (b o : Nat) : fieldAddrV Try.prog 80 (.ptr b o) 1 = some (.ptr b (o + 3)) := by simp [fieldAddrV, ti80, ti3]
theorem fr80_1 (cs : List V) : fieldAddrV Try.prog 80 (.rptr cs) 1 = some (.rptr (cs.drop 3)) := by simp [fieldAddrV, ti80, ti3]
theorem fv80_1 (cs : List V) : fieldV Try.prog 80 (.agg cs) 1 = cs[3]? := by simp [fieldV, ti80, ti3, partV, TD.agg]
theorem fa80_2 (b o : Nat) : fieldAddrV Try.prog 80 (.ptr b o) 2 = some (.ptr b (o + 4)) := by simp [fieldAddrV, ti80, ti9]
theorem fr80_2 (cs : List V) : fieldAddrV Try.prog 80 (.rptr cs) 2 = some (.rptr (cs.drop 4)) := by simp [fieldAddrV, ti80, ti9]
theorem fv80_2 (cs : List V) : fieldV Try.prog 80 (.agg cs) 2 = cs[4]? := by simp [fieldV, ti80, ti9, partV, TD.agg]
theorem fa80_3 (b o : Nat) : fieldAddrV Try.prog 80 (.ptr b o) 3 = some (.ptr b (o + 5)) := by simp [fieldAddrV, ti80, ti78]
theorem fr80_3 (cs : List V) : fieldAddrV Try.prog 80 (.rptr cs) 3 = some (.rptr (cs.drop 5)) := by simp [fieldAddrV, ti80, ti78]
theorem fv80_3 (cs : List V) : fieldV Try.prog 80 (.agg cs) 3 = cs[5]? := by simp [fieldV, ti80, ti78, partV, TD.agg]
theorem fa80_4 (b o : Nat) : fieldAddrV Try.prog 80 (.ptr b o) 4 = some (.ptr b (o + 6)) := by simp [fieldAddrV, ti80, ti2]
theorem fr80_4 (cs : List V) : fieldAddrV Try.prog 80 (.rptr cs) 4 = some (.rptr (cs.drop 6)) := by simp [fieldAddrV, ti80, ti2]
theorem fv80_4 (cs : List V) : fieldV Try.prog 80 (.agg cs) 4 = cs[6]? := by simp [fieldV, ti80, ti2, partV, TD.agg]
theorem fa107_0 (b o : Nat) : fieldAddrV Try.prog 107 (.ptr b o) 0 = some (.ptr b (o + 0)) := by simp [fieldAddrV, ti107, ti17]
theorem fr107_0 (cs : List V) : fieldAddrV Try.prog 107 (.rptr cs) 0 = some (.rptr (cs.drop 0)) := by simp [fieldAddrV, ti107, ti17]
theorem fv107_0 (cs : List V) : fieldV Try.prog 107 (.agg cs) 0 = cs[0]? := by simp [fieldV, ti107, ti17, partV, TD.agg]
theorem fa107_1 (b o : Nat) : fieldAddrV Try.prog 107 (.ptr b o) 1 = some (.ptr b (o + 1)) := by simp [fieldAddrV, ti107, ti17]
theorem fr107_1 (cs : List V) : fieldAddrV Try.prog 107 (.rptr cs) 1 = some (.rptr (cs.drop 1)) := by simp [fieldAddrV, ti107, ti17]
theorem fv107_1 (cs : List V) : fieldV Try.prog 107 (.agg cs) 1 = cs[1]? := by simp [fieldV, ti107, ti17, partV, TD.agg]
theorem fa107_2 (b o : Nat) : fieldAddrV Try.prog 107 (.ptr b o) 2 = some (.ptr b (o + 2)) := by simp [fieldAddrV, ti107, ti17]
theorem fr107_2 (cs : List V) : fieldAddrV Try.prog 107 (.rptr cs) 2 = some (.rptr (cs.drop 2)) := by simp [fieldAddrV, ti107, ti17]
theorem fv107_2 (cs : List V) : fieldV Try.prog 107 (.agg cs) 2 = cs[2]? := by simp [fieldV, ti107, ti17, partV, TD.agg]
theorem fa107_3 (b o : Nat) : fieldAddrV Try.prog 107 (.ptr b o) 3 = some (.ptr b (o + 3)) := by simp [fieldAddrV, ti107, ti9]
theorem fr107_3 (cs : List V) : fieldAddrV Try.prog 107 (.rptr cs) 3 = some (.rptr (cs.drop 3)) := by simp [fieldAddrV, ti107, ti9]
theorem fv107_3 (cs : List V) : fieldV Try.prog 107 (.agg cs) 3 = cs[3]? := by simp [fieldV, ti107, ti9, partV, TD.agg]
theorem fa108_0 (b o : Nat) : fieldAddrV Try.prog 108 (.ptr b o) 0 = some (.ptr b (o + 0)) := by simp [fieldAddrV, ti108, ti17]
theorem fr108_0 (cs : List V) : fieldAddrV Try.prog 108 (.rptr cs) 0 = some (.rptr (cs.drop 0)) := by simp [fieldAddrV, ti108, ti17]
theorem fv108_0 (cs : List V) : fieldV Try.prog 108 (.agg cs) 0 = cs[0]? := by simp [fieldV, ti108, ti17, partV, TD.agg]
theorem fa108_1 (b o : Nat) : fieldAddrV Try.prog 108 (.ptr b o) 1 = some (.ptr b (o + 1)) := by simp [fieldAddrV, ti108, ti17]
theorem fr108_1 (cs : List V) : fieldAddrV Try.prog 108 (.rptr cs) 1 = some (.rptr (cs.drop 1)) := by simp [fieldAddrV, ti108, ti17]
theorem fv108_1 (cs : List V) : fieldV Try.prog 108 (.agg cs) 1 = cs[1]? := by simp [fieldV, ti108, ti17, partV, TD.agg]
theorem fa108_2 (b o : Nat) : fieldAddrV Try.prog 108 (.ptr b o) 2 = some (.ptr b (o + 2)) := by simp [fieldAddrV, ti108, ti17]
theorem fr108_2 (cs : List V) : fieldAddrV Try.prog 108 (.rptr cs) 2 = some (.rptr (cs.drop 2)) := by simp [fieldAddrV, ti108, ti17]
theorem fv108_2 (cs : List V) : fieldV Try.prog 108 (.agg cs) 2 = cs[2]? := by simp [fieldV, ti108, ti17, partV, TD.agg]
theorem fa108_3 (b o : Nat) : fieldAddrV Try.prog 108 (.ptr b o) 3 = some (.ptr b (o + 3)) := by simp [fieldAddrV, ti108, ti9]
theorem fr108_3 (cs : List V) : fieldAddrV Try.prog 108 (.rptr cs) 3 = some (.rptr (cs.drop 3)) := by simp [fieldAddrV, ti108, ti9]
theorem fv108_3 (cs : List V) : fieldV Try.prog 108 (.agg cs) 3 = cs[3]? := by simp [fieldV, ti108, ti9, partV, TD.agg]
theorem fa119_0 (b o : Nat) : fieldAddrV Try.prog 119 (.ptr b o) 0 = some (.ptr b (o + 0)) := by simp [fieldAddrV, ti119, ti12]
theorem fr119_0 (cs : List V) : fieldAddrV Try.prog 119 (.rptr cs) 0 = some (.rptr (cs.drop 0)) := by simp [fieldAddrV, ti119, ti12]
theorem fv119_0 (cs : List V) : fieldV Try.prog 119 (.agg cs) 0 = cs[0]? := by simp [fieldV, ti119, ti12, partV, TD.agg]
theorem fa119_1 (b o : Nat) : fieldAddrV Try.prog 119 (.ptr b o) 1 = some (.ptr b (o + 1)) := by simp [fieldAddrV, ti119, ti12]
theorem fr119_1 (cs : List V) : fieldAddrV Try.prog 119 (.rptr cs) 1 = some (.rptr (cs.drop 1)) := by simp [fieldAddrV, ti119, ti12]
theorem fv119_1 (cs : List V) : fieldV Try.prog 119 (.agg cs) 1 = cs[1]? := by simp [fieldV, ti119, ti12, partV, TD.agg]
theorem fa119_2 (b o : Nat) : fieldAddrV Try.prog 119 (.ptr b o) 2 = some (.ptr b (o + 2)) := by simp [fieldAddrV, ti119, ti112]
theorem fr119_2 (cs : List V) : fieldAddrV Try.prog 119 (.rptr cs) 2 = some (.rptr (cs.drop 2)) := by simp [fieldAddrV, ti119, ti112]
theorem fv119_2 (cs : List V) : fieldV Try.prog 119 (.agg cs) 2 = cs[2]? := by simp [fieldV, ti119, ti112, partV, TD.agg]
theorem fa119_3 (b o : Nat) : fieldAddrV Try.prog 119 (.ptr b o) 3 = some (.ptr b (o + 3)) := by simp [fieldAddrV, ti119, ti113]
theorem fr119_3 (cs : List V) : fieldAddrV Try.prog 119 (.rptr cs) 3 = some (.rptr (cs.drop 3)) := by simp [fieldAddrV, ti119, ti113]
theorem fv119_3 (cs : List V) : fieldV Try.prog 119 (.agg cs) 3 = cs[3]? := by simp [fieldV, ti119, ti113, partV, TD.agg]
theorem fa119_4 (b o : Nat) : fieldAddrV Try.prog 119 (.ptr b o) 4 = some (.ptr b (o + 4)) := by simp [fieldAddrV, ti119, ti5]
theorem fr119_4 (cs : List V) : fieldAddrV Try.prog 119 (.rptr cs) 4 = some (.rptr (cs.drop 4)) := by simp [fieldAddrV, ti119, ti5]
theorem fv119_4 (cs : List V) : fieldV Try.prog 119 (.agg cs) 4 = cs[4]? := by simp [fieldV, ti119, ti5, partV, TD.agg]
theorem fa119_5 (b o : Nat) : fieldAddrV Try.prog 119 (.ptr b o) 5 = some (.ptr b (o + 5)) := by simp [fieldAddrV, ti119, ti5]
theorem fr119_5 (cs : List V) : fieldAddrV Try.prog 119 (.rptr cs) 5 = some (.rptr (cs.drop 5)) := by simp [fieldAddrV, ti119, ti5]
theorem fv119_5 (cs : List V) : fieldV Try.prog 119 (.agg cs) 5 = cs[5]? := by simp [fieldV, ti119, ti5, partV, TD.agg]
theorem fa119_6 (b o : Nat) : fieldAddrV Try.prog 119 (.ptr b o) 6 = some (.ptr b (o + 6)) := by simp [fieldAddrV, ti119, ti114]
theorem fr119_6 (cs : List V) : fieldAddrV Try.prog 119 (.rptr cs) 6 = some (.rptr (cs.drop 6)) := by simp [fieldAddrV, ti119, ti114]
theorem fv119_6 (cs : List V) : fieldV Try.prog 119 (.agg cs) 6 = cs[6]? := by simp [fieldV, ti119, ti114, partV, TD.agg]
theorem fa119_7 (b o : Nat) : fieldAddrV Try.prog 119 (.ptr b o) 7 = some (.ptr b (o + 7)) := by simp [fieldAddrV, ti119, ti115]
theorem fr119_7 (cs : List V) : fieldAddrV Try.prog 119 (.rptr cs) 7 = some (.rptr (cs.drop 7)) := by simp [fieldAddrV, ti119, ti115]
theorem fv119_7 (cs : List V) : fieldV Try.prog 119 (.agg cs) 7 = cs[7]? := by simp [fieldV, ti119, ti115, partV, TD.agg]
theorem fa119_8 (b o : Nat) : fieldAddrV Try.prog 119 (.ptr b o) 8 = some (.ptr b (o + 8)) := by simp [fieldAddrV, ti119, ti116]
theorem fr119_8 (cs : List V) : fieldAddrV Try.prog 119 (.rptr cs) 8 = some (.rptr (cs.drop 8)) := by simp [fieldAddrV, ti119, ti116]
theorem fv119_8 (cs : List V) : fieldV Try.prog 119 (.agg cs) 8 = cs[8]? := by simp [fieldV, ti119, ti116, partV, TD.agg]
theorem fa119_9 (b o : Nat) : fieldAddrV Try.prog 119 (.ptr b o) 9 = some (.ptr b (o + 9)) := by simp [fieldAddrV, ti119, ti117]
theorem fr119_9 (cs : List V) : fieldAddrV Try.prog 119 (.rptr cs) 9 = some (.rptr (cs.drop 9)) := by simp [fieldAddrV, ti119, ti117]
theorem fv119_9 (cs : List V) : fieldV Try.prog 119 (.agg cs) 9 = cs[9]? := by simp [fieldV, ti119, ti117, partV, TD.agg]
theorem fa119_10 (b o : Nat) : fieldAddrV Try.prog 119 (.ptr b o) 10 = some (.ptr b (o + 10)) := by simp [fieldAddrV, ti119, ti118]
theorem fr119_10 (cs : List V) : fieldAddrV Try.prog 119 (.rptr cs) 10 = some (.rptr (cs.drop 10)) := by simp [fieldAddrV, ti119, ti118]
theorem fv119_10 (cs : List V) : fieldV Try.prog 119 (.agg cs) 10 = cs[10]? := by simp [fieldV, ti119, ti118, partV, TD.agg]
theorem fa120_0 (b o : Nat) : fieldAddrV Try.prog 120 (.ptr b o) 0 = some (.ptr b (o + 0)) := by simp [fieldAddrV, ti120, ti12]
theorem fr120_0 (cs : List V) : fieldAddrV Try.prog 120 (.rptr cs) 0 = some (.rptr (cs.drop 0)) := by simp [fieldAddrV, ti120, ti12]
theorem fv120_0 (cs : List V) : fieldV Try.prog 120 (.agg cs) 0 = cs[0]? := by simp [fieldV, ti120, ti12, partV, TD.agg]
theorem fa120_1 (b o : Nat) : fieldAddrV Try.prog 120 (.ptr b o) 1 = some (.ptr b (o + 1)) := by simp [fieldAddrV, ti120, ti12]
theorem fr120_1 (cs : List V) : fieldAddrV Try.prog 120 (.rptr cs) 1 = some (.rptr (cs.drop 1)) := by simp [fieldAddrV, ti120, ti12]
theorem fv120_1 (cs : List V) : fieldV Try.prog 120 (.agg cs) 1 = cs[1]? := by simp [fieldV, ti120, ti12, partV, TD.agg]
theorem fa120_2 (b o : Nat) : fieldAddrV Try.prog 120 (.ptr b o) 2 = some (.ptr b (o + 2)) := by simp [fieldAddrV, ti120, ti112]
theorem fr120_2 (cs : List V) : fieldAddrV Try.prog 120 (.rptr cs) 2 = some (.rptr (cs.drop 2)) := by simp [fieldAddrV, ti120, ti112]
theorem fv120_2 (cs : List V) : fieldV Try.prog 120 (.agg cs) 2 = cs[2]? := by simp [fieldV, ti120, ti112, partV, TD.agg]
theorem fa120_3 (b o : Nat) : fieldAddrV Try.prog 120 (.ptr b o) 3 = some (.ptr b (o + 3)) := by simp [fieldAddrV, ti120, ti113]
theorem fr120_3 (cs : List V) : fieldAddrV Try.prog 120 (.rptr cs) 3 = some (.rptr (cs.drop 3)) := by simp [fieldAddrV, ti120, ti113]
theorem fv120_3 (cs : List V) : fieldV Try.prog 120 (.agg cs) 3 = cs[3]? := by simp [fieldV, ti120, ti113, partV, TD.agg]
theorem fa120_4 (b o : Nat) : fieldAddrV Try.prog 120 (.ptr b o) 4 = some (.ptr b (o + 4)) := by simp [fieldAddrV, ti120, ti5]
theorem fr120_4 (cs : List V) : fieldAddrV Try.prog 120 (.rptr cs) 4 = some (.rptr (cs.drop 4)) := by simp [fieldAddrV, ti120, ti5]
theorem fv120_4 (cs : List V) : fieldV Try.prog 120 (.agg cs) 4 = cs[4]? := by simp [fieldV, ti120, ti5, partV, TD.agg]
theorem fa120_5 (b o : Nat) : fieldAddrV Try.prog 120 (.ptr b o) 5 = some (.ptr b (o + 5)) := by simp [fieldAddrV, ti120, ti5]
theorem fr120_5 (cs : List V) : fieldAddrV Try.prog 120 (.rptr cs) 5 = some (.rptr (cs.drop 5)) := by simp [fieldAddrV, ti120, ti5]
theorem fv120_5 (cs : List V) : fieldV Try.prog 120 (.agg cs) 5 = cs[5]? := by simp [fieldV, ti120, ti5, partV, TD.agg]
theorem fa120_6 (b o : Nat) : fieldAddrV Try.prog 120 (.ptr b o) 6 = some (.ptr b (o + 6)) := by simp [fieldAddrV, ti120, ti114]
theorem fr120_6 (cs : List V) : fieldAddrV Try.prog 120 (.rptr cs) 6 = some (.rptr (cs.drop 6)) := by simp [fieldAddrV, ti120, ti114]
theorem fv120_6 (cs : List V) : fieldV Try.prog 120 (.agg cs) 6 = cs[6]? := by simp [fieldV, ti120, ti114, partV, TD.agg]
theorem fa120_7 (b o : Nat) : fieldAddrV Try.prog 120 (.ptr b o) 7 = some (.ptr b (o + 7)) := by simp [fieldAddrV, ti120, ti115]
theorem fr120_7 (cs : List V) : fieldAddrV Try.prog 120 (.rptr cs) 7 = some (.rptr (cs.drop 7)) := by simp [fieldAddrV, ti120, ti115]
theorem fv120_7 (cs : List V) : fieldV Try.prog 120 (.agg cs) 7 = cs[7]? := by simp [fieldV, ti120, ti115, partV, TD.agg]
theorem fa120_8 (b o : Nat) : fieldAddrV Try.prog 120 (.ptr b o) 8 = some (.ptr b (o + 8)) := by simp [fieldAddrV, ti120, ti116]
theorem fr120_8 (cs : List V) : fieldAddrV Try.prog 120 (.rptr cs) 8 = some (.rptr (cs.drop 8)) := by simp [fieldAddrV, ti120, ti116]
theorem fv120_8 (cs : List V) : fieldV Try.prog 120 (.agg cs) 8 = cs[8]? := by simp [fieldV, ti120, ti116, partV, TD.agg]
theorem fa120_9 (b o : Nat) : fieldAddrV Try.prog 120 (.ptr b o) 9 = some (.ptr b (o + 9)) := by simp [fieldAddrV, ti120, ti117]
theorem fr120_9 (cs : List V) : fieldAddrV Try.prog 120 (.rptr cs) 9 = some (.rptr (cs.drop 9)) := by simp [fieldAddrV, ti120, ti117]
theorem fv120_9 (cs : List V) : fieldV Try.prog 120 (.agg cs) 9 = cs[9]? := by simp [fieldV, ti120, ti117, partV, TD.agg]
theorem fa120_10 (b o : Nat) : fieldAddrV Try.prog 120 (.ptr b o) 10 = some (.ptr b (o + 10)) := by simp [fieldAddrV, ti120, ti118]
theorem fr120_10 (cs : List V) : fieldAddrV Try.prog 120 (.rptr cs) 10 = some (.rptr (cs.drop 10)) := by simp [fieldAddrV, ti120, ti118]
theorem fv120_10 (cs : List V) : fieldV Try.prog 120 (.agg cs) 10 = cs[10]? := by simp [fieldV, ti120, ti118, partV, TD.agg]
theorem fk3 (d : Nat) : flatK Try.prog (d + 1) 3 = some [.int .i64] := flatK_int Try.underlying3 (i := Try.t3) (by kernel_rfl) rfl
theorem fk70 (d : Nat) : flatK Try.prog (d + 2) 70 = some [.int .i64, .int .i64, .int .i64, .int .i64, .int .i64, .int .i64] := flatK_arr Try.underlying70 (i := Try.t70) (by kernel_rfl) (fk3 d) rfl
theorem eqK70 : eqK Try.prog 70 = some [.int .i64, .int .i64, .int .i64, .int .i64, .int .i64, .int .i64] := eqK_of Try.eqGuardType70 (fk70 62)
theorem fk23 (d : Nat) : flatK Try.prog (d + 2) 23 = some [.int .i64, .int .i64] := by
  refine flatK_struct Try.underlying23 (i := Try.t23) (by kernel_rfl) Try.stoodInHeld23 ?_ rfl
  refine fields_cons (ks := [.int .i64]) (r := [.int .i64]) ?_ rfl (fk3 (d + 0)) rfl ?_
  · kernel_rfl
  refine fields_cons (ks := [.int .i64]) (r := []) ?_ rfl (fk3 (d + 0)) rfl ?_
  · kernel_rfl
  exact fields_nil _ _
theorem eqK23 : eqK Try.prog 23 = some [.int .i64, .int .i64] := eqK_of Try.eqGuardType23 (fk23 62)
theorem fk9 (d : Nat) : flatK Try.prog (d + 1) 9 = some [.str] := flatK_str Try.underlying9 (i := Try.t9) (by kernel_rfl) rfl
theorem fk25 (d : Nat) : flatK Try.prog (d + 2) 25 = some [.int .i64, .str, .str] := by
  refine flatK_struct Try.underlying25 (i := Try.t25) (by kernel_rfl) Try.stoodInHeld25 ?_ rfl
  refine fields_cons (ks := [.int .i64]) (r := [.str, .str]) ?_ rfl (fk3 (d + 0)) rfl ?_
  · kernel_rfl
  refine fields_cons (ks := [.str]) (r := [.str]) ?_ rfl (fk9 (d + 0)) rfl ?_
  · kernel_rfl
  refine fields_cons (ks := [.str]) (r := []) ?_ rfl (fk9 (d + 0)) rfl ?_
  · kernel_rfl
  exact fields_nil _ _
theorem eqK25 : eqK Try.prog 25 = some [.int .i64, .str, .str] := eqK_of Try.eqGuardType25 (fk25 62)
end Go.PV
