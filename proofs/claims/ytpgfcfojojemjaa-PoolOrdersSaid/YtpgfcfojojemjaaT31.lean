/- The types of the program. -/
import Derived.Test.YtpgfcfojojemjaaPWe
import Derived.Test.YtpgfcfojojemjaaChecked
import Derived.IntWalk
import Derived.Test.YtpgfcfojojemjaaPWd
namespace Go.PV
open Go.Proofs
theorem ti1 : ti Try.prog 1 = some ⟨.func, 1, 8, some [.nilf]⟩ := by kernel_rfl
theorem ti2 : ti Try.prog 2 = some ⟨.int .i64, 1, 8, some [.int .i64 0]⟩ := by kernel_rfl
theorem ti3 : ti Try.prog 3 = some ⟨.int .i64, 1, 8, some [.int .i64 0]⟩ := by kernel_rfl
theorem ti4 : ti Try.prog 4 = some ⟨.bool, 1, 1, some [.bool false]⟩ := by kernel_rfl
theorem ti5 : ti Try.prog 5 = some ⟨.int .u8, 1, 1, some [.int .u8 0]⟩ := by kernel_rfl
theorem ti6 : ti Try.prog 6 = some ⟨.int .u8, 1, 1, some [.int .u8 0]⟩ := by kernel_rfl
theorem ti7 : ti Try.prog 7 = some ⟨.struct [(0, 2), (1, 3), (2, 4), (3, 6)], 4, 24, some [.int .i64 0, .int .i64 0, .bool false, .int .u8 0]⟩ := by kernel_rfl
theorem ti8 : ti Try.prog 8 = some ⟨.struct [(0, 2), (1, 3), (2, 4), (3, 6)], 4, 24, some [.int .i64 0, .int .i64 0, .bool false, .int .u8 0]⟩ := by kernel_rfl
theorem ti9 : ti Try.prog 9 = some ⟨.str, 1, 16, some [.str []]⟩ := by kernel_rfl
theorem ti10 : ti Try.prog 10 = some ⟨.str, 1, 16, some [.str []]⟩ := by kernel_rfl
theorem ti11 : ti Try.prog 11 = some ⟨.str, 1, 16, some [.str []]⟩ := by kernel_rfl
theorem ti12 : ti Try.prog 12 = some ⟨.int .u64, 1, 8, some [.int .u64 0]⟩ := by kernel_rfl
theorem ti13 : ti Try.prog 13 = some ⟨.struct [(0, 9), (1, 12)], 2, 24, some [.str [], .int .u64 0]⟩ := by kernel_rfl
theorem ti14 : ti Try.prog 14 = some ⟨.struct [(0, 9), (1, 12)], 2, 24, some [.str [], .int .u64 0]⟩ := by kernel_rfl
theorem ti15 : ti Try.prog 15 = some ⟨.ptr 99, 1, 8, some [.nilp]⟩ := by kernel_rfl
theorem ti16 : ti Try.prog 16 = some ⟨.ptr 102, 1, 8, some [.nilp]⟩ := by kernel_rfl
theorem ti17 : ti Try.prog 17 = some ⟨.ptr 111, 1, 8, some [.nilp]⟩ := by kernel_rfl
theorem ti18 : ti Try.prog 18 = some ⟨.struct [(0, 17)], 1, 8, some [.nilp]⟩ := by kernel_rfl
theorem ti19 : ti Try.prog 19 = some ⟨.struct [(0, 17)], 1, 8, some [.nilp]⟩ := by kernel_rfl
theorem ti21 : ti Try.prog 21 = some ⟨.int .i32, 1, 4, some [.int .i32 0]⟩ := by kernel_rfl
theorem ti22 : ti Try.prog 22 = some ⟨.arr 6 3, 6, 48, some [.int .i64 0, .int .i64 0, .int .i64 0, .int .i64 0, .int .i64 0, .int .i64 0]⟩ := by kernel_rfl
theorem ti23 : ti Try.prog 23 = some ⟨.arr 6 3, 6, 48, some [.int .i64 0, .int .i64 0, .int .i64 0, .int .i64 0, .int .i64 0, .int .i64 0]⟩ := by kernel_rfl
theorem ti24 : ti Try.prog 24 = some ⟨.struct [(0, 3), (1, 3)], 2, 16, some [.int .i64 0, .int .i64 0]⟩ := by kernel_rfl
theorem ti25 : ti Try.prog 25 = some ⟨.struct [(0, 3), (1, 3)], 2, 16, some [.int .i64 0, .int .i64 0]⟩ := by kernel_rfl
theorem ti26 : ti Try.prog 26 = some ⟨.func, 1, 8, some [.nilf]⟩ := by kernel_rfl
theorem ti27 : ti Try.prog 27 = some ⟨.int .i64, 1, 8, some [.int .i64 0]⟩ := by kernel_rfl
theorem ti29 : ti Try.prog 29 = some ⟨.func, 1, 8, some [.nilf]⟩ := by kernel_rfl
theorem ti31 : ti Try.prog 31 = some ⟨.func, 1, 8, some [.nilf]⟩ := by kernel_rfl
theorem ti32 : ti Try.prog 32 = some ⟨.func, 1, 8, some [.nilf]⟩ := by kernel_rfl
theorem ti33 : ti Try.prog 33 = some ⟨.func, 1, 8, some [.nilf]⟩ := by kernel_rfl
theorem ti34 : ti Try.prog 34 = some ⟨.func, 1, 8, some [.nilf]⟩ := by kernel_rfl
theorem ti35 : ti Try.prog 35 = some ⟨.func, 1, 8, some [.nilf]⟩ := by kernel_rfl
theorem ti36 : ti Try.prog 36 = some ⟨.func, 1, 8, some [.nilf]⟩ := by kernel_rfl
theorem ti37 : ti Try.prog 37 = some ⟨.func, 1, 8, some [.nilf]⟩ := by kernel_rfl
theorem ti38 : ti Try.prog 38 = some ⟨.slice 25, 1, 24, some [.nils]⟩ := by kernel_rfl
theorem ti40 : ti Try.prog 40 = some ⟨.func, 1, 8, some [.nilf]⟩ := by kernel_rfl
theorem ti41 : ti Try.prog 41 = some ⟨.func, 1, 8, some [.nilf]⟩ := by kernel_rfl
theorem ti43 : ti Try.prog 43 = some ⟨.func, 1, 8, some [.nilf]⟩ := by kernel_rfl
theorem ti44 : ti Try.prog 44 = some ⟨.ptr 82, 1, 8, some [.nilp]⟩ := by kernel_rfl
theorem ti45 : ti Try.prog 45 = some ⟨.func, 1, 8, some [.nilf]⟩ := by kernel_rfl
theorem ti46 : ti Try.prog 46 = some ⟨.struct [(0, 3), (1, 9), (2, 9)], 3, 40, some [.int .i64 0, .str [], .str []]⟩ := by kernel_rfl
theorem ti47 : ti Try.prog 47 = some ⟨.struct [(0, 3), (1, 9), (2, 9)], 3, 40, some [.int .i64 0, .str [], .str []]⟩ := by kernel_rfl
theorem ti48 : ti Try.prog 48 = some ⟨.struct [(0, 25), (2, 25), (4, 2), (5, 9), (6, 3), (7, 9), (8, 47), (11, 2), (12, 4), (13, 9), (14, 38)], 15, 176, some [.int .i64 0, .int .i64 0, .int .i64 0, .int .i64 0, .int .i64 0, .str [], .int .i64 0, .str [], .int .i64 0, .str [], .str [], .int .i64 0, .bool false, .str [], .nils]⟩ := by kernel_rfl
theorem ti49 : ti Try.prog 49 = some ⟨.struct [(0, 25), (2, 25), (4, 2), (5, 9), (6, 3), (7, 9), (8, 47), (11, 2), (12, 4), (13, 9), (14, 38)], 15, 176, some [.int .i64 0, .int .i64 0, .int .i64 0, .int .i64 0, .int .i64 0, .str [], .int .i64 0, .str [], .int .i64 0, .str [], .str [], .int .i64 0, .bool false, .str [], .nils]⟩ := by kernel_rfl
theorem ti50 : ti Try.prog 50 = some ⟨.func, 1, 8, some [.nilf]⟩ := by kernel_rfl
theorem ti51 : ti Try.prog 51 = some ⟨.func, 1, 8, some [.nilf]⟩ := by kernel_rfl
theorem ti52 : ti Try.prog 52 = some ⟨.slice 49, 1, 24, some [.nils]⟩ := by kernel_rfl
theorem ti53 : ti Try.prog 53 = some ⟨.func, 1, 8, some [.nilf]⟩ := by kernel_rfl
theorem ti54 : ti Try.prog 54 = some ⟨.func, 1, 8, some [.nilf]⟩ := by kernel_rfl
theorem ti55 : ti Try.prog 55 = some ⟨.int .u64, 1, 8, some [.int .u64 0]⟩ := by kernel_rfl
theorem ti56 : ti Try.prog 56 = some ⟨.func, 1, 8, some [.nilf]⟩ := by kernel_rfl
theorem ti57 : ti Try.prog 57 = some ⟨.int .u64, 1, 8, some [.int .u64 0]⟩ := by kernel_rfl
theorem ti58 : ti Try.prog 58 = some ⟨.func, 1, 8, some [.nilf]⟩ := by kernel_rfl
theorem ti59 : ti Try.prog 59 = some ⟨.func, 1, 8, some [.nilf]⟩ := by kernel_rfl
theorem ti60 : ti Try.prog 60 = some ⟨.func, 1, 8, some [.nilf]⟩ := by kernel_rfl
theorem ti62 : ti Try.prog 62 = some ⟨.func, 1, 8, some [.nilf]⟩ := by kernel_rfl
theorem ti63 : ti Try.prog 63 = some ⟨.func, 1, 8, some [.nilf]⟩ := by kernel_rfl
theorem ti64 : ti Try.prog 64 = some ⟨.func, 1, 8, some [.nilf]⟩ := by kernel_rfl
theorem ti65 : ti Try.prog 65 = some ⟨.func, 1, 8, some [.nilf]⟩ := by kernel_rfl
theorem ti67 : ti Try.prog 67 = some ⟨.func, 1, 8, some [.nilf]⟩ := by kernel_rfl
theorem ti68 : ti Try.prog 68 = some ⟨.func, 1, 8, some [.nilf]⟩ := by kernel_rfl
theorem ti69 : ti Try.prog 69 = some ⟨.func, 1, 8, some [.nilf]⟩ := by kernel_rfl
theorem ti70 : ti Try.prog 70 = some ⟨.func, 1, 8, some [.nilf]⟩ := by kernel_rfl
theorem ti71 : ti Try.prog 71 = some ⟨.func, 1, 8, some [.nilf]⟩ := by kernel_rfl
theorem ti72 : ti Try.prog 72 = some ⟨.func, 1, 8, some [.nilf]⟩ := by kernel_rfl
theorem ti73 : ti Try.prog 73 = some ⟨.func, 1, 8, some [.nilf]⟩ := by kernel_rfl
theorem ti74 : ti Try.prog 74 = some ⟨.func, 1, 8, some [.nilf]⟩ := by kernel_rfl
theorem ti75 : ti Try.prog 75 = some ⟨.func, 1, 8, some [.nilf]⟩ := by kernel_rfl
theorem ti76 : ti Try.prog 76 = some ⟨.func, 1, 8, some [.nilf]⟩ := by kernel_rfl
theorem ti77 : ti Try.prog 77 = some ⟨.func, 1, 8, some [.nilf]⟩ := by kernel_rfl
theorem ti78 : ti Try.prog 78 = some ⟨.ptr 3, 1, 8, some [.nilp]⟩ := by kernel_rfl
theorem ti79 : ti Try.prog 79 = some ⟨.func, 1, 8, some [.nilf]⟩ := by kernel_rfl
theorem ti80 : ti Try.prog 80 = some ⟨.arr 6 52, 6, 144, some [.nils, .nils, .nils, .nils, .nils, .nils]⟩ := by kernel_rfl
theorem ti81 : ti Try.prog 81 = some ⟨.struct [(0, 80)], 6, 144, some [.nils, .nils, .nils, .nils, .nils, .nils]⟩ := by kernel_rfl
theorem ti82 : ti Try.prog 82 = some ⟨.struct [(0, 80)], 6, 144, some [.nils, .nils, .nils, .nils, .nils, .nils]⟩ := by kernel_rfl
theorem ti83 : ti Try.prog 83 = some ⟨.ptr 52, 1, 8, some [.nilp]⟩ := by kernel_rfl
theorem ti84 : ti Try.prog 84 = some ⟨.func, 1, 8, some [.nilf]⟩ := by kernel_rfl
theorem ti86 : ti Try.prog 86 = some ⟨.func, 1, 8, some [.nilf]⟩ := by kernel_rfl
theorem ti87 : ti Try.prog 87 = some ⟨.func, 1, 8, some [.nilf]⟩ := by kernel_rfl
theorem ti88 : ti Try.prog 88 = some ⟨.func, 1, 8, some [.nilf]⟩ := by kernel_rfl
theorem ti89 : ti Try.prog 89 = some ⟨.func, 1, 8, some [.nilf]⟩ := by kernel_rfl
theorem ti90 : ti Try.prog 90 = some ⟨.func, 1, 8, some [.nilf]⟩ := by kernel_rfl
theorem ti91 : ti Try.prog 91 = some ⟨.func, 1, 8, some [.nilf]⟩ := by kernel_rfl
theorem ti92 : ti Try.prog 92 = some ⟨.func, 1, 8, some [.nilf]⟩ := by kernel_rfl
theorem ti93 : ti Try.prog 93 = some ⟨.func, 1, 8, some [.nilf]⟩ := by kernel_rfl
theorem ti94 : ti Try.prog 94 = some ⟨.func, 1, 8, some [.nilf]⟩ := by kernel_rfl
theorem ti95 : ti Try.prog 95 = some ⟨.slice 3, 1, 24, some [.nils]⟩ := by kernel_rfl
theorem ti96 : ti Try.prog 96 = some ⟨.func, 1, 8, some [.nilf]⟩ := by kernel_rfl
theorem ti97 : ti Try.prog 97 = some ⟨.func, 1, 8, some [.nilf]⟩ := by kernel_rfl
theorem ti98 : ti Try.prog 98 = some ⟨.struct [(0, 17), (1, 17), (2, 17), (3, 9)], 4, 40, some [.nilp, .nilp, .nilp, .str []]⟩ := by kernel_rfl
theorem ti99 : ti Try.prog 99 = some ⟨.struct [(0, 17), (1, 17), (2, 17), (3, 9)], 4, 40, some [.nilp, .nilp, .nilp, .str []]⟩ := by kernel_rfl
theorem ti100 : ti Try.prog 100 = some ⟨.arr 0 16, 0, 0, some []⟩ := by kernel_rfl
theorem ti101 : ti Try.prog 101 = some ⟨.struct [(0, 100)], 0, 0, some []⟩ := by kernel_rfl
theorem ti102 : ti Try.prog 102 = some ⟨.struct [(0, 100)], 0, 0, some []⟩ := by kernel_rfl
theorem ti103 : ti Try.prog 103 = some ⟨.int .u32, 1, 4, some [.int .u32 0]⟩ := by kernel_rfl
theorem ti104 : ti Try.prog 104 = some ⟨.int .u8, 1, 1, some [.int .u8 0]⟩ := by kernel_rfl
theorem ti105 : ti Try.prog 105 = some ⟨.int .u8, 1, 1, some [.int .u8 0]⟩ := by kernel_rfl
theorem ti106 : ti Try.prog 106 = some ⟨.func, 1, 8, some [.nilf]⟩ := by kernel_rfl
theorem ti107 : ti Try.prog 107 = some ⟨.ptr 5, 1, 8, some [.nilp]⟩ := by kernel_rfl
theorem ti108 : ti Try.prog 108 = some ⟨.int .i32, 1, 4, some [.int .i32 0]⟩ := by kernel_rfl
theorem ti109 : ti Try.prog 109 = some ⟨.int .i32, 1, 4, some [.int .i32 0]⟩ := by kernel_rfl
theorem ti110 : ti Try.prog 110 = some ⟨.struct [(0, 12), (1, 12), (2, 103), (3, 104), (4, 5), (5, 5), (6, 105), (7, 106), (8, 107), (9, 108), (10, 109)], 11, 48, some [.int .u64 0, .int .u64 0, .int .u32 0, .int .u8 0, .int .u8 0, .int .u8 0, .int .u8 0, .nilf, .nilp, .int .i32 0, .int .i32 0]⟩ := by kernel_rfl
theorem ti111 : ti Try.prog 111 = some ⟨.struct [(0, 12), (1, 12), (2, 103), (3, 104), (4, 5), (5, 5), (6, 105), (7, 106), (8, 107), (9, 108), (10, 109)], 11, 48, some [.int .u64 0, .int .u64 0, .int .u32 0, .int .u8 0, .int .u8 0, .int .u8 0, .int .u8 0, .nilf, .nilp, .int .i32 0, .int .i32 0]⟩ := by kernel_rfl
theorem ti112 : ti Try.prog 112 = some ⟨.other, 1, 8, some [.nilp]⟩ := by kernel_rfl
theorem fa7_0 (b o : Nat) : fieldAddrV Try.prog 7 (.ptr b o) 0 = some (.ptr b (o + 0)) := by simp [fieldAddrV, ti7, ti2]
theorem fr7_0 (cs : List V) : fieldAddrV Try.prog 7 (.rptr cs) 0 = some (.rptr (cs.drop 0)) := by simp [fieldAddrV, ti7, ti2]
theorem fv7_0 (cs : List V) : fieldV Try.prog 7 (.agg cs) 0 = cs[0]? := by simp [fieldV, ti7, ti2, partV, TD.agg]
theorem fa7_1 (b o : Nat) : fieldAddrV Try.prog 7 (.ptr b o) 1 = some (.ptr b (o + 1)) := by simp [fieldAddrV, ti7, ti3]
theorem fr7_1 (cs : List V) : fieldAddrV Try.prog 7 (.rptr cs) 1 = some (.rptr (cs.drop 1)) := by simp [fieldAddrV, ti7, ti3]
theorem fv7_1 (cs : List V) : fieldV Try.prog 7 (.agg cs) 1 = cs[1]? := by simp [fieldV, ti7, ti3, partV, TD.agg]
theorem fa7_2 (b o : Nat) : fieldAddrV Try.prog 7 (.ptr b o) 2 = some (.ptr b (o + 2)) := by simp [fieldAddrV, ti7, ti4]
theorem fr7_2 (cs : List V) : fieldAddrV Try.prog 7 (.rptr cs) 2 = some (.rptr (cs.drop 2)) := by simp [fieldAddrV, ti7, ti4]
theorem fv7_2 (cs : List V) : fieldV Try.prog 7 (.agg cs) 2 = cs[2]? := by simp [fieldV, ti7, ti4, partV, TD.agg]
theorem fa7_3 (b o : Nat) : fieldAddrV Try.prog 7 (.ptr b o) 3 = some (.ptr b (o + 3)) := by simp [fieldAddrV, ti7, ti6]
theorem fr7_3 (cs : List V) : fieldAddrV Try.prog 7 (.rptr cs) 3 = some (.rptr (cs.drop 3)) := by simp [fieldAddrV, ti7, ti6]
theorem fv7_3 (cs : List V) : fieldV Try.prog 7 (.agg cs) 3 = cs[3]? := by simp [fieldV, ti7, ti6, partV, TD.agg]
theorem fa8_0 (b o : Nat) : fieldAddrV Try.prog 8 (.ptr b o) 0 = some (.ptr b (o + 0)) := by simp [fieldAddrV, ti8, ti2]
theorem fr8_0 (cs : List V) : fieldAddrV Try.prog 8 (.rptr cs) 0 = some (.rptr (cs.drop 0)) := by simp [fieldAddrV, ti8, ti2]
theorem fv8_0 (cs : List V) : fieldV Try.prog 8 (.agg cs) 0 = cs[0]? := by simp [fieldV, ti8, ti2, partV, TD.agg]
theorem fa8_1 (b o : Nat) : fieldAddrV Try.prog 8 (.ptr b o) 1 = some (.ptr b (o + 1)) := by simp [fieldAddrV, ti8, ti3]
theorem fr8_1 (cs : List V) : fieldAddrV Try.prog 8 (.rptr cs) 1 = some (.rptr (cs.drop 1)) := by simp [fieldAddrV, ti8, ti3]
theorem fv8_1 (cs : List V) : fieldV Try.prog 8 (.agg cs) 1 = cs[1]? := by simp [fieldV, ti8, ti3, partV, TD.agg]
theorem fa8_2 (b o : Nat) : fieldAddrV Try.prog 8 (.ptr b o) 2 = some (.ptr b (o + 2)) := by simp [fieldAddrV, ti8, ti4]
theorem fr8_2 (cs : List V) : fieldAddrV Try.prog 8 (.rptr cs) 2 = some (.rptr (cs.drop 2)) := by simp [fieldAddrV, ti8, ti4]
theorem fv8_2 (cs : List V) : fieldV Try.prog 8 (.agg cs) 2 = cs[2]? := by simp [fieldV, ti8, ti4, partV, TD.agg]
theorem fa8_3 (b o : Nat) : fieldAddrV Try.prog 8 (.ptr b o) 3 = some (.ptr b (o + 3)) := by simp [fieldAddrV, ti8, ti6]
theorem fr8_3 (cs : List V) : fieldAddrV Try.prog 8 (.rptr cs) 3 = some (.rptr (cs.drop 3)) := by simp [fieldAddrV, ti8, ti6]
theorem fv8_3 (cs : List V) : fieldV Try.prog 8 (.agg cs) 3 = cs[3]? := by simp [fieldV, ti8, ti6, partV, TD.agg]
theorem fa13_0 (b o : Nat) : fieldAddrV Try.prog 13 (.ptr b o) 0 = some (.ptr b (o + 0)) := by simp [fieldAddrV, ti13, ti9]
theorem fr13_0 (cs : List V) : fieldAddrV Try.prog 13 (.rptr cs) 0 = some (.rptr (cs.drop 0)) := by simp [fieldAddrV, ti13, ti9]
theorem fv13_0 (cs : List V) : fieldV Try.prog 13 (.agg cs) 0 = cs[0]? := by simp [fieldV, ti13, ti9, partV, TD.agg]
theorem fa13_1 (b o : Nat) : fieldAddrV Try.prog 13 (.ptr b o) 1 = some (.ptr b (o + 1)) := by simp [fieldAddrV, ti13, ti12]
theorem fr13_1 (cs : List V) : fieldAddrV Try.prog 13 (.rptr cs) 1 = some (.rptr (cs.drop 1)) := by simp [fieldAddrV, ti13, ti12]
theorem fv13_1 (cs : List V) : fieldV Try.prog 13 (.agg cs) 1 = cs[1]? := by simp [fieldV, ti13, ti12, partV, TD.agg]
theorem fa14_0 (b o : Nat) : fieldAddrV Try.prog 14 (.ptr b o) 0 = some (.ptr b (o + 0)) := by simp [fieldAddrV, ti14, ti9]
theorem fr14_0 (cs : List V) : fieldAddrV Try.prog 14 (.rptr cs) 0 = some (.rptr (cs.drop 0)) := by simp [fieldAddrV, ti14, ti9]
theorem fv14_0 (cs : List V) : fieldV Try.prog 14 (.agg cs) 0 = cs[0]? := by simp [fieldV, ti14, ti9, partV, TD.agg]
theorem fa14_1 (b o : Nat) : fieldAddrV Try.prog 14 (.ptr b o) 1 = some (.ptr b (o + 1)) := by simp [fieldAddrV, ti14, ti12]
theorem fr14_1 (cs : List V) : fieldAddrV Try.prog 14 (.rptr cs) 1 = some (.rptr (cs.drop 1)) := by simp [fieldAddrV, ti14, ti12]
theorem fv14_1 (cs : List V) : fieldV Try.prog 14 (.agg cs) 1 = cs[1]? := by simp [fieldV, ti14, ti12, partV, TD.agg]
theorem fa18_0 (b o : Nat) : fieldAddrV Try.prog 18 (.ptr b o) 0 = some (.ptr b (o + 0)) := by simp [fieldAddrV, ti18, ti17]
theorem fr18_0 (cs : List V) : fieldAddrV Try.prog 18 (.rptr cs) 0 = some (.rptr (cs.drop 0)) := by simp [fieldAddrV, ti18, ti17]
theorem fv18_0 (cs : List V) : fieldV Try.prog 18 (.agg cs) 0 = cs[0]? := by simp [fieldV, ti18, ti17, partV, TD.agg]
theorem fa19_0 (b o : Nat) : fieldAddrV Try.prog 19 (.ptr b o) 0 = some (.ptr b (o + 0)) := by simp [fieldAddrV, ti19, ti17]
theorem fr19_0 (cs : List V) : fieldAddrV Try.prog 19 (.rptr cs) 0 = some (.rptr (cs.drop 0)) := by simp [fieldAddrV, ti19, ti17]
theorem fv19_0 (cs : List V) : fieldV Try.prog 19 (.agg cs) 0 = cs[0]? := by simp [fieldV, ti19, ti17, partV, TD.agg]
theorem fa24_0 (b o : Nat) : fieldAddrV Try.prog 24 (.ptr b o) 0 = some (.ptr b (o + 0)) := by simp [fieldAddrV, ti24, ti3]
theorem fr24_0 (cs : List V) : fieldAddrV Try.prog 24 (.rptr cs) 0 = some (.rptr (cs.drop 0)) := by simp [fieldAddrV, ti24, ti3]
theorem fv24_0 (cs : List V) : fieldV Try.prog 24 (.agg cs) 0 = cs[0]? := by simp [fieldV, ti24, ti3, partV, TD.agg]
theorem fa24_1 (b o : Nat) : fieldAddrV Try.prog 24 (.ptr b o) 1 = some (.ptr b (o + 1)) := by simp [fieldAddrV, ti24, ti3]
theorem fr24_1 (cs : List V) : fieldAddrV Try.prog 24 (.rptr cs) 1 = some (.rptr (cs.drop 1)) := by simp [fieldAddrV, ti24, ti3]
theorem fv24_1 (cs : List V) : fieldV Try.prog 24 (.agg cs) 1 = cs[1]? := by simp [fieldV, ti24, ti3, partV, TD.agg]
theorem fa25_0 (b o : Nat) : fieldAddrV Try.prog 25 (.ptr b o) 0 = some (.ptr b (o + 0)) := by simp [fieldAddrV, ti25, ti3]
theorem fr25_0 (cs : List V) : fieldAddrV Try.prog 25 (.rptr cs) 0 = some (.rptr (cs.drop 0)) := by simp [fieldAddrV, ti25, ti3]
theorem fv25_0 (cs : List V) : fieldV Try.prog 25 (.agg cs) 0 = cs[0]? := by simp [fieldV, ti25, ti3, partV, TD.agg]
theorem fa25_1 (b o : Nat) : fieldAddrV Try.prog 25 (.ptr b o) 1 = some (.ptr b (o + 1)) := by simp [fieldAddrV, ti25, ti3]
theorem fr25_1 (cs : List V) : fieldAddrV Try.prog 25 (.rptr cs) 1 = some (.rptr (cs.drop 1)) := by simp [fieldAddrV, ti25, ti3]
theorem fv25_1 (cs : List V) : fieldV Try.prog 25 (.agg cs) 1 = cs[1]? := by simp [fieldV, ti25, ti3, partV, TD.agg]
theorem fa46_0 (b o : Nat) : fieldAddrV Try.prog 46 (.ptr b o) 0 = some (.ptr b (o + 0)) := by simp [fieldAddrV, ti46, ti3]
theorem fr46_0 (cs : List V) : fieldAddrV Try.prog 46 (.rptr cs) 0 = some (.rptr (cs.drop 0)) := by simp [fieldAddrV, ti46, ti3]
theorem fv46_0 (cs : List V) : fieldV Try.prog 46 (.agg cs) 0 = cs[0]? := by simp [fieldV, ti46, ti3, partV, TD.agg]
theorem fa46_1 (b o : Nat) : fieldAddrV Try.prog 46 (.ptr b o) 1 = some (.ptr b (o + 1)) := by simp [fieldAddrV, ti46, ti9]
theorem fr46_1 (cs : List V) : fieldAddrV Try.prog 46 (.rptr cs) 1 = some (.rptr (cs.drop 1)) := by simp [fieldAddrV, ti46, ti9]
theorem fv46_1 (cs : List V) : fieldV Try.prog 46 (.agg cs) 1 = cs[1]? := by simp [fieldV, ti46, ti9, partV, TD.agg]
theorem fa46_2 (b o : Nat) : fieldAddrV Try.prog 46 (.ptr b o) 2 = some (.ptr b (o + 2)) := by simp [fieldAddrV, ti46, ti9]
theorem fr46_2 (cs : List V) : fieldAddrV Try.prog 46 (.rptr cs) 2 = some (.rptr (cs.drop 2)) := by simp [fieldAddrV, ti46, ti9]
theorem fv46_2 (cs : List V) : fieldV Try.prog 46 (.agg cs) 2 = cs[2]? := by simp [fieldV, ti46, ti9, partV, TD.agg]
theorem fa47_0 (b o : Nat) : fieldAddrV Try.prog 47 (.ptr b o) 0 = some (.ptr b (o + 0)) := by simp [fieldAddrV, ti47, ti3]
theorem fr47_0 (cs : List V) : fieldAddrV Try.prog 47 (.rptr cs) 0 = some (.rptr (cs.drop 0)) := by simp [fieldAddrV, ti47, ti3]
theorem fv47_0 (cs : List V) : fieldV Try.prog 47 (.agg cs) 0 = cs[0]? := by simp [fieldV, ti47, ti3, partV, TD.agg]
theorem fa47_1 (b o : Nat) : fieldAddrV Try.prog 47 (.ptr b o) 1 = some (.ptr b (o + 1)) := by simp [fieldAddrV, ti47, ti9]
theorem fr47_1 (cs : List V) : fieldAddrV Try.prog 47 (.rptr cs) 1 = some (.rptr (cs.drop 1)) := by simp [fieldAddrV, ti47, ti9]
theorem fv47_1 (cs : List V) : fieldV Try.prog 47 (.agg cs) 1 = cs[1]? := by simp [fieldV, ti47, ti9, partV, TD.agg]
theorem fa47_2 (b o : Nat) : fieldAddrV Try.prog 47 (.ptr b o) 2 = some (.ptr b (o + 2)) := by simp [fieldAddrV, ti47, ti9]
theorem fr47_2 (cs : List V) : fieldAddrV Try.prog 47 (.rptr cs) 2 = some (.rptr (cs.drop 2)) := by simp [fieldAddrV, ti47, ti9]
theorem fv47_2 (cs : List V) : fieldV Try.prog 47 (.agg cs) 2 = cs[2]? := by simp [fieldV, ti47, ti9, partV, TD.agg]
theorem fa48_0 (b o : Nat) : fieldAddrV Try.prog 48 (.ptr b o) 0 = some (.ptr b (o + 0)) := by simp [fieldAddrV, ti48, ti25]
theorem fr48_0 (cs : List V) : fieldAddrV Try.prog 48 (.rptr cs) 0 = some (.rptr (cs.drop 0)) := by simp [fieldAddrV, ti48, ti25]
theorem fv48_0 (cs : List V) : fieldV Try.prog 48 (.agg cs) 0 = if 0 + 2 ≤ cs.length then some (.agg ((cs.drop 0).take 2)) else none := by simp [fieldV, ti48, ti25, partV, TD.agg]
theorem fa48_1 (b o : Nat) : fieldAddrV Try.prog 48 (.ptr b o) 1 = some (.ptr b (o + 2)) := by simp [fieldAddrV, ti48, ti25]
theorem fr48_1 (cs : List V) : fieldAddrV Try.prog 48 (.rptr cs) 1 = some (.rptr (cs.drop 2)) := by simp [fieldAddrV, ti48, ti25]
theorem fv48_1 (cs : List V) : fieldV Try.prog 48 (.agg cs) 1 = if 2 + 2 ≤ cs.length then some (.agg ((cs.drop 2).take 2)) else none := by simp [fieldV, ti48, ti25, partV, TD.agg]
theorem fa48_2 (b o : Nat) : fieldAddrV Try.prog 48 (.ptr b o) 2 = some (.ptr b (o + 4)) := by simp [fieldAddrV, ti48, ti2]
theorem fr48_2 (cs : List V) : fieldAddrV Try.prog 48 (.rptr cs) 2 = some (.rptr (cs.drop 4)) := by simp [fieldAddrV, ti48, ti2]
theorem fv48_2 (cs : List V) : fieldV Try.prog 48 (.agg cs) 2 = cs[4]? := by simp [fieldV, ti48, ti2, partV, TD.agg]
theorem fa48_3 (b o : Nat) : fieldAddrV Try.prog 48 (.ptr b o) 3 = some (.ptr b (o + 5)) := by simp [fieldAddrV, ti48, ti9]
theorem fr48_3 (cs : List V) : fieldAddrV Try.prog 48 (.rptr cs) 3 = some (.rptr (cs.drop 5)) := by simp [fieldAddrV, ti48, ti9]
theorem fv48_3 (cs : List V) : fieldV Try.prog 48 (.agg cs) 3 = cs[5]? := by simp [fieldV, ti48, ti9, partV, TD.agg]
theorem fa48_4 (b o : Nat) : fieldAddrV Try.prog 48 (.ptr b o) 4 = some (.ptr b (o + 6)) := by simp [fieldAddrV, ti48, ti3]
theorem fr48_4 (cs : List V) : fieldAddrV Try.prog 48 (.rptr cs) 4 = some (.rptr (cs.drop 6)) := by simp [fieldAddrV, ti48, ti3]
theorem fv48_4 (cs : List V) : fieldV Try.prog 48 (.agg cs) 4 = cs[6]? := by simp [fieldV, ti48, ti3, partV, TD.agg]
theorem fa48_5 (b o : Nat) : fieldAddrV Try.prog 48 (.ptr b o) 5 = some (.ptr b (o + 7)) := by simp [fieldAddrV, ti48, ti9]
theorem fr48_5 (cs : List V) : fieldAddrV Try.prog 48 (.rptr cs) 5 = some (.rptr (cs.drop 7)) := by simp [fieldAddrV, ti48, ti9]
theorem fv48_5 (cs : List V) : fieldV Try.prog 48 (.agg cs) 5 = cs[7]? := by simp [fieldV, ti48, ti9, partV, TD.agg]
theorem fa48_6 (b o : Nat) : fieldAddrV Try.prog 48 (.ptr b o) 6 = some (.ptr b (o + 8)) := by simp [fieldAddrV, ti48, ti47]
theorem fr48_6 (cs : List V) : fieldAddrV Try.prog 48 (.rptr cs) 6 = some (.rptr (cs.drop 8)) := by simp [fieldAddrV, ti48, ti47]
theorem fv48_6 (cs : List V) : fieldV Try.prog 48 (.agg cs) 6 = if 8 + 3 ≤ cs.length then some (.agg ((cs.drop 8).take 3)) else none := by simp [fieldV, ti48, ti47, partV, TD.agg]
theorem fa48_7 (b o : Nat) : fieldAddrV Try.prog 48 (.ptr b o) 7 = some (.ptr b (o + 11)) := by simp [fieldAddrV, ti48, ti2]
theorem fr48_7 (cs : List V) : fieldAddrV Try.prog 48 (.rptr cs) 7 = some (.rptr (cs.drop 11)) := by simp [fieldAddrV, ti48, ti2]
theorem fv48_7 (cs : List V) : fieldV Try.prog 48 (.agg cs) 7 = cs[11]? := by simp [fieldV, ti48, ti2, partV, TD.agg]
theorem fa48_8 (b o : Nat) : fieldAddrV Try.prog 48 (.ptr b o) 8 = some (.ptr b (o + 12)) := by simp [fieldAddrV, ti48, ti4]
theorem fr48_8 (cs : List V) : fieldAddrV Try.prog 48 (.rptr cs) 8 = some (.rptr (cs.drop 12)) := by simp [fieldAddrV, ti48, ti4]
theorem fv48_8 (cs : List V) : fieldV Try.prog 48 (.agg cs) 8 = cs[12]? := by simp [fieldV, ti48, ti4, partV, TD.agg]
theorem fa48_9 (b o : Nat) : fieldAddrV Try.prog 48 (.ptr b o) 9 = some (.ptr b (o + 13)) := by simp [fieldAddrV, ti48, ti9]
theorem fr48_9 (cs : List V) : fieldAddrV Try.prog 48 (.rptr cs) 9 = some (.rptr (cs.drop 13)) := by simp [fieldAddrV, ti48, ti9]
theorem fv48_9 (cs : List V) : fieldV Try.prog 48 (.agg cs) 9 = cs[13]? := by simp [fieldV, ti48, ti9, partV, TD.agg]
theorem fa48_10 (b o : Nat) : fieldAddrV Try.prog 48 (.ptr b o) 10 = some (.ptr b (o + 14)) := by simp [fieldAddrV, ti48, ti38]
theorem fr48_10 (cs : List V) : fieldAddrV Try.prog 48 (.rptr cs) 10 = some (.rptr (cs.drop 14)) := by simp [fieldAddrV, ti48, ti38]
theorem fv48_10 (cs : List V) : fieldV Try.prog 48 (.agg cs) 10 = cs[14]? := by simp [fieldV, ti48, ti38, partV, TD.agg]
theorem fa49_0 (b o : Nat) : fieldAddrV Try.prog 49 (.ptr b o) 0 = some (.ptr b (o + 0)) := by simp [fieldAddrV, ti49, ti25]
theorem fr49_0 (cs : List V) : fieldAddrV Try.prog 49 (.rptr cs) 0 = some (.rptr (cs.drop 0)) := by simp [fieldAddrV, ti49, ti25]
theorem fv49_0 (cs : List V) : fieldV Try.prog 49 (.agg cs) 0 = if 0 + 2 ≤ cs.length then some (.agg ((cs.drop 0).take 2)) else none := by simp [fieldV, ti49, ti25, partV, TD.agg]
theorem fa49_1 (b o : Nat) : fieldAddrV Try.prog 49 (.ptr b o) 1 = some (.ptr b (o + 2)) := by simp [fieldAddrV, ti49, ti25]
theorem fr49_1 (cs : List V) : fieldAddrV Try.prog 49 (.rptr cs) 1 = some (.rptr (cs.drop 2)) := by simp [fieldAddrV, ti49, ti25]
theorem fv49_1 (cs : List V) : fieldV Try.prog 49 (.agg cs) 1 = if 2 + 2 ≤ cs.length then some (.agg ((cs.drop 2).take 2)) else none := by simp [fieldV, ti49, ti25, partV, TD.agg]
theorem fa49_2 (b o : Nat) : fieldAddrV Try.prog 49 (.ptr b o) 2 = some (.ptr b (o + 4)) := by simp [fieldAddrV, ti49, ti2]
theorem fr49_2 (cs : List V) : fieldAddrV Try.prog 49 (.rptr cs) 2 = some (.rptr (cs.drop 4)) := by simp [fieldAddrV, ti49, ti2]
theorem fv49_2 (cs : List V) : fieldV Try.prog 49 (.agg cs) 2 = cs[4]? := by simp [fieldV, ti49, ti2, partV, TD.agg]
theorem fa49_3 (b o : Nat) : fieldAddrV Try.prog 49 (.ptr b o) 3 = some (.ptr b (o + 5)) := by simp [fieldAddrV, ti49, ti9]
theorem fr49_3 (cs : List V) : fieldAddrV Try.prog 49 (.rptr cs) 3 = some (.rptr (cs.drop 5)) := by simp [fieldAddrV, ti49, ti9]
theorem fv49_3 (cs : List V) : fieldV Try.prog 49 (.agg cs) 3 = cs[5]? := by simp [fieldV, ti49, ti9, partV, TD.agg]
theorem fa49_4 (b o : Nat) : fieldAddrV Try.prog 49 (.ptr b o) 4 = some (.ptr b (o + 6)) := by simp [fieldAddrV, ti49, ti3]
theorem fr49_4 (cs : List V) : fieldAddrV Try.prog 49 (.rptr cs) 4 = some (.rptr (cs.drop 6)) := by simp [fieldAddrV, ti49, ti3]
theorem fv49_4 (cs : List V) : fieldV Try.prog 49 (.agg cs) 4 = cs[6]? := by simp [fieldV, ti49, ti3, partV, TD.agg]
theorem fa49_5 (b o : Nat) : fieldAddrV Try.prog 49 (.ptr b o) 5 = some (.ptr b (o + 7)) := by simp [fieldAddrV, ti49, ti9]
theorem fr49_5 (cs : List V) : fieldAddrV Try.prog 49 (.rptr cs) 5 = some (.rptr (cs.drop 7)) := by simp [fieldAddrV, ti49, ti9]
theorem fv49_5 (cs : List V) : fieldV Try.prog 49 (.agg cs) 5 = cs[7]? := by simp [fieldV, ti49, ti9, partV, TD.agg]
theorem fa49_6 (b o : Nat) : fieldAddrV Try.prog 49 (.ptr b o) 6 = some (.ptr b (o + 8)) := by simp [fieldAddrV, ti49, ti47]
theorem fr49_6 (cs : List V) : fieldAddrV Try.prog 49 (.rptr cs) 6 = some (.rptr (cs.drop 8)) := by simp [fieldAddrV, ti49, ti47]
theorem fv49_6 (cs : List V) : fieldV Try.prog 49 (.agg cs) 6 = if 8 + 3 ≤ cs.length then some (.agg ((cs.drop 8).take 3)) else none := by simp [fieldV, ti49, ti47, partV, TD.agg]
theorem fa49_7 (b o : Nat) : fieldAddrV Try.prog 49 (.ptr b o) 7 = some (.ptr b (o + 11)) := by simp [fieldAddrV, ti49, ti2]
theorem fr49_7 (cs : List V) : fieldAddrV Try.prog 49 (.rptr cs) 7 = some (.rptr (cs.drop 11)) := by simp [fieldAddrV, ti49, ti2]
theorem fv49_7 (cs : List V) : fieldV Try.prog 49 (.agg cs) 7 = cs[11]? := by simp [fieldV, ti49, ti2, partV, TD.agg]
theorem fa49_8 (b o : Nat) : fieldAddrV Try.prog 49 (.ptr b o) 8 = some (.ptr b (o + 12)) := by simp [fieldAddrV, ti49, ti4]
theorem fr49_8 (cs : List V) : fieldAddrV Try.prog 49 (.rptr cs) 8 = some (.rptr (cs.drop 12)) := by simp [fieldAddrV, ti49, ti4]
theorem fv49_8 (cs : List V) : fieldV Try.prog 49 (.agg cs) 8 = cs[12]? := by simp [fieldV, ti49, ti4, partV, TD.agg]
theorem fa49_9 (b o : Nat) : fieldAddrV Try.prog 49 (.ptr b o) 9 = some (.ptr b (o + 13)) := by simp [fieldAddrV, ti49, ti9]
theorem fr49_9 (cs : List V) : fieldAddrV Try.prog 49 (.rptr cs) 9 = some (.rptr (cs.drop 13)) := by simp [fieldAddrV, ti49, ti9]
theorem fv49_9 (cs : List V) : fieldV Try.prog 49 (.agg cs) 9 = cs[13]? := by simp [fieldV, ti49, ti9, partV, TD.agg]
theorem fa49_10 (b o : Nat) : fieldAddrV Try.prog 49 (.ptr b o) 10 = some (.ptr b (o + 14)) := by simp [fieldAddrV, ti49, ti38]
theorem fr49_10 (cs : List V) : fieldAddrV Try.prog 49 (.rptr cs) 10 = some (.rptr (cs.drop 14)) := by simp [fieldAddrV, ti49, ti38]
theorem fv49_10 (cs : List V) : fieldV Try.prog 49 (.agg cs) 10 = cs[14]? := by simp [fieldV, ti49, ti38, partV, TD.agg]
theorem fa81_0 (b o : Nat) : fieldAddrV Try.prog 81 (.ptr b o) 0 = some (.ptr b (o + 0)) := by simp [fieldAddrV, ti81, ti80]
theorem fr81_0 (cs : List V) : fieldAddrV Try.prog 81 (.rptr cs) 0 = some (.rptr (cs.drop 0)) := by simp [fieldAddrV, ti81, ti80]
theorem fv81_0 (cs : List V) : fieldV Try.prog 81 (.agg cs) 0 = if 0 + 6 ≤ cs.length then some (.agg ((cs.drop 0).take 6)) else none := by simp [fieldV, ti81, ti80, partV, TD.agg]
theorem fa82_0 (b o : Nat) : fieldAddrV Try.prog 82 (.ptr b o) 0 = some (.ptr b (o + 0)) := by simp [fieldAddrV, ti82, ti80]
theorem fr82_0 (cs : List V) : fieldAddrV Try.prog 82 (.rptr cs) 0 = some (.rptr (cs.drop 0)) := by simp [fieldAddrV, ti82, ti80]
theorem fv82_0 (cs : List V) : fieldV Try.prog 82 (.agg cs) 0 = if 0 + 6 ≤ cs.length then some (.agg ((cs.drop 0).take 6)) else none := by simp [fieldV, ti82, ti80, partV, TD.agg]
theorem fa98_0 (b o : Nat) : fieldAddrV Try.prog 98 (.ptr b o) 0 = some (.ptr b (o + 0)) := by simp [fieldAddrV, ti98, ti17]
theorem fr98_0 (cs : List V) : fieldAddrV Try.prog 98 (.rptr cs) 0 = some (.rptr (cs.drop 0)) := by simp [fieldAddrV, ti98, ti17]
theorem fv98_0 (cs : List V) : fieldV Try.prog 98 (.agg cs) 0 = cs[0]? := by simp [fieldV, ti98, ti17, partV, TD.agg]
theorem fa98_1 (b o : Nat) : fieldAddrV Try.prog 98 (.ptr b o) 1 = some (.ptr b (o + 1)) := by simp [fieldAddrV, ti98, ti17]
theorem fr98_1 (cs : List V) : fieldAddrV Try.prog 98 (.rptr cs) 1 = some (.rptr (cs.drop 1)) := by simp [fieldAddrV, ti98, ti17]
theorem fv98_1 (cs : List V) : fieldV Try.prog 98 (.agg cs) 1 = cs[1]? := by simp [fieldV, ti98, ti17, partV, TD.agg]
theorem fa98_2 (b o : Nat) : fieldAddrV Try.prog 98 (.ptr b o) 2 = some (.ptr b (o + 2)) := by simp [fieldAddrV, ti98, ti17]
theorem fr98_2 (cs : List V) : fieldAddrV Try.prog 98 (.rptr cs) 2 = some (.rptr (cs.drop 2)) := by simp [fieldAddrV, ti98, ti17]
theorem fv98_2 (cs : List V) : fieldV Try.prog 98 (.agg cs) 2 = cs[2]? := by simp [fieldV, ti98, ti17, partV, TD.agg]
theorem fa98_3 (b o : Nat) : fieldAddrV Try.prog 98 (.ptr b o) 3 = some (.ptr b (o + 3)) := by simp [fieldAddrV, ti98, ti9]
theorem fr98_3 (cs : List V) : fieldAddrV Try.prog 98 (.rptr cs) 3 = some (.rptr (cs.drop 3)) := by simp [fieldAddrV, ti98, ti9]
theorem fv98_3 (cs : List V) : fieldV Try.prog 98 (.agg cs) 3 = cs[3]? := by simp [fieldV, ti98, ti9, partV, TD.agg]
theorem fa99_0 (b o : Nat) : fieldAddrV Try.prog 99 (.ptr b o) 0 = some (.ptr b (o + 0)) := by simp [fieldAddrV, ti99, ti17]
theorem fr99_0 (cs : List V) : fieldAddrV Try.prog 99 (.rptr cs) 0 = some (.rptr (cs.drop 0)) := by simp [fieldAddrV, ti99, ti17]
theorem fv99_0 (cs : List V) : fieldV Try.prog 99 (.agg cs) 0 = cs[0]? := by simp [fieldV, ti99, ti17, partV, TD.agg]
theorem fa99_1 (b o : Nat) : fieldAddrV Try.prog 99 (.ptr b o) 1 = some (.ptr b (o + 1)) := by simp [fieldAddrV, ti99, ti17]
theorem fr99_1 (cs : List V) : fieldAddrV Try.prog 99 (.rptr cs) 1 = some (.rptr (cs.drop 1)) := by simp [fieldAddrV, ti99, ti17]
theorem fv99_1 (cs : List V) : fieldV Try.prog 99 (.agg cs) 1 = cs[1]? := by simp [fieldV, ti99, ti17, partV, TD.agg]
theorem fa99_2 (b o : Nat) : fieldAddrV Try.prog 99 (.ptr b o) 2 = some (.ptr b (o + 2)) := by simp [fieldAddrV, ti99, ti17]
theorem fr99_2 (cs : List V) : fieldAddrV Try.prog 99 (.rptr cs) 2 = some (.rptr (cs.drop 2)) := by simp [fieldAddrV, ti99, ti17]
theorem fv99_2 (cs : List V) : fieldV Try.prog 99 (.agg cs) 2 = cs[2]? := by simp [fieldV, ti99, ti17, partV, TD.agg]
theorem fa99_3 (b o : Nat) : fieldAddrV Try.prog 99 (.ptr b o) 3 = some (.ptr b (o + 3)) := by simp [fieldAddrV, ti99, ti9]
theorem fr99_3 (cs : List V) : fieldAddrV Try.prog 99 (.rptr cs) 3 = some (.rptr (cs.drop 3)) := by simp [fieldAddrV, ti99, ti9]
theorem fv99_3 (cs : List V) : fieldV Try.prog 99 (.agg cs) 3 = cs[3]? := by simp [fieldV, ti99, ti9, partV, TD.agg]
theorem fa110_0 (b o : Nat) : fieldAddrV Try.prog 110 (.ptr b o) 0 = some (.ptr b (o + 0)) := by simp [fieldAddrV, ti110, ti12]
theorem fr110_0 (cs : List V) : fieldAddrV Try.prog 110 (.rptr cs) 0 = some (.rptr (cs.drop 0)) := by simp [fieldAddrV, ti110, ti12]
theorem fv110_0 (cs : List V) : fieldV Try.prog 110 (.agg cs) 0 = cs[0]? := by simp [fieldV, ti110, ti12, partV, TD.agg]
theorem fa110_1 (b o : Nat) : fieldAddrV Try.prog 110 (.ptr b o) 1 = some (.ptr b (o + 1)) := by simp [fieldAddrV, ti110, ti12]
theorem fr110_1 (cs : List V) : fieldAddrV Try.prog 110 (.rptr cs) 1 = some (.rptr (cs.drop 1)) := by simp [fieldAddrV, ti110, ti12]
theorem fv110_1 (cs : List V) : fieldV Try.prog 110 (.agg cs) 1 = cs[1]? := by simp [fieldV, ti110, ti12, partV, TD.agg]
theorem fa110_2 (b o : Nat) : fieldAddrV Try.prog 110 (.ptr b o) 2 = some (.ptr b (o + 2)) := by simp [fieldAddrV, ti110, ti103]
theorem fr110_2 (cs : List V) : fieldAddrV Try.prog 110 (.rptr cs) 2 = some (.rptr (cs.drop 2)) := by simp [fieldAddrV, ti110, ti103]
theorem fv110_2 (cs : List V) : fieldV Try.prog 110 (.agg cs) 2 = cs[2]? := by simp [fieldV, ti110, ti103, partV, TD.agg]
theorem fa110_3 (b o : Nat) : fieldAddrV Try.prog 110 (.ptr b o) 3 = some (.ptr b (o + 3)) := by simp [fieldAddrV, ti110, ti104]
theorem fr110_3 (cs : List V) : fieldAddrV Try.prog 110 (.rptr cs) 3 = some (.rptr (cs.drop 3)) := by simp [fieldAddrV, ti110, ti104]
theorem fv110_3 (cs : List V) : fieldV Try.prog 110 (.agg cs) 3 = cs[3]? := by simp [fieldV, ti110, ti104, partV, TD.agg]
theorem fa110_4 (b o : Nat) : fieldAddrV Try.prog 110 (.ptr b o) 4 = some (.ptr b (o + 4)) := by simp [fieldAddrV, ti110, ti5]
theorem fr110_4 (cs : List V) : fieldAddrV Try.prog 110 (.rptr cs) 4 = some (.rptr (cs.drop 4)) := by simp [fieldAddrV, ti110, ti5]
theorem fv110_4 (cs : List V) : fieldV Try.prog 110 (.agg cs) 4 = cs[4]? := by simp [fieldV, ti110, ti5, partV, TD.agg]
theorem fa110_5 (b o : Nat) : fieldAddrV Try.prog 110 (.ptr b o) 5 = some (.ptr b (o + 5)) := by simp [fieldAddrV, ti110, ti5]
theorem fr110_5 (cs : List V) : fieldAddrV Try.prog 110 (.rptr cs) 5 = some (.rptr (cs.drop 5)) := by simp [fieldAddrV, ti110, ti5]
theorem fv110_5 (cs : List V) : fieldV Try.prog 110 (.agg cs) 5 = cs[5]? := by simp [fieldV, ti110, ti5, partV, TD.agg]
theorem fa110_6 (b o : Nat) : fieldAddrV Try.prog 110 (.ptr b o) 6 = some (.ptr b (o + 6)) := by simp [fieldAddrV, ti110, ti105]
theorem fr110_6 (cs : List V) : fieldAddrV Try.prog 110 (.rptr cs) 6 = some (.rptr (cs.drop 6)) := by simp [fieldAddrV, ti110, ti105]
theorem fv110_6 (cs : List V) : fieldV Try.prog 110 (.agg cs) 6 = cs[6]? := by simp [fieldV, ti110, ti105, partV, TD.agg]
theorem fa110_7 (b o : Nat) : fieldAddrV Try.prog 110 (.ptr b o) 7 = some (.ptr b (o + 7)) := by simp [fieldAddrV, ti110, ti106]
theorem fr110_7 (cs : List V) : fieldAddrV Try.prog 110 (.rptr cs) 7 = some (.rptr (cs.drop 7)) := by simp [fieldAddrV, ti110, ti106]
theorem fv110_7 (cs : List V) : fieldV Try.prog 110 (.agg cs) 7 = cs[7]? := by simp [fieldV, ti110, ti106, partV, TD.agg]
theorem fa110_8 (b o : Nat) : fieldAddrV Try.prog 110 (.ptr b o) 8 = some (.ptr b (o + 8)) := by simp [fieldAddrV, ti110, ti107]
theorem fr110_8 (cs : List V) : fieldAddrV Try.prog 110 (.rptr cs) 8 = some (.rptr (cs.drop 8)) := by simp [fieldAddrV, ti110, ti107]
theorem fv110_8 (cs : List V) : fieldV Try.prog 110 (.agg cs) 8 = cs[8]? := by simp [fieldV, ti110, ti107, partV, TD.agg]
theorem fa110_9 (b o : Nat) : fieldAddrV Try.prog 110 (.ptr b o) 9 = some (.ptr b (o + 9)) := by simp [fieldAddrV, ti110, ti108]
theorem fr110_9 (cs : List V) : fieldAddrV Try.prog 110 (.rptr cs) 9 = some (.rptr (cs.drop 9)) := by simp [fieldAddrV, ti110, ti108]
theorem fv110_9 (cs : List V) : fieldV Try.prog 110 (.agg cs) 9 = cs[9]? := by simp [fieldV, ti110, ti108, partV, TD.agg]
theorem fa110_10 (b o : Nat) : fieldAddrV Try.prog 110 (.ptr b o) 10 = some (.ptr b (o + 10)) := by simp [fieldAddrV, ti110, ti109]
theorem fr110_10 (cs : List V) : fieldAddrV Try.prog 110 (.rptr cs) 10 = some (.rptr (cs.drop 10)) := by simp [fieldAddrV, ti110, ti109]
theorem fv110_10 (cs : List V) : fieldV Try.prog 110 (.agg cs) 10 = cs[10]? := by simp [fieldV, ti110, ti109, partV, TD.agg]
theorem fa111_0 (b o : Nat) : fieldAddrV Try.prog 111 (.ptr b o) 0 = some (.ptr b (o + 0)) := by simp [fieldAddrV, ti111, ti12]
theorem fr111_0 (cs : List V) : fieldAddrV Try.prog 111 (.rptr cs) 0 = some (.rptr (cs.drop 0)) := by simp [fieldAddrV, ti111, ti12]
theorem fv111_0 (cs : List V) : fieldV Try.prog 111 (.agg cs) 0 = cs[0]? := by simp [fieldV, ti111, ti12, partV, TD.agg]
theorem fa111_1 (b o : Nat) : fieldAddrV Try.prog 111 (.ptr b o) 1 = some (.ptr b (o + 1)) := by simp [fieldAddrV, ti111, ti12]
theorem fr111_1 (cs : List V) : fieldAddrV Try.prog 111 (.rptr cs) 1 = some (.rptr (cs.drop 1)) := by simp [fieldAddrV, ti111, ti12]
theorem fv111_1 (cs : List V) : fieldV Try.prog 111 (.agg cs) 1 = cs[1]? := by simp [fieldV, ti111, ti12, partV, TD.agg]
theorem fa111_2 (b o : Nat) : fieldAddrV Try.prog 111 (.ptr b o) 2 = some (.ptr b (o + 2)) := by simp [fieldAddrV, ti111, ti103]
theorem fr111_2 (cs : List V) : fieldAddrV Try.prog 111 (.rptr cs) 2 = some (.rptr (cs.drop 2)) := by simp [fieldAddrV, ti111, ti103]
theorem fv111_2 (cs : List V) : fieldV Try.prog 111 (.agg cs) 2 = cs[2]? := by simp [fieldV, ti111, ti103, partV, TD.agg]
theorem fa111_3 (b o : Nat) : fieldAddrV Try.prog 111 (.ptr b o) 3 = some (.ptr b (o + 3)) := by simp [fieldAddrV, ti111, ti104]
theorem fr111_3 (cs : List V) : fieldAddrV Try.prog 111 (.rptr cs) 3 = some (.rptr (cs.drop 3)) := by simp [fieldAddrV, ti111, ti104]
theorem fv111_3 (cs : List V) : fieldV Try.prog 111 (.agg cs) 3 = cs[3]? := by simp [fieldV, ti111, ti104, partV, TD.agg]
theorem fa111_4 (b o : Nat) : fieldAddrV Try.prog 111 (.ptr b o) 4 = some (.ptr b (o + 4)) := by simp [fieldAddrV, ti111, ti5]
theorem fr111_4 (cs : List V) : fieldAddrV Try.prog 111 (.rptr cs) 4 = some (.rptr (cs.drop 4)) := by simp [fieldAddrV, ti111, ti5]
theorem fv111_4 (cs : List V) : fieldV Try.prog 111 (.agg cs) 4 = cs[4]? := by simp [fieldV, ti111, ti5, partV, TD.agg]
theorem fa111_5 (b o : Nat) : fieldAddrV Try.prog 111 (.ptr b o) 5 = some (.ptr b (o + 5)) := by simp [fieldAddrV, ti111, ti5]
theorem fr111_5 (cs : List V) : fieldAddrV Try.prog 111 (.rptr cs) 5 = some (.rptr (cs.drop 5)) := by simp [fieldAddrV, ti111, ti5]
theorem fv111_5 (cs : List V) : fieldV Try.prog 111 (.agg cs) 5 = cs[5]? := by simp [fieldV, ti111, ti5, partV, TD.agg]
theorem fa111_6 (b o : Nat) : fieldAddrV Try.prog 111 (.ptr b o) 6 = some (.ptr b (o + 6)) := by simp [fieldAddrV, ti111, ti105]
theorem fr111_6 (cs : List V) : fieldAddrV Try.prog 111 (.rptr cs) 6 = some (.rptr (cs.drop 6)) := by simp [fieldAddrV, ti111, ti105]
theorem fv111_6 (cs : List V) : fieldV Try.prog 111 (.agg cs) 6 = cs[6]? := by simp [fieldV, ti111, ti105, partV, TD.agg]
theorem fa111_7 (b o : Nat) : fieldAddrV Try.prog 111 (.ptr b o) 7 = some (.ptr b (o + 7)) := by simp [fieldAddrV, ti111, ti106]
theorem fr111_7 (cs : List V) : fieldAddrV Try.prog 111 (.rptr cs) 7 = some (.rptr (cs.drop 7)) := by simp [fieldAddrV, ti111, ti106]
theorem fv111_7 (cs : List V) : fieldV Try.prog 111 (.agg cs) 7 = cs[7]? := by simp [fieldV, ti111, ti106, partV, TD.agg]
theorem fa111_8 (b o : Nat) : fieldAddrV Try.prog 111 (.ptr b o) 8 = some (.ptr b (o + 8)) := by simp [fieldAddrV, ti111, ti107]
theorem fr111_8 (cs : List V) : fieldAddrV Try.prog 111 (.rptr cs) 8 = some (.rptr (cs.drop 8)) := by simp [fieldAddrV, ti111, ti107]
theorem fv111_8 (cs : List V) : fieldV Try.prog 111 (.agg cs) 8 = cs[8]? := by simp [fieldV, ti111, ti107, partV, TD.agg]
theorem fa111_9 (b o : Nat) : fieldAddrV Try.prog 111 (.ptr b o) 9 = some (.ptr b (o + 9)) := by simp [fieldAddrV, ti111, ti108]
theorem fr111_9 (cs : List V) : fieldAddrV Try.prog 111 (.rptr cs) 9 = some (.rptr (cs.drop 9)) := by simp [fieldAddrV, ti111, ti108]
theorem fv111_9 (cs : List V) : fieldV Try.prog 111 (.agg cs) 9 = cs[9]? := by simp [fieldV, ti111, ti108, partV, TD.agg]
theorem fa111_10 (b o : Nat) : fieldAddrV Try.prog 111 (.ptr b o) 10 = some (.ptr b (o + 10)) := by simp [fieldAddrV, ti111, ti109]
theorem fr111_10 (cs : List V) : fieldAddrV Try.prog 111 (.rptr cs) 10 = some (.rptr (cs.drop 10)) := by simp [fieldAddrV, ti111, ti109]
theorem fv111_10 (cs : List V) : fieldV Try.prog 111 (.agg cs) 10 = cs[10]? := by simp [fieldV, ti111, ti109, partV, TD.agg]
theorem fk3 (d : Nat) : flatK Try.prog (d + 1) 3 = some [.int .i64] := flatK_int Try.underlying3 (i := Try.t3) (by kernel_rfl) rfl
theorem fk23 (d : Nat) : flatK Try.prog (d + 2) 23 = some [.int .i64, .int .i64, .int .i64, .int .i64, .int .i64, .int .i64] := flatK_arr Try.underlying23 (i := Try.t23) (by kernel_rfl) (fk3 d) rfl
theorem eqK23 : eqK Try.prog 23 = some [.int .i64, .int .i64, .int .i64, .int .i64, .int .i64, .int .i64] := eqK_of Try.eqGuardType23 (fk23 62)
theorem fk25 (d : Nat) : flatK Try.prog (d + 2) 25 = some [.int .i64, .int .i64] := by
  refine flatK_struct Try.underlying25 (i := Try.t25) (by kernel_rfl) Try.stoodInHeld25 ?_ rfl
  refine fields_cons (ks := [.int .i64]) (r := [.int .i64]) ?_ rfl (fk3 (d + 0)) rfl ?_
  · kernel_rfl
  refine fields_cons (ks := [.int .i64]) (r := []) ?_ rfl (fk3 (d + 0)) rfl ?_
  · kernel_rfl
  exact fields_nil _ _
theorem eqK25 : eqK Try.prog 25 = some [.int .i64, .int .i64] := eqK_of Try.eqGuardType25 (fk25 62)
theorem fk9 (d : Nat) : flatK Try.prog (d + 1) 9 = some [.str] := flatK_str Try.underlying9 (i := Try.t9) (by kernel_rfl) rfl
theorem fk47 (d : Nat) : flatK Try.prog (d + 2) 47 = some [.int .i64, .str, .str] := by
  refine flatK_struct Try.underlying47 (i := Try.t47) (by kernel_rfl) Try.stoodInHeld47 ?_ rfl
  refine fields_cons (ks := [.int .i64]) (r := [.str, .str]) ?_ rfl (fk3 (d + 0)) rfl ?_
  · kernel_rfl
  refine fields_cons (ks := [.str]) (r := [.str]) ?_ rfl (fk9 (d + 0)) rfl ?_
  · kernel_rfl
  refine fields_cons (ks := [.str]) (r := []) ?_ rfl (fk9 (d + 0)) rfl ?_
  · kernel_rfl
  exact fields_nil _ _
theorem eqK47 : eqK Try.prog 47 = some [.int .i64, .str, .str] := eqK_of Try.eqGuardType47 (fk47 62)
end Go.PV
/- Tags: words. -/
namespace Go.PV
open Go.Proofs
set_option linter.unusedVariables false
set_option linter.unusedSimpArgs false

def tagV (r n : Int) : V := .agg [.int .i64 r, .int .i64 n]
theorem wrapI {x : Int} (h0 : -9223372036854775808 ≤ x) (h1 : x ≤ 9223372036854775807) : IntKind.i64.wrap x = x := by rw [IntKind.wrap_i64]; omega
theorem bool_neq (a b : Bool) : binV Try.prog .neq 4 (.bool a) (.bool b) = some (.bool (!(a == b))) := by simp [binV, eqlV, ti4]
theorem bool_eql (a b : Bool) : binV Try.prog .eql 4 (.bool a) (.bool b) = some (.bool (a == b)) := by simp [binV, eqlV, ti4]
def tagB (r n : Int) : Bool := decide (1 ≤ r) && decide (r ≤ 6) && decide (1 ≤ n) && decide (n ≤ 1099511627776)
theorem tag_cells (r n : Int) : (tagV r n).cells = [.int .i64 r, .int .i64 n] := rfl
theorem tag_bare (r n : Int) : (tagV r n).bare = tagV r n := rfl
theorem tag_noP (r n : Int) : (tagV r n).noP = true := rfl
theorem tag_toks (r n : Int) : (tagV r n).toks = [] := rfl
theorem tag_keep (r n : Int) (ow : List (Nat × Nat)) : (tagV r n).keep ow = tagV r n := rfl
theorem tag_isC (r n : Int) : ([.int .i64 r, .int .i64 n] : List V).all V.isCell = true := rfl

theorem mixed : Try.prog.follows .mixedOrders = true := by kernel_rfl
theorem tagB_iff {r n : Int} : tagB r n = true ↔ 1 ≤ r ∧ r ≤ 6 ∧ 1 ≤ n ∧ n ≤ 1099511627776 := by simp [tagB, and_assoc]
theorem tag_load {l : List (Nat × TypeId)} {b : Nat} {z : Option (List V)} {r n : Int} : loadV ⟨.struct l, 2, b, z⟩ [.int .i64 r, .int .i64 n] = some (tagV r n) := rfl
theorem tag_bare1 (r n : Int) : (tagV r n).bare1 = tagV r n := rfl
theorem wrL_full {α : Type} {cs ys : List α} (h : cs.length = ys.length) : wrL cs 0 ys = ys := by
  apply List.ext_getElem?
  intro k
  rcases Nat.lt_or_ge k ys.length with hk | hk
  · have := wrL_in ys cs 0 k (by omega) hk
    simpa using this
  · rw [List.getElem?_eq_none hk, List.getElem?_eq_none (by rw [wrL_length]; omega)]
theorem tag_fold (r n : Int) : V.agg [.int .i64 r, .int .i64 n] = tagV r n := rfl
theorem tag_full (a b c d : V) : wrL [a, b] 0 [c, d] = [c, d] := rfl
theorem tag_neq (r n r' n' : Int) : binV Try.prog .neq 25 (tagV r n) (tagV r' n') = some (.bool (!((r == r') && (n == n')))) := by
  simp [binV, eqlV, tagV, ti25, eqK25, cellsEq, cellEq]
theorem tag_eql (r n r' n' : Int) : binV Try.prog .eql 25 (tagV r n) (tagV r' n') = some (.bool ((r == r') && (n == n'))) := by
  simp [binV, eqlV, tagV, ti25, eqK25, cellsEq, cellEq]

def tagE (q : Int × Int) : V := tagV q.1 q.2
theorem range_one : ([0] = List.range 1) = True := by simp
theorem tag_clean (r n : Int) : (tagV r n).clean = true := rfl
theorem cat_at {α : Type} (l : List α) (x : α) : (l ++ [x])[l.length]? = some x := by simp
theorem cat_set {α : Type} (l : List α) (x y : α) : (l ++ [x]).set l.length y = l ++ [y] := by simp
theorem tagE_cells (q : Int × Int) : (tagE q).cells = [.int .i64 q.1, .int .i64 q.2] := rfl
/-- a bare slice of the tags l -/
def TS (l : List (Int × Int)) (x : V) : Prop := (l = [] ∧ x = .nils) ∨ ∃ ex, x = .slice 2 (l.map tagE) ex none
theorem TS.bare {l : List (Int × Int)} {x : V} (h : TS l x) : x.bare = x := by
  rcases h with ⟨_, rfl⟩ | ⟨ex, rfl⟩ <;> rfl
theorem TS.noP {l : List (Int × Int)} {x : V} (h : TS l x) : x.noP = true := by
  rcases h with ⟨_, rfl⟩ | ⟨ex, rfl⟩ <;> simp [V.noP, V.noP1, V.noP0]
theorem TS.len {l : List (Int × Int)} {x : V} (h : TS l x) : lenV Try.prog 38 x = some (.int .i64 l.length) := by
  rcases h with ⟨rfl, rfl⟩ | ⟨ex, rfl⟩ <;> simp [lenV, ti38]
theorem TS.ia {l : List (Int × Int)} {x : V} (h : TS l x) {i : Nat} {q : Int × Int} (hq : l[i]? = some q) : indexAddrV Try.prog 38 x (.int .i64 i) = some (.rptr [.int .i64 q.1, .int .i64 q.2]) := by
  rcases h with ⟨rfl, rfl⟩ | ⟨ex, rfl⟩
  · simp at hq
  · simp [indexAddrV, ti38, ti25, hq, tagE_cells]
theorem TS.noP1 {l : List (Int × Int)} {x : V} (h : TS l x) : x.noP1 = true := by
  rcases h with ⟨_, rfl⟩ | ⟨ex, rfl⟩ <;> simp [V.noP1, V.noP0]
theorem TS.bare1 {l : List (Int × Int)} {x : V} (h : TS l x) : x.bare1 = x := by
  rcases h with ⟨_, rfl⟩ | ⟨ex, rfl⟩ <;> rfl
theorem TS.tnoP {l : List (Int × Int)} {x : V} (h : TS l x) (c : Int) : (V.tup [x, .int .i64 c]).noP = true := by
  rcases h with ⟨_, rfl⟩ | ⟨ex, rfl⟩ <;> simp [V.noP, V.noP1, V.noP0]
theorem TS.tbare {l : List (Int × Int)} {x : V} (h : TS l x) (c : Int) : (V.tup [x, .int .i64 c]).bare = .tup [x, .int .i64 c] := by
  rcases h with ⟨_, rfl⟩ | ⟨ex, rfl⟩ <;> rfl
theorem TS.toks {l : List (Int × Int)} {x : V} (h : TS l x) : V.toks x = [] := by
  rcases h with ⟨_, rfl⟩ | ⟨ex, rfl⟩ <;> rfl
theorem range_two : ([0, 1] = List.range 2) = True := by simp [List.range_succ_eq_map]
theorem keep_bool (ow : List (Nat × Nat)) (b : Bool) : V.keep ow (.bool b) = .bool b := rfl
theorem keep_int (ow : List (Nat × Nat)) (k : IntKind) (n : Int) : V.keep ow (.int k n) = .int k n := rfl
theorem tag_load2 {l : List (Nat × TypeId)} {b : Nat} {z : Option (List V)} {r n : Int} {rest : List V} : loadV ⟨.struct l, 2, b, z⟩ (.int .i64 r :: .int .i64 n :: rest) = some (tagV r n) := by simp [loadV, TD.agg, tagV]
theorem lth0 (n : Nat) : (0 < n + 1) = True := by simp; try omega
theorem lth1 (n : Nat) : (1 < n + 1 + 1) = True := by simp; try omega
theorem lth2 (n : Nat) : (2 < n + 1 + 1 + 1) = True := by simp; try omega
theorem lth3 (n : Nat) : (3 < n + 1 + 1 + 1 + 1) = True := by simp; try omega
theorem lth4 (n : Nat) : (4 < n + 1 + 1 + 1 + 1 + 1) = True := by simp; try omega
theorem lth5 (n : Nat) : (5 < n + 1 + 1 + 1 + 1 + 1 + 1) = True := by simp; try omega
theorem lth6 (n : Nat) : (6 < n + 1 + 1 + 1 + 1 + 1 + 1 + 1) = True := by simp; try omega
theorem lth7 (n : Nat) : (7 < n + 1 + 1 + 1 + 1 + 1 + 1 + 1 + 1) = True := by simp; try omega
theorem lth8 (n : Nat) : (8 < n + 1 + 1 + 1 + 1 + 1 + 1 + 1 + 1 + 1) = True := by simp; try omega
theorem lth9 (n : Nat) : (9 < n + 1 + 1 + 1 + 1 + 1 + 1 + 1 + 1 + 1 + 1) = True := by simp; try omega
theorem lth10 (n : Nat) : (10 < n + 1 + 1 + 1 + 1 + 1 + 1 + 1 + 1 + 1 + 1 + 1) = True := by simp; try omega
theorem lth11 (n : Nat) : (11 < n + 1 + 1 + 1 + 1 + 1 + 1 + 1 + 1 + 1 + 1 + 1 + 1) = True := by simp; try omega
theorem icell_int (k : IntKind) (n : Int) : (V.int k n).isCell = true := rfl
theorem icell_str (s : List UInt8) : (V.str s).isCell = true := rfl
theorem icell_bool (b : Bool) : (V.bool b).isCell = true := rfl
theorem load_str {n b : Nat} {z : Option (List V)} (x : V) (r : List V) : loadV ⟨.str, n, b, z⟩ (x :: r) = some x := rfl
theorem load_bool {n b : Nat} {z : Option (List V)} (x : V) (r : List V) : loadV ⟨.bool, n, b, z⟩ (x :: r) = some x := rfl
theorem load_int {k : IntKind} {n b : Nat} {z : Option (List V)} (x : V) (r : List V) : loadV ⟨.int k, n, b, z⟩ (x :: r) = some x := rfl
theorem load_slice {e n b : Nat} {z : Option (List V)} (x : V) (r : List V) : loadV ⟨.slice e, n, b, z⟩ (x :: r) = some x := rfl
end Go.PV
/- Closed calls: the table of types that are compared. -/
namespace Go.PV
open Go.Proofs
theorem names : namesOk Try.prog = true := by kernel_rfl
noncomputable def tab : List (Nat × List TD) := [(25, [.int .i64, .int .i64]), (47, [.int .i64, .str, .str])]
theorem tabOk : TabOk Try.prog tab := by
  intro q hq
  simp only [tab, List.mem_cons, List.not_mem_nil, or_false] at hq
  rcases hq with rfl | rfl
  · exact .inl ⟨⟨_, _, _, _, ti25⟩, eqK25⟩
  · exact .inl ⟨⟨_, _, _, _, ti47⟩, eqK47⟩
end Go.PV
/- Vectors and tags: words. -/
namespace Go.PV
open Go.Proofs
set_option linter.unusedVariables false
set_option linter.unusedSimpArgs false

def vecV (v : List Int) : V := .agg (v.map (V.int .i64))
theorem vec_cells (v : List Int) : (vecV v).cells = v.map (V.int .i64) := rfl
theorem all_ints (v : List Int) : (v.map (V.int .i64)).all V.isCell = true := by simp [V.isCell]
theorem vec_toks (v : List Int) : (vecV v).toks = [] := by simp [vecV, V.toks, V.cells, V.tokC]
theorem vec_bare (v : List Int) : (vecV v).bare = vecV v := by simp [vecV, V.bare, V.bare1, V.bareC]
theorem vec_keep (v : List Int) (ow : List (Nat × Nat)) : (vecV v).keep ow = vecV v := by simp [vecV, V.keep, V.keep1, V.keepC]
theorem vec_noP (v : List Int) : (vecV v).noP = true := by simp [vecV, V.noP, V.noP1, V.noP0]
theorem vec_ok (v : List Int) (m : Nat) : okV m (vecV v) = true := by simp [vecV, okV, ok1, okC, okP]
theorem vec_load {v : List Int} (hv : v.length = 6) {n b : Nat} {z : Option (List V)} : loadV ⟨.arr n 3, 6, b, z⟩ (v.map (V.int .i64)) = some (vecV v) := by
  simp [loadV, TD.agg, hv, vecV]
  rw [List.take_of_length_le (by simp [hv])]
theorem vec_at {v : List Int} {k : Nat} {x : Int} (h : v[k]? = some x) : ((v.map (V.int .i64)).drop k).head? = some (.int .i64 x) := by
  simp [List.head?_drop, h]
theorem vec_index {v : List Int} {i x : Int} (h0 : 0 ≤ i) (h6 : i < 6) (h : v[i.toNat]? = some x) : indexV Try.prog 23 (vecV v) (.int .i64 i) = some (.int .i64 x) := by
  simp only [indexV, ti23, vecV, ti3]
  rw [if_pos (by omega)]
  simp [partV, TD.agg, h]
end Go.PV
/- Vectors: dot.Right. -/
namespace Go.PV
open Go.Proofs
set_option linter.unusedVariables false
set_option linter.unusedSimpArgs false
set_option maxRecDepth 10000

def rightB (v : List Int) : Bool := v.all fun n => decide (0 ≤ n) && decide (n ≤ 400)

theorem right_false {v : List Int} {i : Nat} {x : Int} (hx : v[i]? = some x) (h : x < 0 ∨ x > 400) : rightB v = false := by
  rw [rightB, List.all_eq_false]
  exact ⟨x, List.mem_of_getElem? hx, by simp; omega⟩
theorem right_true {v : List Int} (h : ∀ (k : Nat) y, v[k]? = some y → 0 ≤ y ∧ y ≤ 400) : rightB v = true := by
  rw [rightB, List.all_eq_true]
  intro x hx
  obtain ⟨k, hk⟩ := List.mem_iff_getElem?.1 hx
  have := h k x hk
  simp; omega
theorem right_iff {v : List Int} : rightB v = true ↔ ∀ (k : Nat) y, v[k]? = some y → 0 ≤ y ∧ y ≤ 400 := by
  refine ⟨fun h k y hy => ?_, right_true⟩
  have := List.all_eq_true.1 h y (List.mem_of_getElem? hy)
  simp at this; omega

theorem c_punnet_dot_Right (v : List Int) (hv : v.length = 6) : VC Try.prog 16 [vecV v] [] (fun r _ => r = .bool (rightB v)) := by
  refine VC_enter (nt := 16) (rs := [.tmp 2]) (ow := []) (m := 0) Try.func16 rfl (by rfl) rfl rfl (by simp) (by simp [ownOf, vec_toks]) rfl (fun n => ?_)
  simp only [zipT]
  refine WC_seq_k (fun N1 hN1 => ?_)
  refine WC_region ?_
  simp only [sS, ↓sT, if_true, if_false, Nat.reduceLT, Nat.reduceEqDiff, ↓WOps_box, ↓WOps_assign, ↓WOps_nil, loudV, opV, vec_cells, all_ints, List.nil_append, List.length_nil]
  refine hN1 _ ?_; clear hN1 N1
  refine WC_seq_k (fun N2 hN2 => ?_)
  refine WC_seq_k (fun N3 hN3 => ?_)
  refine WC_region ?_
  simp only [sS, ↓sT, if_true, if_false, Nat.reduceLT, Nat.reduceEqDiff, ↓WOps_load, ↓WOps_move, ↓WOps_nil, opV, cellsOf, ti23, List.getElem?_cons_zero, List.drop_zero, vec_load hv]
  refine hN3 _ ?_; clear hN3 N3
  refine WC_block ?_
  refine WC_loopG (σ := Nat) (fun i s => ∃ ps, s = ⟨mkS 16 ps, [v.map (V.int .i64)], [], n⟩ ∧ Has ps [(6, .int .i64 i), (5, vecV v)] ∧ i ≤ 6 ∧ ∀ k, k < i → ∀ y, v[k]? = some y → 0 ≤ y ∧ y ≤ 400) (fun t => 6 - t) 0 ?_ (fun i s hI => ?_)  -- LOOP writes [2, 4, 6, 7, 8, 9, 10, 11, 12, 13, 14, 15]
  · exact ⟨_, rfl, ⟨rfl, rfl, trivial⟩, by omega, fun k hk => by omega⟩
  obtain ⟨ps, rfl, hps, hi, hall⟩ := hI
  refine WC_has hps ?_; clear hps ps
  refine WC_seq_k (fun N4 hN4 => ?_)
  refine WC_region ?_
  simp only [sS, ↓sT, if_true, if_false, Nat.reduceLT, Nat.reduceEqDiff, ↓WOps_binOp, ↓WOps_nil, opV, bin_lss]
  refine hN4 _ ?_; clear hN4 N4
  refine WC_seq_k (fun N5 hN5 => ?_)
  refine WC_condE ?_
  simp only [sS, ↓sT, if_true, if_false, Nat.reduceLT, Nat.reduceEqDiff, ↓stepC_bool]
  refine ⟨fun hb => ?_, fun hb => ?_⟩
  · refine WC_skip ?_
    refine hN5 _ ?_; clear hN5 N5
    have hi6 : i < 6 := by have := of_decide_eq_true hb; omega
    obtain ⟨x, hx⟩ : ∃ x, v[i]? = some x := ⟨_, List.getElem?_eq_getElem (by omega)⟩
    have hix := vec_index (i := (i : Int)) (by omega) (by omega) (by simpa using hx)
    refine WC_seq_k (fun N6 hN6 => ?_)
    refine WC_block ?_
    refine WC_seq_k (fun N7 hN7 => ?_)
    refine WC_region ?_
    simp only [sS, ↓sT, if_true, if_false, Nat.reduceLT, Nat.reduceEqDiff, ↓WOps_index, ↓WOps_assign, ↓WOps_nil, opV, hix]
    refine hN7 _ ?_; clear hN7 N7
    refine WC_seq_k (fun N8 hN8 => ?_)
    refine WC_region ?_
    simp only [sS, ↓sT, if_true, if_false, Nat.reduceLT, Nat.reduceEqDiff, ↓WOps_move, ↓WOps_binOp, ↓WOps_g, ↓WOps_pick, ↓WOps_nil, opV, bin_lss, bin_gtr]
    refine stepB_F (fun hg => ?_) (fun hg => ?_)
    all_goals simp only [sS, ↓sT, if_true, if_false, Nat.reduceLT, Nat.reduceEqDiff, ↓sO, ↓WOps_g, sG, opV, loudV, cellsOf, strOp, evL, Nat.reduceAdd, beq_self_eq_true, bne_self_eq_false, Int.reduceBEq, Int.reduceBNe, hg]
    · refine hN8 _ ?_; clear hN8 N8
      refine WC_condE ?_
      simp only [sS, ↓sT, if_true, if_false, Nat.reduceLT, Nat.reduceEqDiff, ↓stepC_bool]
      refine ⟨fun hc => ?_, fun hc => ?_⟩
      · refine WC_seq_k (fun N9 hN9 => ?_)
        refine WC_region ?_
        simp only [sS, ↓sT, if_true, if_false, Nat.reduceLT, Nat.reduceEqDiff, ↓WOps_assign, ↓WOps_nil, opV]
        refine hN9 _ ?_; clear hN9 N9
        refine WC_ret ?_; (try simp only [Exit.after, Exit.out]); refine Kend_ret (by simp only [resOf, resL, resV, slots_get, sS, ↓sT, if_true, if_false, Nat.reduceLT, Nat.reduceEqDiff]; rfl) (by rfl) ?_
        show V.bool false = _
        rw [right_false hx (.inr (of_decide_eq_true hc))]
      · refine WC_skip ?_
        refine hN6 _ ?_; clear hN6 N6
        refine WC_region ?_
        simp only [sS, ↓sT, if_true, if_false, Nat.reduceLT, Nat.reduceEqDiff, ↓WOps_binOp, ↓WOps_move, ↓WOps_nil, opV, bin_add, wrapI (x := (i : Int) + 1) (by omega) (by omega)]
        refine ⟨i + 1, ⟨_, rfl, ⟨rfl, rfl, trivial⟩, by omega, fun k hk y hy => ?_⟩, by omega⟩
        have h1 := of_decide_eq_false hg
        have h2 := of_decide_eq_false hc
        rcases Nat.lt_or_ge k i with hki | hki
        · exact hall k hki y hy
        · obtain rfl : k = i := by omega
          rw [hx] at hy
          obtain rfl := Option.some.inj hy
          omega
    · refine hN8 _ ?_; clear hN8 N8
      refine WC_condE ?_
      simp only [sS, ↓sT, if_true, if_false, Nat.reduceLT, Nat.reduceEqDiff, ↓stepC_bool]
      refine ⟨fun hc => ?_, fun hc => by cases hc⟩
      refine WC_seq_k (fun N9 hN9 => ?_)
      refine WC_region ?_
      simp only [sS, ↓sT, if_true, if_false, Nat.reduceLT, Nat.reduceEqDiff, ↓WOps_assign, ↓WOps_nil, opV]
      refine hN9 _ ?_; clear hN9 N9
      refine WC_ret ?_; (try simp only [Exit.after, Exit.out]); refine Kend_ret (by simp only [resOf, resL, resV, slots_get, sS, ↓sT, if_true, if_false, Nat.reduceLT, Nat.reduceEqDiff]; rfl) (by rfl) ?_
      show V.bool false = _
      rw [right_false hx (.inl (of_decide_eq_true hg))]
  · refine WC_exit ?_
    refine hN2 _ ?_
    refine WC_seq_k (fun N9 hN9 => ?_)
    refine WC_region ?_
    simp only [sS, ↓sT, if_true, if_false, Nat.reduceLT, Nat.reduceEqDiff, ↓WOps_assign, ↓WOps_nil, opV]
    refine hN9 _ ?_; clear hN9 N9
    refine WC_ret ?_; (try simp only [Exit.after, Exit.out]); refine Kend_ret (by simp only [resOf, resL, resV, slots_get, sS, ↓sT, if_true, if_false, Nat.reduceLT, Nat.reduceEqDiff]; rfl) (by rfl) ?_
    show V.bool true = _
    have := of_decide_eq_false hb
    rw [right_true (fun k y hy => hall k (by have := (List.getElem?_eq_some_iff.1 hy).1; omega) y hy)]
end Go.PV
/- Tags: tree.Tag, punnetref17.Tag. -/
namespace Go.PV
open Go.Proofs
set_option linter.unusedVariables false
set_option linter.unusedSimpArgs false
set_option maxRecDepth 10000

theorem c_punnet_tree_Tag (r t : Int) : VC Try.prog 48 [tagV r t] [] (fun q _ => q = .bool (tagB r t)) := by
  refine VC_enter (nt := 21) (rs := [.tmp 2]) (ow := []) (m := 0) Try.func48 rfl (by rfl) rfl rfl (by simp) (by simp [ownOf, tag_toks]) rfl (fun n => ?_)
  simp only [zipT]
  refine WC_seqR (fun N1 hN1 hD1 => ?_)
  simp only [sS, ↓sT, if_true, if_false, Nat.reduceLT, Nat.reduceEqDiff, ↓sO, ↓WOps_g, sG, opV, loudV, cellsOf, strOp, evL, Nat.reduceAdd, beq_self_eq_true, bne_self_eq_false, Int.reduceBEq, Int.reduceBNe, tag_cells, tag_isC]
  refine hN1 _ ?_; clear hN1 hD1 N1
  refine WC_seqR (fun N2 hN2 hD2 => ?_)
  have J : ∀ b, b = tagB r t → N2 ⟨mkS 21 [(2, .bool b)], [[.int .i64 r, .int .i64 t]], [], n⟩ := by
    intro b hb
    refine hN2 _ ?_
    refine WC_ret ?_
    try simp only [Exit.after, Exit.out]
    refine Kend_ret (by simp only [resOf, resL, resV, slots_get, sS, ↓sT, if_true, if_false, Nat.reduceLT, Nat.reduceEqDiff]; rfl) (by rfl) ?_
    show V.bool b = _
    rw [hb]
  simp only [sS, ↓sT, if_true, if_false, Nat.reduceLT, Nat.reduceEqDiff, ↓sO, ↓WOps_g, sG, opV, loudV, cellsOf, strOp, evL, Nat.reduceAdd, beq_self_eq_true, bne_self_eq_false, Int.reduceBEq, Int.reduceBNe, fa25_0, fr25_0, fv25_0, fa25_1, fr25_1, fv25_1, ti3]
  refine stepB_T (fun hg => ?_) (fun hg => ?_)  -- guard 3
  all_goals simp only [sS, ↓sT, if_true, if_false, Nat.reduceLT, Nat.reduceEqDiff, ↓sO, ↓WOps_g, sG, opV, loudV, cellsOf, strOp, evL, Nat.reduceAdd, beq_self_eq_true, bne_self_eq_false, Int.reduceBEq, Int.reduceBNe, fa25_0, fr25_0, fv25_0, fa25_1, fr25_1, fv25_1, ti3, hg]
  · refine stepB_T (fun hg2 => ?_) (fun hg2 => ?_)  -- guard 8
    all_goals simp only [sS, ↓sT, if_true, if_false, Nat.reduceLT, Nat.reduceEqDiff, ↓sO, ↓WOps_g, sG, opV, loudV, cellsOf, strOp, evL, Nat.reduceAdd, beq_self_eq_true, bne_self_eq_false, Int.reduceBEq, Int.reduceBNe, fa25_0, fr25_0, fv25_0, fa25_1, fr25_1, fv25_1, ti3, hg2]
    · refine stepB_T (fun hg3 => ?_) (fun hg3 => ?_)  -- guard 13
      all_goals simp only [sS, ↓sT, if_true, if_false, Nat.reduceLT, Nat.reduceEqDiff, ↓sO, ↓WOps_g, sG, opV, loudV, cellsOf, strOp, evL, Nat.reduceAdd, beq_self_eq_true, bne_self_eq_false, Int.reduceBEq, Int.reduceBNe, fa25_0, fr25_0, fv25_0, fa25_1, fr25_1, fv25_1, ti3, hg3]
      all_goals (refine hD2 [2] _ _ _ _ _ (J _ ?_); clear J hN2 hD2; rw [Bool.eq_iff_iff]; simp_all [tagB]; try omega)
    · refine hD2 [2] _ _ _ _ _ (J _ ?_); clear J hN2 hD2; rw [Bool.eq_iff_iff]; simp_all [tagB]; try omega
  · refine hD2 [2] _ _ _ _ _ (J _ ?_); clear J hN2 hD2; rw [Bool.eq_iff_iff]; simp_all [tagB]; try omega
theorem c_punnet_punnetref17_Tag (r t : Int) : VC Try.prog 49 [tagV r t] [] (fun q _ => q = .bool (tagB r t)) := by
  refine VC_enter (nt := 21) (rs := [.tmp 2]) (ow := []) (m := 0) Try.func49 rfl (by rfl) rfl rfl (by simp) (by simp [ownOf, tag_toks]) rfl (fun n => ?_)
  simp only [zipT]
  refine WC_seqR (fun N1 hN1 hD1 => ?_)
  simp only [sS, ↓sT, if_true, if_false, Nat.reduceLT, Nat.reduceEqDiff, ↓sO, ↓WOps_g, sG, opV, loudV, cellsOf, strOp, evL, Nat.reduceAdd, beq_self_eq_true, bne_self_eq_false, Int.reduceBEq, Int.reduceBNe, tag_cells, tag_isC]
  refine hN1 _ ?_; clear hN1 hD1 N1
  refine WC_seqR (fun N2 hN2 hD2 => ?_)
  have J : ∀ b, b = tagB r t → N2 ⟨mkS 21 [(2, .bool b)], [[.int .i64 r, .int .i64 t]], [], n⟩ := by
    intro b hb
    refine hN2 _ ?_
    refine WC_ret ?_
    try simp only [Exit.after, Exit.out]
    refine Kend_ret (by simp only [resOf, resL, resV, slots_get, sS, ↓sT, if_true, if_false, Nat.reduceLT, Nat.reduceEqDiff]; rfl) (by rfl) ?_
    show V.bool b = _
    rw [hb]
  simp only [sS, ↓sT, if_true, if_false, Nat.reduceLT, Nat.reduceEqDiff, ↓sO, ↓WOps_g, sG, opV, loudV, cellsOf, strOp, evL, Nat.reduceAdd, beq_self_eq_true, bne_self_eq_false, Int.reduceBEq, Int.reduceBNe, fa25_0, fr25_0, fv25_0, fa25_1, fr25_1, fv25_1, ti3]
  refine stepB_T (fun hg => ?_) (fun hg => ?_)  -- guard 3
  all_goals simp only [sS, ↓sT, if_true, if_false, Nat.reduceLT, Nat.reduceEqDiff, ↓sO, ↓WOps_g, sG, opV, loudV, cellsOf, strOp, evL, Nat.reduceAdd, beq_self_eq_true, bne_self_eq_false, Int.reduceBEq, Int.reduceBNe, fa25_0, fr25_0, fv25_0, fa25_1, fr25_1, fv25_1, ti3, hg]
  · refine stepB_T (fun hg2 => ?_) (fun hg2 => ?_)  -- guard 8
    all_goals simp only [sS, ↓sT, if_true, if_false, Nat.reduceLT, Nat.reduceEqDiff, ↓sO, ↓WOps_g, sG, opV, loudV, cellsOf, strOp, evL, Nat.reduceAdd, beq_self_eq_true, bne_self_eq_false, Int.reduceBEq, Int.reduceBNe, fa25_0, fr25_0, fv25_0, fa25_1, fr25_1, fv25_1, ti3, hg2]
    · refine stepB_T (fun hg3 => ?_) (fun hg3 => ?_)  -- guard 13
      all_goals simp only [sS, ↓sT, if_true, if_false, Nat.reduceLT, Nat.reduceEqDiff, ↓sO, ↓WOps_g, sG, opV, loudV, cellsOf, strOp, evL, Nat.reduceAdd, beq_self_eq_true, bne_self_eq_false, Int.reduceBEq, Int.reduceBNe, fa25_0, fr25_0, fv25_0, fa25_1, fr25_1, fv25_1, ti3, hg3]
      all_goals (refine hD2 [2] _ _ _ _ _ (J _ ?_); clear J hN2 hD2; (rw [Bool.eq_iff_iff]; simp_all [tagB]; try omega))
    · refine hD2 [2] _ _ _ _ _ (J _ ?_); clear J hN2 hD2; (rw [Bool.eq_iff_iff]; simp_all [tagB]; try omega)
  · refine hD2 [2] _ _ _ _ _ (J _ ?_); clear J hN2 hD2; (rw [Bool.eq_iff_iff]; simp_all [tagB]; try omega)
end Go.PV
/- dot.Has, punnetref25.Has. -/
namespace Go.PV
open Go.Proofs
set_option linter.unusedVariables false
set_option linter.unusedSimpArgs false
set_option maxRecDepth 10000

def hasB (v : List Int) (r n : Int) : Bool := tagB r n && decide (n ≤ v.getD (r - 1).toNat 0)
theorem vec_ia (b o : Nat) (i : Int) : indexAddrV Try.prog 23 (.ptr b o) (.int .i64 i) = if 0 ≤ i ∧ i < 6 then some (.ptr b (o + i.toNat)) else none := by
  simp [indexAddrV, ti23, ti3]
theorem vec_get {v : List Int} {k : Nat} (h : k < v.length) : ((v.map (V.int .i64)).drop k).head? = some (.int .i64 (v.getD k 0)) :=
  vec_at (by simp [List.getD, h])

theorem c_punnet_dot_Has (v : List Int) (hv : v.length = 6) (r t : Int) : VC Try.prog 18 [vecV v, tagV r t] [] (fun q _ => q = .bool (hasB v r t)) := by
  refine VC_enter (nt := 17) (rs := [.tmp 4]) (ow := []) (m := 0) Try.func18 rfl (by rfl) rfl rfl (by simp) (by simp [ownOf, vec_toks, tag_toks]) rfl (fun n => ?_)
  simp only [zipT, Nat.zero_add]
  refine WC_seqR (fun N1 hN1 hD1 => ?_)
  simp only [sS, ↓sT, if_true, if_false, Nat.reduceLT, Nat.reduceEqDiff, ↓sO, ↓WOps_g, sG, opV, loudV, cellsOf, strOp, evL, Nat.reduceAdd, beq_self_eq_true, bne_self_eq_false, Int.reduceBEq, Int.reduceBNe, tag_cells, tag_isC, vec_cells, all_ints]
  refine hN1 _ ?_; clear hN1 hD1 N1
  refine WC_seqD mixed [] [0, 0, 0, 0, 0, 0, 0, 0, 0, 0, 0, 0, 0] (by decide +kernel) (fun N2 hN2 hD2 => ?_)
  have J : ∀ b, b = hasB v r t → N2 ⟨mkS 17 [(4, .bool b)], [v.map (V.int .i64), [.int .i64 r, .int .i64 t]], [], n⟩ := by
    intro b hb
    refine hN2 _ ?_
    refine WC_ret ?_
    try simp only [Exit.after, Exit.out]
    refine Kend_ret (by simp only [resOf, resL, resV, slots_get, sS, ↓sT, if_true, if_false, Nat.reduceLT, Nat.reduceEqDiff]; rfl) (by rfl) ?_
    show V.bool b = _
    rw [hb]
  simp only [sS, ↓sT, if_true, if_false, Nat.reduceLT, Nat.reduceEqDiff, ↓sD, ↓D_g, memOk, lets0, lets1, List.not_mem_nil, not_false_eq_true, true_and, and_true, sG, opV, loudV, cellsOf, strOp, evL, Nat.reduceAdd, beq_self_eq_true, bne_self_eq_false, Int.reduceBEq, Int.reduceBNe, ti25, fa25_1, fr25_1, fv25_1, ti3, fa25_0, fr25_0, fv25_0, tag_load]
  refine D_callP (c_punnet_tree_Tag r t) (by simp only [ev_func]) (by simp only [evL, sS, ↓sT, if_true, if_false, Nat.reduceLT, Nat.reduceEqDiff]; rfl) (by simp only [List.map, tag_bare]) rfl rfl rfl ?_
  simp only [sS, ↓sT, if_true, if_false, Nat.reduceLT, Nat.reduceEqDiff, ↓sD, ↓D_g, memOk, lets0, lets1, List.not_mem_nil, not_false_eq_true, true_and, and_true, sG, opV, loudV, cellsOf, strOp, evL, Nat.reduceAdd, beq_self_eq_true, bne_self_eq_false, Int.reduceBEq, Int.reduceBNe, ti25, fa25_1, fr25_1, fv25_1, ti3, fa25_0, fr25_0, fv25_0]
  refine stepB_T (fun hg => ?_) (fun hg => ?_)  -- guard 2
  · obtain ⟨h1, h2, h3, h4⟩ := tagB_iff.1 hg
    have hi : 0 ≤ r - 1 ∧ r - 1 < 6 := by omega
    simp only [sS, ↓sT, if_true, if_false, Nat.reduceLT, Nat.reduceEqDiff, ↓sD, ↓D_g, memOk, lets0, lets1, List.not_mem_nil, not_false_eq_true, true_and, and_true, sG, opV, loudV, cellsOf, strOp, evL, Nat.reduceAdd, beq_self_eq_true, bne_self_eq_false, Int.reduceBEq, Int.reduceBNe, ti25, fa25_1, fr25_1, fv25_1, ti3, fa25_0, fr25_0, fv25_0, vec_ia, hg, wrapI (x := r - 1) (by omega) (by omega), hi, vec_get (v := v) (k := (r - 1).toNat) (by omega), and_self]
    refine hD2 [4] _ _ _ _ _ (J _ ?_)
    simp [hasB, hg]
  · simp only [sS, ↓sT, if_true, if_false, Nat.reduceLT, Nat.reduceEqDiff, ↓sD, ↓D_g, memOk, lets0, lets1, List.not_mem_nil, not_false_eq_true, true_and, and_true, sG, opV, loudV, cellsOf, strOp, evL, Nat.reduceAdd, beq_self_eq_true, bne_self_eq_false, Int.reduceBEq, Int.reduceBNe, hg]
    refine hD2 [4] _ _ _ _ _ (J _ ?_)
    simp [hasB, hg]

theorem c_punnet_punnetref25_Has (v : List Int) (hv : v.length = 6) (r t : Int) : VC Try.prog 19 [vecV v, tagV r t] [] (fun q _ => q = .bool (hasB v r t)) := by
  refine VC_enter (nt := 17) (rs := [.tmp 4]) (ow := []) (m := 0) Try.func19 rfl (by rfl) rfl rfl (by simp) (by simp [ownOf, vec_toks, tag_toks]) rfl (fun n => ?_)
  simp only [zipT, Nat.zero_add]
  refine WC_seqR (fun N1 hN1 hD1 => ?_)
  simp only [sS, ↓sT, if_true, if_false, Nat.reduceLT, Nat.reduceEqDiff, ↓sO, ↓WOps_g, sG, opV, loudV, cellsOf, strOp, evL, Nat.reduceAdd, beq_self_eq_true, bne_self_eq_false, Int.reduceBEq, Int.reduceBNe, tag_cells, tag_isC, vec_cells, all_ints]
  refine hN1 _ ?_; clear hN1 hD1 N1
  refine WC_seqD mixed [] [0, 0, 0, 0, 0, 0, 0, 0, 0, 0, 0, 0, 0] (by decide +kernel) (fun N2 hN2 hD2 => ?_)
  have J : ∀ b, b = hasB v r t → N2 ⟨mkS 17 [(4, .bool b)], [v.map (V.int .i64), [.int .i64 r, .int .i64 t]], [], n⟩ := by
    intro b hb
    refine hN2 _ ?_
    refine WC_ret ?_
    try simp only [Exit.after, Exit.out]
    refine Kend_ret (by simp only [resOf, resL, resV, slots_get, sS, ↓sT, if_true, if_false, Nat.reduceLT, Nat.reduceEqDiff]; rfl) (by rfl) ?_
    show V.bool b = _
    rw [hb]
  simp only [sS, ↓sT, if_true, if_false, Nat.reduceLT, Nat.reduceEqDiff, ↓sD, ↓D_g, memOk, lets0, lets1, List.not_mem_nil, not_false_eq_true, true_and, and_true, sG, opV, loudV, cellsOf, strOp, evL, Nat.reduceAdd, beq_self_eq_true, bne_self_eq_false, Int.reduceBEq, Int.reduceBNe, ti25, fa25_1, fr25_1, fv25_1, ti3, fa25_0, fr25_0, fv25_0, tag_load]
  refine D_callP (c_punnet_punnetref17_Tag r t) (by simp only [ev_func]) (by simp only [evL, sS, ↓sT, if_true, if_false, Nat.reduceLT, Nat.reduceEqDiff]; rfl) (by simp only [List.map, tag_bare]) rfl rfl rfl ?_
  simp only [sS, ↓sT, if_true, if_false, Nat.reduceLT, Nat.reduceEqDiff, ↓sD, ↓D_g, memOk, lets0, lets1, List.not_mem_nil, not_false_eq_true, true_and, and_true, sG, opV, loudV, cellsOf, strOp, evL, Nat.reduceAdd, beq_self_eq_true, bne_self_eq_false, Int.reduceBEq, Int.reduceBNe, ti25, fa25_1, fr25_1, fv25_1, ti3, fa25_0, fr25_0, fv25_0]
  refine stepB_T (fun hg => ?_) (fun hg => ?_)  -- guard 2
  · obtain ⟨h1, h2, h3, h4⟩ := tagB_iff.1 hg
    have hi : 0 ≤ r - 1 ∧ r - 1 < 6 := by omega
    simp only [sS, ↓sT, if_true, if_false, Nat.reduceLT, Nat.reduceEqDiff, ↓sD, ↓D_g, memOk, lets0, lets1, List.not_mem_nil, not_false_eq_true, true_and, and_true, sG, opV, loudV, cellsOf, strOp, evL, Nat.reduceAdd, beq_self_eq_true, bne_self_eq_false, Int.reduceBEq, Int.reduceBNe, ti25, fa25_1, fr25_1, fv25_1, ti3, fa25_0, fr25_0, fv25_0, vec_ia, hg, wrapI (x := r - 1) (by omega) (by omega), hi, vec_get (v := v) (k := (r - 1).toNat) (by omega), and_self]
    refine hD2 [4] _ _ _ _ _ (J _ ?_)
    simp [hasB, hg]
  · simp only [sS, ↓sT, if_true, if_false, Nat.reduceLT, Nat.reduceEqDiff, ↓sD, ↓D_g, memOk, lets0, lets1, List.not_mem_nil, not_false_eq_true, true_and, and_true, sG, opV, loudV, cellsOf, strOp, evL, Nat.reduceAdd, beq_self_eq_true, bne_self_eq_false, Int.reduceBEq, Int.reduceBNe, hg]
    refine hD2 [4] _ _ _ _ _ (J _ ?_)
    simp [hasB, hg]
end Go.PV
/- dot.Next, dot.With. -/
namespace Go.PV
open Go.Proofs
set_option linter.unusedVariables false
set_option linter.unusedSimpArgs false
set_option maxRecDepth 10000

theorem right_get {v : List Int} (h : rightB v = true) (k : Nat) : 0 ≤ v.getD k 0 ∧ v.getD k 0 ≤ 400 := by
  rw [List.getD]
  cases hk : v[k]? with
  | none => simp
  | some x => exact right_iff.1 h k x hk
theorem vec_bare1 (v : List Int) : (vecV v).bare1 = vecV v := by simp [vecV, V.bare1, V.bareC]
def tagC (q : (Int × Int) × Int) : V := .tup [tagV q.1.1 q.1.2, .int .i64 q.2]
def nextS (v : List Int) (r : Int) : (Int × Int) × Int :=
  if rightB v = false then ((0, 0), 5) else if r < 1 ∨ r > 6 then ((0, 0), 2) else if v.getD (r - 1).toNat 0 = 400 then ((0, 0), 9) else ((r, v.getD (r - 1).toNat 0 + 1), 0)

theorem c_punnet_dot_Next (v : List Int) (hv : v.length = 6) (r : Int) : VC Try.prog 12 [vecV v, .int .i64 r] [] (fun q _ => q = tagC (nextS v r)) := by
  refine VC_enter (nt := 33) (rs := [.cell 4 25, .tmp 5]) (ow := []) (m := 0) Try.func12 rfl (by rfl) rfl rfl (by simp) (by simp only [ownOf, List.flatMap_cons, vec_toks]; rfl) rfl (fun n => ?_)
  simp only [zipT, Nat.zero_add]
  refine WC_seqR (fun N1 hN1 hD1 => ?_)
  simp only [sS, ↓sT, if_true, if_false, Nat.reduceLT, Nat.reduceEqDiff, ↓sO, ↓WOps_g, sG, opV, loudV, cellsOf, strOp, evL, Nat.reduceAdd, beq_self_eq_true, bne_self_eq_false, Int.reduceBEq, Int.reduceBNe, vec_load hv, tag_load, vec_cells, all_ints, ti25, ti23, ti3, List.getElem?_cons_zero, List.getElem?_cons_succ, List.drop_zero, ti25]
  refine hN1 _ ?_; clear hN1 hD1 N1
  refine WC_seqN (fun N2 hN2 hD2 => ?_)
  refine WC_block ?_
  refine WC_seqR (fun N3 hN3 hD3 => ?_)
  simp only [sS, ↓sT, if_true, if_false, Nat.reduceLT, Nat.reduceEqDiff, ↓sO, ↓WOps_g, sG, opV, loudV, cellsOf, strOp, evL, Nat.reduceAdd, beq_self_eq_true, bne_self_eq_false, Int.reduceBEq, Int.reduceBNe, vec_load hv, tag_load, vec_cells, all_ints, ti25, ti23, ti3, List.getElem?_cons_zero, List.getElem?_cons_succ, List.drop_zero, ti23]
  refine WOps_callP (c_punnet_dot_Right v hv) (by simp only [ev_func]) (by simp only [evL, sS, ↓sT, if_true, if_false, Nat.reduceLT, Nat.reduceEqDiff]; rfl) (by simp only [List.map, vec_bare]) (by simp [vec_noP]) rfl rfl ?_
  simp only [sS, ↓sT, if_true, if_false, Nat.reduceLT, Nat.reduceEqDiff, ↓sO, ↓WOps_g, sG, opV, loudV, cellsOf, strOp, evL, Nat.reduceAdd, beq_self_eq_true, bne_self_eq_false, Int.reduceBEq, Int.reduceBNe, vec_load hv, tag_load, vec_cells, all_ints, ti25, ti23, ti3, List.getElem?_cons_zero, List.getElem?_cons_succ, List.drop_zero, ti23]
  refine hN3 _ ?_; clear hN3 hD3 N3
  refine WC_condE ?_
  simp only [sS, ↓sT, if_true, if_false, Nat.reduceLT, Nat.reduceEqDiff, ↓stepC_bool]
  refine ⟨fun hb => ?_, fun hb => ?_⟩
  · refine WC_seqR (fun N4 hN4 hD4 => ?_)
    simp only [sS, ↓sT, if_true, if_false, Nat.reduceLT, Nat.reduceEqDiff, ↓sO, ↓WOps_g, sG, opV, loudV, cellsOf, strOp, evL, Nat.reduceAdd, beq_self_eq_true, bne_self_eq_false, Int.reduceBEq, Int.reduceBNe, vec_load hv, tag_load, vec_cells, all_ints, ti25, ti23, ti3, List.getElem?_cons_zero, List.getElem?_cons_succ, List.drop_zero, buildV, evParts, V.isCell, List.all_cons, List.all_nil, Bool.and_self, if_true, placesOf, fillV, List.getElem?_cons_zero, List.getElem?_cons_succ, List.length_cons, List.length_nil, Nat.zero_add, Nat.reduceAdd, ne_eq, not_true_eq_false, false_or, gt_iff_lt, Nat.reduceLT, if_false, wrL, Option.map_some, List.set_cons_zero, List.set_cons_succ, ti25]
    refine hN4 _ ?_; clear hN4 hD4 N4
    refine WC_ret ?_; (try simp only [Exit.after, Exit.out]); refine Kend_ret (by simp only [resOf, resL, resV, mkS_get, slots_get, cellsOf, vec_load hv, tag_load, vec_cells, all_ints, ti25, ti23, ti3, List.getElem?_cons_zero, List.getElem?_cons_succ, List.drop_zero, sS, ↓sT, if_true, if_false, Nat.reduceLT, Nat.reduceEqDiff]; rfl) (by first | rfl | (simp only [vec_load hv, tag_load, vec_cells, all_ints, ti25, ti23, ti3, List.getElem?_cons_zero, List.getElem?_cons_succ, List.drop_zero]; done) | (simp only [vec_load hv, tag_load, vec_cells, all_ints, ti25, ti23, ti3, List.getElem?_cons_zero, List.getElem?_cons_succ, List.drop_zero, okV, ok1, okC, okP, List.all_cons, List.all_nil, Bool.and_true]; done)) ?_
    have hr : rightB v = false := by simpa using hb
    simp only [nextS, hr]; rfl
  · have hr : rightB v = true := by simpa using hb
    have hlt : ∀ k, 0 ≤ v.getD k 0 ∧ v.getD k 0 ≤ 400 := fun k => right_get hr k
    refine WC_seqR (fun N5 hN5 hD5 => ?_)
    simp only [sS, ↓sT, if_true, if_false, Nat.reduceLT, Nat.reduceEqDiff, ↓sO, ↓WOps_g, sG, opV, loudV, cellsOf, strOp, evL, Nat.reduceAdd, beq_self_eq_true, bne_self_eq_false, Int.reduceBEq, Int.reduceBNe]
    have J : ∀ b, b = (decide (r < 1) || decide (r > 6)) → N5 ⟨mkS 33 [(11, .bool b), (5, .int .i64 0), (4, .ptr 1 0), (2, .ptr 0 0), (1, .int .i64 r)], [v.map (V.int .i64), [.int .i64 0, .int .i64 0]], [], n⟩ := by
      intro b hbb
      refine hN5 _ ?_; clear hN5 hD5 N5
      refine WC_condE ?_
      simp only [sS, ↓sT, if_true, if_false, Nat.reduceLT, Nat.reduceEqDiff, ↓stepC_bool]
      refine ⟨fun hb2 => ?_, fun hb2 => ?_⟩
      · refine WC_seqR (fun N6 hN6 hD6 => ?_)
        simp only [sS, ↓sT, if_true, if_false, Nat.reduceLT, Nat.reduceEqDiff, ↓sO, ↓WOps_g, sG, opV, loudV, cellsOf, strOp, evL, Nat.reduceAdd, beq_self_eq_true, bne_self_eq_false, Int.reduceBEq, Int.reduceBNe, vec_load hv, tag_load, vec_cells, all_ints, ti25, ti23, ti3, List.getElem?_cons_zero, List.getElem?_cons_succ, List.drop_zero, buildV, evParts, V.isCell, List.all_cons, List.all_nil, Bool.and_self, if_true, placesOf, fillV, List.getElem?_cons_zero, List.getElem?_cons_succ, List.length_cons, List.length_nil, Nat.zero_add, Nat.reduceAdd, ne_eq, not_true_eq_false, false_or, gt_iff_lt, Nat.reduceLT, if_false, wrL, Option.map_some, List.set_cons_zero, List.set_cons_succ]
        refine hN6 _ ?_; clear hN6 hD6 N6
        refine WC_ret ?_; (try simp only [Exit.after, Exit.out]); refine Kend_ret (by simp only [resOf, resL, resV, mkS_get, slots_get, cellsOf, vec_load hv, tag_load, vec_cells, all_ints, ti25, ti23, ti3, List.getElem?_cons_zero, List.getElem?_cons_succ, List.drop_zero, sS, ↓sT, if_true, if_false, Nat.reduceLT, Nat.reduceEqDiff]; rfl) (by first | rfl | (simp only [vec_load hv, tag_load, vec_cells, all_ints, ti25, ti23, ti3, List.getElem?_cons_zero, List.getElem?_cons_succ, List.drop_zero]; done) | (simp only [vec_load hv, tag_load, vec_cells, all_ints, ti25, ti23, ti3, List.getElem?_cons_zero, List.getElem?_cons_succ, List.drop_zero, okV, ok1, okC, okP, List.all_cons, List.all_nil, Bool.and_true]; done)) ?_
        have : r < 1 ∨ r > 6 := by subst hb2; simpa using hbb
        simp only [nextS, hr, if_pos this]; rfl
      · have hrr : ¬ (r < 1 ∨ r > 6) := by subst hb2; simpa using hbb.symm
        have hi : 0 ≤ r - 1 ∧ r - 1 < 6 := by omega
        refine WC_seqR (fun N7 hN7 hD7 => ?_)
        simp only [sS, ↓sT, if_true, if_false, Nat.reduceLT, Nat.reduceEqDiff, ↓sO, ↓WOps_g, sG, opV, loudV, cellsOf, strOp, evL, Nat.reduceAdd, beq_self_eq_true, bne_self_eq_false, Int.reduceBEq, Int.reduceBNe, vec_load hv, tag_load, vec_cells, all_ints, ti25, ti23, ti3, List.getElem?_cons_zero, List.getElem?_cons_succ, List.drop_zero, vec_ia, wrapI (x := r - 1) (by omega) (by omega), hi, and_self, vec_get (v := v) (k := (r - 1).toNat) (by omega)]
        refine hN7 _ ?_; clear hN7 hD7 N7
        refine WC_condE ?_
        simp only [sS, ↓sT, if_true, if_false, Nat.reduceLT, Nat.reduceEqDiff, ↓stepC_bool]
        refine ⟨fun hb3 => ?_, fun hb3 => ?_⟩
        · refine WC_seqR (fun N8 hN8 hD8 => ?_)
          simp only [sS, ↓sT, if_true, if_false, Nat.reduceLT, Nat.reduceEqDiff, ↓sO, ↓WOps_g, sG, opV, loudV, cellsOf, strOp, evL, Nat.reduceAdd, beq_self_eq_true, bne_self_eq_false, Int.reduceBEq, Int.reduceBNe, vec_load hv, tag_load, vec_cells, all_ints, ti25, ti23, ti3, List.getElem?_cons_zero, List.getElem?_cons_succ, List.drop_zero, buildV, evParts, V.isCell, List.all_cons, List.all_nil, Bool.and_self, if_true, placesOf, fillV, List.getElem?_cons_zero, List.getElem?_cons_succ, List.length_cons, List.length_nil, Nat.zero_add, Nat.reduceAdd, ne_eq, not_true_eq_false, false_or, gt_iff_lt, Nat.reduceLT, if_false, wrL, Option.map_some, List.set_cons_zero, List.set_cons_succ]
          refine hN8 _ ?_; clear hN8 hD8 N8
          refine WC_ret ?_; (try simp only [Exit.after, Exit.out]); refine Kend_ret (by simp only [resOf, resL, resV, mkS_get, slots_get, cellsOf, vec_load hv, tag_load, vec_cells, all_ints, ti25, ti23, ti3, List.getElem?_cons_zero, List.getElem?_cons_succ, List.drop_zero, sS, ↓sT, if_true, if_false, Nat.reduceLT, Nat.reduceEqDiff]; rfl) (by first | rfl | (simp only [vec_load hv, tag_load, vec_cells, all_ints, ti25, ti23, ti3, List.getElem?_cons_zero, List.getElem?_cons_succ, List.drop_zero]; done) | (simp only [vec_load hv, tag_load, vec_cells, all_ints, ti25, ti23, ti3, List.getElem?_cons_zero, List.getElem?_cons_succ, List.drop_zero, okV, ok1, okC, okP, List.all_cons, List.all_nil, Bool.and_true]; done)) ?_
          have h4 : v.getD (r - 1).toNat 0 = 400 := by simpa using hb3
          simp only [nextS, hr, if_neg hrr, if_pos h4]; rfl
        · refine WC_skip ?_
          refine hN2 _ ?_; clear hN2 hD2 N2
          have h4 : ¬ v.getD (r - 1).toNat 0 = 400 := by simpa using hb3
          have := hlt (r - 1).toNat
          refine WC_seqR (fun N9 hN9 hD9 => ?_)
          simp only [sS, ↓sT, if_true, if_false, Nat.reduceLT, Nat.reduceEqDiff, ↓sO, ↓WOps_g, sG, opV, loudV, cellsOf, strOp, evL, Nat.reduceAdd, beq_self_eq_true, bne_self_eq_false, Int.reduceBEq, Int.reduceBNe, vec_load hv, tag_load, vec_cells, all_ints, ti25, ti23, ti3, List.getElem?_cons_zero, List.getElem?_cons_succ, List.drop_zero, vec_ia, wrapI (x := r - 1) (by omega) (by omega), hi, and_self, vec_get (v := v) (k := (r - 1).toNat) (by omega), wrapI (x := v.getD (r - 1).toNat 0 + 1) (by omega) (by omega), buildV, evParts, V.isCell, List.all_cons, List.all_nil, Bool.and_self, if_true, placesOf, fillV, List.getElem?_cons_zero, List.getElem?_cons_succ, List.length_cons, List.length_nil, Nat.zero_add, Nat.reduceAdd, ne_eq, not_true_eq_false, false_or, gt_iff_lt, Nat.reduceLT, if_false, wrL, Option.map_some, List.set_cons_zero, List.set_cons_succ]
          refine hN9 _ ?_; clear hN9 hD9 N9
          refine WC_ret ?_; (try simp only [Exit.after, Exit.out]); refine Kend_ret (by simp only [resOf, resL, resV, mkS_get, slots_get, cellsOf, vec_load hv, tag_load, vec_cells, all_ints, ti25, ti23, ti3, List.getElem?_cons_zero, List.getElem?_cons_succ, List.drop_zero, sS, ↓sT, if_true, if_false, Nat.reduceLT, Nat.reduceEqDiff]; rfl) (by first | rfl | (simp only [vec_load hv, tag_load, vec_cells, all_ints, ti25, ti23, ti3, List.getElem?_cons_zero, List.getElem?_cons_succ, List.drop_zero]; done) | (simp only [vec_load hv, tag_load, vec_cells, all_ints, ti25, ti23, ti3, List.getElem?_cons_zero, List.getElem?_cons_succ, List.drop_zero, okV, ok1, okC, okP, List.all_cons, List.all_nil, Bool.and_true]; done)) ?_
          simp only [nextS, hr, if_neg hrr, if_neg h4]; rfl
    refine stepB_F (fun hg2 => ?_) (fun hg2 => ?_)  -- guard 2
    all_goals simp only [sS, ↓sT, if_true, if_false, Nat.reduceLT, Nat.reduceEqDiff, ↓sO, ↓WOps_g, sG, opV, loudV, cellsOf, strOp, evL, Nat.reduceAdd, beq_self_eq_true, bne_self_eq_false, Int.reduceBEq, Int.reduceBNe, hg2]
    all_goals (refine hD5 [11, 5, 4, 2, 1] _ _ _ _ _ (J _ ?_); clear J hN5 hD5 hb; rw [Bool.eq_iff_iff]; simp_all; try omega)
end Go.PV
/- dot.With. -/
namespace Go.PV
open Go.Proofs
set_option linter.unusedVariables false
set_option linter.unusedSimpArgs false
set_option maxRecDepth 10000

theorem vec_set (v : List Int) (k : Nat) (x : Int) : wrL (v.map (V.int .i64)) k [.int .i64 x] = (v.set k x).map (V.int .i64) := by simp [wrL, List.map_set]
theorem vec_keep1 (v : List Int) (ow : List (Nat × Nat)) : (vecV v).keep1 ow = vecV v := by simp [vecV, V.keep1, V.keepC]
theorem vec_ok1 (v : List Int) (m : Nat) : ok1 m (vecV v) = true := by simp [vecV, ok1, okC, okP]
theorem vec_full {v : List Int} (h : v.length = 6) (a b c d e f : V) : wrL [a, b, c, d, e, f] 0 (v.map (V.int .i64)) = v.map (V.int .i64) := wrL_full (by simp [h])
def vecC (q : List Int × Int) : V := .tup [vecV q.1, .int .i64 q.2]
def vec0 : List Int := [0, 0, 0, 0, 0, 0]
def withS (v : List Int) (r n : Int) : List Int × Int :=
  if rightB v = false then (vec0, 5) else if tagB r n = false then (vec0, 2) else if hasB v r n = true then (vec0, 7)
  else if n ≠ v.getD (r - 1).toNat 0 + 1 then (vec0, 17) else if v.getD (r - 1).toNat 0 = 400 then (vec0, 9) else (v.set (r - 1).toNat n, 0)

theorem c_punnet_dot_With (v : List Int) (hv : v.length = 6) (r t : Int) : VC Try.prog 14 [vecV v, tagV r t] [] (fun q _ => q = vecC (withS v r t)) := by
  refine VC_enter (nt := 42) (rs := [.cell 4 23, .tmp 5]) (ow := []) (m := 0) Try.func14 rfl (by rfl) rfl rfl (by simp) (by simp only [ownOf, List.flatMap_cons, vec_toks, tag_toks]; rfl) rfl (fun n => ?_)
  simp only [zipT, Nat.zero_add]
  refine WC_seqR (fun N1 hN1 hD1 => ?_)
  simp only [sS, ↓sT, if_true, if_false, Nat.reduceLT, Nat.reduceEqDiff, ↓sO, ↓WOps_g, sG, opV, loudV, cellsOf, strOp, evL, Nat.reduceAdd, beq_self_eq_true, bne_self_eq_false, Int.reduceBEq, Int.reduceBNe, vec_load hv, tag_load, vec_cells, all_ints, tag_cells, tag_isC, ti25, ti23, ti3, List.getElem?_cons_zero, List.getElem?_cons_succ, List.drop_zero, ti23]
  refine hN1 _ ?_; clear hN1 hD1 N1
  refine WC_seqN (fun N2 hN2 hD2 => ?_)
  refine WC_seqR (fun N3 hN3 hD3 => ?_)
  simp only [sS, ↓sT, if_true, if_false, Nat.reduceLT, Nat.reduceEqDiff, ↓sO, ↓WOps_g, sG, opV, loudV, cellsOf, strOp, evL, Nat.reduceAdd, beq_self_eq_true, bne_self_eq_false, Int.reduceBEq, Int.reduceBNe, vec_load hv, tag_load, vec_cells, all_ints, tag_cells, tag_isC, ti25, ti23, ti3, List.getElem?_cons_zero, List.getElem?_cons_succ, List.drop_zero, ti23]
  refine WOps_callP (c_punnet_dot_Right v hv) (by simp only [ev_func]) (by simp only [evL, sS, ↓sT, if_true, if_false, Nat.reduceLT, Nat.reduceEqDiff]; rfl) (by simp only [List.map, vec_bare, tag_bare]) (by simp [vec_noP, tag_noP]) rfl rfl ?_
  simp only [sS, ↓sT, if_true, if_false, Nat.reduceLT, Nat.reduceEqDiff, ↓sO, ↓WOps_g, sG, opV, loudV, cellsOf, strOp, evL, Nat.reduceAdd, beq_self_eq_true, bne_self_eq_false, Int.reduceBEq, Int.reduceBNe, vec_load hv, tag_load, vec_cells, all_ints, tag_cells, tag_isC, ti25, ti23, ti3, List.getElem?_cons_zero, List.getElem?_cons_succ, List.drop_zero, ti23]
  refine hN3 _ ?_; clear hN3 hD3 N3
  refine WC_condE ?_
  simp only [sS, ↓sT, if_true, if_false, Nat.reduceLT, Nat.reduceEqDiff, ↓stepC_bool]
  refine ⟨fun hb => ?_, fun hb => ?_⟩
  · refine WC_seqR (fun N4 hN4 hD4 => ?_)
    simp only [sS, ↓sT, if_true, if_false, Nat.reduceLT, Nat.reduceEqDiff, ↓sO, ↓WOps_g, sG, opV, loudV, cellsOf, strOp, evL, Nat.reduceAdd, beq_self_eq_true, bne_self_eq_false, Int.reduceBEq, Int.reduceBNe, vec_load hv, tag_load, vec_cells, all_ints, tag_cells, tag_isC, ti25, ti23, ti3, List.getElem?_cons_zero, List.getElem?_cons_succ, List.drop_zero, buildV, evParts, V.isCell, List.all_cons, List.all_nil, Bool.and_self, if_true, placesOf, fillV, List.getElem?_cons_zero, List.getElem?_cons_succ, List.length_cons, List.length_nil, Nat.zero_add, Nat.reduceAdd, ne_eq, not_true_eq_false, false_or, gt_iff_lt, Nat.reduceLT, if_false, wrL, Option.map_some, List.set_cons_zero, List.set_cons_succ, ti23]
    refine hN4 _ ?_; clear hN4 hD4 N4
    refine WC_ret ?_; (try simp only [Exit.after, Exit.out]); refine Kend_ret (by simp only [resOf, resL, resV, mkS_get, slots_get, cellsOf, vec_load hv, tag_load, vec_cells, all_ints, tag_cells, tag_isC, ti25, ti23, ti3, List.getElem?_cons_zero, List.getElem?_cons_succ, List.drop_zero, sS, ↓sT, if_true, if_false, Nat.reduceLT, Nat.reduceEqDiff]; rfl) (by first | rfl | (simp only [vec_load hv, tag_load, vec_cells, all_ints, tag_cells, tag_isC, ti25, ti23, ti3, List.getElem?_cons_zero, List.getElem?_cons_succ, List.drop_zero]; done) | (simp only [vec_load hv, tag_load, vec_cells, all_ints, tag_cells, tag_isC, ti25, ti23, ti3, List.getElem?_cons_zero, List.getElem?_cons_succ, List.drop_zero, okV, ok1, okC, okP, List.all_cons, List.all_nil, Bool.and_true]; done)) ?_
    have hr : rightB v = false := by simpa using hb
    simp only [withS, hr]; rfl
  · refine WC_skip ?_
    refine hN2 _ ?_; clear hN2 hD2 N2
    have hr : rightB v = true := by simpa using hb
    clear hb
    refine WC_seqN (fun N5 hN5 hD5 => ?_)
    refine WC_seqR (fun N6 hN6 hD6 => ?_)
    simp only [sS, ↓sT, if_true, if_false, Nat.reduceLT, Nat.reduceEqDiff, ↓sO, ↓WOps_g, sG, opV, loudV, cellsOf, strOp, evL, Nat.reduceAdd, beq_self_eq_true, bne_self_eq_false, Int.reduceBEq, Int.reduceBNe, vec_load hv, tag_load, vec_cells, all_ints, tag_cells, tag_isC, ti25, ti23, ti3, List.getElem?_cons_zero, List.getElem?_cons_succ, List.drop_zero, ti25]
    refine WOps_callP (c_punnet_tree_Tag r t) (by simp only [ev_func]) (by simp only [evL, sS, ↓sT, if_true, if_false, Nat.reduceLT, Nat.reduceEqDiff]; rfl) (by simp only [List.map, vec_bare, tag_bare]) (by simp [vec_noP, tag_noP]) rfl rfl ?_
    simp only [sS, ↓sT, if_true, if_false, Nat.reduceLT, Nat.reduceEqDiff, ↓sO, ↓WOps_g, sG, opV, loudV, cellsOf, strOp, evL, Nat.reduceAdd, beq_self_eq_true, bne_self_eq_false, Int.reduceBEq, Int.reduceBNe, vec_load hv, tag_load, vec_cells, all_ints, tag_cells, tag_isC, ti25, ti23, ti3, List.getElem?_cons_zero, List.getElem?_cons_succ, List.drop_zero, ti25]
    refine hN6 _ ?_; clear hN6 hD6 N6
    refine WC_condE ?_
    simp only [sS, ↓sT, if_true, if_false, Nat.reduceLT, Nat.reduceEqDiff, ↓stepC_bool]
    refine ⟨fun hb => ?_, fun hb => ?_⟩
    · refine WC_seqR (fun N7 hN7 hD7 => ?_)
      simp only [sS, ↓sT, if_true, if_false, Nat.reduceLT, Nat.reduceEqDiff, ↓sO, ↓WOps_g, sG, opV, loudV, cellsOf, strOp, evL, Nat.reduceAdd, beq_self_eq_true, bne_self_eq_false, Int.reduceBEq, Int.reduceBNe, vec_load hv, tag_load, vec_cells, all_ints, tag_cells, tag_isC, ti25, ti23, ti3, List.getElem?_cons_zero, List.getElem?_cons_succ, List.drop_zero, buildV, evParts, V.isCell, List.all_cons, List.all_nil, Bool.and_self, if_true, placesOf, fillV, List.getElem?_cons_zero, List.getElem?_cons_succ, List.length_cons, List.length_nil, Nat.zero_add, Nat.reduceAdd, ne_eq, not_true_eq_false, false_or, gt_iff_lt, Nat.reduceLT, if_false, wrL, Option.map_some, List.set_cons_zero, List.set_cons_succ, ti23]
      refine hN7 _ ?_; clear hN7 hD7 N7
      refine WC_ret ?_; (try simp only [Exit.after, Exit.out]); refine Kend_ret (by simp only [resOf, resL, resV, mkS_get, slots_get, cellsOf, vec_load hv, tag_load, vec_cells, all_ints, tag_cells, tag_isC, ti25, ti23, ti3, List.getElem?_cons_zero, List.getElem?_cons_succ, List.drop_zero, sS, ↓sT, if_true, if_false, Nat.reduceLT, Nat.reduceEqDiff]; rfl) (by first | rfl | (simp only [vec_load hv, tag_load, vec_cells, all_ints, tag_cells, tag_isC, ti25, ti23, ti3, List.getElem?_cons_zero, List.getElem?_cons_succ, List.drop_zero]; done) | (simp only [vec_load hv, tag_load, vec_cells, all_ints, tag_cells, tag_isC, ti25, ti23, ti3, List.getElem?_cons_zero, List.getElem?_cons_succ, List.drop_zero, okV, ok1, okC, okP, List.all_cons, List.all_nil, Bool.and_true]; done)) ?_
      have ht : tagB r t = false := by simpa using hb
      simp only [withS, hr, ht]; rfl
    · refine WC_skip ?_
      refine hN5 _ ?_; clear hN5 hD5 N5
      have ht : tagB r t = true := by simpa using hb
      clear hb
      refine WC_seqN (fun N8 hN8 hD8 => ?_)
      refine WC_seqR (fun N9 hN9 hD9 => ?_)
      simp only [sS, ↓sT, if_true, if_false, Nat.reduceLT, Nat.reduceEqDiff, ↓sO, ↓WOps_g, sG, opV, loudV, cellsOf, strOp, evL, Nat.reduceAdd, beq_self_eq_true, bne_self_eq_false, Int.reduceBEq, Int.reduceBNe, vec_load hv, tag_load, vec_cells, all_ints, tag_cells, tag_isC, ti25, ti23, ti3, List.getElem?_cons_zero, List.getElem?_cons_succ, List.drop_zero, ti23, ti25]
      refine WOps_callP (c_punnet_dot_Has v hv r t) (by simp only [ev_func]) (by simp only [evL, sS, ↓sT, if_true, if_false, Nat.reduceLT, Nat.reduceEqDiff]; rfl) (by simp only [List.map, vec_bare, tag_bare]) (by simp [vec_noP, tag_noP]) rfl rfl ?_
      simp only [sS, ↓sT, if_true, if_false, Nat.reduceLT, Nat.reduceEqDiff, ↓sO, ↓WOps_g, sG, opV, loudV, cellsOf, strOp, evL, Nat.reduceAdd, beq_self_eq_true, bne_self_eq_false, Int.reduceBEq, Int.reduceBNe, vec_load hv, tag_load, vec_cells, all_ints, tag_cells, tag_isC, ti25, ti23, ti3, List.getElem?_cons_zero, List.getElem?_cons_succ, List.drop_zero, ti23, ti25]
      refine hN9 _ ?_; clear hN9 hD9 N9
      refine WC_condE ?_
      simp only [sS, ↓sT, if_true, if_false, Nat.reduceLT, Nat.reduceEqDiff, ↓stepC_bool]
      refine ⟨fun hb => ?_, fun hb => ?_⟩
      · refine WC_seqR (fun N10 hN10 hD10 => ?_)
        simp only [sS, ↓sT, if_true, if_false, Nat.reduceLT, Nat.reduceEqDiff, ↓sO, ↓WOps_g, sG, opV, loudV, cellsOf, strOp, evL, Nat.reduceAdd, beq_self_eq_true, bne_self_eq_false, Int.reduceBEq, Int.reduceBNe, vec_load hv, tag_load, vec_cells, all_ints, tag_cells, tag_isC, ti25, ti23, ti3, List.getElem?_cons_zero, List.getElem?_cons_succ, List.drop_zero, buildV, evParts, V.isCell, List.all_cons, List.all_nil, Bool.and_self, if_true, placesOf, fillV, List.getElem?_cons_zero, List.getElem?_cons_succ, List.length_cons, List.length_nil, Nat.zero_add, Nat.reduceAdd, ne_eq, not_true_eq_false, false_or, gt_iff_lt, Nat.reduceLT, if_false, wrL, Option.map_some, List.set_cons_zero, List.set_cons_succ, ti23]
        refine hN10 _ ?_; clear hN10 hD10 N10
        refine WC_ret ?_; (try simp only [Exit.after, Exit.out]); refine Kend_ret (by simp only [resOf, resL, resV, mkS_get, slots_get, cellsOf, vec_load hv, tag_load, vec_cells, all_ints, tag_cells, tag_isC, ti25, ti23, ti3, List.getElem?_cons_zero, List.getElem?_cons_succ, List.drop_zero, sS, ↓sT, if_true, if_false, Nat.reduceLT, Nat.reduceEqDiff]; rfl) (by first | rfl | (simp only [vec_load hv, tag_load, vec_cells, all_ints, tag_cells, tag_isC, ti25, ti23, ti3, List.getElem?_cons_zero, List.getElem?_cons_succ, List.drop_zero]; done) | (simp only [vec_load hv, tag_load, vec_cells, all_ints, tag_cells, tag_isC, ti25, ti23, ti3, List.getElem?_cons_zero, List.getElem?_cons_succ, List.drop_zero, okV, ok1, okC, okP, List.all_cons, List.all_nil, Bool.and_true]; done)) ?_
        simp only [withS, hr, ht, hb]; rfl
      · refine WC_skip ?_
        refine hN8 _ ?_; clear hN8 hD8 N8
        have hh : hasB v r t = false := hb
        obtain ⟨q1, q2, q3, q4⟩ := tagB_iff.1 ht
        have hi : 0 ≤ r - 1 ∧ r - 1 < 6 := by omega
        obtain ⟨x, hx⟩ : ∃ x, v.getD (r - 1).toNat 0 = x := ⟨_, rfl⟩
        have hxb : 0 ≤ x ∧ x ≤ 400 := hx ▸ right_get hr (r - 1).toNat
        have hg := vec_get (v := v) (k := (r - 1).toNat) (by omega)
        rw [hx] at hg
        have hk : (r - 1).toNat + 1 ≤ 6 := by omega
        refine WC_seqR (fun N11 hN11 hD11 => ?_)
        simp only [sS, ↓sT, if_true, if_false, Nat.reduceLT, Nat.reduceEqDiff, ↓sO, ↓WOps_g, sG, opV, loudV, cellsOf, strOp, evL, Nat.reduceAdd, beq_self_eq_true, bne_self_eq_false, Int.reduceBEq, Int.reduceBNe, vec_load hv, tag_load, vec_cells, all_ints, tag_cells, tag_isC, ti25, ti23, ti3, List.getElem?_cons_zero, List.getElem?_cons_succ, List.drop_zero, fa25_0, fr25_0, fv25_0, vec_ia, wrapI (x := r - 1) (by omega) (by omega), hi, and_self]
        refine hN11 _ ?_; clear hN11 hD11 N11
        refine WC_seqN (fun N12 hN12 hD12 => ?_)
        refine WC_seqD mixed [] [0, 0, 0, 0, 0, 0, 0] (by decide +kernel) (fun N13 hN13 hD13 => ?_)
        simp only [sS, ↓sT, if_true, if_false, Nat.reduceLT, Nat.reduceEqDiff, ↓sD, ↓D_g, memOk, lets0, lets1, List.not_mem_nil, not_false_eq_true, true_and, and_true, sG, opV, loudV, cellsOf, strOp, evL, Nat.reduceAdd, beq_self_eq_true, bne_self_eq_false, Int.reduceBEq, Int.reduceBNe, vec_load hv, tag_load, vec_cells, all_ints, tag_cells, tag_isC, ti25, ti23, ti3, List.getElem?_cons_zero, List.getElem?_cons_succ, List.drop_zero, fa25_1, fr25_1, fv25_1, hg, wrapI (x := x + 1) (by omega) (by omega)]
        refine hN13 _ ?_; clear hN13 hD13 N13
        refine WC_condE ?_
        simp only [sS, ↓sT, if_true, if_false, Nat.reduceLT, Nat.reduceEqDiff, ↓stepC_bool]
        refine ⟨fun hb1 => ?_, fun hb1 => ?_⟩
        · refine WC_seqR (fun N14 hN14 hD14 => ?_)
          simp only [sS, ↓sT, if_true, if_false, Nat.reduceLT, Nat.reduceEqDiff, ↓sO, ↓WOps_g, sG, opV, loudV, cellsOf, strOp, evL, Nat.reduceAdd, beq_self_eq_true, bne_self_eq_false, Int.reduceBEq, Int.reduceBNe, vec_load hv, tag_load, vec_cells, all_ints, tag_cells, tag_isC, ti25, ti23, ti3, List.getElem?_cons_zero, List.getElem?_cons_succ, List.drop_zero, buildV, evParts, V.isCell, List.all_cons, List.all_nil, Bool.and_self, if_true, placesOf, fillV, List.getElem?_cons_zero, List.getElem?_cons_succ, List.length_cons, List.length_nil, Nat.zero_add, Nat.reduceAdd, ne_eq, not_true_eq_false, false_or, gt_iff_lt, Nat.reduceLT, if_false, wrL, Option.map_some, List.set_cons_zero, List.set_cons_succ]
          refine hN14 _ ?_; clear hN14 hD14 N14
          refine WC_ret ?_; (try simp only [Exit.after, Exit.out]); refine Kend_ret (by simp only [resOf, resL, resV, mkS_get, slots_get, cellsOf, vec_load hv, tag_load, vec_cells, all_ints, tag_cells, tag_isC, ti25, ti23, ti3, List.getElem?_cons_zero, List.getElem?_cons_succ, List.drop_zero, sS, ↓sT, if_true, if_false, Nat.reduceLT, Nat.reduceEqDiff]; rfl) (by first | rfl | (simp only [vec_load hv, tag_load, vec_cells, all_ints, tag_cells, tag_isC, ti25, ti23, ti3, List.getElem?_cons_zero, List.getElem?_cons_succ, List.drop_zero]; done) | (simp only [vec_load hv, tag_load, vec_cells, all_ints, tag_cells, tag_isC, ti25, ti23, ti3, List.getElem?_cons_zero, List.getElem?_cons_succ, List.drop_zero, okV, ok1, okC, okP, List.all_cons, List.all_nil, Bool.and_true]; done)) ?_
          have h1 : t ≠ x + 1 := by simpa using hb1
          simp only [withS, hr, ht, hh, hx, if_pos h1]; rfl
        · have h1 : ¬ t ≠ x + 1 := by simpa using hb1
          refine WC_skip ?_
          refine hN12 _ ?_; clear hN12 hD12 N12
          refine WC_seqN (fun N15 hN15 hD15 => ?_)
          refine WC_seqR (fun N16 hN16 hD16 => ?_)
          simp only [sS, ↓sT, if_true, if_false, Nat.reduceLT, Nat.reduceEqDiff, ↓sO, ↓WOps_g, sG, opV, loudV, cellsOf, strOp, evL, Nat.reduceAdd, beq_self_eq_true, bne_self_eq_false, Int.reduceBEq, Int.reduceBNe, vec_load hv, tag_load, vec_cells, all_ints, tag_cells, tag_isC, ti25, ti23, ti3, List.getElem?_cons_zero, List.getElem?_cons_succ, List.drop_zero, hg]
          refine hN16 _ ?_; clear hN16 hD16 N16
          refine WC_condE ?_
          simp only [sS, ↓sT, if_true, if_false, Nat.reduceLT, Nat.reduceEqDiff, ↓stepC_bool]
          refine ⟨fun hb2 => ?_, fun hb2 => ?_⟩
          · refine WC_seqR (fun N17 hN17 hD17 => ?_)
            simp only [sS, ↓sT, if_true, if_false, Nat.reduceLT, Nat.reduceEqDiff, ↓sO, ↓WOps_g, sG, opV, loudV, cellsOf, strOp, evL, Nat.reduceAdd, beq_self_eq_true, bne_self_eq_false, Int.reduceBEq, Int.reduceBNe, vec_load hv, tag_load, vec_cells, all_ints, tag_cells, tag_isC, ti25, ti23, ti3, List.getElem?_cons_zero, List.getElem?_cons_succ, List.drop_zero, buildV, evParts, V.isCell, List.all_cons, List.all_nil, Bool.and_self, if_true, placesOf, fillV, List.getElem?_cons_zero, List.getElem?_cons_succ, List.length_cons, List.length_nil, Nat.zero_add, Nat.reduceAdd, ne_eq, not_true_eq_false, false_or, gt_iff_lt, Nat.reduceLT, if_false, wrL, Option.map_some, List.set_cons_zero, List.set_cons_succ]
            refine hN17 _ ?_; clear hN17 hD17 N17
            refine WC_ret ?_; (try simp only [Exit.after, Exit.out]); refine Kend_ret (by simp only [resOf, resL, resV, mkS_get, slots_get, cellsOf, vec_load hv, tag_load, vec_cells, all_ints, tag_cells, tag_isC, ti25, ti23, ti3, List.getElem?_cons_zero, List.getElem?_cons_succ, List.drop_zero, sS, ↓sT, if_true, if_false, Nat.reduceLT, Nat.reduceEqDiff]; rfl) (by first | rfl | (simp only [vec_load hv, tag_load, vec_cells, all_ints, tag_cells, tag_isC, ti25, ti23, ti3, List.getElem?_cons_zero, List.getElem?_cons_succ, List.drop_zero]; done) | (simp only [vec_load hv, tag_load, vec_cells, all_ints, tag_cells, tag_isC, ti25, ti23, ti3, List.getElem?_cons_zero, List.getElem?_cons_succ, List.drop_zero, okV, ok1, okC, okP, List.all_cons, List.all_nil, Bool.and_true]; done)) ?_
            have h2 : x = 400 := by simpa using hb2
            simp only [withS, hr, ht, hh, hx, if_neg h1, if_pos h2]; rfl
          · have h2 : ¬ x = 400 := by simpa using hb2
            refine WC_skip ?_
            refine hN15 _ ?_; clear hN15 hD15 N15
            refine WC_seqR (fun N18 hN18 hD18 => ?_)
            simp only [sS, ↓sT, if_true, if_false, Nat.reduceLT, Nat.reduceEqDiff, ↓sO, ↓WOps_g, sG, opV, loudV, cellsOf, strOp, evL, Nat.reduceAdd, beq_self_eq_true, bne_self_eq_false, Int.reduceBEq, Int.reduceBNe, vec_load hv, tag_load, vec_cells, all_ints, tag_cells, tag_isC, ti25, ti23, ti3, List.getElem?_cons_zero, List.getElem?_cons_succ, List.drop_zero, hg, wrapI (x := x + 1) (by omega) (by omega), cells_int, isC_int, vec_set, hv, hk]
            refine hN18 _ ?_; clear hN18 hD18 N18
            have hl : (v.set (r - 1).toNat (x + 1)).length = 6 := by simp [hv]
            refine WC_seqR (fun N19 hN19 hD19 => ?_)
            simp only [sS, ↓sT, if_true, if_false, Nat.reduceLT, Nat.reduceEqDiff, ↓sO, ↓WOps_g, sG, opV, loudV, cellsOf, strOp, evL, Nat.reduceAdd, beq_self_eq_true, bne_self_eq_false, Int.reduceBEq, Int.reduceBNe, vec_load hv, tag_load, vec_cells, all_ints, tag_cells, tag_isC, ti25, ti23, ti3, List.getElem?_cons_zero, List.getElem?_cons_succ, List.drop_zero, vec_load hl, vec_full hl, hl, Nat.le_refl, List.set_cons_succ]
            refine hN19 _ ?_; clear hN19 hD19 N19
            refine WC_ret ?_; (try simp only [Exit.after, Exit.out]); refine Kend_ret (by simp only [resOf, resL, resV, mkS_get, slots_get, cellsOf, vec_load hv, tag_load, vec_cells, all_ints, tag_cells, tag_isC, ti25, ti23, ti3, List.getElem?_cons_zero, List.getElem?_cons_succ, List.drop_zero, vec_load hl, sS, ↓sT, if_true, if_false, Nat.reduceLT, Nat.reduceEqDiff]; rfl) ?_ ?_
            · simp only [okV, List.all_cons, List.all_nil, Bool.and_true, vec_ok1]; rfl
            simp only [withS, hr, ht, hh, hx, if_neg h1, if_neg h2]
            have h3 : t = x + 1 := by simpa using h1
            rw [h3]
            simp only [V.keep, List.map_cons, List.map_nil, vec_keep1]; rfl
end Go.PV
/- dot.Join. -/
namespace Go.PV
open Go.Proofs
set_option linter.unusedVariables false
set_option linter.unusedSimpArgs false
set_option maxRecDepth 10000

def mx (a b : Int) : Int := if b > a then b else a
theorem mx_eq (a b : Int) : mx a b = if b > a then b else a := rfl
def joinL (a b : List Int) : List Int := List.zipWith mx a b
def jn (a b : List Int) (i : Nat) : List Int := (joinL a b).take i ++ a.drop i
theorem join_len {a b : List Int} (ha : a.length = 6) (hb : b.length = 6) : (joinL a b).length = 6 := by simp [joinL, ha, hb]
theorem jn_len {a b : List Int} {i : Nat} (ha : a.length = 6) (hb : b.length = 6) : (jn a b i).length = 6 := by simp [jn, joinL, ha, hb]; omega
theorem jn_zero {a b : List Int} (_ : a.length = 6) (_ : b.length = 6) : jn a b 0 = a := by simp [jn]
theorem jn_six {a b : List Int} (ha : a.length = 6) (hb : b.length = 6) : jn a b 6 = joinL a b := by
  have := join_len ha hb
  simp [jn, List.take_of_length_le, this, ha]
theorem jn_get {a b : List Int} {i : Nat} (ha : a.length = 6) (hb : b.length = 6) (hi : i < 6) : (jn a b i)[i]? = some (a.getD i 0) := by
  have := join_len ha hb
  rw [jn, List.getElem?_append_right (by simp; omega)]
  rw [List.length_take, this, Nat.min_eq_left (by omega), Nat.sub_self, List.getElem?_drop, Nat.add_zero]
  simp [List.getD, ha, hi]
theorem jn_set {a b : List Int} {i : Nat} (ha : a.length = 6) (hb : b.length = 6) (hi : i < 6) : (jn a b i).set i (mx (a.getD i 0) (b.getD i 0)) = jn a b (i + 1) := by
  have hl := join_len ha hb
  apply List.ext_getElem?
  intro k
  rw [List.getElem?_set]
  have hlen : ∀ j, (jn a b j).length = 6 := fun j => jn_len ha hb
  by_cases hk : i = k
  · subst hk
    simp only [hlen, hi, if_true]
    rw [jn, List.getElem?_append_left (by simp [hl]; omega), List.getElem?_take, if_pos (by omega)]
    simp [joinL, List.getElem?_zipWith, List.getD, ha, hb, hi]
  · rw [if_neg hk]
    simp only [jn]
    rcases Nat.lt_or_ge k i with h | h
    · rw [List.getElem?_append_left (by simp [hl]; omega), List.getElem?_append_left (by simp [hl]; omega), List.getElem?_take, List.getElem?_take, if_pos h, if_pos (by omega)]
    · rw [List.getElem?_append_right (by simp [hl]; omega), List.getElem?_append_right (by simp [hl]; omega)]
      simp only [List.length_take, hl, List.getElem?_drop]
      congr 1; omega

theorem eqK_vec : eqK Try.prog 23 = some (List.replicate 6 (.int .i64)) := eqK23
theorem cells_eq : ∀ (k : Nat) (a b : List Int), a.length = k → b.length = k → cellsEq (List.replicate k (.int .i64)) (a.map (V.int .i64)) (b.map (V.int .i64)) = some (a == b)
  | 0, [], [], _, _ => rfl
  | k + 1, x :: a, y :: b, ha, hb => by
    simp only [List.replicate_succ, List.map_cons, cellsEq, cells_eq k a b (by simpa using ha) (by simpa using hb), cellEq]
    simp
theorem vec_eq {a b : List Int} (ha : a.length = 6) (hb : b.length = 6) : binV Try.prog .eql 23 (vecV a) (vecV b) = some (.bool (a == b)) := by
  simp only [binV, eqlV, vecV, ti23, eqK_vec, cells_eq 6 a b ha hb, Option.map_some]
theorem vec_ne {a b : List Int} (ha : a.length = 6) (hb : b.length = 6) : binV Try.prog .neq 23 (vecV a) (vecV b) = some (.bool (a != b)) := by
  simp only [binV, eqlV, vecV, ti23, eqK_vec, cells_eq 6 a b ha hb, Option.map_some]; rfl

theorem c_punnet_dot_Join (a b : List Int) (ha : a.length = 6) (hb : b.length = 6) : VC Try.prog 21 [vecV a, vecV b] [] (fun q _ => q = vecV (joinL a b)) := by
  refine VC_enter (nt := 20) (rs := [.cell 4 23]) (ow := []) (m := 0) Try.func21 rfl (by rfl) rfl rfl (by simp) (by simp only [ownOf, List.flatMap_cons, vec_toks]; rfl) rfl (fun n => ?_)
  simp only [zipT, Nat.zero_add]
  have hv := ha
  refine WC_seqR (fun N1 hN1 hD1 => ?_)
  simp only [sS, ↓sT, if_true, if_false, Nat.reduceLT, Nat.reduceEqDiff, ↓sO, ↓WOps_g, sG, opV, loudV, cellsOf, strOp, evL, Nat.reduceAdd, beq_self_eq_true, bne_self_eq_false, Int.reduceBEq, Int.reduceBNe, vec_load hv, tag_load, vec_cells, all_ints, tag_cells, tag_isC, ti25, ti23, ti3, List.getElem?_cons_zero, List.getElem?_cons_succ, List.drop_zero]
  refine hN1 _ ?_; try clear hN1 hD1 N1
  refine WC_seqN (fun N2 hN2 hD2 => ?_)
  refine WC_seqR (fun N3 hN3 hD3 => ?_)
  simp only [sS, ↓sT, if_true, if_false, Nat.reduceLT, Nat.reduceEqDiff, ↓sO, ↓WOps_g, sG, opV, loudV, cellsOf, strOp, evL, Nat.reduceAdd, beq_self_eq_true, bne_self_eq_false, Int.reduceBEq, Int.reduceBNe]
  refine hN3 _ ?_; try clear hN3 hD3 N3
  refine WC_block ?_
  refine WC_loopG (σ := Nat) (fun i s => ∃ ps, s = ⟨mkS 20 ps, [(jn a b i).map (V.int .i64), b.map (V.int .i64), vec0.map (V.int .i64)], [], n⟩ ∧ Has ps [(6, .int .i64 i), (2, .ptr 0 0), (3, .ptr 1 0), (4, .ptr 2 0)] ∧ i ≤ 6) (fun t => 6 - t) 0 ?_ (fun i s hI => ?_)  -- LOOP writes [5, 6, 7, 8, 9, 10, 11, 12, 13, 14, 15, 16, 17, 18]
  · exact ⟨_, by rw [jn_zero ha hb]; rfl, ⟨rfl, rfl, rfl, rfl, trivial⟩, by omega⟩
  obtain ⟨ps, rfl, hps, hI⟩ := hI
  refine WC_has hps ?_; try clear hps ps
  refine WC_seqR (fun N4 hN4 hD4 => ?_)
  simp only [sS, ↓sT, if_true, if_false, Nat.reduceLT, Nat.reduceEqDiff, ↓sO, ↓WOps_g, sG, opV, loudV, cellsOf, strOp, evL, Nat.reduceAdd, beq_self_eq_true, bne_self_eq_false, Int.reduceBEq, Int.reduceBNe]
  refine hN4 _ ?_; try clear hN4 hD4 N4
  refine WC_seqN (fun N5 hN5 hD5 => ?_)
  refine WC_condE ?_
  simp only [sS, ↓sT, if_true, if_false, Nat.reduceLT, Nat.reduceEqDiff, ↓stepC_bool]
  refine ⟨fun hb1 => ?_, fun hb1 => ?_⟩
  · refine WC_skip ?_
    refine hN5 _ ?_; try clear hN5 hD5 N5
    have hi6 : i < 6 := by have := of_decide_eq_true hb1; omega
    have hii : (0 : Int) ≤ i ∧ (i : Int) < 6 := by omega
    have g1 := vec_at (jn_get ha hb hi6)
    have g2 := vec_get (v := b) (k := i) (by omega)
    have hj := jn_len (i := i) ha hb
    have hk : i + 1 ≤ 6 := hi6
    refine WC_seqN (fun N6 hN6 hD6 => ?_)
    refine WC_block ?_
    refine WC_seqR (fun N7 hN7 hD7 => ?_)
    simp only [sS, ↓sT, if_true, if_false, Nat.reduceLT, Nat.reduceEqDiff, ↓sO, ↓WOps_g, sG, opV, loudV, cellsOf, strOp, evL, Nat.reduceAdd, beq_self_eq_true, bne_self_eq_false, Int.reduceBEq, Int.reduceBNe]
    refine hN7 _ ?_; try clear hN7 hD7 N7
    refine WC_regD mixed [] [0, 0, 0, 0, 0, 0, 0, 0, 0, 0] (by decide +kernel) (fun N8 hN8 => ?_)
    simp only [sS, ↓sT, if_true, if_false, Nat.reduceLT, Nat.reduceEqDiff, ↓sD, ↓D_g, memOk, lets0, lets1, List.not_mem_nil, not_false_eq_true, true_and, and_true, sG, opV, loudV, cellsOf, strOp, evL, Nat.reduceAdd, beq_self_eq_true, bne_self_eq_false, Int.reduceBEq, Int.reduceBNe, vec_load hv, tag_load, vec_cells, all_ints, tag_cells, tag_isC, ti25, ti23, ti3, List.getElem?_cons_zero, List.getElem?_cons_succ, List.drop_zero, vec_ia, hii, Int.toNat_natCast, mmV, mmG, g1, g2, hj, hk, ← mx_eq, vec_set, jn_set ha hb hi6]
    refine hN8 _ ?_; try clear hN8 N8
    refine hN6 _ ?_; try clear hN6 hD6 N6
    refine WC_regN (fun N9 hN9 => ?_)
    simp only [sS, ↓sT, if_true, if_false, Nat.reduceLT, Nat.reduceEqDiff, ↓sO, ↓WOps_g, sG, opV, loudV, cellsOf, strOp, evL, Nat.reduceAdd, beq_self_eq_true, bne_self_eq_false, Int.reduceBEq, Int.reduceBNe]
    refine hN9 _ ?_; try clear hN9 N9
    refine ⟨i + 1, ⟨_, rfl, ?_, ?_⟩, ?_⟩
    · rw [wrapI (by omega) (by omega)]; exact ⟨rfl, rfl, rfl, rfl, trivial⟩
    · omega
    · omega
  · refine WC_exit ?_
    refine hN2 _ ?_; try clear hN2 hD2 N2
    have hi6 : i = 6 := by have := of_decide_eq_false hb1; omega
    subst hi6
    have hl := join_len ha hb
    have h0 : vec0.length = 6 := rfl
    rw [jn_six ha hb]
    refine WC_seqR (fun N10 hN10 hD10 => ?_)
    simp only [sS, ↓sT, if_true, if_false, Nat.reduceLT, Nat.reduceEqDiff, ↓sO, ↓WOps_g, sG, opV, loudV, cellsOf, strOp, evL, Nat.reduceAdd, beq_self_eq_true, bne_self_eq_false, Int.reduceBEq, Int.reduceBNe, vec_load hv, tag_load, vec_cells, all_ints, tag_cells, tag_isC, ti25, ti23, ti3, List.getElem?_cons_zero, List.getElem?_cons_succ, List.drop_zero, vec_load hl, hl, h0, wrL_full (cs := vec0.map (V.int .i64)) (ys := (joinL a b).map (V.int .i64)) (by simp [hl, h0]), Nat.le_refl]
    refine hN10 _ ?_
    refine WC_ret ?_; (try simp only [Exit.after, Exit.out]); refine Kend_ret (by simp only [resOf, resL, resV, mkS_get, cellsOf, vec_load hv, tag_load, vec_cells, all_ints, tag_cells, tag_isC, ti25, ti23, ti3, List.getElem?_cons_zero, List.getElem?_cons_succ, List.drop_zero, vec_load hl, sS, ↓sT, if_true, if_false, Nat.reduceLT, Nat.reduceEqDiff]; rfl) (vec_ok _ _) ?_
    rw [vec_keep]

theorem c_punnet_dot_Covers (a b : List Int) (ha : a.length = 6) (hb : b.length = 6) : VC Try.prog 20 [vecV a, vecV b] [] (fun r _ => r = .bool (joinL a b == a)) := by
  refine VC_enter (nt := 10) (rs := [.tmp 4]) (ow := []) (m := 0) Try.func20 rfl (by rfl) rfl rfl (by simp) (by simp only [ownOf, List.flatMap_cons, vec_toks]; rfl) rfl (fun n => ?_)
  simp only [zipT, Nat.zero_add]
  refine WC_seqR (fun N1 hN1 hD1 => ?_)
  simp only [sS, ↓sT, if_true, if_false, Nat.reduceLT, Nat.reduceEqDiff, ↓sO, ↓WOps_g, sG, opV, loudV, cellsOf, strOp, evL, Nat.reduceAdd, beq_self_eq_true, bne_self_eq_false, Int.reduceBEq, Int.reduceBNe, vec_cells, all_ints]
  refine hN1 _ ?_; try clear hN1 hD1 N1
  refine WC_seqD mixed [] [0, 0, 1, 0, 0, 0] (by decide +kernel) (fun N2 hN2 hD2 => ?_)
  simp only [sS, ↓sT, if_true, if_false, Nat.reduceLT, Nat.reduceEqDiff, ↓sD, ↓D_g, memOk, lets0, lets1, List.not_mem_nil, not_false_eq_true, true_and, and_true, sG, opV, loudV, cellsOf, strOp, evL, Nat.reduceAdd, beq_self_eq_true, bne_self_eq_false, Int.reduceBEq, Int.reduceBNe, ti23, vec_load ha, vec_load hb]
  refine D_callP (c_punnet_dot_Join a b ha hb) (by simp only [ev_func]) (by simp only [evL, sS, ↓sT, if_true, if_false, Nat.reduceLT, Nat.reduceEqDiff]; rfl) (by simp only [List.map, vec_bare]) (by simp [vec_noP]) (vec_noP _) rfl ?_
  simp only [sS, ↓sT, if_true, if_false, Nat.reduceLT, Nat.reduceEqDiff, ↓sD, ↓D_g, memOk, lets0, lets1, List.not_mem_nil, not_false_eq_true, true_and, and_true, sG, opV, loudV, cellsOf, strOp, evL, Nat.reduceAdd, beq_self_eq_true, bne_self_eq_false, Int.reduceBEq, Int.reduceBNe, ti23, vec_load ha, vec_load hb, vec_bare, vec_eq (join_len ha hb) ha]
  refine hN2 _ ?_; try clear hN2 hD2 N2
  have hv := ha
  refine WC_ret ?_; (try simp only [Exit.after, Exit.out]); refine Kend_ret (by simp only [resOf, resL, resV, mkS_get, slots_get, cellsOf, vec_load hv, tag_load, vec_cells, all_ints, tag_cells, tag_isC, ti25, ti23, ti3, List.getElem?_cons_zero, List.getElem?_cons_succ, List.drop_zero, sS, ↓sT, if_true, if_false, Nat.reduceLT, Nat.reduceEqDiff]; rfl) (by first | rfl | (simp only [vec_load hv, tag_load, vec_cells, all_ints, tag_cells, tag_isC, ti25, ti23, ti3, List.getElem?_cons_zero, List.getElem?_cons_succ, List.drop_zero]; done) | (simp only [vec_load hv, tag_load, vec_cells, all_ints, tag_cells, tag_isC, ti25, ti23, ti3, List.getElem?_cons_zero, List.getElem?_cons_succ, List.drop_zero, okV, ok1, okC, okP, List.all_cons, List.all_nil, Bool.and_true]; done)) ?_
  rfl
end Go.PV
/- punnetref25.Right, Join, Covers. -/
namespace Go.PV
open Go.Proofs
set_option linter.unusedVariables false
set_option linter.unusedSimpArgs false
set_option maxRecDepth 10000

theorem c_punnet_punnetref25_Right (v : List Int) (hv : v.length = 6) : VC Try.prog 17 [vecV v] [] (fun r _ => r = .bool (rightB v)) := by
  refine VC_enter (nt := 18) (rs := [.tmp 2]) (ow := []) (m := 0) Try.func17 rfl (by rfl) rfl rfl (by simp) (by simp only [ownOf, List.flatMap_cons, vec_toks]; rfl) rfl (fun n => ?_)
  simp only [zipT, Nat.zero_add]
  refine WC_seqR (fun N1 hN1 hD1 => ?_)
  simp only [sS, ↓sT, if_true, if_false, Nat.reduceLT, Nat.reduceEqDiff, ↓sO, ↓WOps_g, sG, opV, loudV, cellsOf, strOp, evL, Nat.reduceAdd, beq_self_eq_true, bne_self_eq_false, Int.reduceBEq, Int.reduceBNe, vec_load hv, tag_load, vec_cells, all_ints, tag_cells, tag_isC, ti25, ti23, ti3, List.getElem?_cons_zero, List.getElem?_cons_succ, List.drop_zero]
  refine hN1 _ ?_; try clear hN1 hD1 N1
  refine WC_seqN (fun N2 hN2 hD2 => ?_)
  refine WC_seqR (fun N3 hN3 hD3 => ?_)
  simp only [sS, ↓sT, if_true, if_false, Nat.reduceLT, Nat.reduceEqDiff, ↓sO, ↓WOps_g, sG, opV, loudV, cellsOf, strOp, evL, Nat.reduceAdd, beq_self_eq_true, bne_self_eq_false, Int.reduceBEq, Int.reduceBNe]
  refine hN3 _ ?_; try clear hN3 hD3 N3
  refine WC_block ?_
  refine WC_loopG (σ := Nat) (fun i s => ∃ ps, s = ⟨mkS 18 ps, [v.map (V.int .i64)], [], n⟩ ∧ Has ps [(3, .int .i64 i), (1, .ptr 0 0)] ∧ i ≤ 6 ∧ ∀ k, k < i → ∀ y, v[k]? = some y → 0 ≤ y ∧ y ≤ 400) (fun t => 6 - t) 0 ?_ (fun i s hI => ?_)  -- LOOP writes [2, 3, 4, 5, 6, 7, 8, 9, 10, 11, 12, 13, 14, 15, 16, 17]
  · exact ⟨_, rfl, ⟨rfl, rfl, trivial⟩, by omega, fun k hk => by omega⟩
  obtain ⟨ps, rfl, hps, hi, hall⟩ := hI
  refine WC_has hps ?_; clear hps ps
  refine WC_seqN (fun N4 hN4 hD4 => ?_)
  refine WC_seqR (fun N5 hN5 hD5 => ?_)
  simp only [sS, ↓sT, if_true, if_false, Nat.reduceLT, Nat.reduceEqDiff, ↓sO, ↓WOps_g, sG, opV, loudV, cellsOf, strOp, evL, Nat.reduceAdd, beq_self_eq_true, bne_self_eq_false, Int.reduceBEq, Int.reduceBNe]
  refine hN5 _ ?_; try clear hN5 hD5 N5
  refine WC_condE ?_
  simp only [sS, ↓sT, if_true, if_false, Nat.reduceLT, Nat.reduceEqDiff, ↓stepC_bool]
  refine ⟨fun hb => ?_, fun hb => ?_⟩
  · refine WC_skip ?_
    refine hN4 _ ?_; try clear hN4 hD4 N4
    have hi6 : i < 6 := by have := of_decide_eq_true hb; omega
    have hii : (0 : Int) ≤ i ∧ (i : Int) < 6 := by omega
    obtain ⟨x, hx⟩ : ∃ x, v[i]? = some x := ⟨_, List.getElem?_eq_getElem (by omega)⟩
    have g1 := vec_at hx
    refine WC_seqN (fun N6 hN6 hD6 => ?_)
    refine WC_block ?_
    refine WC_seqR (fun N7 hN7 hD7 => ?_)
    have J : ∀ b, b = (decide (x < 0) || decide (x > 400)) → N7 ⟨mkS 18 [(17, .bool b), (3, .int .i64 i), (1, .ptr 0 0)], [v.map (V.int .i64)], [], n⟩ := by
      intro b hbb
      refine hN7 _ ?_; try clear hN7 hD7 N7
      refine WC_condE ?_
      simp only [sS, ↓sT, if_true, if_false, Nat.reduceLT, Nat.reduceEqDiff, ↓stepC_bool]
      refine ⟨fun hb2 => ?_, fun hb2 => ?_⟩
      · refine WC_seqR (fun N8 hN8 hD8 => ?_)
        simp only [sS, ↓sT, if_true, if_false, Nat.reduceLT, Nat.reduceEqDiff, ↓sO, ↓WOps_g, sG, opV, loudV, cellsOf, strOp, evL, Nat.reduceAdd, beq_self_eq_true, bne_self_eq_false, Int.reduceBEq, Int.reduceBNe]
        refine hN8 _ ?_; try clear hN8 hD8 N8
        refine WC_ret ?_; (try simp only [Exit.after, Exit.out]); refine Kend_ret (by simp only [resOf, resL, resV, mkS_get, slots_get, cellsOf, vec_load hv, tag_load, vec_cells, all_ints, tag_cells, tag_isC, ti25, ti23, ti3, List.getElem?_cons_zero, List.getElem?_cons_succ, List.drop_zero, sS, ↓sT, if_true, if_false, Nat.reduceLT, Nat.reduceEqDiff]; rfl) (by first | rfl | (simp only [vec_load hv, tag_load, vec_cells, all_ints, tag_cells, tag_isC, ti25, ti23, ti3, List.getElem?_cons_zero, List.getElem?_cons_succ, List.drop_zero]; done) | (simp only [vec_load hv, tag_load, vec_cells, all_ints, tag_cells, tag_isC, ti25, ti23, ti3, List.getElem?_cons_zero, List.getElem?_cons_succ, List.drop_zero, okV, ok1, okC, okP, List.all_cons, List.all_nil, Bool.and_true]; done)) ?_
        have : x < 0 ∨ x > 400 := by subst hb2; simpa using hbb
        rw [right_false hx this]; rfl
      · refine WC_skip ?_
        refine hN6 _ ?_; try clear hN6 hD6 N6
        refine WC_regN (fun N9 hN9 => ?_)
        simp only [sS, ↓sT, if_true, if_false, Nat.reduceLT, Nat.reduceEqDiff, ↓sO, ↓WOps_g, sG, opV, loudV, cellsOf, strOp, evL, Nat.reduceAdd, beq_self_eq_true, bne_self_eq_false, Int.reduceBEq, Int.reduceBNe, wrapI (x := (i : Int) + 1) (by omega) (by omega)]
        refine hN9 _ ?_; try clear hN9 N9
        have : ¬ (x < 0 ∨ x > 400) := by subst hb2; simpa using hbb.symm
        refine ⟨i + 1, ⟨_, rfl, ⟨rfl, rfl, trivial⟩, by omega, fun k hk y hy => ?_⟩, by omega⟩
        rcases Nat.lt_or_ge k i with hki | hki
        · exact hall k hki y hy
        · obtain rfl : k = i := by omega
          rw [hx] at hy
          obtain rfl := Option.some.inj hy
          omega
    simp only [sS, ↓sT, if_true, if_false, Nat.reduceLT, Nat.reduceEqDiff, ↓sO, ↓WOps_g, sG, opV, loudV, cellsOf, strOp, evL, Nat.reduceAdd, beq_self_eq_true, bne_self_eq_false, Int.reduceBEq, Int.reduceBNe, vec_load hv, tag_load, vec_cells, all_ints, tag_cells, tag_isC, ti25, ti23, ti3, List.getElem?_cons_zero, List.getElem?_cons_succ, List.drop_zero, vec_ia, hii, Int.toNat_natCast, g1]
    refine stepB_F (fun hg4 => ?_) (fun hg4 => ?_)  -- guard 4
    all_goals simp only [sS, ↓sT, if_true, if_false, Nat.reduceLT, Nat.reduceEqDiff, ↓sO, ↓WOps_g, sG, opV, loudV, cellsOf, strOp, evL, Nat.reduceAdd, beq_self_eq_true, bne_self_eq_false, Int.reduceBEq, Int.reduceBNe, vec_load hv, tag_load, vec_cells, all_ints, tag_cells, tag_isC, ti25, ti23, ti3, List.getElem?_cons_zero, List.getElem?_cons_succ, List.drop_zero, vec_ia, hii, Int.toNat_natCast, g1, hg4]
    all_goals (refine hD7 [17, 3, 1] _ _ _ _ _ (J _ ?_); clear J hN7 hD7 hN6 hb; rw [Bool.eq_iff_iff]; simp_all; try omega)
  · refine WC_exit ?_
    refine hN2 _ ?_
    refine WC_seqR (fun N10 hN10 hD10 => ?_)
    simp only [sS, ↓sT, if_true, if_false, Nat.reduceLT, Nat.reduceEqDiff, ↓sO, ↓WOps_g, sG, opV, loudV, cellsOf, strOp, evL, Nat.reduceAdd, beq_self_eq_true, bne_self_eq_false, Int.reduceBEq, Int.reduceBNe]
    refine hN10 _ ?_; try clear hN10 hD10 N10
    refine WC_ret ?_; (try simp only [Exit.after, Exit.out]); refine Kend_ret (by simp only [resOf, resL, resV, mkS_get, slots_get, cellsOf, vec_load hv, tag_load, vec_cells, all_ints, tag_cells, tag_isC, ti25, ti23, ti3, List.getElem?_cons_zero, List.getElem?_cons_succ, List.drop_zero, sS, ↓sT, if_true, if_false, Nat.reduceLT, Nat.reduceEqDiff]; rfl) (by first | rfl | (simp only [vec_load hv, tag_load, vec_cells, all_ints, tag_cells, tag_isC, ti25, ti23, ti3, List.getElem?_cons_zero, List.getElem?_cons_succ, List.drop_zero]; done) | (simp only [vec_load hv, tag_load, vec_cells, all_ints, tag_cells, tag_isC, ti25, ti23, ti3, List.getElem?_cons_zero, List.getElem?_cons_succ, List.drop_zero, okV, ok1, okC, okP, List.all_cons, List.all_nil, Bool.and_true]; done)) ?_
    have := of_decide_eq_false hb
    rw [right_true (fun k y hy => hall k (by have := (List.getElem?_eq_some_iff.1 hy).1; omega) y hy)]; rfl
end Go.PV
/- punnetref25.Join, Covers. -/
namespace Go.PV
open Go.Proofs
set_option linter.unusedVariables false
set_option linter.unusedSimpArgs false
set_option maxRecDepth 10000

theorem jn_keep {a b : List Int} {i : Nat} (ha : a.length = 6) (hb : b.length = 6) (hi : i < 6) (h : ¬ b.getD i 0 > a.getD i 0) : jn a b (i + 1) = jn a b i := by
  have h1 := jn_set ha hb hi
  rw [mx_eq, if_neg h] at h1
  rw [← h1]
  apply List.ext_getElem?
  intro k
  rw [List.getElem?_set]
  by_cases hk : i = k
  · subst hk
    rw [if_pos rfl, if_pos (by rw [jn_len ha hb]; exact hi), jn_get ha hb hi]
  · rw [if_neg hk]

theorem c_punnet_punnetref25_Join (a b : List Int) (ha : a.length = 6) (hb : b.length = 6) : VC Try.prog 22 [vecV a, vecV b] [] (fun q _ => q = vecV (joinL a b)) := by
  refine VC_enter (nt := 23) (rs := [.cell 4 23]) (ow := []) (m := 0) Try.func22 rfl (by rfl) rfl rfl (by simp) (by simp only [ownOf, List.flatMap_cons, vec_toks]; rfl) rfl (fun n => ?_)
  simp only [zipT, Nat.zero_add]
  have hv := ha
  refine WC_seqR (fun N1 hN1 hD1 => ?_)
  simp only [sS, ↓sT, if_true, if_false, Nat.reduceLT, Nat.reduceEqDiff, ↓sO, ↓WOps_g, sG, opV, loudV, cellsOf, strOp, evL, Nat.reduceAdd, beq_self_eq_true, bne_self_eq_false, Int.reduceBEq, Int.reduceBNe, vec_load hv, tag_load, vec_cells, all_ints, tag_cells, tag_isC, ti25, ti23, ti3, List.getElem?_cons_zero, List.getElem?_cons_succ, List.drop_zero]
  refine hN1 _ ?_; try clear hN1 hD1 N1
  refine WC_seqN (fun N2 hN2 hD2 => ?_)
  refine WC_seqR (fun N3 hN3 hD3 => ?_)
  simp only [sS, ↓sT, if_true, if_false, Nat.reduceLT, Nat.reduceEqDiff, ↓sO, ↓WOps_g, sG, opV, loudV, cellsOf, strOp, evL, Nat.reduceAdd, beq_self_eq_true, bne_self_eq_false, Int.reduceBEq, Int.reduceBNe]
  refine hN3 _ ?_; try clear hN3 hD3 N3
  refine WC_block ?_
  refine WC_loopG (σ := Nat) (fun i s => ∃ ps, s = ⟨mkS 23 ps, [(jn a b i).map (V.int .i64), b.map (V.int .i64), vec0.map (V.int .i64)], [], n⟩ ∧ Has ps [(5, .int .i64 i), (2, .ptr 0 0), (3, .ptr 1 0), (4, .ptr 2 0)] ∧ i ≤ 6) (fun t => 6 - t) 0 ?_ (fun i s hI => ?_)
  · exact ⟨_, by rw [jn_zero ha hb]; rfl, ⟨rfl, rfl, rfl, rfl, trivial⟩, by omega⟩
  obtain ⟨ps, rfl, hps, hI⟩ := hI
  refine WC_has hps ?_; clear hps ps
  refine WC_seqN (fun N4 hN4 hD4 => ?_)
  refine WC_seqR (fun N5 hN5 hD5 => ?_)
  simp only [sS, ↓sT, if_true, if_false, Nat.reduceLT, Nat.reduceEqDiff, ↓sO, ↓WOps_g, sG, opV, loudV, cellsOf, strOp, evL, Nat.reduceAdd, beq_self_eq_true, bne_self_eq_false, Int.reduceBEq, Int.reduceBNe]
  refine hN5 _ ?_; try clear hN5 hD5 N5
  refine WC_condE ?_
  simp only [sS, ↓sT, if_true, if_false, Nat.reduceLT, Nat.reduceEqDiff, ↓stepC_bool]
  refine ⟨fun hb1 => ?_, fun hb1 => ?_⟩
  · refine WC_skip ?_
    refine hN4 _ ?_; try clear hN4 hD4 N4
    have hi6 : i < 6 := by have := of_decide_eq_true hb1; omega
    have hii : (0 : Int) ≤ i ∧ (i : Int) < 6 := by omega
    have g1 := vec_at (jn_get ha hb hi6)
    have g2 := vec_get (v := b) (k := i) (by omega)
    have hj := jn_len (i := i) ha hb
    have hk : i + 1 ≤ 6 := hi6
    refine WC_seqN (fun N6 hN6 hD6 => ?_)
    refine WC_block ?_
    refine WC_seqD mixed [] [0, 0, 0, 0, 0, 0, 0] (by decide +kernel) (fun N7 hN7 hD7 => ?_)
    simp only [sS, ↓sT, if_true, if_false, Nat.reduceLT, Nat.reduceEqDiff, ↓sD, ↓D_g, memOk, lets0, lets1, List.not_mem_nil, not_false_eq_true, true_and, and_true, sG, opV, loudV, cellsOf, strOp, evL, Nat.reduceAdd, beq_self_eq_true, bne_self_eq_false, Int.reduceBEq, Int.reduceBNe, vec_load hv, tag_load, vec_cells, all_ints, tag_cells, tag_isC, ti25, ti23, ti3, List.getElem?_cons_zero, List.getElem?_cons_succ, List.drop_zero, vec_ia, hii, Int.toNat_natCast, g1, g2]
    refine hN7 _ ?_; try clear hN7 hD7 N7
    refine WC_condE ?_
    simp only [sS, ↓sT, if_true, if_false, Nat.reduceLT, Nat.reduceEqDiff, ↓stepC_bool]
    refine ⟨fun hb2 => ?_, fun hb2 => ?_⟩
    · have hgt : b.getD i 0 > a.getD i 0 := of_decide_eq_true hb2
      have hst := jn_set ha hb hi6
      rw [mx_eq, if_pos hgt] at hst
      refine WC_regN (fun N8 hN8 => ?_)
      simp only [sS, ↓sT, if_true, if_false, Nat.reduceLT, Nat.reduceEqDiff, ↓sO, ↓WOps_g, sG, opV, loudV, cellsOf, strOp, evL, Nat.reduceAdd, beq_self_eq_true, bne_self_eq_false, Int.reduceBEq, Int.reduceBNe, vec_load hv, tag_load, vec_cells, all_ints, tag_cells, tag_isC, ti25, ti23, ti3, List.getElem?_cons_zero, List.getElem?_cons_succ, List.drop_zero, vec_ia, hii, Int.toNat_natCast, g1, g2, hj, hk, vec_set, hst]
      refine hN8 _ ?_; try clear hN8 N8
      refine hN6 _ ?_; try clear hN6 hD6 N6
      refine WC_regN (fun N9 hN9 => ?_)
      simp only [sS, ↓sT, if_true, if_false, Nat.reduceLT, Nat.reduceEqDiff, ↓sO, ↓WOps_g, sG, opV, loudV, cellsOf, strOp, evL, Nat.reduceAdd, beq_self_eq_true, bne_self_eq_false, Int.reduceBEq, Int.reduceBNe]
      refine hN9 _ ?_; try clear hN9 N9
      refine ⟨i + 1, ⟨_, rfl, ?_, ?_⟩, ?_⟩
      · rw [wrapI (by omega) (by omega)]; exact ⟨rfl, rfl, rfl, rfl, trivial⟩
      · omega
      · omega
    · have hgt : ¬ b.getD i 0 > a.getD i 0 := of_decide_eq_false hb2
      refine WC_skip ?_
      refine hN6 _ ?_; try clear hN6 hD6 N6
      refine WC_regN (fun N10 hN10 => ?_)
      simp only [sS, ↓sT, if_true, if_false, Nat.reduceLT, Nat.reduceEqDiff, ↓sO, ↓WOps_g, sG, opV, loudV, cellsOf, strOp, evL, Nat.reduceAdd, beq_self_eq_true, bne_self_eq_false, Int.reduceBEq, Int.reduceBNe]
      refine hN10 _ ?_; try clear hN10 N10
      refine ⟨i + 1, ⟨_, by rw [jn_keep ha hb hi6 hgt], ?_, ?_⟩, ?_⟩
      · rw [wrapI (by omega) (by omega)]; exact ⟨rfl, rfl, rfl, rfl, trivial⟩
      · omega
      · omega
  · refine WC_exit ?_
    refine hN2 _ ?_; try clear hN2 hD2 N2
    have hi6 : i = 6 := by have := of_decide_eq_false hb1; omega
    subst hi6
    have hl := join_len ha hb
    have h0 : vec0.length = 6 := rfl
    rw [jn_six ha hb]
    refine WC_seqR (fun N10 hN10 hD10 => ?_)
    simp only [sS, ↓sT, if_true, if_false, Nat.reduceLT, Nat.reduceEqDiff, ↓sO, ↓WOps_g, sG, opV, loudV, cellsOf, strOp, evL, Nat.reduceAdd, beq_self_eq_true, bne_self_eq_false, Int.reduceBEq, Int.reduceBNe, vec_load hv, tag_load, vec_cells, all_ints, tag_cells, tag_isC, ti25, ti23, ti3, List.getElem?_cons_zero, List.getElem?_cons_succ, List.drop_zero, vec_load hl, hl, h0, wrL_full (cs := vec0.map (V.int .i64)) (ys := (joinL a b).map (V.int .i64)) (by simp [hl, h0]), Nat.le_refl]
    refine hN10 _ ?_
    refine WC_ret ?_; (try simp only [Exit.after, Exit.out]); refine Kend_ret (by simp only [resOf, resL, resV, mkS_get, cellsOf, vec_load hv, tag_load, vec_cells, all_ints, tag_cells, tag_isC, ti25, ti23, ti3, List.getElem?_cons_zero, List.getElem?_cons_succ, List.drop_zero, vec_load hl, sS, ↓sT, if_true, if_false, Nat.reduceLT, Nat.reduceEqDiff]; rfl) (vec_ok _ _) ?_
    rw [vec_keep]

def covB (a b : List Int) : Bool := joinL a b == a
theorem cov_iff {a b : List Int} (ha : a.length = 6) (hb : b.length = 6) : covB a b = true ↔ ∀ i, i < 6 → b.getD i 0 ≤ a.getD i 0 := by
  have hl := join_len ha hb
  rw [covB, beq_iff_eq]
  have key : ∀ i, i < 6 → (joinL a b)[i]? = some (mx (a.getD i 0) (b.getD i 0)) := fun i hi => by
    simp [joinL, List.getElem?_zipWith, List.getD, ha, hb, hi]
  constructor
  · intro h i hi
    have h1 := key i hi
    rw [h] at h1
    have h2 : a[i]? = some (a.getD i 0) := by simp [List.getD, ha, hi]
    rw [h2, mx_eq] at h1
    have := Option.some.inj h1
    split at this <;> omega
  · intro h
    apply List.ext_getElem?
    intro k
    rcases Nat.lt_or_ge k 6 with hk | hk
    · rw [key k hk, mx_eq, if_neg (by have := h k hk; omega)]
      simp [List.getD, ha, hk]
    · rw [List.getElem?_eq_none (by omega), List.getElem?_eq_none (by omega)]

theorem c_punnet_punnetref25_Covers (a b : List Int) (ha : a.length = 6) (hb : b.length = 6) : VC Try.prog 23 [vecV a, vecV b] [] (fun r _ => r = .bool (covB a b)) := by
  refine VC_enter (nt := 17) (rs := [.tmp 4]) (ow := []) (m := 0) Try.func23 rfl (by rfl) rfl rfl (by simp) (by simp only [ownOf, List.flatMap_cons, vec_toks]; rfl) rfl (fun n => ?_)
  simp only [zipT, Nat.zero_add]
  have hv := ha
  refine WC_seqR (fun N1 hN1 hD1 => ?_)
  simp only [sS, ↓sT, if_true, if_false, Nat.reduceLT, Nat.reduceEqDiff, ↓sO, ↓WOps_g, sG, opV, loudV, cellsOf, strOp, evL, Nat.reduceAdd, beq_self_eq_true, bne_self_eq_false, Int.reduceBEq, Int.reduceBNe, vec_load hv, tag_load, vec_cells, all_ints, tag_cells, tag_isC, ti25, ti23, ti3, List.getElem?_cons_zero, List.getElem?_cons_succ, List.drop_zero]
  refine hN1 _ ?_; try clear hN1 hD1 N1
  refine WC_seqN (fun N2 hN2 hD2 => ?_)
  refine WC_seqR (fun N3 hN3 hD3 => ?_)
  simp only [sS, ↓sT, if_true, if_false, Nat.reduceLT, Nat.reduceEqDiff, ↓sO, ↓WOps_g, sG, opV, loudV, cellsOf, strOp, evL, Nat.reduceAdd, beq_self_eq_true, bne_self_eq_false, Int.reduceBEq, Int.reduceBNe]
  refine hN3 _ ?_; try clear hN3 hD3 N3
  refine WC_block ?_
  refine WC_loopG (σ := Nat) (fun i s => ∃ ps, s = ⟨mkS 17 ps, [a.map (V.int .i64), b.map (V.int .i64)], [], n⟩ ∧ Has ps [(5, .int .i64 i), (2, .ptr 0 0), (3, .ptr 1 0)] ∧ i ≤ 6 ∧ ∀ k, k < i → b.getD k 0 ≤ a.getD k 0) (fun t => 6 - t) 0 ?_ (fun i s hI => ?_)
  · exact ⟨_, rfl, ⟨rfl, rfl, rfl, trivial⟩, by omega, fun k hk => by omega⟩
  obtain ⟨ps, rfl, hps, hI, hall⟩ := hI
  refine WC_has hps ?_; clear hps ps
  refine WC_seqN (fun N4 hN4 hD4 => ?_)
  refine WC_seqR (fun N5 hN5 hD5 => ?_)
  simp only [sS, ↓sT, if_true, if_false, Nat.reduceLT, Nat.reduceEqDiff, ↓sO, ↓WOps_g, sG, opV, loudV, cellsOf, strOp, evL, Nat.reduceAdd, beq_self_eq_true, bne_self_eq_false, Int.reduceBEq, Int.reduceBNe]
  refine hN5 _ ?_; try clear hN5 hD5 N5
  refine WC_condE ?_
  simp only [sS, ↓sT, if_true, if_false, Nat.reduceLT, Nat.reduceEqDiff, ↓stepC_bool]
  refine ⟨fun hb1 => ?_, fun hb1 => ?_⟩
  · refine WC_skip ?_
    refine hN4 _ ?_; try clear hN4 hD4 N4
    have hi6 : i < 6 := by have := of_decide_eq_true hb1; omega
    have hii : (0 : Int) ≤ i ∧ (i : Int) < 6 := by omega
    have g1 := vec_get (v := a) (k := i) (by omega)
    have g2 := vec_get (v := b) (k := i) (by omega)
    refine WC_seqN (fun N6 hN6 hD6 => ?_)
    refine WC_block ?_
    refine WC_seqD mixed [] [0, 0, 0, 0, 0, 0, 0] (by decide +kernel) (fun N7 hN7 hD7 => ?_)
    simp only [sS, ↓sT, if_true, if_false, Nat.reduceLT, Nat.reduceEqDiff, ↓sD, ↓D_g, memOk, lets0, lets1, List.not_mem_nil, not_false_eq_true, true_and, and_true, sG, opV, loudV, cellsOf, strOp, evL, Nat.reduceAdd, beq_self_eq_true, bne_self_eq_false, Int.reduceBEq, Int.reduceBNe, vec_load hv, tag_load, vec_cells, all_ints, tag_cells, tag_isC, ti25, ti23, ti3, List.getElem?_cons_zero, List.getElem?_cons_succ, List.drop_zero, vec_ia, hii, Int.toNat_natCast, g1, g2]
    refine hN7 _ ?_; try clear hN7 hD7 N7
    refine WC_condE ?_
    simp only [sS, ↓sT, if_true, if_false, Nat.reduceLT, Nat.reduceEqDiff, ↓stepC_bool]
    refine ⟨fun hb2 => ?_, fun hb2 => ?_⟩
    · refine WC_seqR (fun N8 hN8 hD8 => ?_)
      simp only [sS, ↓sT, if_true, if_false, Nat.reduceLT, Nat.reduceEqDiff, ↓sO, ↓WOps_g, sG, opV, loudV, cellsOf, strOp, evL, Nat.reduceAdd, beq_self_eq_true, bne_self_eq_false, Int.reduceBEq, Int.reduceBNe]
      refine hN8 _ ?_; try clear hN8 hD8 N8
      refine WC_ret ?_; (try simp only [Exit.after, Exit.out]); refine Kend_ret (by simp only [resOf, resL, resV, mkS_get, slots_get, cellsOf, vec_load hv, tag_load, vec_cells, all_ints, tag_cells, tag_isC, ti25, ti23, ti3, List.getElem?_cons_zero, List.getElem?_cons_succ, List.drop_zero, sS, ↓sT, if_true, if_false, Nat.reduceLT, Nat.reduceEqDiff]; rfl) (by first | rfl | (simp only [vec_load hv, tag_load, vec_cells, all_ints, tag_cells, tag_isC, ti25, ti23, ti3, List.getElem?_cons_zero, List.getElem?_cons_succ, List.drop_zero]; done) | (simp only [vec_load hv, tag_load, vec_cells, all_ints, tag_cells, tag_isC, ti25, ti23, ti3, List.getElem?_cons_zero, List.getElem?_cons_succ, List.drop_zero, okV, ok1, okC, okP, List.all_cons, List.all_nil, Bool.and_true]; done)) ?_
      have : covB a b = false := by
        cases hc : covB a b with
        | false => rfl
        | true => have := (cov_iff ha hb).1 hc i hi6; have := of_decide_eq_true hb2; omega
      rw [this]; rfl
    · refine WC_skip ?_
      refine hN6 _ ?_; try clear hN6 hD6 N6
      refine WC_regN (fun N9 hN9 => ?_)
      simp only [sS, ↓sT, if_true, if_false, Nat.reduceLT, Nat.reduceEqDiff, ↓sO, ↓WOps_g, sG, opV, loudV, cellsOf, strOp, evL, Nat.reduceAdd, beq_self_eq_true, bne_self_eq_false, Int.reduceBEq, Int.reduceBNe]
      refine hN9 _ ?_; try clear hN9 N9
      refine ⟨i + 1, ⟨_, rfl, ?_, ?_, fun k hk => ?_⟩, ?_⟩
      · rw [wrapI (by omega) (by omega)]; exact ⟨rfl, rfl, rfl, trivial⟩
      · omega
      · rcases Nat.lt_or_ge k i with h | h
        · exact hall k h
        · obtain rfl : k = i := by omega
          have := of_decide_eq_false hb2; omega
      · omega
  · refine WC_exit ?_
    refine hN2 _ ?_; try clear hN2 hD2 N2
    refine WC_seqR (fun N10 hN10 hD10 => ?_)
    simp only [sS, ↓sT, if_true, if_false, Nat.reduceLT, Nat.reduceEqDiff, ↓sO, ↓WOps_g, sG, opV, loudV, cellsOf, strOp, evL, Nat.reduceAdd, beq_self_eq_true, bne_self_eq_false, Int.reduceBEq, Int.reduceBNe]
    refine hN10 _ ?_; try clear hN10 hD10 N10
    refine WC_ret ?_; (try simp only [Exit.after, Exit.out]); refine Kend_ret (by simp only [resOf, resL, resV, mkS_get, slots_get, cellsOf, vec_load hv, tag_load, vec_cells, all_ints, tag_cells, tag_isC, ti25, ti23, ti3, List.getElem?_cons_zero, List.getElem?_cons_succ, List.drop_zero, sS, ↓sT, if_true, if_false, Nat.reduceLT, Nat.reduceEqDiff]; rfl) (by first | rfl | (simp only [vec_load hv, tag_load, vec_cells, all_ints, tag_cells, tag_isC, ti25, ti23, ti3, List.getElem?_cons_zero, List.getElem?_cons_succ, List.drop_zero]; done) | (simp only [vec_load hv, tag_load, vec_cells, all_ints, tag_cells, tag_isC, ti25, ti23, ti3, List.getElem?_cons_zero, List.getElem?_cons_succ, List.drop_zero, okV, ok1, okC, okP, List.all_cons, List.all_nil, Bool.and_true]; done)) ?_
    have := of_decide_eq_false hb1
    rw [(cov_iff ha hb).2 (fun k hk => hall k (by omega))]; rfl
end Go.PV
