/- The types of the program. -/
import Derived.Test.YtpgfcfojojemjaaPWb
import Derived.Test.YtpgfcfojojemjaaChecked
namespace Go.PV
open Go.Proofs
theorem ti1 : ti Try.prog 1 = some ⟨.func, 1, 8, some [.nilf]⟩ := by kernel_rfl
theorem ti2 : ti Try.prog 2 = some ⟨.int .i64, 1, 8, some [.int .i64 0]⟩ := by kernel_rfl
theorem ti3 : ti Try.prog 3 = some ⟨.int .i64, 1, 8, some [.int .i64 0]⟩ := by kernel_rfl
theorem ti4 : ti Try.prog 4 = some ⟨.bool, 1, 1, some [.bool false]⟩ := by kernel_rfl
theorem ti5 : ti Try.prog 5 = some ⟨.int .u8, 1, 1, some [.int .u8 0]⟩ := by kernel_rfl
theorem ti6 : ti Try.prog 6 = some ⟨.int .u8, 1, 1, some [.int .u8 0]⟩ := by kernel_rfl
theorem ti7 : ti Try.prog 7 = some ⟨.struct [(0, 2), (1, 3), (2, 4), (3, 6)], 4, 24, some [.int .i64 0, .int .i64 0, .bool false, .int .u8 0]⟩ := by kernel_rfl
theorem ti8 : ti Try.prog 8 = some ⟨.struct [(0, 2), (1, 3), (2, 4), (3, 6)], 4, 24, some [.int .i64 0, .int .i64 0, .bool false, .int .u8 0]⟩ := by kernel_rfl
theorem ti9 : ti Try.prog 9 = some ⟨.str, 1, 16, some [.str []]⟩ := by kernel_rfl
theorem ti10 : ti Try.prog 10 = some ⟨.str, 1, 16, some [.str []]⟩ := by kernel_rfl
theorem ti11 : ti Try.prog 11 = some ⟨.str, 1, 16, some [.str []]⟩ := by kernel_rfl
theorem ti12 : ti Try.prog 12 = some ⟨.int .u64, 1, 8, some [.int .u64 0]⟩ := by kernel_rfl
theorem ti13 : ti Try.prog 13 = some ⟨.struct [(0, 9), (1, 12)], 2, 24, some [.str [], .int .u64 0]⟩ := by kernel_rfl
theorem ti14 : ti Try.prog 14 = some ⟨.struct [(0, 9), (1, 12)], 2, 24, some [.str [], .int .u64 0]⟩ := by kernel_rfl
theorem ti15 : ti Try.prog 15 = some ⟨.ptr 99, 1, 8, some [.nilp]⟩ := by kernel_rfl
theorem ti16 : ti Try.prog 16 = some ⟨.ptr 102, 1, 8, some [.nilp]⟩ := by kernel_rfl
theorem ti17 : ti Try.prog 17 = some ⟨.ptr 111, 1, 8, some [.nilp]⟩ := by kernel_rfl
theorem ti18 : ti Try.prog 18 = some ⟨.struct [(0, 17)], 1, 8, some [.nilp]⟩ := by kernel_rfl
theorem ti19 : ti Try.prog 19 = some ⟨.struct [(0, 17)], 1, 8, some [.nilp]⟩ := by kernel_rfl
theorem ti21 : ti Try.prog 21 = some ⟨.int .i32, 1, 4, some [.int .i32 0]⟩ := by kernel_rfl
theorem ti22 : ti Try.prog 22 = some ⟨.arr 6 3, 6, 48, some [.int .i64 0, .int .i64 0, .int .i64 0, .int .i64 0, .int .i64 0, .int .i64 0]⟩ := by kernel_rfl
theorem ti23 : ti Try.prog 23 = some ⟨.arr 6 3, 6, 48, some [.int .i64 0, .int .i64 0, .int .i64 0, .int .i64 0, .int .i64 0, .int .i64 0]⟩ := by kernel_rfl
theorem ti24 : ti Try.prog 24 = some ⟨.struct [(0, 3), (1, 3)], 2, 16, some [.int .i64 0, .int .i64 0]⟩ := by kernel_rfl
theorem ti25 : ti Try.prog 25 = some ⟨.struct [(0, 3), (1, 3)], 2, 16, some [.int .i64 0, .int .i64 0]⟩ := by kernel_rfl
theorem ti26 : ti Try.prog 26 = some ⟨.func, 1, 8, some [.nilf]⟩ := by kernel_rfl
theorem ti27 : ti Try.prog 27 = some ⟨.int .i64, 1, 8, some [.int .i64 0]⟩ := by kernel_rfl
theorem ti29 : ti Try.prog 29 = some ⟨.func, 1, 8, some [.nilf]⟩ := by kernel_rfl
theorem ti31 : ti Try.prog 31 = some ⟨.func, 1, 8, some [.nilf]⟩ := by kernel_rfl
theorem ti32 : ti Try.prog 32 = some ⟨.func, 1, 8, some [.nilf]⟩ := by kernel_rfl
theorem ti33 : ti Try.prog 33 = some ⟨.func, 1, 8, some [.nilf]⟩ := by kernel_rfl
theorem ti34 : ti Try.prog 34 = some ⟨.func, 1, 8, some [.nilf]⟩ := by kernel_rfl
theorem ti35 : ti Try.prog 35 = some ⟨.func, 1, 8, some [.nilf]⟩ := by kernel_rfl
theorem ti36 : ti Try.prog 36 = some ⟨.func, 1, 8, some [.nilf]⟩ := by kernel_rfl
theorem ti37 : ti Try.prog 37 = some ⟨.func, 1, 8, some [.nilf]⟩ := by kernel_rfl
theorem ti38 : ti Try.prog 38 = some ⟨.slice 25, 1, 24, some [.nils]⟩ := by kernel_rfl
theorem ti40 : ti Try.prog 40 = some ⟨.func, 1, 8, some [.nilf]⟩ := by kernel_rfl
theorem ti41 : ti Try.prog 41 = some ⟨.func, 1, 8, some [.nilf]⟩ := by kernel_rfl
theorem ti43 : ti Try.prog 43 = some ⟨.func, 1, 8, some [.nilf]⟩ := by kernel_rfl
theorem ti44 : ti Try.prog 44 = some ⟨.ptr 82, 1, 8, some [.nilp]⟩ := by kernel_rfl
theorem ti45 : ti Try.prog 45 = some ⟨.func, 1, 8, some [.nilf]⟩ := by kernel_rfl
theorem ti46 : ti Try.prog 46 = some ⟨.struct [(0, 3), (1, 9), (2, 9)], 3, 40, some [.int .i64 0, .str [], .str []]⟩ := by kernel_rfl
theorem ti47 : ti Try.prog 47 = some ⟨.struct [(0, 3), (1, 9), (2, 9)], 3, 40, some [.int .i64 0, .str [], .str []]⟩ := by kernel_rfl
theorem ti48 : ti Try.prog 48 = some ⟨.struct [(0, 25), (2, 25), (4, 2), (5, 9), (6, 3), (7, 9), (8, 47), (11, 2), (12, 4), (13, 9), (14, 38)], 15, 176, some [.int .i64 0, .int .i64 0, .int .i64 0, .int .i64 0, .int .i64 0, .str [], .int .i64 0, .str [], .int .i64 0, .str [], .str [], .int .i64 0, .bool false, .str [], .nils]⟩ := by kernel_rfl
theorem ti49 : ti Try.prog 49 = some ⟨.struct [(0, 25), (2, 25), (4, 2), (5, 9), (6, 3), (7, 9), (8, 47), (11, 2), (12, 4), (13, 9), (14, 38)], 15, 176, some [.int .i64 0, .int .i64 0, .int .i64 0, .int .i64 0, .int .i64 0, .str [], .int .i64 0, .str [], .int .i64 0, .str [], .str [], .int .i64 0, .bool false, .str [], .nils]⟩ := by kernel_rfl
theorem ti50 : ti Try.prog 50 = some ⟨.func, 1, 8, some [.nilf]⟩ := by kernel_rfl
theorem ti51 : ti Try.prog 51 = some ⟨.func, 1, 8, some [.nilf]⟩ := by kernel_rfl
theorem ti52 : ti Try.prog 52 = some ⟨.slice 49, 1, 24, some [.nils]⟩ := by kernel_rfl
theorem ti53 : ti Try.prog 53 = some ⟨.func, 1, 8, some [.nilf]⟩ := by kernel_rfl
theorem ti54 : ti Try.prog 54 = some ⟨.func, 1, 8, some [.nilf]⟩ := by kernel_rfl
theorem ti55 : ti Try.prog 55 = some ⟨.int .u64, 1, 8, some [.int .u64 0]⟩ := by kernel_rfl
theorem ti56 : ti Try.prog 56 = some ⟨.func, 1, 8, some [.nilf]⟩ := by kernel_rfl
theorem ti57 : ti Try.prog 57 = some ⟨.int .u64, 1, 8, some [.int .u64 0]⟩ := by kernel_rfl
theorem ti58 : ti Try.prog 58 = some ⟨.func, 1, 8, some [.nilf]⟩ := by kernel_rfl
theorem ti59 : ti Try.prog 59 = some ⟨.func, 1, 8, some [.nilf]⟩ := by kernel_rfl
theorem ti60 : ti Try.prog 60 = some ⟨.func, 1, 8, some [.nilf]⟩ := by kernel_rfl
theorem ti62 : ti Try.prog 62 = some ⟨.func, 1, 8, some [.nilf]⟩ := by kernel_rfl
theorem ti63 : ti Try.prog 63 = some ⟨.func, 1, 8, some [.nilf]⟩ := by kernel_rfl
theorem ti64 : ti Try.prog 64 = some ⟨.func, 1, 8, some [.nilf]⟩ := by kernel_rfl
theorem ti65 : ti Try.prog 65 = some ⟨.func, 1, 8, some [.nilf]⟩ := by kernel_rfl
theorem ti67 : ti Try.prog 67 = some ⟨.func, 1, 8, some [.nilf]⟩ := by kernel_rfl
theorem ti68 : ti Try.prog 68 = some ⟨.func, 1, 8, some [.nilf]⟩ := by kernel_rfl
theorem ti69 : ti Try.prog 69 = some ⟨.func, 1, 8, some [.nilf]⟩ := by kernel_rfl
theorem ti70 : ti Try.prog 70 = some ⟨.func, 1, 8, some [.nilf]⟩ := by kernel_rfl
theorem ti71 : ti Try.prog 71 = some ⟨.func, 1, 8, some [.nilf]⟩ := by kernel_rfl
theorem ti72 : ti Try.prog 72 = some ⟨.func, 1, 8, some [.nilf]⟩ := by kernel_rfl
theorem ti73 : ti Try.prog 73 = some ⟨.func, 1, 8, some [.nilf]⟩ := by kernel_rfl
theorem ti74 : ti Try.prog 74 = some ⟨.func, 1, 8, some [.nilf]⟩ := by kernel_rfl
theorem ti75 : ti Try.prog 75 = some ⟨.func, 1, 8, some [.nilf]⟩ := by kernel_rfl
theorem ti76 : ti Try.prog 76 = some ⟨.func, 1, 8, some [.nilf]⟩ := by kernel_rfl
theorem ti77 : ti Try.prog 77 = some ⟨.func, 1, 8, some [.nilf]⟩ := by kernel_rfl
theorem ti78 : ti Try.prog 78 = some ⟨.ptr 3, 1, 8, some [.nilp]⟩ := by kernel_rfl
theorem ti79 : ti Try.prog 79 = some ⟨.func, 1, 8, some [.nilf]⟩ := by kernel_rfl
theorem ti80 : ti Try.prog 80 = some ⟨.arr 6 52, 6, 144, some [.nils, .nils, .nils, .nils, .nils, .nils]⟩ := by kernel_rfl
theorem ti81 : ti Try.prog 81 = some ⟨.struct [(0, 80)], 6, 144, some [.nils, .nils, .nils, .nils, .nils, .nils]⟩ := by kernel_rfl
theorem ti82 : ti Try.prog 82 = some ⟨.struct [(0, 80)], 6, 144, some [.nils, .nils, .nils, .nils, .nils, .nils]⟩ := by kernel_rfl
theorem ti83 : ti Try.prog 83 = some ⟨.ptr 52, 1, 8, some [.nilp]⟩ := by kernel_rfl
theorem ti84 : ti Try.prog 84 = some ⟨.func, 1, 8, some [.nilf]⟩ := by kernel_rfl
theorem ti86 : ti Try.prog 86 = some ⟨.func, 1, 8, some [.nilf]⟩ := by kernel_rfl
theorem ti87 : ti Try.prog 87 = some ⟨.func, 1, 8, some [.nilf]⟩ := by kernel_rfl
theorem ti88 : ti Try.prog 88 = some ⟨.func, 1, 8, some [.nilf]⟩ := by kernel_rfl
theorem ti89 : ti Try.prog 89 = some ⟨.func, 1, 8, some [.nilf]⟩ := by kernel_rfl
theorem ti90 : ti Try.prog 90 = some ⟨.func, 1, 8, some [.nilf]⟩ := by kernel_rfl
theorem ti91 : ti Try.prog 91 = some ⟨.func, 1, 8, some [.nilf]⟩ := by kernel_rfl
theorem ti92 : ti Try.prog 92 = some ⟨.func, 1, 8, some [.nilf]⟩ := by kernel_rfl
theorem ti93 : ti Try.prog 93 = some ⟨.func, 1, 8, some [.nilf]⟩ := by kernel_rfl
theorem ti94 : ti Try.prog 94 = some ⟨.func, 1, 8, some [.nilf]⟩ := by kernel_rfl
theorem ti95 : ti Try.prog 95 = some ⟨.slice 3, 1, 24, some [.nils]⟩ := by kernel_rfl
theorem ti96 : ti Try.prog 96 = some ⟨.func, 1, 8, some [.nilf]⟩ := by kernel_rfl
theorem ti97 : ti Try.prog 97 = some ⟨.func, 1, 8, some [.nilf]⟩ := by kernel_rfl
theorem ti98 : ti Try.prog 98 = some ⟨.struct [(0, 17), (1, 17), (2, 17), (3, 9)], 4, 40, some [.nilp, .nilp, .nilp, .str []]⟩ := by kernel_rfl
theorem ti99 : ti Try.prog 99 = some ⟨.struct [(0, 17), (1, 17), (2, 17), (3, 9)], 4, 40, some [.nilp, .nilp, .nilp, .str []]⟩ := by kernel_rfl
theorem ti100 : ti Try.prog 100 = some ⟨.arr 0 16, 0, 0, some []⟩ := by kernel_rfl
theorem ti101 : ti Try.prog 101 = some ⟨.struct [(0, 100)], 0, 0, some []⟩ := by kernel_rfl
theorem ti102 : ti Try.prog 102 = some ⟨.struct [(0, 100)], 0, 0, some []⟩ := by kernel_rfl
theorem ti103 : ti Try.prog 103 = some ⟨.int .u32, 1, 4, some [.int .u32 0]⟩ := by kernel_rfl
theorem ti104 : ti Try.prog 104 = some ⟨.int .u8, 1, 1, some [.int .u8 0]⟩ := by kernel_rfl
theorem ti105 : ti Try.prog 105 = some ⟨.int .u8, 1, 1, some [.int .u8 0]⟩ := by kernel_rfl
theorem ti106 : ti Try.prog 106 = some ⟨.func, 1, 8, some [.nilf]⟩ := by kernel_rfl
theorem ti107 : ti Try.prog 107 = some ⟨.ptr 5, 1, 8, some [.nilp]⟩ := by kernel_rfl
theorem ti108 : ti Try.prog 108 = some ⟨.int .i32, 1, 4, some [.int .i32 0]⟩ := by kernel_rfl
theorem ti109 : ti Try.prog 109 = some ⟨.int .i32, 1, 4, some [.int .i32 0]⟩ := by kernel_rfl
theorem ti110 : ti Try.prog 110 = some ⟨.struct [(0, 12), (1, 12), (2, 103), (3, 104), (4, 5), (5, 5), (6, 105), (7, 106), (8, 107), (9, 108), (10, 109)], 11, 48, some [.int .u64 0, .int .u64 0, .int .u32 0, .int .u8 0, .int .u8 0, .int .u8 0, .int .u8 0, .nilf, .nilp, .int .i32 0, .int .i32 0]⟩ := by kernel_rfl
theorem ti111 : ti Try.prog 111 = some ⟨.struct [(0, 12), (1, 12), (2, 103), (3, 104), (4, 5), (5, 5), (6, 105), (7, 106), (8, 107), (9, 108), (10, 109)], 11, 48, some [.int .u64 0, .int .u64 0, .int .u32 0, .int .u8 0, .int .u8 0, .int .u8 0, .int .u8 0, .nilf, .nilp, .int .i32 0, .int .i32 0]⟩ := by kernel_rfl
theorem ti112 : ti Try.prog 112 = some ⟨.other, 1, 8, some [.nilp]⟩ := by kernel_rfl
theorem fa7_0 (b o : Nat) : fieldAddrV Try.prog 7 (.ptr b o) 0 = some (.ptr b (o + 0)) := by simp [fieldAddrV, ti7, ti2]
theorem fr7_0 (cs : List V) : fieldAddrV Try.prog 7 (.rptr cs) 0 = some (.rptr (cs.drop 0)) := by simp [fieldAddrV, ti7, ti2]
theorem fv7_0 (cs : List V) : fieldV Try.prog 7 (.agg cs) 0 = cs[0]? := by simp [fieldV, ti7, ti2, partV, TD.agg]
theorem fa7_1 (b o : Nat) : fieldAddrV Try.prog 7 (.ptr b o) 1 = some (.ptr b (o + 1)) := by simp [fieldAddrV, ti7, ti3]
theorem fr7_1 (cs : List V) : fieldAddrV Try.prog 7 (.rptr cs) 1 = some (.rptr (cs.drop 1)) := by simp [fieldAddrV, ti7, ti3]
theorem fv7_1 (cs : List V) : fieldV Try.prog 7 (.agg cs) 1 = cs[1]? := by simp [fieldV, ti7, ti3, partV, TD.agg]
theorem fa7_2 (b o : Nat) : fieldAddrV Try.prog 7 (.ptr b o) 2 = some (.ptr b (o + 2)) := by simp [fieldAddrV, ti7, ti4]
theorem fr7_2 (cs : List V) : fieldAddrV Try.prog 7 (.rptr cs) 2 = some (.rptr (cs.drop 2)) := by simp [fieldAddrV, ti7, ti4]
theorem fv7_2 (cs : List V) : fieldV Try.prog 7 (.agg cs) 2 = cs[2]? := by simp [fieldV, ti7, ti4, partV, TD.agg]
theorem fa7_3 (b o : Nat) : fieldAddrV Try.prog 7 (.ptr b o) 3 = some (.ptr b (o + 3)) := by simp [fieldAddrV, ti7, ti6]
theorem fr7_3 (cs : List V) : fieldAddrV Try.prog 7 (.rptr cs) 3 = some (.rptr (cs.drop 3)) := by simp [fieldAddrV, ti7, ti6]
theorem fv7_3 (cs : List V) : fieldV Try.prog 7 (.agg cs) 3 = cs[3]? := by simp [fieldV, ti7, ti6, partV, TD.agg]
theorem fa8_0 (b o : Nat) : fieldAddrV Try.prog 8 (.ptr b o) 0 = some (.ptr b (o + 0)) := by simp [fieldAddrV, ti8, ti2]
theorem fr8_0 (cs : List V) : fieldAddrV Try.prog 8 (.rptr cs) 0 = some (.rptr (cs.drop 0)) := by simp [fieldAddrV, ti8, ti2]
theorem fv8_0 (cs : List V) : fieldV Try.prog 8 (.agg cs) 0 = cs[0]? := by simp [fieldV, ti8, ti2, partV, TD.agg]
theorem fa8_1 (b o : Nat) : fieldAddrV Try.prog 8 (.ptr b o) 1 = some (.ptr b (o + 1)) := by simp [fieldAddrV, ti8, ti3]
theorem fr8_1 (cs : List V) : fieldAddrV Try.prog 8 (.rptr cs) 1 = some (.rptr (cs.drop 1)) := by simp [fieldAddrV, ti8, ti3]
theorem fv8_1 (cs : List V) : fieldV Try.prog 8 (.agg cs) 1 = cs[1]? := by simp [fieldV, ti8, ti3, partV, TD.agg]
theorem fa8_2 (b o : Nat) : fieldAddrV Try.prog 8 (.ptr b o) 2 = some (.ptr b (o + 2)) := by simp [fieldAddrV, ti8, ti4]
theorem fr8_2 (cs : List V) : fieldAddrV Try.prog 8 (.rptr cs) 2 = some (.rptr (cs.drop 2)) := by simp [fieldAddrV, ti8, ti4]
theorem fv8_2 (cs : List V) : fieldV Try.prog 8 (.agg cs) 2 = cs[2]? := by simp [fieldV, ti8, ti4, partV, TD.agg]
theorem fa8_3 (b o : Nat) : fieldAddrV Try.prog 8 (.ptr b o) 3 = some (.ptr b (o + 3)) := by simp [fieldAddrV, ti8, ti6]
theorem fr8_3 (cs : List V) : fieldAddrV Try.prog 8 (.rptr cs) 3 = some (.rptr (cs.drop 3)) := by simp [fieldAddrV, ti8, ti6]
theorem fv8_3 (cs : List V) : fieldV Try.prog 8 (.agg cs) 3 = cs[3]? := by simp [fieldV, ti8, ti6, partV, TD.agg]
theorem fa13_0 (b o : Nat) : fieldAddrV Try.prog 13 (.ptr b o) 0 = some (.ptr b (o + 0)) := by simp [fieldAddrV, ti13, ti9]
theorem fr13_0 (cs : List V) : fieldAddrV Try.prog 13 (.rptr cs) 0 = some (.rptr (cs.drop 0)) := by simp [fieldAddrV, ti13, ti9]
theorem fv13_0 (cs : List V) : fieldV Try.prog 13 (.agg cs) 0 = cs[0]? := by simp [fieldV, ti13, ti9, partV, TD.agg]
theorem fa13_1 (b o : Nat) : fieldAddrV Try.prog 13 (.ptr b o) 1 = some (.ptr b (o + 1)) := by simp [fieldAddrV, ti13, ti12]
theorem fr13_1 (cs : List V) : fieldAddrV Try.prog 13 (.rptr cs) 1 = some (.rptr (cs.drop 1)) := by simp [fieldAddrV, ti13, ti12]
theorem fv13_1 (cs : List V) : fieldV Try.prog 13 (.agg cs) 1 = cs[1]? := by simp [fieldV, ti13, ti12, partV, TD.agg]
theorem fa14_0 (b o : Nat) : fieldAddrV Try.prog 14 (.ptr b o) 0 = some (.ptr b (o + 0)) := by simp [fieldAddrV, ti14, ti9]
theorem fr14_0 (cs : List V) : fieldAddrV Try.prog 14 (.rptr cs) 0 = some (.rptr (cs.drop 0)) := by simp [fieldAddrV, ti14, ti9]
theorem fv14_0 (cs : List V) : fieldV Try.prog 14 (.agg cs) 0 = cs[0]? := by simp [fieldV, ti14, ti9, partV, TD.agg]
theorem fa14_1 (b o : Nat) : fieldAddrV Try.prog 14 (.ptr b o) 1 = some (.ptr b (o + 1)) := by simp [fieldAddrV, ti14, ti12]
theorem fr14_1 (cs : List V) : fieldAddrV Try.prog 14 (.rptr cs) 1 = some (.rptr (cs.drop 1)) := by simp [fieldAddrV, ti14, ti12]
theorem fv14_1 (cs : List V) : fieldV Try.prog 14 (.agg cs) 1 = cs[1]? := by simp [fieldV, ti14, ti12, partV, TD.agg]
theorem fa18_0 (b o : Nat) : fieldAddrV Try.prog 18 (.ptr b o) 0 = some (.ptr b (o + 0)) := by simp [fieldAddrV, ti18, ti17]
theorem fr18_0 (cs : List V) : fieldAddrV Try.prog 18 (.rptr cs) 0 = some (.rptr (cs.drop 0)) := by simp [fieldAddrV, ti18, ti17]
theorem fv18_0 (cs : List V) : fieldV Try.prog 18 (.agg cs) 0 = cs[0]? := by simp [fieldV, ti18, ti17, partV, TD.agg]
theorem fa19_0 (b o : Nat) : fieldAddrV Try.prog 19 (.ptr b o) 0 = some (.ptr b (o + 0)) := by simp [fieldAddrV, ti19, ti17]
theorem fr19_0 (cs : List V) : fieldAddrV Try.prog 19 (.rptr cs) 0 = some (.rptr (cs.drop 0)) := by simp [fieldAddrV, ti19, ti17]
theorem fv19_0 (cs : List V) : fieldV Try.prog 19 (.agg cs) 0 = cs[0]? := by simp [fieldV, ti19, ti17, partV, TD.agg]
theorem fa24_0 (b o : Nat) : fieldAddrV Try.prog 24 (.ptr b o) 0 = some (.ptr b (o + 0)) := by simp [fieldAddrV, ti24, ti3]
theorem fr24_0 (cs : List V) : fieldAddrV Try.prog 24 (.rptr cs) 0 = some (.rptr (cs.drop 0)) := by simp [fieldAddrV, ti24, ti3]
theorem fv24_0 (cs : List V) : fieldV Try.prog 24 (.agg cs) 0 = cs[0]? := by simp [fieldV, ti24, ti3, partV, TD.agg]
theorem fa24_1 (b o : Nat) : fieldAddrV Try.prog 24 (.ptr b o) 1 = some (.ptr b (o + 1)) := by simp [fieldAddrV, ti24, ti3]
theorem fr24_1 (cs : List V) : fieldAddrV Try.prog 24 (.rptr cs) 1 = some (.rptr (cs.drop 1)) := by simp [fieldAddrV, ti24, ti3]
theorem fv24_1 (cs : List V) : fieldV Try.prog 24 (.agg cs) 1 = cs[1]? := by simp [fieldV, ti24, ti3, partV, TD.agg]
theorem fa25_0 (b o : Nat) : fieldAddrV Try.prog 25 (.ptr b o) 0 = some (.ptr b (o + 0)) := by simp [fieldAddrV, ti25, ti3]
theorem fr25_0 (cs : List V) : fieldAddrV Try.prog 25 (.rptr cs) 0 = some (.rptr (cs.drop 0)) := by simp [fieldAddrV, ti25, ti3]
theorem fv25_0 (cs : List V) : fieldV Try.prog 25 (.agg cs) 0 = cs[0]? := by simp [fieldV, ti25, ti3, partV, TD.agg]
theorem fa25_1 (b o : Nat) : fieldAddrV Try.prog 25 (.ptr b o) 1 = some (.ptr b (o + 1)) := by simp [fieldAddrV, ti25, ti3]
theorem fr25_1 (cs : List V) : fieldAddrV Try.prog 25 (.rptr cs) 1 = some (.rptr (cs.drop 1)) := by simp [fieldAddrV, ti25, ti3]
theorem fv25_1 (cs : List V) : fieldV Try.prog 25 (.agg cs) 1 = cs[1]? := by simp [fieldV, ti25, ti3, partV, TD.agg]
theorem fa46_0 (b o : Nat) : fieldAddrV Try.prog 46 (.ptr b o) 0 = some (.ptr b (o + 0)) := by simp [fieldAddrV, ti46, ti3]
theorem fr46_0 (cs : List V) : fieldAddrV Try.prog 46 (.rptr cs) 0 = some (.rptr (cs.drop 0)) := by simp [fieldAddrV, ti46, ti3]
theorem fv46_0 (cs : List V) : fieldV Try.prog 46 (.agg cs) 0 = cs[0]? := by simp [fieldV, ti46, ti3, partV, TD.agg]
theorem fa46_1 (b o : Nat) : fieldAddrV Try.prog 46 (.ptr b o) 1 = some (.ptr b (o + 1)) := by simp [fieldAddrV, ti46, ti9]
theorem fr46_1 (cs : List V) : fieldAddrV Try.prog 46 (.rptr cs) 1 = some (.rptr (cs.drop 1)) := by simp [fieldAddrV, ti46, ti9]
theorem fv46_1 (cs : List V) : fieldV Try.prog 46 (.agg cs) 1 = cs[1]? := by simp [fieldV, ti46, ti9, partV, TD.agg]
theorem fa46_2 (b o : Nat) : fieldAddrV Try.prog 46 (.ptr b o) 2 = some (.ptr b (o + 2)) := by simp [fieldAddrV, ti46, ti9]
theorem fr46_2 (cs : List V) : fieldAddrV Try.prog 46 (.rptr cs) 2 = some (.rptr (cs.drop 2)) := by simp [fieldAddrV, ti46, ti9]
theorem fv46_2 (cs : List V) : fieldV Try.prog 46 (.agg cs) 2 = cs[2]? := by simp [fieldV, ti46, ti9, partV, TD.agg]
theorem fa47_0 (b o : Nat) : fieldAddrV Try.prog 47 (.ptr b o) 0 = some (.ptr b (o + 0)) := by simp [fieldAddrV, ti47, ti3]
theorem fr47_0 (cs : List V) : fieldAddrV Try.prog 47 (.rptr cs) 0 = some (.rptr (cs.drop 0)) := by simp [fieldAddrV, ti47, ti3]
theorem fv47_0 (cs : List V) : fieldV Try.prog 47 (.agg cs) 0 = cs[0]? := by simp [fieldV, ti47, ti3, partV, TD.agg]
theorem fa47_1 (b o : Nat) : fieldAddrV Try.prog 47 (.ptr b o) 1 = some (.ptr b (o + 1)) := by simp [fieldAddrV, ti47, ti9]
theorem fr47_1 (cs : List V) : fieldAddrV Try.prog 47 (.rptr cs) 1 = some (.rptr (cs.drop 1)) := by simp [fieldAddrV, ti47, ti9]
theorem fv47_1 (cs : List V) : fieldV Try.prog 47 (.agg cs) 1 = cs[1]? := by simp [fieldV, ti47, ti9, partV, TD.agg]
theorem fa47_2 (b o : Nat) : fieldAddrV Try.prog 47 (.ptr b o) 2 = some (.ptr b (o + 2)) := by simp [fieldAddrV, ti47, ti9]
theorem fr47_2 (cs : List V) : fieldAddrV Try.prog 47 (.rptr cs) 2 = some (.rptr (cs.drop 2)) := by simp [fieldAddrV, ti47, ti9]
theorem fv47_2 (cs : List V) : fieldV Try.prog 47 (.agg cs) 2 = cs[2]? := by simp [fieldV, ti47, ti9, partV, TD.agg]
theorem fa48_0 (b o : Nat) : fieldAddrV Try.prog 48 (.ptr b o) 0 = some (.ptr b (o + 0)) := by simp [fieldAddrV, ti48, ti25]
theorem fr48_0 (cs : List V) : fieldAddrV Try.prog 48 (.rptr cs) 0 = some (.rptr (cs.drop 0)) := by simp [fieldAddrV, ti48, ti25]
theorem fv48_0 (cs : List V) : fieldV Try.prog 48 (.agg cs) 0 = if 0 + 2 ≤ cs.length then some (.agg ((cs.drop 0).take 2)) else none := by simp [fieldV, ti48, ti25, partV, TD.agg]
theorem fa48_1 (b o : Nat) : fieldAddrV Try.prog 48 (.ptr b o) 1 = some (.ptr b (o + 2)) := by simp [fieldAddrV, ti48, ti25]
theorem fr48_1 (cs : List V) : fieldAddrV Try.prog 48 (.rptr cs) 1 = some (.rptr (cs.drop 2)) := by simp [fieldAddrV, ti48, ti25]
theorem fv48_1 (cs : List V) : fieldV Try.prog 48 (.agg cs) 1 = if 2 + 2 ≤ cs.length then some (.agg ((cs.drop 2).take 2)) else none := by simp [fieldV, ti48, ti25, partV, TD.agg]
theorem fa48_2 (b o : Nat) : fieldAddrV Try.prog 48 (.ptr b o) 2 = some (.ptr b (o + 4)) := by simp [fieldAddrV, ti48, ti2]
theorem fr48_2 (cs : List V) : fieldAddrV Try.prog 48 (.rptr cs) 2 = some (.rptr (cs.drop 4)) := by simp [fieldAddrV, ti48, ti2]
theorem fv48_2 (cs : List V) : fieldV Try.prog 48 (.agg cs) 2 = cs[4]? := by simp [fieldV, ti48, ti2, partV, TD.agg]
theorem fa48_3 (b o : Nat) : fieldAddrV Try.prog 48 (.ptr b o) 3 = some (.ptr b (o + 5)) := by simp [fieldAddrV, ti48, ti9]
theorem fr48_3 (cs : List V) : fieldAddrV Try.prog 48 (.rptr cs) 3 = some (.rptr (cs.drop 5)) := by simp [fieldAddrV, ti48, ti9]
theorem fv48_3 (cs : List V) : fieldV Try.prog 48 (.agg cs) 3 = cs[5]? := by simp [fieldV, ti48, ti9, partV, TD.agg]
theorem fa48_4 (b o : Nat) : fieldAddrV Try.prog 48 (.ptr b o) 4 = some (.ptr b (o + 6)) := by simp [fieldAddrV, ti48, ti3]
theorem fr48_4 (cs : List V) : fieldAddrV Try.prog 48 (.rptr cs) 4 = some (.rptr (cs.drop 6)) := by simp [fieldAddrV, ti48, ti3]
theorem fv48_4 (cs : List V) : fieldV Try.prog 48 (.agg cs) 4 = cs[6]? := by simp [fieldV, ti48, ti3, partV, TD.agg]
theorem fa48_5 (b o : Nat) : fieldAddrV Try.prog 48 (.ptr b o) 5 = some (.ptr b (o + 7)) := by simp [fieldAddrV, ti48, ti9]
theorem fr48_5 (cs : List V) : fieldAddrV Try.prog 48 (.rptr cs) 5 = some (.rptr (cs.drop 7)) := by simp [fieldAddrV, ti48, ti9]
theorem fv48_5 (cs : List V) : fieldV Try.prog 48 (.agg cs) 5 = cs[7]? := by simp [fieldV, ti48, ti9, partV, TD.agg]
theorem fa48_6 (b o : Nat) : fieldAddrV Try.prog 48 (.ptr b o) 6 = some (.ptr b (o + 8)) := by simp [fieldAddrV, ti48, ti47]
theorem fr48_6 (cs : List V) : fieldAddrV Try.prog 48 (.rptr cs) 6 = some (.rptr (cs.drop 8)) := by simp [fieldAddrV, ti48, ti47]
theorem fv48_6 (cs : List V) : fieldV Try.prog 48 (.agg cs) 6 = if 8 + 3 ≤ cs.length then some (.agg ((cs.drop 8).take 3)) else none := by simp [fieldV, ti48, ti47, partV, TD.agg]
theorem fa48_7 (b o : Nat) : fieldAddrV Try.prog 48 (.ptr b o) 7 = some (.ptr b (o + 11)) := by simp [fieldAddrV, ti48, ti2]
theorem fr48_7 (cs : List V) : fieldAddrV Try.prog 48 (.rptr cs) 7 = some (.rptr (cs.drop 11)) := by simp [fieldAddrV, ti48, ti2]
theorem fv48_7 (cs : List V) : fieldV Try.prog 48 (.agg cs) 7 = cs[11]? := by simp [fieldV, ti48, ti2, partV, TD.agg]
theorem fa48_8 (b o : Nat) : fieldAddrV Try.prog 48 (.ptr b o) 8 = some (.ptr b (o + 12)) := by simp [fieldAddrV, ti48, ti4]
theorem fr48_8 (cs : List V) : fieldAddrV Try.prog 48 (.rptr cs) 8 = some (.rptr (cs.drop 12)) := by simp [fieldAddrV, ti48, ti4]
theorem fv48_8 (cs : List V) : fieldV Try.prog 48 (.agg cs) 8 = cs[12]? := by simp [fieldV, ti48, ti4, partV, TD.agg]
theorem fa48_9 (b o : Nat) : fieldAddrV Try.prog 48 (.ptr b o) 9 = some (.ptr b (o + 13)) := by simp [fieldAddrV, ti48, ti9]
theorem fr48_9 (cs : List V) : fieldAddrV Try.prog 48 (.rptr cs) 9 = some (.rptr (cs.drop 13)) := by simp [fieldAddrV, ti48, ti9]
theorem fv48_9 (cs : List V) : fieldV Try.prog 48 (.agg cs) 9 = cs[13]? := by simp [fieldV, ti48, ti9, partV, TD.agg]
theorem fa48_10 (b o : Nat) : fieldAddrV Try.prog 48 (.ptr b o) 10 = some (.ptr b (o + 14)) := by simp [fieldAddrV, ti48, ti38]
theorem fr48_10 (cs : List V) : fieldAddrV Try.prog 48 (.rptr cs) 10 = some (.rptr (cs.drop 14)) := by simp [fieldAddrV, ti48, ti38]
theorem fv48_10 (cs : List V) : fieldV Try.prog 48 (.agg cs) 10 = cs[14]? := by simp [fieldV, ti48, ti38, partV, TD.agg]
theorem fa49_0 (b o : Nat) : fieldAddrV Try.prog 49 (.ptr b o) 0 = some (.ptr b (o + 0)) := by simp [fieldAddrV, ti49, ti25]
theorem fr49_0 (cs : List V) : fieldAddrV Try.prog 49 (.rptr cs) 0 = some (.rptr (cs.drop 0)) := by simp [fieldAddrV, ti49, ti25]
theorem fv49_0 (cs : List V) : fieldV Try.prog 49 (.agg cs) 0 = if 0 + 2 ≤ cs.length then some (.agg ((cs.drop 0).take 2)) else none := by simp [fieldV, ti49, ti25, partV, TD.agg]
theorem fa49_1 (b o : Nat) : fieldAddrV Try.prog 49 (.ptr b o) 1 = some (.ptr b (o + 2)) := by simp [fieldAddrV, ti49, ti25]
theorem fr49_1 (cs : List V) : fieldAddrV Try.prog 49 (.rptr cs) 1 = some (.rptr (cs.drop 2)) := by simp [fieldAddrV, ti49, ti25]
theorem fv49_1 (cs : List V) : fieldV Try.prog 49 (.agg cs) 1 = if 2 + 2 ≤ cs.length then some (.agg ((cs.drop 2).take 2)) else none := by simp [fieldV, ti49, ti25, partV, TD.agg]
theorem fa49_2 (b o : Nat) : fieldAddrV Try.prog 49 (.ptr b o) 2 = some (.ptr b (o + 4)) := by simp [fieldAddrV, ti49, ti2]
theorem fr49_2 (cs : List V) : fieldAddrV Try.prog 49 (.rptr cs) 2 = some (.rptr (cs.drop 4)) := by simp [fieldAddrV, ti49, ti2]
theorem fv49_2 (cs : List V) : fieldV Try.prog 49 (.agg cs) 2 = cs[4]? := by simp [fieldV, ti49, ti2, partV, TD.agg]
theorem fa49_3 (b o : Nat) : fieldAddrV Try.prog 49 (.ptr b o) 3 = some (.ptr b (o + 5)) := by simp [fieldAddrV, ti49, ti9]
theorem fr49_3 (cs : List V) : fieldAddrV Try.prog 49 (.rptr cs) 3 = some (.rptr (cs.drop 5)) := by simp [fieldAddrV, ti49, ti9]
theorem fv49_3 (cs : List V) : fieldV Try.prog 49 (.agg cs) 3 = cs[5]? := by simp [fieldV, ti49, ti9, partV, TD.agg]
theorem fa49_4 (b o : Nat) : fieldAddrV Try.prog 49 (.ptr b o) 4 = some (.ptr b (o + 6)) := by simp [fieldAddrV, ti49, ti3]
theorem fr49_4 (cs : List V) : fieldAddrV Try.prog 49 (.rptr cs) 4 = some (.rptr (cs.drop 6)) := by simp [fieldAddrV, ti49, ti3]
theorem fv49_4 (cs : List V) : fieldV Try.prog 49 (.agg cs) 4 = cs[6]? := by simp [fieldV, ti49, ti3, partV, TD.agg]
theorem fa49_5 (b o : Nat) : fieldAddrV Try.prog 49 (.ptr b o) 5 = some (.ptr b (o + 7)) := by simp [fieldAddrV, ti49, ti9]
theorem fr49_5 (cs : List V) : fieldAddrV Try.prog 49 (.rptr cs) 5 = some (.rptr (cs.drop 7)) := by simp [fieldAddrV, ti49, ti9]
theorem fv49_5 (cs : List V) : fieldV Try.prog 49 (.agg cs) 5 = cs[7]? := by simp [fieldV, ti49, ti9, partV, TD.agg]
theorem fa49_6 (b o : Nat) : fieldAddrV Try.prog 49 (.ptr b o) 6 = some (.ptr b (o + 8)) := by simp [fieldAddrV, ti49, ti47]
theorem fr49_6 (cs : List V) : fieldAddrV Try.prog 49 (.rptr cs) 6 = some (.rptr (cs.drop 8)) := by simp [fieldAddrV, ti49, ti47]
theorem fv49_6 (cs : List V) : fieldV Try.prog 49 (.agg cs) 6 = if 8 + 3 ≤ cs.length then some (.agg ((cs.drop 8).take 3)) else none := by simp [fieldV, ti49, ti47, partV, TD.agg]
theorem fa49_7 (b o : Nat) : fieldAddrV Try.prog 49 (.ptr b o) 7 = some (.ptr b (o + 11)) := by simp [fieldAddrV, ti49, ti2]
theorem fr49_7 (cs : List V) : fieldAddrV Try.prog 49 (.rptr cs) 7 = some (.rptr (cs.drop 11)) := by simp [fieldAddrV, ti49, ti2]
theorem fv49_7 (cs : List V) : fieldV Try.prog 49 (.agg cs) 7 = cs[11]? := by simp [fieldV, ti49, ti2, partV, TD.agg]
theorem fa49_8 (b o : Nat) : fieldAddrV Try.prog 49 (.ptr b o) 8 = some (.ptr b (o + 12)) := by simp [fieldAddrV, ti49, ti4]
theorem fr49_8 (cs : List V) : fieldAddrV Try.prog 49 (.rptr cs) 8 = some (.rptr (cs.drop 12)) := by simp [fieldAddrV, ti49, ti4]
theorem fv49_8 (cs : List V) : fieldV Try.prog 49 (.agg cs) 8 = cs[12]? := by simp [fieldV, ti49, ti4, partV, TD.agg]
theorem fa49_9 (b o : Nat) : fieldAddrV Try.prog 49 (.ptr b o) 9 = some (.ptr b (o + 13)) := by simp [fieldAddrV, ti49, ti9]
theorem fr49_9 (cs : List V) : fieldAddrV Try.prog 49 (.rptr cs) 9 = some (.rptr (cs.drop 13)) := by simp [fieldAddrV, ti49, ti9]
theorem fv49_9 (cs : List V) : fieldV Try.prog 49 (.agg cs) 9 = cs[13]? := by simp [fieldV, ti49, ti9, partV, TD.agg]
theorem fa49_10 (b o : Nat) : fieldAddrV Try.prog 49 (.ptr b o) 10 = some (.ptr b (o + 14)) := by simp [fieldAddrV, ti49, ti38]
theorem fr49_10 (cs : List V) : fieldAddrV Try.prog 49 (.rptr cs) 10 = some (.rptr (cs.drop 14)) := by simp [fieldAddrV, ti49, ti38]
theorem fv49_10 (cs : List V) : fieldV Try.prog 49 (.agg cs) 10 = cs[14]? := by simp [fieldV, ti49, ti38, partV, TD.agg]
theorem fa81_0 (b o : Nat) : fieldAddrV Try.prog 81 (.ptr b o) 0 = some (.ptr b (o + 0)) := by simp [fieldAddrV, ti81, ti80]
theorem fr81_0 (cs : List V) : fieldAddrV Try.prog 81 (.rptr cs) 0 = some (.rptr (cs.drop 0)) := by simp [fieldAddrV, ti81, ti80]
theorem fv81_0 (cs : List V) : fieldV Try.prog 81 (.agg cs) 0 = if 0 + 6 ≤ cs.length then some (.agg ((cs.drop 0).take 6)) else none := by simp [fieldV, ti81, ti80, partV, TD.agg]
theorem fa82_0 (b o : Nat) : fieldAddrV Try.prog 82 (.ptr b o) 0 = some (.ptr b (o + 0)) := by simp [fieldAddrV, ti82, ti80]
theorem fr82_0 (cs : List V) : fieldAddrV Try.prog 82 (.rptr cs) 0 = some (.rptr (cs.drop 0)) := by simp [fieldAddrV, ti82, ti80]
theorem fv82_0 (cs : List V) : fieldV Try.prog 82 (.agg cs) 0 = if 0 + 6 ≤ cs.length then some (.agg ((cs.drop 0).take 6)) else none := by simp [fieldV, ti82, ti80, partV, TD.agg]
theorem fa98_0 (b o : Nat) : fieldAddrV Try.prog 98 (.ptr b o) 0 = some (.ptr b (o + 0)) := by simp [fieldAddrV, ti98, ti17]
theorem fr98_0 (cs : List V) : fieldAddrV Try.prog 98 (.rptr cs) 0 = some (.rptr (cs.drop 0)) := by simp [fieldAddrV, ti98, ti17]
theorem fv98_0 (cs : List V) : fieldV Try.prog 98 (.agg cs) 0 = cs[0]? := by simp [fieldV, ti98, ti17, partV, TD.agg]
theorem fa98_1 (b o : Nat) : fieldAddrV Try.prog 98 (.ptr b o) 1 = some (.ptr b (o + 1)) := by simp [fieldAddrV, ti98, ti17]
theorem fr98_1 (cs : List V) : fieldAddrV Try.prog 98 (.rptr cs) 1 = some (.rptr (cs.drop 1)) := by simp [fieldAddrV, ti98, ti17]
theorem fv98_1 (cs : List V) : fieldV Try.prog 98 (.agg cs) 1 = cs[1]? := by simp [fieldV, ti98, ti17, partV, TD.agg]
theorem fa98_2 (b o : Nat) : fieldAddrV Try.prog 98 (.ptr b o) 2 = some (.ptr b (o + 2)) := by simp [fieldAddrV, ti98, ti17]
theorem fr98_2 (cs : List V) : fieldAddrV Try.prog 98 (.rptr cs) 2 = some (.rptr (cs.drop 2)) := by simp [fieldAddrV, ti98, ti17]
theorem fv98_2 (cs : List V) : fieldV Try.prog 98 (.agg cs) 2 = cs[2]? := by simp [fieldV, ti98, ti17, partV, TD.agg]
theorem fa98_3 (b o : Nat) : fieldAddrV Try.prog 98 (.ptr b o) 3 = some (.ptr b (o + 3)) := by simp [fieldAddrV, ti98, ti9]
theorem fr98_3 (cs : List V) : fieldAddrV Try.prog 98 (.rptr cs) 3 = some (.rptr (cs.drop 3)) := by simp [fieldAddrV, ti98, ti9]
theorem fv98_3 (cs : List V) : fieldV Try.prog 98 (.agg cs) 3 = cs[3]? := by simp [fieldV, ti98, ti9, partV, TD.agg]
theorem fa99_0 (b o : Nat) : fieldAddrV Try.prog 99 (.ptr b o) 0 = some (.ptr b (o + 0)) := by simp [fieldAddrV, ti99, ti17]
theorem fr99_0 (cs : List V) : fieldAddrV Try.prog 99 (.rptr cs) 0 = some (.rptr (cs.drop 0)) := by simp [fieldAddrV, ti99, ti17]
theorem fv99_0 (cs : List V) : fieldV Try.prog 99 (.agg cs) 0 = cs[0]? := by simp [fieldV, ti99, ti17, partV, TD.agg]
theorem fa99_1 (b o : Nat) : fieldAddrV Try.prog 99 (.ptr b o) 1 = some (.ptr b (o + 1)) := by simp [fieldAddrV, ti99, ti17]
theorem fr99_1 (cs : List V) : fieldAddrV Try.prog 99 (.rptr cs) 1 = some (.rptr (cs.drop 1)) := by simp [fieldAddrV, ti99, ti17]
theorem fv99_1 (cs : List V) : fieldV Try.prog 99 (.agg cs) 1 = cs[1]? := by simp [fieldV, ti99, ti17, partV, TD.agg]
theorem fa99_2 (b o : Nat) : fieldAddrV Try.prog 99 (.ptr b o) 2 = some (.ptr b (o + 2)) := by simp [fieldAddrV, ti99, ti17]
theorem fr99_2 (cs : List V) : fieldAddrV Try.prog 99 (.rptr cs) 2 = some (.rptr (cs.drop 2)) := by simp [fieldAddrV, ti99, ti17]
theorem fv99_2 (cs : List V) : fieldV Try.prog 99 (.agg cs) 2 = cs[2]? := by simp [fieldV, ti99, ti17, partV, TD.agg]
theorem fa99_3 (b o : Nat) : fieldAddrV Try.prog 99 (.ptr b o) 3 = some (.ptr b (o + 3)) := by simp [fieldAddrV, ti99, ti9]
theorem fr99_3 (cs : List V) : fieldAddrV Try.prog 99 (.rptr cs) 3 = some (.rptr (cs.drop 3)) := by simp [fieldAddrV, ti99, ti9]
theorem fv99_3 (cs : List V) : fieldV Try.prog 99 (.agg cs) 3 = cs[3]? := by simp [fieldV, ti99, ti9, partV, TD.agg]
theorem fa110_0 (b o : Nat) : fieldAddrV Try.prog 110 (.ptr b o) 0 = some (.ptr b (o + 0)) := by simp [fieldAddrV, ti110, ti12]
theorem fr110_0 (cs : List V) : fieldAddrV Try.prog 110 (.rptr cs) 0 = some (.rptr (cs.drop 0)) := by simp [fieldAddrV, ti110, ti12]
theorem fv110_0 (cs : List V) : fieldV Try.prog 110 (.agg cs) 0 = cs[0]? := by simp [fieldV, ti110, ti12, partV, TD.agg]
theorem fa110_1 (b o : Nat) : fieldAddrV Try.prog 110 (.ptr b o) 1 = some (.ptr b (o + 1)) := by simp [fieldAddrV, ti110, ti12]
theorem fr110_1 (cs : List V) : fieldAddrV Try.prog 110 (.rptr cs) 1 = some (.rptr (cs.drop 1)) := by simp [fieldAddrV, ti110, ti12]
theorem fv110_1 (cs : List V) : fieldV Try.prog 110 (.agg cs) 1 = cs[1]? := by simp [fieldV, ti110, ti12, partV, TD.agg]
theorem fa110_2 (b o : Nat) : fieldAddrV Try.prog 110 (.ptr b o) 2 = some (.ptr b (o + 2)) := by simp [fieldAddrV, ti110, ti103]
theorem fr110_2 (cs : List V) : fieldAddrV Try.prog 110 (.rptr cs) 2 = some (.rptr (cs.drop 2)) := by simp [fieldAddrV, ti110, ti103]
theorem fv110_2 (cs : List V) : fieldV Try.prog 110 (.agg cs) 2 = cs[2]? := by simp [fieldV, ti110, ti103, partV, TD.agg]
theorem fa110_3 (b o : Nat) : fieldAddrV Try.prog 110 (.ptr b o) 3 = some (.ptr b (o + 3)) := by simp [fieldAddrV, ti110, ti104]
theorem fr110_3 (cs : List V) : fieldAddrV Try.prog 110 (.rptr cs) 3 = some (.rptr (cs.drop 3)) := by simp [fieldAddrV, ti110, ti104]
theorem fv110_3 (cs : List V) : fieldV Try.prog 110 (.agg cs) 3 = cs[3]? := by simp [fieldV, ti110, ti104, partV, TD.agg]
theorem fa110_4 (b o : Nat) : fieldAddrV Try.prog 110 (.ptr b o) 4 = some (.ptr b (o + 4)) := by simp [fieldAddrV, ti110, ti5]
theorem fr110_4 (cs : List V) : fieldAddrV Try.prog 110 (.rptr cs) 4 = some (.rptr (cs.drop 4)) := by simp [fieldAddrV, ti110, ti5]
theorem fv110_4 (cs : List V) : fieldV Try.prog 110 (.agg cs) 4 = cs[4]? := by simp [fieldV, ti110, ti5, partV, TD.agg]
theorem fa110_5 (b o : Nat) : fieldAddrV Try.prog 110 (.ptr b o) 5 = some (.ptr b (o + 5)) := by simp [fieldAddrV, ti110, ti5]
theorem fr110_5 (cs : List V) : fieldAddrV Try.prog 110 (.rptr cs) 5 = some (.rptr (cs.drop 5)) := by simp [fieldAddrV, ti110, ti5]
theorem fv110_5 (cs : List V) : fieldV Try.prog 110 (.agg cs) 5 = cs[5]? := by simp [fieldV, ti110, ti5, partV, TD.agg]
theorem fa110_6 (b o : Nat) : fieldAddrV Try.prog 110 (.ptr b o) 6 = some (.ptr b (o + 6)) := by simp [fieldAddrV, ti110, ti105]
theorem fr110_6 (cs : List V) : fieldAddrV Try.prog 110 (.rptr cs) 6 = some (.rptr (cs.drop 6)) := by simp [fieldAddrV, ti110, ti105]
theorem fv110_6 (cs : List V) : fieldV Try.prog 110 (.agg cs) 6 = cs[6]? := by simp [fieldV, ti110, ti105, partV, TD.agg]
theorem fa110_7 (b o : Nat) : fieldAddrV Try.prog 110 (.ptr b o) 7 = some (.ptr b (o + 7)) := by simp [fieldAddrV, ti110, ti106]
theorem fr110_7 (cs : List V) : fieldAddrV Try.prog 110 (.rptr cs) 7 = some (.rptr (cs.drop 7)) := by simp [fieldAddrV, ti110, ti106]
theorem fv110_7 (cs : List V) : fieldV Try.prog 110 (.agg cs) 7 = cs[7]? := by simp [fieldV, ti110, ti106, partV, TD.agg]
theorem fa110_8 (b o : Nat) : fieldAddrV Try.prog 110 (.ptr b o) 8 = some (.ptr b (o + 8)) := by simp [fieldAddrV, ti110, ti107]
theorem fr110_8 (cs : List V) : fieldAddrV Try.prog 110 (.rptr cs) 8 = some (.rptr (cs.drop 8)) := by simp [fieldAddrV, ti110, ti107]
theorem fv110_8 (cs : List V) : fieldV Try.prog 110 (.agg cs) 8 = cs[8]? := by simp [fieldV, ti110, ti107, partV, TD.agg]
theorem fa110_9 (b o : Nat) : fieldAddrV Try.prog 110 (.ptr b o) 9 = some (.ptr b (o + 9)) := by simp [fieldAddrV, ti110, ti108]
theorem fr110_9 (cs : List V) : fieldAddrV Try.prog 110 (.rptr cs) 9 = some (.rptr (cs.drop 9)) := by simp [fieldAddrV, ti110, ti108]
theorem fv110_9 (cs : List V) : fieldV Try.prog 110 (.agg cs) 9 = cs[9]? := by simp [fieldV, ti110, ti108, partV, TD.agg]
theorem fa110_10 (b o : Nat) : fieldAddrV Try.prog 110 (.ptr b o) 10 = some (.ptr b (o + 10)) := by simp [fieldAddrV, ti110, ti109]
theorem fr110_10 (cs : List V) : fieldAddrV Try.prog 110 (.rptr cs) 10 = some (.rptr (cs.drop 10)) := by simp [fieldAddrV, ti110, ti109]
theorem fv110_10 (cs : List V) : fieldV Try.prog 110 (.agg cs) 10 = cs[10]? := by simp [fieldV, ti110, ti109, partV, TD.agg]
theorem fa111_0 (b o : Nat) : fieldAddrV Try.prog 111 (.ptr b o) 0 = some (.ptr b (o + 0)) := by simp [fieldAddrV, ti111, ti12]
theorem fr111_0 (cs : List V) : fieldAddrV Try.prog 111 (.rptr cs) 0 = some (.rptr (cs.drop 0)) := by simp [fieldAddrV, ti111, ti12]
theorem fv111_0 (cs : List V) : fieldV Try.prog 111 (.agg cs) 0 = cs[0]? := by simp [fieldV, ti111, ti12, partV, TD.agg]
theorem fa111_1 (b o : Nat) : fieldAddrV Try.prog 111 (.ptr b o) 1 = some (.ptr b (o + 1)) := by simp [fieldAddrV, ti111, ti12]
theorem fr111_1 (cs : List V) : fieldAddrV Try.prog 111 (.rptr cs) 1 = some (.rptr (cs.drop 1)) := by simp [fieldAddrV, ti111, ti12]
theorem fv111_1 (cs : List V) : fieldV Try.prog 111 (.agg cs) 1 = cs[1]? := by simp [fieldV, ti111, ti12, partV, TD.agg]
theorem fa111_2 (b o : Nat) : fieldAddrV Try.prog 111 (.ptr b o) 2 = some (.ptr b (o + 2)) := by simp [fieldAddrV, ti111, ti103]
theorem fr111_2 (cs : List V) : fieldAddrV Try.prog 111 (.rptr cs) 2 = some (.rptr (cs.drop 2)) := by simp [fieldAddrV, ti111, ti103]
theorem fv111_2 (cs : List V) : fieldV Try.prog 111 (.agg cs) 2 = cs[2]? := by simp [fieldV, ti111, ti103, partV, TD.agg]
theorem fa111_3 (b o : Nat) : fieldAddrV Try.prog 111 (.ptr b o) 3 = some (.ptr b (o + 3)) := by simp [fieldAddrV, ti111, ti104]
theorem fr111_3 (cs : List V) : fieldAddrV Try.prog 111 (.rptr cs) 3 = some (.rptr (cs.drop 3)) := by simp [fieldAddrV, ti111, ti104]
theorem fv111_3 (cs : List V) : fieldV Try.prog 111 (.agg cs) 3 = cs[3]? := by simp [fieldV, ti111, ti104, partV, TD.agg]
theorem fa111_4 (b o : Nat) : fieldAddrV Try.prog 111 (.ptr b o) 4 = some (.ptr b (o + 4)) := by simp [fieldAddrV, ti111, ti5]
theorem fr111_4 (cs : List V) : fieldAddrV Try.prog 111 (.rptr cs) 4 = some (.rptr (cs.drop 4)) := by simp [fieldAddrV, ti111, ti5]
theorem fv111_4 (cs : List V) : fieldV Try.prog 111 (.agg cs) 4 = cs[4]? := by simp [fieldV, ti111, ti5, partV, TD.agg]
theorem fa111_5 (b o : Nat) : fieldAddrV Try.prog 111 (.ptr b o) 5 = some (.ptr b (o + 5)) := by simp [fieldAddrV, ti111, ti5]
theorem fr111_5 (cs : List V) : fieldAddrV Try.prog 111 (.rptr cs) 5 = some (.rptr (cs.drop 5)) := by simp [fieldAddrV, ti111, ti5]
theorem fv111_5 (cs : List V) : fieldV Try.prog 111 (.agg cs) 5 = cs[5]? := by simp [fieldV, ti111, ti5, partV, TD.agg]
theorem fa111_6 (b o : Nat) : fieldAddrV Try.prog 111 (.ptr b o) 6 = some (.ptr b (o + 6)) := by simp [fieldAddrV, ti111, ti105]
theorem fr111_6 (cs : List V) : fieldAddrV Try.prog 111 (.rptr cs) 6 = some (.rptr (cs.drop 6)) := by simp [fieldAddrV, ti111, ti105]
theorem fv111_6 (cs : List V) : fieldV Try.prog 111 (.agg cs) 6 = cs[6]? := by simp [fieldV, ti111, ti105, partV, TD.agg]
theorem fa111_7 (b o : Nat) : fieldAddrV Try.prog 111 (.ptr b o) 7 = some (.ptr b (o + 7)) := by simp [fieldAddrV, ti111, ti106]
theorem fr111_7 (cs : List V) : fieldAddrV Try.prog 111 (.rptr cs) 7 = some (.rptr (cs.drop 7)) := by simp [fieldAddrV, ti111, ti106]
theorem fv111_7 (cs : List V) : fieldV Try.prog 111 (.agg cs) 7 = cs[7]? := by simp [fieldV, ti111, ti106, partV, TD.agg]
theorem fa111_8 (b o : Nat) : fieldAddrV Try.prog 111 (.ptr b o) 8 = some (.ptr b (o + 8)) := by simp [fieldAddrV, ti111, ti107]
theorem fr111_8 (cs : List V) : fieldAddrV Try.prog 111 (.rptr cs) 8 = some (.rptr (cs.drop 8)) := by simp [fieldAddrV, ti111, ti107]
theorem fv111_8 (cs : List V) : fieldV Try.prog 111 (.agg cs) 8 = cs[8]? := by simp [fieldV, ti111, ti107, partV, TD.agg]
theorem fa111_9 (b o : Nat) : fieldAddrV Try.prog 111 (.ptr b o) 9 = some (.ptr b (o + 9)) := by simp [fieldAddrV, ti111, ti108]
theorem fr111_9 (cs : List V) : fieldAddrV Try.prog 111 (.rptr cs) 9 = some (.rptr (cs.drop 9)) := by simp [fieldAddrV, ti111, ti108]
theorem fv111_9 (cs : List V) : fieldV Try.prog 111 (.agg cs) 9 = cs[9]? := by simp [fieldV, ti111, ti108, partV, TD.agg]
theorem fa111_10 (b o : Nat) : fieldAddrV Try.prog 111 (.ptr b o) 10 = some (.ptr b (o + 10)) := by simp [fieldAddrV, ti111, ti109]
theorem fr111_10 (cs : List V) : fieldAddrV Try.prog 111 (.rptr cs) 10 = some (.rptr (cs.drop 10)) := by simp [fieldAddrV, ti111, ti109]
theorem fv111_10 (cs : List V) : fieldV Try.prog 111 (.agg cs) 10 = cs[10]? := by simp [fieldV, ti111, ti109, partV, TD.agg]
theorem fk3 (d : Nat) : flatK Try.prog (d + 1) 3 = some [.int .i64] := flatK_int Try.underlying3 (i := Try.t3) (by kernel_rfl) rfl
theorem fk23 (d : Nat) : flatK Try.prog (d + 2) 23 = some [.int .i64, .int .i64, .int .i64, .int .i64, .int .i64, .int .i64] := flatK_arr Try.underlying23 (i := Try.t23) (by kernel_rfl) (fk3 d) rfl
theorem eqK23 : eqK Try.prog 23 = some [.int .i64, .int .i64, .int .i64, .int .i64, .int .i64, .int .i64] := eqK_of Try.eqGuardType23 (fk23 62)
theorem fk25 (d : Nat) : flatK Try.prog (d + 2) 25 = some [.int .i64, .int .i64] := by
  refine flatK_struct Try.underlying25 (i := Try.t25) (by kernel_rfl) Try.stoodInHeld25 ?_ rfl
  refine fields_cons (ks := [.int .i64]) (r := [.int .i64]) ?_ rfl (fk3 (d + 0)) rfl ?_
  · kernel_rfl
  refine fields_cons (ks := [.int .i64]) (r := []) ?_ rfl (fk3 (d + 0)) rfl ?_
  · kernel_rfl
  exact fields_nil _ _
theorem eqK25 : eqK Try.prog 25 = some [.int .i64, .int .i64] := eqK_of Try.eqGuardType25 (fk25 62)
end Go.PV
