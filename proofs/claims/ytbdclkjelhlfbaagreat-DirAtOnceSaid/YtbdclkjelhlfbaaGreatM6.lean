/- Parts of the proof, one behind the other: Ty, Sx20, Bk1. Lemmas and contracts of functions; no condition of its own. -/
import Derived.Test.YtbdclkjelhlfbaaGreatM5
import Derived.IntWalk
import Derived.Test.YtbdclkjelhlfbaaGreatRows
import Derived.Shelf.Bits.Mul64
set_option linter.unusedVariables false
set_option linter.unusedSimpArgs false
set_option maxHeartbeats 1000000
namespace Go.Proofs.YtbdclkjelhlfbaaGreat
open Go.RowKit
def ti1 : TI := ⟨.func, 1, 8, [.nilFunc], false⟩
theorem ti1_ok : TIok Tryz.prog 1 ti1 := ⟨by kernel_rfl, by kernel_rfl, fun h => by cases h⟩
def ti2 : TI := ⟨.int .i64, 1, 8, [.int .i64 0], false⟩
theorem ti2_ok : TIok Tryz.prog 2 ti2 := ⟨by kernel_rfl, by kernel_rfl, fun h => by cases h⟩
def ti3 : TI := ⟨.int .i64, 1, 8, [.int .i64 0], false⟩
theorem ti3_ok : TIok Tryz.prog 3 ti3 := ⟨by kernel_rfl, by kernel_rfl, fun h => by cases h⟩
def ti4 : TI := ⟨.bool, 1, 1, [.bool false], false⟩
theorem ti4_ok : TIok Tryz.prog 4 ti4 := ⟨by kernel_rfl, by kernel_rfl, fun h => by cases h⟩
def ti5 : TI := ⟨.int .u8, 1, 1, [.int .u8 0], false⟩
theorem ti5_ok : TIok Tryz.prog 5 ti5 := ⟨by kernel_rfl, by kernel_rfl, fun h => by cases h⟩
def ti6 : TI := ⟨.int .u8, 1, 1, [.int .u8 0], false⟩
theorem ti6_ok : TIok Tryz.prog 6 ti6 := ⟨by kernel_rfl, by kernel_rfl, fun h => by cases h⟩
def ti7 : TI := ⟨.struct [(0, 2), (1, 3), (2, 4), (3, 6)], 4, 24, [.int .i64 0, .int .i64 0, .bool false, .int .u8 0], false⟩
theorem ti7_ok : TIok Tryz.prog 7 ti7 := ⟨by kernel_rfl, by kernel_rfl, fun h => by cases h⟩
def ti8 : TI := ⟨.struct [(0, 2), (1, 3), (2, 4), (3, 6)], 4, 24, [.int .i64 0, .int .i64 0, .bool false, .int .u8 0], false⟩
theorem ti8_ok : TIok Tryz.prog 8 ti8 := ⟨by kernel_rfl, by kernel_rfl, fun h => by cases h⟩
def ti9 : TI := ⟨.str, 1, 16, [.string ⟨#[]⟩], false⟩
theorem ti9_ok : TIok Tryz.prog 9 ti9 := ⟨by kernel_rfl, by kernel_rfl, fun h => by cases h⟩
def ti10 : TI := ⟨.str, 1, 16, [.string ⟨#[]⟩], false⟩
theorem ti10_ok : TIok Tryz.prog 10 ti10 := ⟨by kernel_rfl, by kernel_rfl, fun h => by cases h⟩
def ti11 : TI := ⟨.str, 1, 16, [.string ⟨#[]⟩], false⟩
theorem ti11_ok : TIok Tryz.prog 11 ti11 := ⟨by kernel_rfl, by kernel_rfl, fun h => by cases h⟩
def ti12 : TI := ⟨.int .u64, 1, 8, [.int .u64 0], false⟩
theorem ti12_ok : TIok Tryz.prog 12 ti12 := ⟨by kernel_rfl, by kernel_rfl, fun h => by cases h⟩
def ti13 : TI := ⟨.struct [(0, 9), (1, 12)], 2, 24, [.string ⟨#[]⟩, .int .u64 0], false⟩
theorem ti13_ok : TIok Tryz.prog 13 ti13 := ⟨by kernel_rfl, by kernel_rfl, fun h => by cases h⟩
def ti14 : TI := ⟨.struct [(0, 9), (1, 12)], 2, 24, [.string ⟨#[]⟩, .int .u64 0], false⟩
theorem ti14_ok : TIok Tryz.prog 14 ti14 := ⟨by kernel_rfl, by kernel_rfl, fun h => by cases h⟩
def ti15 : TI := ⟨.ptr 328, 1, 8, [.pointer none], false⟩
theorem ti15_ok : TIok Tryz.prog 15 ti15 := ⟨by kernel_rfl, by kernel_rfl, fun h => by cases h⟩
def ti16 : TI := ⟨.ptr 331, 1, 8, [.pointer none], false⟩
theorem ti16_ok : TIok Tryz.prog 16 ti16 := ⟨by kernel_rfl, by kernel_rfl, fun h => by cases h⟩
def ti17 : TI := ⟨.ptr 339, 1, 8, [.pointer none], false⟩
theorem ti17_ok : TIok Tryz.prog 17 ti17 := ⟨by kernel_rfl, by kernel_rfl, fun h => by cases h⟩
def ti18 : TI := ⟨.struct [(0, 17)], 1, 8, [.pointer none], false⟩
theorem ti18_ok : TIok Tryz.prog 18 ti18 := ⟨by kernel_rfl, by kernel_rfl, fun h => by cases h⟩
def ti19 : TI := ⟨.struct [(0, 17)], 1, 8, [.pointer none], false⟩
theorem ti19_ok : TIok Tryz.prog 19 ti19 := ⟨by kernel_rfl, by kernel_rfl, fun h => by cases h⟩
def ti20 : TI := ⟨.other, 1, 16, [.nilIface], false⟩
theorem ti20_ok : TIok Tryz.prog 20 ti20 := ⟨by kernel_rfl, by kernel_rfl, fun h => by cases h⟩
def ti21 : TI := ⟨.int .i32, 1, 4, [.int .i32 0], false⟩
theorem ti21_ok : TIok Tryz.prog 21 ti21 := ⟨by kernel_rfl, by kernel_rfl, fun h => by cases h⟩
def ti22 : TI := ⟨.slice 113, 1, 24, [.slice none 0 0], false⟩
theorem ti22_ok : TIok Tryz.prog 22 ti22 := ⟨by kernel_rfl, by kernel_rfl, fun h => by cases h⟩
def ti23 : TI := ⟨.slice 99, 1, 24, [.slice none 0 0], false⟩
theorem ti23_ok : TIok Tryz.prog 23 ti23 := ⟨by kernel_rfl, by kernel_rfl, fun h => by cases h⟩
def ti24 : TI := ⟨.func, 1, 8, [.nilFunc], false⟩
theorem ti24_ok : TIok Tryz.prog 24 ti24 := ⟨by kernel_rfl, by kernel_rfl, fun h => by cases h⟩
def ti25 : TI := ⟨.slice 38, 1, 24, [.slice none 0 0], false⟩
theorem ti25_ok : TIok Tryz.prog 25 ti25 := ⟨by kernel_rfl, by kernel_rfl, fun h => by cases h⟩
def ti26 : TI := ⟨.func, 1, 8, [.nilFunc], false⟩
theorem ti26_ok : TIok Tryz.prog 26 ti26 := ⟨by kernel_rfl, by kernel_rfl, fun h => by cases h⟩
def ti27 : TI := ⟨.int .i64, 1, 8, [.int .i64 0], false⟩
theorem ti27_ok : TIok Tryz.prog 27 ti27 := ⟨by kernel_rfl, by kernel_rfl, fun h => by cases h⟩
def ti29 : TI := ⟨.func, 1, 8, [.nilFunc], false⟩
theorem ti29_ok : TIok Tryz.prog 29 ti29 := ⟨by kernel_rfl, by kernel_rfl, fun h => by cases h⟩
def ti31 : TI := ⟨.func, 1, 8, [.nilFunc], false⟩
theorem ti31_ok : TIok Tryz.prog 31 ti31 := ⟨by kernel_rfl, by kernel_rfl, fun h => by cases h⟩
def ti32 : TI := ⟨.slice 5, 1, 24, [.slice none 0 0], false⟩
theorem ti32_ok : TIok Tryz.prog 32 ti32 := ⟨by kernel_rfl, by kernel_rfl, fun h => by cases h⟩
def ti33 : TI := ⟨.struct [(0, 5), (1, 3), (2, 32), (3, 2)], 4, 48, [.int .u8 0, .int .i64 0, .slice none 0 0, .int .i64 0], false⟩
theorem ti33_ok : TIok Tryz.prog 33 ti33 := ⟨by kernel_rfl, by kernel_rfl, fun h => by cases h⟩
def ti34 : TI := ⟨.struct [(0, 5), (1, 3), (2, 32), (3, 2)], 4, 48, [.int .u8 0, .int .i64 0, .slice none 0 0, .int .i64 0], false⟩
theorem ti34_ok : TIok Tryz.prog 34 ti34 := ⟨by kernel_rfl, by kernel_rfl, fun h => by cases h⟩
def ti35 : TI := ⟨.struct [(0, 27), (1, 4), (2, 2), (3, 2), (4, 2), (5, 2)], 6, 48, [.int .i64 0, .bool false, .int .i64 0, .int .i64 0, .int .i64 0, .int .i64 0], true⟩
theorem ti35_ok : TIok Tryz.prog 35 ti35 := ⟨by kernel_rfl, by kernel_rfl, fun _ => ⟨by kernel_rfl, by kernel_rfl, by kernel_rfl⟩⟩
def ti36 : TI := ⟨.struct [(0, 27), (1, 4), (2, 2), (3, 2), (4, 2), (5, 2)], 6, 48, [.int .i64 0, .bool false, .int .i64 0, .int .i64 0, .int .i64 0, .int .i64 0], true⟩
theorem ti36_ok : TIok Tryz.prog 36 ti36 := ⟨by kernel_rfl, by kernel_rfl, fun _ => ⟨by kernel_rfl, by kernel_rfl, by kernel_rfl⟩⟩
def ti37 : TI := ⟨.struct [(0, 3), (1, 34), (5, 3), (6, 3), (7, 36)], 13, 120, [.int .i64 0, .int .u8 0, .int .i64 0, .slice none 0 0, .int .i64 0, .int .i64 0, .int .i64 0, .int .i64 0, .bool false, .int .i64 0, .int .i64 0, .int .i64 0, .int .i64 0], false⟩
theorem ti37_ok : TIok Tryz.prog 37 ti37 := ⟨by kernel_rfl, by kernel_rfl, fun h => by cases h⟩
def ti38 : TI := ⟨.struct [(0, 3), (1, 34), (5, 3), (6, 3), (7, 36)], 13, 120, [.int .i64 0, .int .u8 0, .int .i64 0, .slice none 0 0, .int .i64 0, .int .i64 0, .int .i64 0, .int .i64 0, .bool false, .int .i64 0, .int .i64 0, .int .i64 0, .int .i64 0], false⟩
theorem ti38_ok : TIok Tryz.prog 38 ti38 := ⟨by kernel_rfl, by kernel_rfl, fun h => by cases h⟩
def ti39 : TI := ⟨.func, 1, 8, [.nilFunc], false⟩
theorem ti39_ok : TIok Tryz.prog 39 ti39 := ⟨by kernel_rfl, by kernel_rfl, fun h => by cases h⟩
def ti40 : TI := ⟨.func, 1, 8, [.nilFunc], false⟩
theorem ti40_ok : TIok Tryz.prog 40 ti40 := ⟨by kernel_rfl, by kernel_rfl, fun h => by cases h⟩
def ti41 : TI := ⟨.slice 47, 1, 24, [.slice none 0 0], false⟩
theorem ti41_ok : TIok Tryz.prog 41 ti41 := ⟨by kernel_rfl, by kernel_rfl, fun h => by cases h⟩
def ti42 : TI := ⟨.ptr 130, 1, 8, [.pointer none], false⟩
theorem ti42_ok : TIok Tryz.prog 42 ti42 := ⟨by kernel_rfl, by kernel_rfl, fun h => by cases h⟩
def ti43 : TI := ⟨.func, 1, 8, [.nilFunc], false⟩
theorem ti43_ok : TIok Tryz.prog 43 ti43 := ⟨by kernel_rfl, by kernel_rfl, fun h => by cases h⟩
def ti44 : TI := ⟨.ptr 79, 1, 8, [.pointer none], false⟩
theorem ti44_ok : TIok Tryz.prog 44 ti44 := ⟨by kernel_rfl, by kernel_rfl, fun h => by cases h⟩
def ti45 : TI := ⟨.func, 1, 8, [.nilFunc], false⟩
theorem ti45_ok : TIok Tryz.prog 45 ti45 := ⟨by kernel_rfl, by kernel_rfl, fun h => by cases h⟩
def ti46 : TI := ⟨.struct [(0, 3), (1, 5), (2, 32), (3, 2)], 4, 48, [.int .i64 0, .int .u8 0, .slice none 0 0, .int .i64 0], false⟩
theorem ti46_ok : TIok Tryz.prog 46 ti46 := ⟨by kernel_rfl, by kernel_rfl, fun h => by cases h⟩
def ti47 : TI := ⟨.struct [(0, 3), (1, 5), (2, 32), (3, 2)], 4, 48, [.int .i64 0, .int .u8 0, .slice none 0 0, .int .i64 0], false⟩
theorem ti47_ok : TIok Tryz.prog 47 ti47 := ⟨by kernel_rfl, by kernel_rfl, fun h => by cases h⟩
def ti49 : TI := ⟨.func, 1, 8, [.nilFunc], false⟩
theorem ti49_ok : TIok Tryz.prog 49 ti49 := ⟨by kernel_rfl, by kernel_rfl, fun h => by cases h⟩
def ti50 : TI := ⟨.func, 1, 8, [.nilFunc], false⟩
theorem ti50_ok : TIok Tryz.prog 50 ti50 := ⟨by kernel_rfl, by kernel_rfl, fun h => by cases h⟩
def ti51 : TI := ⟨.func, 1, 8, [.nilFunc], false⟩
theorem ti51_ok : TIok Tryz.prog 51 ti51 := ⟨by kernel_rfl, by kernel_rfl, fun h => by cases h⟩
def ti52 : TI := ⟨.struct [(0, 4), (1, 27), (2, 2)], 3, 24, [.bool false, .int .i64 0, .int .i64 0], true⟩
theorem ti52_ok : TIok Tryz.prog 52 ti52 := ⟨by kernel_rfl, by kernel_rfl, fun _ => ⟨by kernel_rfl, by kernel_rfl, by kernel_rfl⟩⟩
def ti53 : TI := ⟨.struct [(0, 4), (1, 27), (2, 2)], 3, 24, [.bool false, .int .i64 0, .int .i64 0], true⟩
theorem ti53_ok : TIok Tryz.prog 53 ti53 := ⟨by kernel_rfl, by kernel_rfl, fun _ => ⟨by kernel_rfl, by kernel_rfl, by kernel_rfl⟩⟩
def ti55 : TI := ⟨.func, 1, 8, [.nilFunc], false⟩
theorem ti55_ok : TIok Tryz.prog 55 ti55 := ⟨by kernel_rfl, by kernel_rfl, fun h => by cases h⟩
def ti56 : TI := ⟨.struct [(0, 4), (1, 3), (2, 2)], 3, 24, [.bool false, .int .i64 0, .int .i64 0], true⟩
theorem ti56_ok : TIok Tryz.prog 56 ti56 := ⟨by kernel_rfl, by kernel_rfl, fun _ => ⟨by kernel_rfl, by kernel_rfl, by kernel_rfl⟩⟩
def ti57 : TI := ⟨.struct [(0, 4), (1, 3), (2, 2)], 3, 24, [.bool false, .int .i64 0, .int .i64 0], true⟩
theorem ti57_ok : TIok Tryz.prog 57 ti57 := ⟨by kernel_rfl, by kernel_rfl, fun _ => ⟨by kernel_rfl, by kernel_rfl, by kernel_rfl⟩⟩
def ti59 : TI := ⟨.func, 1, 8, [.nilFunc], false⟩
theorem ti59_ok : TIok Tryz.prog 59 ti59 := ⟨by kernel_rfl, by kernel_rfl, fun h => by cases h⟩
def ti60 : TI := ⟨.func, 1, 8, [.nilFunc], false⟩
theorem ti60_ok : TIok Tryz.prog 60 ti60 := ⟨by kernel_rfl, by kernel_rfl, fun h => by cases h⟩
def ti62 : TI := ⟨.func, 1, 8, [.nilFunc], false⟩
theorem ti62_ok : TIok Tryz.prog 62 ti62 := ⟨by kernel_rfl, by kernel_rfl, fun h => by cases h⟩
def ti63 : TI := ⟨.func, 1, 8, [.nilFunc], false⟩
theorem ti63_ok : TIok Tryz.prog 63 ti63 := ⟨by kernel_rfl, by kernel_rfl, fun h => by cases h⟩
def ti64 : TI := ⟨.func, 1, 8, [.nilFunc], false⟩
theorem ti64_ok : TIok Tryz.prog 64 ti64 := ⟨by kernel_rfl, by kernel_rfl, fun h => by cases h⟩
def ti65 : TI := ⟨.func, 1, 8, [.nilFunc], false⟩
theorem ti65_ok : TIok Tryz.prog 65 ti65 := ⟨by kernel_rfl, by kernel_rfl, fun h => by cases h⟩
def ti66 : TI := ⟨.func, 1, 8, [.nilFunc], false⟩
theorem ti66_ok : TIok Tryz.prog 66 ti66 := ⟨by kernel_rfl, by kernel_rfl, fun h => by cases h⟩
def ti67 : TI := ⟨.int .u64, 1, 8, [.int .u64 0], false⟩
theorem ti67_ok : TIok Tryz.prog 67 ti67 := ⟨by kernel_rfl, by kernel_rfl, fun h => by cases h⟩
def ti68 : TI := ⟨.array 32 67, 32, 256, [.int .u64 0, .int .u64 0, .int .u64 0, .int .u64 0, .int .u64 0, .int .u64 0, .int .u64 0, .int .u64 0, .int .u64 0, .int .u64 0, .int .u64 0, .int .u64 0, .int .u64 0, .int .u64 0, .int .u64 0, .int .u64 0, .int .u64 0, .int .u64 0, .int .u64 0, .int .u64 0, .int .u64 0, .int .u64 0, .int .u64 0, .int .u64 0, .int .u64 0, .int .u64 0, .int .u64 0, .int .u64 0, .int .u64 0, .int .u64 0, .int .u64 0, .int .u64 0], false⟩
theorem ti68_ok : TIok Tryz.prog 68 ti68 := ⟨by kernel_rfl, by kernel_rfl, fun h => by cases h⟩
def ti69 : TI := ⟨.struct [(0, 68)], 32, 256, [.int .u64 0, .int .u64 0, .int .u64 0, .int .u64 0, .int .u64 0, .int .u64 0, .int .u64 0, .int .u64 0, .int .u64 0, .int .u64 0, .int .u64 0, .int .u64 0, .int .u64 0, .int .u64 0, .int .u64 0, .int .u64 0, .int .u64 0, .int .u64 0, .int .u64 0, .int .u64 0, .int .u64 0, .int .u64 0, .int .u64 0, .int .u64 0, .int .u64 0, .int .u64 0, .int .u64 0, .int .u64 0, .int .u64 0, .int .u64 0, .int .u64 0, .int .u64 0], false⟩
theorem ti69_ok : TIok Tryz.prog 69 ti69 := ⟨by kernel_rfl, by kernel_rfl, fun h => by cases h⟩
def ti70 : TI := ⟨.struct [(0, 68)], 32, 256, [.int .u64 0, .int .u64 0, .int .u64 0, .int .u64 0, .int .u64 0, .int .u64 0, .int .u64 0, .int .u64 0, .int .u64 0, .int .u64 0, .int .u64 0, .int .u64 0, .int .u64 0, .int .u64 0, .int .u64 0, .int .u64 0, .int .u64 0, .int .u64 0, .int .u64 0, .int .u64 0, .int .u64 0, .int .u64 0, .int .u64 0, .int .u64 0, .int .u64 0, .int .u64 0, .int .u64 0, .int .u64 0, .int .u64 0, .int .u64 0, .int .u64 0, .int .u64 0], false⟩
theorem ti70_ok : TIok Tryz.prog 70 ti70 := ⟨by kernel_rfl, by kernel_rfl, fun h => by cases h⟩
def ti71 : TI := ⟨.slice 148, 1, 24, [.slice none 0 0], false⟩
theorem ti71_ok : TIok Tryz.prog 71 ti71 := ⟨by kernel_rfl, by kernel_rfl, fun h => by cases h⟩
def ti72 : TI := ⟨.array 32 71, 32, 768, [.slice none 0 0, .slice none 0 0, .slice none 0 0, .slice none 0 0, .slice none 0 0, .slice none 0 0, .slice none 0 0, .slice none 0 0, .slice none 0 0, .slice none 0 0, .slice none 0 0, .slice none 0 0, .slice none 0 0, .slice none 0 0, .slice none 0 0, .slice none 0 0, .slice none 0 0, .slice none 0 0, .slice none 0 0, .slice none 0 0, .slice none 0 0, .slice none 0 0, .slice none 0 0, .slice none 0 0, .slice none 0 0, .slice none 0 0, .slice none 0 0, .slice none 0 0, .slice none 0 0, .slice none 0 0, .slice none 0 0, .slice none 0 0], false⟩
theorem ti72_ok : TIok Tryz.prog 72 ti72 := ⟨by kernel_rfl, by kernel_rfl, fun h => by cases h⟩
def ti73 : TI := ⟨.struct [(0, 3), (1, 3), (2, 3), (3, 4), (4, 67), (5, 3)], 6, 48, [.int .i64 0, .int .i64 0, .int .i64 0, .bool false, .int .u64 0, .int .i64 0], true⟩
theorem ti73_ok : TIok Tryz.prog 73 ti73 := ⟨by kernel_rfl, by kernel_rfl, fun _ => ⟨by kernel_rfl, by kernel_rfl, by kernel_rfl⟩⟩
def ti74 : TI := ⟨.struct [(0, 3), (1, 3), (2, 3), (3, 4), (4, 67), (5, 3)], 6, 48, [.int .i64 0, .int .i64 0, .int .i64 0, .bool false, .int .u64 0, .int .i64 0], true⟩
theorem ti74_ok : TIok Tryz.prog 74 ti74 := ⟨by kernel_rfl, by kernel_rfl, fun _ => ⟨by kernel_rfl, by kernel_rfl, by kernel_rfl⟩⟩
def ti75 : TI := ⟨.struct [(0, 5), (1, 32), (2, 2), (3, 67), (4, 74)], 10, 96, [.int .u8 0, .slice none 0 0, .int .i64 0, .int .u64 0, .int .i64 0, .int .i64 0, .int .i64 0, .bool false, .int .u64 0, .int .i64 0], false⟩
theorem ti75_ok : TIok Tryz.prog 75 ti75 := ⟨by kernel_rfl, by kernel_rfl, fun h => by cases h⟩
def ti76 : TI := ⟨.struct [(0, 5), (1, 32), (2, 2), (3, 67), (4, 74)], 10, 96, [.int .u8 0, .slice none 0 0, .int .i64 0, .int .u64 0, .int .i64 0, .int .i64 0, .int .i64 0, .bool false, .int .u64 0, .int .i64 0], false⟩
theorem ti76_ok : TIok Tryz.prog 76 ti76 := ⟨by kernel_rfl, by kernel_rfl, fun h => by cases h⟩
def ti77 : TI := ⟨.array 64 76, 640, 6144, [.int .u8 0, .slice none 0 0, .int .i64 0, .int .u64 0, .int .i64 0, .int .i64 0, .int .i64 0, .bool false, .int .u64 0, .int .i64 0, .int .u8 0, .slice none 0 0, .int .i64 0, .int .u64 0, .int .i64 0, .int .i64 0, .int .i64 0, .bool false, .int .u64 0, .int .i64 0, .int .u8 0, .slice none 0 0, .int .i64 0, .int .u64 0, .int .i64 0, .int .i64 0, .int .i64 0, .bool false, .int .u64 0, .int .i64 0, .int .u8 0, .slice none 0 0, .int .i64 0, .int .u64 0, .int .i64 0, .int .i64 0, .int .i64 0, .bool false, .int .u64 0, .int .i64 0, .int .u8 0, .slice none 0 0, .int .i64 0, .int .u64 0, .int .i64 0, .int .i64 0, .int .i64 0, .bool false, .int .u64 0, .int .i64 0, .int .u8 0, .slice none 0 0, .int .i64 0, .int .u64 0, .int .i64 0, .int .i64 0, .int .i64 0, .bool false, .int .u64 0, .int .i64 0, .int .u8 0, .slice none 0 0, .int .i64 0, .int .u64 0, .int .i64 0, .int .i64 0, .int .i64 0, .bool false, .int .u64 0, .int .i64 0, .int .u8 0, .slice none 0 0, .int .i64 0, .int .u64 0, .int .i64 0, .int .i64 0, .int .i64 0, .bool false, .int .u64 0, .int .i64 0, .int .u8 0, .slice none 0 0, .int .i64 0, .int .u64 0, .int .i64 0, .int .i64 0, .int .i64 0, .bool false, .int .u64 0, .int .i64 0, .int .u8 0, .slice none 0 0, .int .i64 0, .int .u64 0, .int .i64 0, .int .i64 0, .int .i64 0, .bool false, .int .u64 0, .int .i64 0, .int .u8 0, .slice none 0 0, .int .i64 0, .int .u64 0, .int .i64 0, .int .i64 0, .int .i64 0, .bool false, .int .u64 0, .int .i64 0, .int .u8 0, .slice none 0 0, .int .i64 0, .int .u64 0, .int .i64 0, .int .i64 0, .int .i64 0, .bool false, .int .u64 0, .int .i64 0, .int .u8 0, .slice none 0 0, .int .i64 0, .int .u64 0, .int .i64 0, .int .i64 0, .int .i64 0, .bool false, .int .u64 0, .int .i64 0, .int .u8 0, .slice none 0 0, .int .i64 0, .int .u64 0, .int .i64 0, .int .i64 0, .int .i64 0, .bool false, .int .u64 0, .int .i64 0, .int .u8 0, .slice none 0 0, .int .i64 0, .int .u64 0, .int .i64 0, .int .i64 0, .int .i64 0, .bool false, .int .u64 0, .int .i64 0, .int .u8 0, .slice none 0 0, .int .i64 0, .int .u64 0, .int .i64 0, .int .i64 0, .int .i64 0, .bool false, .int .u64 0, .int .i64 0, .int .u8 0, .slice none 0 0, .int .i64 0, .int .u64 0, .int .i64 0, .int .i64 0, .int .i64 0, .bool false, .int .u64 0, .int .i64 0, .int .u8 0, .slice none 0 0, .int .i64 0, .int .u64 0, .int .i64 0, .int .i64 0, .int .i64 0, .bool false, .int .u64 0, .int .i64 0, .int .u8 0, .slice none 0 0, .int .i64 0, .int .u64 0, .int .i64 0, .int .i64 0, .int .i64 0, .bool false, .int .u64 0, .int .i64 0, .int .u8 0, .slice none 0 0, .int .i64 0, .int .u64 0, .int .i64 0, .int .i64 0, .int .i64 0, .bool false, .int .u64 0, .int .i64 0, .int .u8 0, .slice none 0 0, .int .i64 0, .int .u64 0, .int .i64 0, .int .i64 0, .int .i64 0, .bool false, .int .u64 0, .int .i64 0, .int .u8 0, .slice none 0 0, .int .i64 0, .int .u64 0, .int .i64 0, .int .i64 0, .int .i64 0, .bool false, .int .u64 0, .int .i64 0, .int .u8 0, .slice none 0 0, .int .i64 0, .int .u64 0, .int .i64 0, .int .i64 0, .int .i64 0, .bool false, .int .u64 0, .int .i64 0, .int .u8 0, .slice none 0 0, .int .i64 0, .int .u64 0, .int .i64 0, .int .i64 0, .int .i64 0, .bool false, .int .u64 0, .int .i64 0, .int .u8 0, .slice none 0 0, .int .i64 0, .int .u64 0, .int .i64 0, .int .i64 0, .int .i64 0, .bool false, .int .u64 0, .int .i64 0, .int .u8 0, .slice none 0 0, .int .i64 0, .int .u64 0, .int .i64 0, .int .i64 0, .int .i64 0, .bool false, .int .u64 0, .int .i64 0, .int .u8 0, .slice none 0 0, .int .i64 0, .int .u64 0, .int .i64 0, .int .i64 0, .int .i64 0, .bool false, .int .u64 0, .int .i64 0, .int .u8 0, .slice none 0 0, .int .i64 0, .int .u64 0, .int .i64 0, .int .i64 0, .int .i64 0, .bool false, .int .u64 0, .int .i64 0, .int .u8 0, .slice none 0 0, .int .i64 0, .int .u64 0, .int .i64 0, .int .i64 0, .int .i64 0, .bool false, .int .u64 0, .int .i64 0, .int .u8 0, .slice none 0 0, .int .i64 0, .int .u64 0, .int .i64 0, .int .i64 0, .int .i64 0, .bool false, .int .u64 0, .int .i64 0, .int .u8 0, .slice none 0 0, .int .i64 0, .int .u64 0, .int .i64 0, .int .i64 0, .int .i64 0, .bool false, .int .u64 0, .int .i64 0, .int .u8 0, .slice none 0 0, .int .i64 0, .int .u64 0, .int .i64 0, .int .i64 0, .int .i64 0, .bool false, .int .u64 0, .int .i64 0, .int .u8 0, .slice none 0 0, .int .i64 0, .int .u64 0, .int .i64 0, .int .i64 0, .int .i64 0, .bool false, .int .u64 0, .int .i64 0, .int .u8 0, .slice none 0 0, .int .i64 0, .int .u64 0, .int .i64 0, .int .i64 0, .int .i64 0, .bool false, .int .u64 0, .int .i64 0, .int .u8 0, .slice none 0 0, .int .i64 0, .int .u64 0, .int .i64 0, .int .i64 0, .int .i64 0, .bool false, .int .u64 0, .int .i64 0, .int .u8 0, .slice none 0 0, .int .i64 0, .int .u64 0, .int .i64 0, .int .i64 0, .int .i64 0, .bool false, .int .u64 0, .int .i64 0, .int .u8 0, .slice none 0 0, .int .i64 0, .int .u64 0, .int .i64 0, .int .i64 0, .int .i64 0, .bool false, .int .u64 0, .int .i64 0, .int .u8 0, .slice none 0 0, .int .i64 0, .int .u64 0, .int .i64 0, .int .i64 0, .int .i64 0, .bool false, .int .u64 0, .int .i64 0, .int .u8 0, .slice none 0 0, .int .i64 0, .int .u64 0, .int .i64 0, .int .i64 0, .int .i64 0, .bool false, .int .u64 0, .int .i64 0, .int .u8 0, .slice none 0 0, .int .i64 0, .int .u64 0, .int .i64 0, .int .i64 0, .int .i64 0, .bool false, .int .u64 0, .int .i64 0, .int .u8 0, .slice none 0 0, .int .i64 0, .int .u64 0, .int .i64 0, .int .i64 0, .int .i64 0, .bool false, .int .u64 0, .int .i64 0, .int .u8 0, .slice none 0 0, .int .i64 0, .int .u64 0, .int .i64 0, .int .i64 0, .int .i64 0, .bool false, .int .u64 0, .int .i64 0, .int .u8 0, .slice none 0 0, .int .i64 0, .int .u64 0, .int .i64 0, .int .i64 0, .int .i64 0, .bool false, .int .u64 0, .int .i64 0, .int .u8 0, .slice none 0 0, .int .i64 0, .int .u64 0, .int .i64 0, .int .i64 0, .int .i64 0, .bool false, .int .u64 0, .int .i64 0, .int .u8 0, .slice none 0 0, .int .i64 0, .int .u64 0, .int .i64 0, .int .i64 0, .int .i64 0, .bool false, .int .u64 0, .int .i64 0, .int .u8 0, .slice none 0 0, .int .i64 0, .int .u64 0, .int .i64 0, .int .i64 0, .int .i64 0, .bool false, .int .u64 0, .int .i64 0, .int .u8 0, .slice none 0 0, .int .i64 0, .int .u64 0, .int .i64 0, .int .i64 0, .int .i64 0, .bool false, .int .u64 0, .int .i64 0, .int .u8 0, .slice none 0 0, .int .i64 0, .int .u64 0, .int .i64 0, .int .i64 0, .int .i64 0, .bool false, .int .u64 0, .int .i64 0, .int .u8 0, .slice none 0 0, .int .i64 0, .int .u64 0, .int .i64 0, .int .i64 0, .int .i64 0, .bool false, .int .u64 0, .int .i64 0, .int .u8 0, .slice none 0 0, .int .i64 0, .int .u64 0, .int .i64 0, .int .i64 0, .int .i64 0, .bool false, .int .u64 0, .int .i64 0, .int .u8 0, .slice none 0 0, .int .i64 0, .int .u64 0, .int .i64 0, .int .i64 0, .int .i64 0, .bool false, .int .u64 0, .int .i64 0, .int .u8 0, .slice none 0 0, .int .i64 0, .int .u64 0, .int .i64 0, .int .i64 0, .int .i64 0, .bool false, .int .u64 0, .int .i64 0, .int .u8 0, .slice none 0 0, .int .i64 0, .int .u64 0, .int .i64 0, .int .i64 0, .int .i64 0, .bool false, .int .u64 0, .int .i64 0, .int .u8 0, .slice none 0 0, .int .i64 0, .int .u64 0, .int .i64 0, .int .i64 0, .int .i64 0, .bool false, .int .u64 0, .int .i64 0, .int .u8 0, .slice none 0 0, .int .i64 0, .int .u64 0, .int .i64 0, .int .i64 0, .int .i64 0, .bool false, .int .u64 0, .int .i64 0, .int .u8 0, .slice none 0 0, .int .i64 0, .int .u64 0, .int .i64 0, .int .i64 0, .int .i64 0, .bool false, .int .u64 0, .int .i64 0, .int .u8 0, .slice none 0 0, .int .i64 0, .int .u64 0, .int .i64 0, .int .i64 0, .int .i64 0, .bool false, .int .u64 0, .int .i64 0, .int .u8 0, .slice none 0 0, .int .i64 0, .int .u64 0, .int .i64 0, .int .i64 0, .int .i64 0, .bool false, .int .u64 0, .int .i64 0, .int .u8 0, .slice none 0 0, .int .i64 0, .int .u64 0, .int .i64 0, .int .i64 0, .int .i64 0, .bool false, .int .u64 0, .int .i64 0, .int .u8 0, .slice none 0 0, .int .i64 0, .int .u64 0, .int .i64 0, .int .i64 0, .int .i64 0, .bool false, .int .u64 0, .int .i64 0, .int .u8 0, .slice none 0 0, .int .i64 0, .int .u64 0, .int .i64 0, .int .i64 0, .int .i64 0, .bool false, .int .u64 0, .int .i64 0, .int .u8 0, .slice none 0 0, .int .i64 0, .int .u64 0, .int .i64 0, .int .i64 0, .int .i64 0, .bool false, .int .u64 0, .int .i64 0, .int .u8 0, .slice none 0 0, .int .i64 0, .int .u64 0, .int .i64 0, .int .i64 0, .int .i64 0, .bool false, .int .u64 0, .int .i64 0, .int .u8 0, .slice none 0 0, .int .i64 0, .int .u64 0, .int .i64 0, .int .i64 0, .int .i64 0, .bool false, .int .u64 0, .int .i64 0], false⟩
theorem ti77_ok : TIok Tryz.prog 77 ti77 := ⟨by kernel_rfl, by kernel_rfl, fun h => by cases h⟩
def ti78 : TI := ⟨.struct [(0, 70), (32, 72), (64, 3), (65, 77)], 705, 7176, [.int .u64 0, .int .u64 0, .int .u64 0, .int .u64 0, .int .u64 0, .int .u64 0, .int .u64 0, .int .u64 0, .int .u64 0, .int .u64 0, .int .u64 0, .int .u64 0, .int .u64 0, .int .u64 0, .int .u64 0, .int .u64 0, .int .u64 0, .int .u64 0, .int .u64 0, .int .u64 0, .int .u64 0, .int .u64 0, .int .u64 0, .int .u64 0, .int .u64 0, .int .u64 0, .int .u64 0, .int .u64 0, .int .u64 0, .int .u64 0, .int .u64 0, .int .u64 0, .slice none 0 0, .slice none 0 0, .slice none 0 0, .slice none 0 0, .slice none 0 0, .slice none 0 0, .slice none 0 0, .slice none 0 0, .slice none 0 0, .slice none 0 0, .slice none 0 0, .slice none 0 0, .slice none 0 0, .slice none 0 0, .slice none 0 0, .slice none 0 0, .slice none 0 0, .slice none 0 0, .slice none 0 0, .slice none 0 0, .slice none 0 0, .slice none 0 0, .slice none 0 0, .slice none 0 0, .slice none 0 0, .slice none 0 0, .slice none 0 0, .slice none 0 0, .slice none 0 0, .slice none 0 0, .slice none 0 0, .slice none 0 0, .int .i64 0, .int .u8 0, .slice none 0 0, .int .i64 0, .int .u64 0, .int .i64 0, .int .i64 0, .int .i64 0, .bool false, .int .u64 0, .int .i64 0, .int .u8 0, .slice none 0 0, .int .i64 0, .int .u64 0, .int .i64 0, .int .i64 0, .int .i64 0, .bool false, .int .u64 0, .int .i64 0, .int .u8 0, .slice none 0 0, .int .i64 0, .int .u64 0, .int .i64 0, .int .i64 0, .int .i64 0, .bool false, .int .u64 0, .int .i64 0, .int .u8 0, .slice none 0 0, .int .i64 0, .int .u64 0, .int .i64 0, .int .i64 0, .int .i64 0, .bool false, .int .u64 0, .int .i64 0, .int .u8 0, .slice none 0 0, .int .i64 0, .int .u64 0, .int .i64 0, .int .i64 0, .int .i64 0, .bool false, .int .u64 0, .int .i64 0, .int .u8 0, .slice none 0 0, .int .i64 0, .int .u64 0, .int .i64 0, .int .i64 0, .int .i64 0, .bool false, .int .u64 0, .int .i64 0, .int .u8 0, .slice none 0 0, .int .i64 0, .int .u64 0, .int .i64 0, .int .i64 0, .int .i64 0, .bool false, .int .u64 0, .int .i64 0, .int .u8 0, .slice none 0 0, .int .i64 0, .int .u64 0, .int .i64 0, .int .i64 0, .int .i64 0, .bool false, .int .u64 0, .int .i64 0, .int .u8 0, .slice none 0 0, .int .i64 0, .int .u64 0, .int .i64 0, .int .i64 0, .int .i64 0, .bool false, .int .u64 0, .int .i64 0, .int .u8 0, .slice none 0 0, .int .i64 0, .int .u64 0, .int .i64 0, .int .i64 0, .int .i64 0, .bool false, .int .u64 0, .int .i64 0, .int .u8 0, .slice none 0 0, .int .i64 0, .int .u64 0, .int .i64 0, .int .i64 0, .int .i64 0, .bool false, .int .u64 0, .int .i64 0, .int .u8 0, .slice none 0 0, .int .i64 0, .int .u64 0, .int .i64 0, .int .i64 0, .int .i64 0, .bool false, .int .u64 0, .int .i64 0, .int .u8 0, .slice none 0 0, .int .i64 0, .int .u64 0, .int .i64 0, .int .i64 0, .int .i64 0, .bool false, .int .u64 0, .int .i64 0, .int .u8 0, .slice none 0 0, .int .i64 0, .int .u64 0, .int .i64 0, .int .i64 0, .int .i64 0, .bool false, .int .u64 0, .int .i64 0, .int .u8 0, .slice none 0 0, .int .i64 0, .int .u64 0, .int .i64 0, .int .i64 0, .int .i64 0, .bool false, .int .u64 0, .int .i64 0, .int .u8 0, .slice none 0 0, .int .i64 0, .int .u64 0, .int .i64 0, .int .i64 0, .int .i64 0, .bool false, .int .u64 0, .int .i64 0, .int .u8 0, .slice none 0 0, .int .i64 0, .int .u64 0, .int .i64 0, .int .i64 0, .int .i64 0, .bool false, .int .u64 0, .int .i64 0, .int .u8 0, .slice none 0 0, .int .i64 0, .int .u64 0, .int .i64 0, .int .i64 0, .int .i64 0, .bool false, .int .u64 0, .int .i64 0, .int .u8 0, .slice none 0 0, .int .i64 0, .int .u64 0, .int .i64 0, .int .i64 0, .int .i64 0, .bool false, .int .u64 0, .int .i64 0, .int .u8 0, .slice none 0 0, .int .i64 0, .int .u64 0, .int .i64 0, .int .i64 0, .int .i64 0, .bool false, .int .u64 0, .int .i64 0, .int .u8 0, .slice none 0 0, .int .i64 0, .int .u64 0, .int .i64 0, .int .i64 0, .int .i64 0, .bool false, .int .u64 0, .int .i64 0, .int .u8 0, .slice none 0 0, .int .i64 0, .int .u64 0, .int .i64 0, .int .i64 0, .int .i64 0, .bool false, .int .u64 0, .int .i64 0, .int .u8 0, .slice none 0 0, .int .i64 0, .int .u64 0, .int .i64 0, .int .i64 0, .int .i64 0, .bool false, .int .u64 0, .int .i64 0, .int .u8 0, .slice none 0 0, .int .i64 0, .int .u64 0, .int .i64 0, .int .i64 0, .int .i64 0, .bool false, .int .u64 0, .int .i64 0, .int .u8 0, .slice none 0 0, .int .i64 0, .int .u64 0, .int .i64 0, .int .i64 0, .int .i64 0, .bool false, .int .u64 0, .int .i64 0, .int .u8 0, .slice none 0 0, .int .i64 0, .int .u64 0, .int .i64 0, .int .i64 0, .int .i64 0, .bool false, .int .u64 0, .int .i64 0, .int .u8 0, .slice none 0 0, .int .i64 0, .int .u64 0, .int .i64 0, .int .i64 0, .int .i64 0, .bool false, .int .u64 0, .int .i64 0, .int .u8 0, .slice none 0 0, .int .i64 0, .int .u64 0, .int .i64 0, .int .i64 0, .int .i64 0, .bool false, .int .u64 0, .int .i64 0, .int .u8 0, .slice none 0 0, .int .i64 0, .int .u64 0, .int .i64 0, .int .i64 0, .int .i64 0, .bool false, .int .u64 0, .int .i64 0, .int .u8 0, .slice none 0 0, .int .i64 0, .int .u64 0, .int .i64 0, .int .i64 0, .int .i64 0, .bool false, .int .u64 0, .int .i64 0, .int .u8 0, .slice none 0 0, .int .i64 0, .int .u64 0, .int .i64 0, .int .i64 0, .int .i64 0, .bool false, .int .u64 0, .int .i64 0, .int .u8 0, .slice none 0 0, .int .i64 0, .int .u64 0, .int .i64 0, .int .i64 0, .int .i64 0, .bool false, .int .u64 0, .int .i64 0, .int .u8 0, .slice none 0 0, .int .i64 0, .int .u64 0, .int .i64 0, .int .i64 0, .int .i64 0, .bool false, .int .u64 0, .int .i64 0, .int .u8 0, .slice none 0 0, .int .i64 0, .int .u64 0, .int .i64 0, .int .i64 0, .int .i64 0, .bool false, .int .u64 0, .int .i64 0, .int .u8 0, .slice none 0 0, .int .i64 0, .int .u64 0, .int .i64 0, .int .i64 0, .int .i64 0, .bool false, .int .u64 0, .int .i64 0, .int .u8 0, .slice none 0 0, .int .i64 0, .int .u64 0, .int .i64 0, .int .i64 0, .int .i64 0, .bool false, .int .u64 0, .int .i64 0, .int .u8 0, .slice none 0 0, .int .i64 0, .int .u64 0, .int .i64 0, .int .i64 0, .int .i64 0, .bool false, .int .u64 0, .int .i64 0, .int .u8 0, .slice none 0 0, .int .i64 0, .int .u64 0, .int .i64 0, .int .i64 0, .int .i64 0, .bool false, .int .u64 0, .int .i64 0, .int .u8 0, .slice none 0 0, .int .i64 0, .int .u64 0, .int .i64 0, .int .i64 0, .int .i64 0, .bool false, .int .u64 0, .int .i64 0, .int .u8 0, .slice none 0 0, .int .i64 0, .int .u64 0, .int .i64 0, .int .i64 0, .int .i64 0, .bool false, .int .u64 0, .int .i64 0, .int .u8 0, .slice none 0 0, .int .i64 0, .int .u64 0, .int .i64 0, .int .i64 0, .int .i64 0, .bool false, .int .u64 0, .int .i64 0, .int .u8 0, .slice none 0 0, .int .i64 0, .int .u64 0, .int .i64 0, .int .i64 0, .int .i64 0, .bool false, .int .u64 0, .int .i64 0, .int .u8 0, .slice none 0 0, .int .i64 0, .int .u64 0, .int .i64 0, .int .i64 0, .int .i64 0, .bool false, .int .u64 0, .int .i64 0, .int .u8 0, .slice none 0 0, .int .i64 0, .int .u64 0, .int .i64 0, .int .i64 0, .int .i64 0, .bool false, .int .u64 0, .int .i64 0, .int .u8 0, .slice none 0 0, .int .i64 0, .int .u64 0, .int .i64 0, .int .i64 0, .int .i64 0, .bool false, .int .u64 0, .int .i64 0, .int .u8 0, .slice none 0 0, .int .i64 0, .int .u64 0, .int .i64 0, .int .i64 0, .int .i64 0, .bool false, .int .u64 0, .int .i64 0, .int .u8 0, .slice none 0 0, .int .i64 0, .int .u64 0, .int .i64 0, .int .i64 0, .int .i64 0, .bool false, .int .u64 0, .int .i64 0, .int .u8 0, .slice none 0 0, .int .i64 0, .int .u64 0, .int .i64 0, .int .i64 0, .int .i64 0, .bool false, .int .u64 0, .int .i64 0, .int .u8 0, .slice none 0 0, .int .i64 0, .int .u64 0, .int .i64 0, .int .i64 0, .int .i64 0, .bool false, .int .u64 0, .int .i64 0, .int .u8 0, .slice none 0 0, .int .i64 0, .int .u64 0, .int .i64 0, .int .i64 0, .int .i64 0, .bool false, .int .u64 0, .int .i64 0, .int .u8 0, .slice none 0 0, .int .i64 0, .int .u64 0, .int .i64 0, .int .i64 0, .int .i64 0, .bool false, .int .u64 0, .int .i64 0, .int .u8 0, .slice none 0 0, .int .i64 0, .int .u64 0, .int .i64 0, .int .i64 0, .int .i64 0, .bool false, .int .u64 0, .int .i64 0, .int .u8 0, .slice none 0 0, .int .i64 0, .int .u64 0, .int .i64 0, .int .i64 0, .int .i64 0, .bool false, .int .u64 0, .int .i64 0, .int .u8 0, .slice none 0 0, .int .i64 0, .int .u64 0, .int .i64 0, .int .i64 0, .int .i64 0, .bool false, .int .u64 0, .int .i64 0, .int .u8 0, .slice none 0 0, .int .i64 0, .int .u64 0, .int .i64 0, .int .i64 0, .int .i64 0, .bool false, .int .u64 0, .int .i64 0, .int .u8 0, .slice none 0 0, .int .i64 0, .int .u64 0, .int .i64 0, .int .i64 0, .int .i64 0, .bool false, .int .u64 0, .int .i64 0, .int .u8 0, .slice none 0 0, .int .i64 0, .int .u64 0, .int .i64 0, .int .i64 0, .int .i64 0, .bool false, .int .u64 0, .int .i64 0, .int .u8 0, .slice none 0 0, .int .i64 0, .int .u64 0, .int .i64 0, .int .i64 0, .int .i64 0, .bool false, .int .u64 0, .int .i64 0, .int .u8 0, .slice none 0 0, .int .i64 0, .int .u64 0, .int .i64 0, .int .i64 0, .int .i64 0, .bool false, .int .u64 0, .int .i64 0, .int .u8 0, .slice none 0 0, .int .i64 0, .int .u64 0, .int .i64 0, .int .i64 0, .int .i64 0, .bool false, .int .u64 0, .int .i64 0, .int .u8 0, .slice none 0 0, .int .i64 0, .int .u64 0, .int .i64 0, .int .i64 0, .int .i64 0, .bool false, .int .u64 0, .int .i64 0, .int .u8 0, .slice none 0 0, .int .i64 0, .int .u64 0, .int .i64 0, .int .i64 0, .int .i64 0, .bool false, .int .u64 0, .int .i64 0, .int .u8 0, .slice none 0 0, .int .i64 0, .int .u64 0, .int .i64 0, .int .i64 0, .int .i64 0, .bool false, .int .u64 0, .int .i64 0, .int .u8 0, .slice none 0 0, .int .i64 0, .int .u64 0, .int .i64 0, .int .i64 0, .int .i64 0, .bool false, .int .u64 0, .int .i64 0], false⟩
theorem ti78_ok : TIok Tryz.prog 78 ti78 := ⟨by kernel_rfl, by kernel_rfl, fun h => by cases h⟩
def ti79 : TI := ⟨.struct [(0, 70), (32, 72), (64, 3), (65, 77)], 705, 7176, [.int .u64 0, .int .u64 0, .int .u64 0, .int .u64 0, .int .u64 0, .int .u64 0, .int .u64 0, .int .u64 0, .int .u64 0, .int .u64 0, .int .u64 0, .int .u64 0, .int .u64 0, .int .u64 0, .int .u64 0, .int .u64 0, .int .u64 0, .int .u64 0, .int .u64 0, .int .u64 0, .int .u64 0, .int .u64 0, .int .u64 0, .int .u64 0, .int .u64 0, .int .u64 0, .int .u64 0, .int .u64 0, .int .u64 0, .int .u64 0, .int .u64 0, .int .u64 0, .slice none 0 0, .slice none 0 0, .slice none 0 0, .slice none 0 0, .slice none 0 0, .slice none 0 0, .slice none 0 0, .slice none 0 0, .slice none 0 0, .slice none 0 0, .slice none 0 0, .slice none 0 0, .slice none 0 0, .slice none 0 0, .slice none 0 0, .slice none 0 0, .slice none 0 0, .slice none 0 0, .slice none 0 0, .slice none 0 0, .slice none 0 0, .slice none 0 0, .slice none 0 0, .slice none 0 0, .slice none 0 0, .slice none 0 0, .slice none 0 0, .slice none 0 0, .slice none 0 0, .slice none 0 0, .slice none 0 0, .slice none 0 0, .int .i64 0, .int .u8 0, .slice none 0 0, .int .i64 0, .int .u64 0, .int .i64 0, .int .i64 0, .int .i64 0, .bool false, .int .u64 0, .int .i64 0, .int .u8 0, .slice none 0 0, .int .i64 0, .int .u64 0, .int .i64 0, .int .i64 0, .int .i64 0, .bool false, .int .u64 0, .int .i64 0, .int .u8 0, .slice none 0 0, .int .i64 0, .int .u64 0, .int .i64 0, .int .i64 0, .int .i64 0, .bool false, .int .u64 0, .int .i64 0, .int .u8 0, .slice none 0 0, .int .i64 0, .int .u64 0, .int .i64 0, .int .i64 0, .int .i64 0, .bool false, .int .u64 0, .int .i64 0, .int .u8 0, .slice none 0 0, .int .i64 0, .int .u64 0, .int .i64 0, .int .i64 0, .int .i64 0, .bool false, .int .u64 0, .int .i64 0, .int .u8 0, .slice none 0 0, .int .i64 0, .int .u64 0, .int .i64 0, .int .i64 0, .int .i64 0, .bool false, .int .u64 0, .int .i64 0, .int .u8 0, .slice none 0 0, .int .i64 0, .int .u64 0, .int .i64 0, .int .i64 0, .int .i64 0, .bool false, .int .u64 0, .int .i64 0, .int .u8 0, .slice none 0 0, .int .i64 0, .int .u64 0, .int .i64 0, .int .i64 0, .int .i64 0, .bool false, .int .u64 0, .int .i64 0, .int .u8 0, .slice none 0 0, .int .i64 0, .int .u64 0, .int .i64 0, .int .i64 0, .int .i64 0, .bool false, .int .u64 0, .int .i64 0, .int .u8 0, .slice none 0 0, .int .i64 0, .int .u64 0, .int .i64 0, .int .i64 0, .int .i64 0, .bool false, .int .u64 0, .int .i64 0, .int .u8 0, .slice none 0 0, .int .i64 0, .int .u64 0, .int .i64 0, .int .i64 0, .int .i64 0, .bool false, .int .u64 0, .int .i64 0, .int .u8 0, .slice none 0 0, .int .i64 0, .int .u64 0, .int .i64 0, .int .i64 0, .int .i64 0, .bool false, .int .u64 0, .int .i64 0, .int .u8 0, .slice none 0 0, .int .i64 0, .int .u64 0, .int .i64 0, .int .i64 0, .int .i64 0, .bool false, .int .u64 0, .int .i64 0, .int .u8 0, .slice none 0 0, .int .i64 0, .int .u64 0, .int .i64 0, .int .i64 0, .int .i64 0, .bool false, .int .u64 0, .int .i64 0, .int .u8 0, .slice none 0 0, .int .i64 0, .int .u64 0, .int .i64 0, .int .i64 0, .int .i64 0, .bool false, .int .u64 0, .int .i64 0, .int .u8 0, .slice none 0 0, .int .i64 0, .int .u64 0, .int .i64 0, .int .i64 0, .int .i64 0, .bool false, .int .u64 0, .int .i64 0, .int .u8 0, .slice none 0 0, .int .i64 0, .int .u64 0, .int .i64 0, .int .i64 0, .int .i64 0, .bool false, .int .u64 0, .int .i64 0, .int .u8 0, .slice none 0 0, .int .i64 0, .int .u64 0, .int .i64 0, .int .i64 0, .int .i64 0, .bool false, .int .u64 0, .int .i64 0, .int .u8 0, .slice none 0 0, .int .i64 0, .int .u64 0, .int .i64 0, .int .i64 0, .int .i64 0, .bool false, .int .u64 0, .int .i64 0, .int .u8 0, .slice none 0 0, .int .i64 0, .int .u64 0, .int .i64 0, .int .i64 0, .int .i64 0, .bool false, .int .u64 0, .int .i64 0, .int .u8 0, .slice none 0 0, .int .i64 0, .int .u64 0, .int .i64 0, .int .i64 0, .int .i64 0, .bool false, .int .u64 0, .int .i64 0, .int .u8 0, .slice none 0 0, .int .i64 0, .int .u64 0, .int .i64 0, .int .i64 0, .int .i64 0, .bool false, .int .u64 0, .int .i64 0, .int .u8 0, .slice none 0 0, .int .i64 0, .int .u64 0, .int .i64 0, .int .i64 0, .int .i64 0, .bool false, .int .u64 0, .int .i64 0, .int .u8 0, .slice none 0 0, .int .i64 0, .int .u64 0, .int .i64 0, .int .i64 0, .int .i64 0, .bool false, .int .u64 0, .int .i64 0, .int .u8 0, .slice none 0 0, .int .i64 0, .int .u64 0, .int .i64 0, .int .i64 0, .int .i64 0, .bool false, .int .u64 0, .int .i64 0, .int .u8 0, .slice none 0 0, .int .i64 0, .int .u64 0, .int .i64 0, .int .i64 0, .int .i64 0, .bool false, .int .u64 0, .int .i64 0, .int .u8 0, .slice none 0 0, .int .i64 0, .int .u64 0, .int .i64 0, .int .i64 0, .int .i64 0, .bool false, .int .u64 0, .int .i64 0, .int .u8 0, .slice none 0 0, .int .i64 0, .int .u64 0, .int .i64 0, .int .i64 0, .int .i64 0, .bool false, .int .u64 0, .int .i64 0, .int .u8 0, .slice none 0 0, .int .i64 0, .int .u64 0, .int .i64 0, .int .i64 0, .int .i64 0, .bool false, .int .u64 0, .int .i64 0, .int .u8 0, .slice none 0 0, .int .i64 0, .int .u64 0, .int .i64 0, .int .i64 0, .int .i64 0, .bool false, .int .u64 0, .int .i64 0, .int .u8 0, .slice none 0 0, .int .i64 0, .int .u64 0, .int .i64 0, .int .i64 0, .int .i64 0, .bool false, .int .u64 0, .int .i64 0, .int .u8 0, .slice none 0 0, .int .i64 0, .int .u64 0, .int .i64 0, .int .i64 0, .int .i64 0, .bool false, .int .u64 0, .int .i64 0, .int .u8 0, .slice none 0 0, .int .i64 0, .int .u64 0, .int .i64 0, .int .i64 0, .int .i64 0, .bool false, .int .u64 0, .int .i64 0, .int .u8 0, .slice none 0 0, .int .i64 0, .int .u64 0, .int .i64 0, .int .i64 0, .int .i64 0, .bool false, .int .u64 0, .int .i64 0, .int .u8 0, .slice none 0 0, .int .i64 0, .int .u64 0, .int .i64 0, .int .i64 0, .int .i64 0, .bool false, .int .u64 0, .int .i64 0, .int .u8 0, .slice none 0 0, .int .i64 0, .int .u64 0, .int .i64 0, .int .i64 0, .int .i64 0, .bool false, .int .u64 0, .int .i64 0, .int .u8 0, .slice none 0 0, .int .i64 0, .int .u64 0, .int .i64 0, .int .i64 0, .int .i64 0, .bool false, .int .u64 0, .int .i64 0, .int .u8 0, .slice none 0 0, .int .i64 0, .int .u64 0, .int .i64 0, .int .i64 0, .int .i64 0, .bool false, .int .u64 0, .int .i64 0, .int .u8 0, .slice none 0 0, .int .i64 0, .int .u64 0, .int .i64 0, .int .i64 0, .int .i64 0, .bool false, .int .u64 0, .int .i64 0, .int .u8 0, .slice none 0 0, .int .i64 0, .int .u64 0, .int .i64 0, .int .i64 0, .int .i64 0, .bool false, .int .u64 0, .int .i64 0, .int .u8 0, .slice none 0 0, .int .i64 0, .int .u64 0, .int .i64 0, .int .i64 0, .int .i64 0, .bool false, .int .u64 0, .int .i64 0, .int .u8 0, .slice none 0 0, .int .i64 0, .int .u64 0, .int .i64 0, .int .i64 0, .int .i64 0, .bool false, .int .u64 0, .int .i64 0, .int .u8 0, .slice none 0 0, .int .i64 0, .int .u64 0, .int .i64 0, .int .i64 0, .int .i64 0, .bool false, .int .u64 0, .int .i64 0, .int .u8 0, .slice none 0 0, .int .i64 0, .int .u64 0, .int .i64 0, .int .i64 0, .int .i64 0, .bool false, .int .u64 0, .int .i64 0, .int .u8 0, .slice none 0 0, .int .i64 0, .int .u64 0, .int .i64 0, .int .i64 0, .int .i64 0, .bool false, .int .u64 0, .int .i64 0, .int .u8 0, .slice none 0 0, .int .i64 0, .int .u64 0, .int .i64 0, .int .i64 0, .int .i64 0, .bool false, .int .u64 0, .int .i64 0, .int .u8 0, .slice none 0 0, .int .i64 0, .int .u64 0, .int .i64 0, .int .i64 0, .int .i64 0, .bool false, .int .u64 0, .int .i64 0, .int .u8 0, .slice none 0 0, .int .i64 0, .int .u64 0, .int .i64 0, .int .i64 0, .int .i64 0, .bool false, .int .u64 0, .int .i64 0, .int .u8 0, .slice none 0 0, .int .i64 0, .int .u64 0, .int .i64 0, .int .i64 0, .int .i64 0, .bool false, .int .u64 0, .int .i64 0, .int .u8 0, .slice none 0 0, .int .i64 0, .int .u64 0, .int .i64 0, .int .i64 0, .int .i64 0, .bool false, .int .u64 0, .int .i64 0, .int .u8 0, .slice none 0 0, .int .i64 0, .int .u64 0, .int .i64 0, .int .i64 0, .int .i64 0, .bool false, .int .u64 0, .int .i64 0, .int .u8 0, .slice none 0 0, .int .i64 0, .int .u64 0, .int .i64 0, .int .i64 0, .int .i64 0, .bool false, .int .u64 0, .int .i64 0, .int .u8 0, .slice none 0 0, .int .i64 0, .int .u64 0, .int .i64 0, .int .i64 0, .int .i64 0, .bool false, .int .u64 0, .int .i64 0, .int .u8 0, .slice none 0 0, .int .i64 0, .int .u64 0, .int .i64 0, .int .i64 0, .int .i64 0, .bool false, .int .u64 0, .int .i64 0, .int .u8 0, .slice none 0 0, .int .i64 0, .int .u64 0, .int .i64 0, .int .i64 0, .int .i64 0, .bool false, .int .u64 0, .int .i64 0, .int .u8 0, .slice none 0 0, .int .i64 0, .int .u64 0, .int .i64 0, .int .i64 0, .int .i64 0, .bool false, .int .u64 0, .int .i64 0, .int .u8 0, .slice none 0 0, .int .i64 0, .int .u64 0, .int .i64 0, .int .i64 0, .int .i64 0, .bool false, .int .u64 0, .int .i64 0, .int .u8 0, .slice none 0 0, .int .i64 0, .int .u64 0, .int .i64 0, .int .i64 0, .int .i64 0, .bool false, .int .u64 0, .int .i64 0, .int .u8 0, .slice none 0 0, .int .i64 0, .int .u64 0, .int .i64 0, .int .i64 0, .int .i64 0, .bool false, .int .u64 0, .int .i64 0, .int .u8 0, .slice none 0 0, .int .i64 0, .int .u64 0, .int .i64 0, .int .i64 0, .int .i64 0, .bool false, .int .u64 0, .int .i64 0, .int .u8 0, .slice none 0 0, .int .i64 0, .int .u64 0, .int .i64 0, .int .i64 0, .int .i64 0, .bool false, .int .u64 0, .int .i64 0, .int .u8 0, .slice none 0 0, .int .i64 0, .int .u64 0, .int .i64 0, .int .i64 0, .int .i64 0, .bool false, .int .u64 0, .int .i64 0, .int .u8 0, .slice none 0 0, .int .i64 0, .int .u64 0, .int .i64 0, .int .i64 0, .int .i64 0, .bool false, .int .u64 0, .int .i64 0, .int .u8 0, .slice none 0 0, .int .i64 0, .int .u64 0, .int .i64 0, .int .i64 0, .int .i64 0, .bool false, .int .u64 0, .int .i64 0], false⟩
theorem ti79_ok : TIok Tryz.prog 79 ti79 := ⟨by kernel_rfl, by kernel_rfl, fun h => by cases h⟩
def ti80 : TI := ⟨.slice 86, 1, 24, [.slice none 0 0], false⟩
theorem ti80_ok : TIok Tryz.prog 80 ti80 := ⟨by kernel_rfl, by kernel_rfl, fun h => by cases h⟩
def ti81 : TI := ⟨.func, 1, 8, [.nilFunc], false⟩
theorem ti81_ok : TIok Tryz.prog 81 ti81 := ⟨by kernel_rfl, by kernel_rfl, fun h => by cases h⟩
def ti82 : TI := ⟨.func, 1, 8, [.nilFunc], false⟩
theorem ti82_ok : TIok Tryz.prog 82 ti82 := ⟨by kernel_rfl, by kernel_rfl, fun h => by cases h⟩
def ti83 : TI := ⟨.func, 1, 8, [.nilFunc], false⟩
theorem ti83_ok : TIok Tryz.prog 83 ti83 := ⟨by kernel_rfl, by kernel_rfl, fun h => by cases h⟩
def ti84 : TI := ⟨.func, 1, 8, [.nilFunc], false⟩
theorem ti84_ok : TIok Tryz.prog 84 ti84 := ⟨by kernel_rfl, by kernel_rfl, fun h => by cases h⟩
def ti85 : TI := ⟨.struct [(0, 32), (1, 2)], 2, 32, [.slice none 0 0, .int .i64 0], false⟩
theorem ti85_ok : TIok Tryz.prog 85 ti85 := ⟨by kernel_rfl, by kernel_rfl, fun h => by cases h⟩
def ti86 : TI := ⟨.struct [(0, 32), (1, 2)], 2, 32, [.slice none 0 0, .int .i64 0], false⟩
theorem ti86_ok : TIok Tryz.prog 86 ti86 := ⟨by kernel_rfl, by kernel_rfl, fun h => by cases h⟩
def ti87 : TI := ⟨.func, 1, 8, [.nilFunc], false⟩
theorem ti87_ok : TIok Tryz.prog 87 ti87 := ⟨by kernel_rfl, by kernel_rfl, fun h => by cases h⟩
def ti88 : TI := ⟨.func, 1, 8, [.nilFunc], false⟩
theorem ti88_ok : TIok Tryz.prog 88 ti88 := ⟨by kernel_rfl, by kernel_rfl, fun h => by cases h⟩
def ti89 : TI := ⟨.func, 1, 8, [.nilFunc], false⟩
theorem ti89_ok : TIok Tryz.prog 89 ti89 := ⟨by kernel_rfl, by kernel_rfl, fun h => by cases h⟩
def ti90 : TI := ⟨.array 5 47, 20, 240, [.int .i64 0, .int .u8 0, .slice none 0 0, .int .i64 0, .int .i64 0, .int .u8 0, .slice none 0 0, .int .i64 0, .int .i64 0, .int .u8 0, .slice none 0 0, .int .i64 0, .int .i64 0, .int .u8 0, .slice none 0 0, .int .i64 0, .int .i64 0, .int .u8 0, .slice none 0 0, .int .i64 0], false⟩
theorem ti90_ok : TIok Tryz.prog 90 ti90 := ⟨by kernel_rfl, by kernel_rfl, fun h => by cases h⟩
def ti91 : TI := ⟨.func, 1, 8, [.nilFunc], false⟩
theorem ti91_ok : TIok Tryz.prog 91 ti91 := ⟨by kernel_rfl, by kernel_rfl, fun h => by cases h⟩
def ti93 : TI := ⟨.func, 1, 8, [.nilFunc], false⟩
theorem ti93_ok : TIok Tryz.prog 93 ti93 := ⟨by kernel_rfl, by kernel_rfl, fun h => by cases h⟩
def ti95 : TI := ⟨.func, 1, 8, [.nilFunc], false⟩
theorem ti95_ok : TIok Tryz.prog 95 ti95 := ⟨by kernel_rfl, by kernel_rfl, fun h => by cases h⟩
def ti96 : TI := ⟨.func, 1, 8, [.nilFunc], false⟩
theorem ti96_ok : TIok Tryz.prog 96 ti96 := ⟨by kernel_rfl, by kernel_rfl, fun h => by cases h⟩
def ti97 : TI := ⟨.func, 1, 8, [.nilFunc], false⟩
theorem ti97_ok : TIok Tryz.prog 97 ti97 := ⟨by kernel_rfl, by kernel_rfl, fun h => by cases h⟩
def ti98 : TI := ⟨.func, 1, 8, [.nilFunc], false⟩
theorem ti98_ok : TIok Tryz.prog 98 ti98 := ⟨by kernel_rfl, by kernel_rfl, fun h => by cases h⟩
def ti99 : TI := ⟨.struct [(0, 3), (1, 34), (5, 3), (6, 3), (7, 36)], 13, 120, [.int .i64 0, .int .u8 0, .int .i64 0, .slice none 0 0, .int .i64 0, .int .i64 0, .int .i64 0, .int .i64 0, .bool false, .int .i64 0, .int .i64 0, .int .i64 0, .int .i64 0], false⟩
theorem ti99_ok : TIok Tryz.prog 99 ti99 := ⟨by kernel_rfl, by kernel_rfl, fun h => by cases h⟩
def ti100 : TI := ⟨.other, 1, 8, [.map none], false⟩
theorem ti100_ok : TIok Tryz.prog 100 ti100 := ⟨by kernel_rfl, by kernel_rfl, fun h => by cases h⟩
def ti102 : TI := ⟨.func, 1, 8, [.nilFunc], false⟩
theorem ti102_ok : TIok Tryz.prog 102 ti102 := ⟨by kernel_rfl, by kernel_rfl, fun h => by cases h⟩
def ti103 : TI := ⟨.func, 1, 8, [.nilFunc], false⟩
theorem ti103_ok : TIok Tryz.prog 103 ti103 := ⟨by kernel_rfl, by kernel_rfl, fun h => by cases h⟩
def ti104 : TI := ⟨.struct [(0, 22), (1, 25), (2, 2)], 3, 56, [.slice none 0 0, .slice none 0 0, .int .i64 0], false⟩
theorem ti104_ok : TIok Tryz.prog 104 ti104 := ⟨by kernel_rfl, by kernel_rfl, fun h => by cases h⟩
def ti105 : TI := ⟨.struct [(0, 22), (1, 25), (2, 2)], 3, 56, [.slice none 0 0, .slice none 0 0, .int .i64 0], false⟩
theorem ti105_ok : TIok Tryz.prog 105 ti105 := ⟨by kernel_rfl, by kernel_rfl, fun h => by cases h⟩
def ti106 : TI := ⟨.func, 1, 8, [.nilFunc], false⟩
theorem ti106_ok : TIok Tryz.prog 106 ti106 := ⟨by kernel_rfl, by kernel_rfl, fun h => by cases h⟩
def ti107 : TI := ⟨.func, 1, 8, [.nilFunc], false⟩
theorem ti107_ok : TIok Tryz.prog 107 ti107 := ⟨by kernel_rfl, by kernel_rfl, fun h => by cases h⟩
def ti108 : TI := ⟨.func, 1, 8, [.nilFunc], false⟩
theorem ti108_ok : TIok Tryz.prog 108 ti108 := ⟨by kernel_rfl, by kernel_rfl, fun h => by cases h⟩
def ti109 : TI := ⟨.ptr 115, 1, 8, [.pointer none], false⟩
theorem ti109_ok : TIok Tryz.prog 109 ti109 := ⟨by kernel_rfl, by kernel_rfl, fun h => by cases h⟩
def ti110 : TI := ⟨.struct [(0, 2), (1, 2)], 2, 16, [.int .i64 0, .int .i64 0], true⟩
theorem ti110_ok : TIok Tryz.prog 110 ti110 := ⟨by kernel_rfl, by kernel_rfl, fun _ => ⟨by kernel_rfl, by kernel_rfl, by kernel_rfl⟩⟩
def ti111 : TI := ⟨.struct [(0, 2), (1, 2)], 2, 16, [.int .i64 0, .int .i64 0], true⟩
theorem ti111_ok : TIok Tryz.prog 111 ti111 := ⟨by kernel_rfl, by kernel_rfl, fun _ => ⟨by kernel_rfl, by kernel_rfl, by kernel_rfl⟩⟩
def ti112 : TI := ⟨.struct [(0, 5), (1, 111), (3, 3)], 4, 32, [.int .u8 0, .int .i64 0, .int .i64 0, .int .i64 0], true⟩
theorem ti112_ok : TIok Tryz.prog 112 ti112 := ⟨by kernel_rfl, by kernel_rfl, fun _ => ⟨by kernel_rfl, by kernel_rfl, by kernel_rfl⟩⟩
def ti113 : TI := ⟨.struct [(0, 5), (1, 111), (3, 3)], 4, 32, [.int .u8 0, .int .i64 0, .int .i64 0, .int .i64 0], true⟩
theorem ti113_ok : TIok Tryz.prog 113 ti113 := ⟨by kernel_rfl, by kernel_rfl, fun _ => ⟨by kernel_rfl, by kernel_rfl, by kernel_rfl⟩⟩
def ti114 : TI := ⟨.struct [(0, 113), (4, 23), (5, 2)], 6, 64, [.int .u8 0, .int .i64 0, .int .i64 0, .int .i64 0, .slice none 0 0, .int .i64 0], false⟩
theorem ti114_ok : TIok Tryz.prog 114 ti114 := ⟨by kernel_rfl, by kernel_rfl, fun h => by cases h⟩
def ti115 : TI := ⟨.struct [(0, 113), (4, 23), (5, 2)], 6, 64, [.int .u8 0, .int .i64 0, .int .i64 0, .int .i64 0, .slice none 0 0, .int .i64 0], false⟩
theorem ti115_ok : TIok Tryz.prog 115 ti115 := ⟨by kernel_rfl, by kernel_rfl, fun h => by cases h⟩
def ti116 : TI := ⟨.func, 1, 8, [.nilFunc], false⟩
theorem ti116_ok : TIok Tryz.prog 116 ti116 := ⟨by kernel_rfl, by kernel_rfl, fun h => by cases h⟩
def ti117 : TI := ⟨.func, 1, 8, [.nilFunc], false⟩
theorem ti117_ok : TIok Tryz.prog 117 ti117 := ⟨by kernel_rfl, by kernel_rfl, fun h => by cases h⟩
def ti118 : TI := ⟨.slice 4, 1, 24, [.slice none 0 0], false⟩
theorem ti118_ok : TIok Tryz.prog 118 ti118 := ⟨by kernel_rfl, by kernel_rfl, fun h => by cases h⟩
def ti119 : TI := ⟨.slice 2, 1, 24, [.slice none 0 0], false⟩
theorem ti119_ok : TIok Tryz.prog 119 ti119 := ⟨by kernel_rfl, by kernel_rfl, fun h => by cases h⟩
def ti120 : TI := ⟨.struct [(0, 3), (1, 32), (2, 2), (3, 119)], 4, 64, [.int .i64 0, .slice none 0 0, .int .i64 0, .slice none 0 0], false⟩
theorem ti120_ok : TIok Tryz.prog 120 ti120 := ⟨by kernel_rfl, by kernel_rfl, fun h => by cases h⟩
def ti121 : TI := ⟨.struct [(0, 3), (1, 32), (2, 2), (3, 119)], 4, 64, [.int .i64 0, .slice none 0 0, .int .i64 0, .slice none 0 0], false⟩
theorem ti121_ok : TIok Tryz.prog 121 ti121 := ⟨by kernel_rfl, by kernel_rfl, fun h => by cases h⟩
def ti122 : TI := ⟨.ptr 155, 1, 8, [.pointer none], false⟩
theorem ti122_ok : TIok Tryz.prog 122 ti122 := ⟨by kernel_rfl, by kernel_rfl, fun h => by cases h⟩
def ti123 : TI := ⟨.func, 1, 8, [.nilFunc], false⟩
theorem ti123_ok : TIok Tryz.prog 123 ti123 := ⟨by kernel_rfl, by kernel_rfl, fun h => by cases h⟩
def ti124 : TI := ⟨.func, 1, 8, [.nilFunc], false⟩
theorem ti124_ok : TIok Tryz.prog 124 ti124 := ⟨by kernel_rfl, by kernel_rfl, fun h => by cases h⟩
def ti125 : TI := ⟨.func, 1, 8, [.nilFunc], false⟩
theorem ti125_ok : TIok Tryz.prog 125 ti125 := ⟨by kernel_rfl, by kernel_rfl, fun h => by cases h⟩
def ti126 : TI := ⟨.func, 1, 8, [.nilFunc], false⟩
theorem ti126_ok : TIok Tryz.prog 126 ti126 := ⟨by kernel_rfl, by kernel_rfl, fun h => by cases h⟩
def ti127 : TI := ⟨.array 64 126, 64, 512, [.nilFunc, .nilFunc, .nilFunc, .nilFunc, .nilFunc, .nilFunc, .nilFunc, .nilFunc, .nilFunc, .nilFunc, .nilFunc, .nilFunc, .nilFunc, .nilFunc, .nilFunc, .nilFunc, .nilFunc, .nilFunc, .nilFunc, .nilFunc, .nilFunc, .nilFunc, .nilFunc, .nilFunc, .nilFunc, .nilFunc, .nilFunc, .nilFunc, .nilFunc, .nilFunc, .nilFunc, .nilFunc, .nilFunc, .nilFunc, .nilFunc, .nilFunc, .nilFunc, .nilFunc, .nilFunc, .nilFunc, .nilFunc, .nilFunc, .nilFunc, .nilFunc, .nilFunc, .nilFunc, .nilFunc, .nilFunc, .nilFunc, .nilFunc, .nilFunc, .nilFunc, .nilFunc, .nilFunc, .nilFunc, .nilFunc, .nilFunc, .nilFunc, .nilFunc, .nilFunc, .nilFunc, .nilFunc, .nilFunc, .nilFunc], false⟩
theorem ti127_ok : TIok Tryz.prog 127 ti127 := ⟨by kernel_rfl, by kernel_rfl, fun h => by cases h⟩
def ti128 : TI := ⟨.array 64 126, 64, 512, [.nilFunc, .nilFunc, .nilFunc, .nilFunc, .nilFunc, .nilFunc, .nilFunc, .nilFunc, .nilFunc, .nilFunc, .nilFunc, .nilFunc, .nilFunc, .nilFunc, .nilFunc, .nilFunc, .nilFunc, .nilFunc, .nilFunc, .nilFunc, .nilFunc, .nilFunc, .nilFunc, .nilFunc, .nilFunc, .nilFunc, .nilFunc, .nilFunc, .nilFunc, .nilFunc, .nilFunc, .nilFunc, .nilFunc, .nilFunc, .nilFunc, .nilFunc, .nilFunc, .nilFunc, .nilFunc, .nilFunc, .nilFunc, .nilFunc, .nilFunc, .nilFunc, .nilFunc, .nilFunc, .nilFunc, .nilFunc, .nilFunc, .nilFunc, .nilFunc, .nilFunc, .nilFunc, .nilFunc, .nilFunc, .nilFunc, .nilFunc, .nilFunc, .nilFunc, .nilFunc, .nilFunc, .nilFunc, .nilFunc, .nilFunc], false⟩
theorem ti128_ok : TIok Tryz.prog 128 ti128 := ⟨by kernel_rfl, by kernel_rfl, fun h => by cases h⟩
def ti129 : TI := ⟨.struct [(0, 122), (1, 128)], 65, 520, [.pointer none, .nilFunc, .nilFunc, .nilFunc, .nilFunc, .nilFunc, .nilFunc, .nilFunc, .nilFunc, .nilFunc, .nilFunc, .nilFunc, .nilFunc, .nilFunc, .nilFunc, .nilFunc, .nilFunc, .nilFunc, .nilFunc, .nilFunc, .nilFunc, .nilFunc, .nilFunc, .nilFunc, .nilFunc, .nilFunc, .nilFunc, .nilFunc, .nilFunc, .nilFunc, .nilFunc, .nilFunc, .nilFunc, .nilFunc, .nilFunc, .nilFunc, .nilFunc, .nilFunc, .nilFunc, .nilFunc, .nilFunc, .nilFunc, .nilFunc, .nilFunc, .nilFunc, .nilFunc, .nilFunc, .nilFunc, .nilFunc, .nilFunc, .nilFunc, .nilFunc, .nilFunc, .nilFunc, .nilFunc, .nilFunc, .nilFunc, .nilFunc, .nilFunc, .nilFunc, .nilFunc, .nilFunc, .nilFunc, .nilFunc, .nilFunc], false⟩
theorem ti129_ok : TIok Tryz.prog 129 ti129 := ⟨by kernel_rfl, by kernel_rfl, fun h => by cases h⟩
def ti130 : TI := ⟨.struct [(0, 122), (1, 128)], 65, 520, [.pointer none, .nilFunc, .nilFunc, .nilFunc, .nilFunc, .nilFunc, .nilFunc, .nilFunc, .nilFunc, .nilFunc, .nilFunc, .nilFunc, .nilFunc, .nilFunc, .nilFunc, .nilFunc, .nilFunc, .nilFunc, .nilFunc, .nilFunc, .nilFunc, .nilFunc, .nilFunc, .nilFunc, .nilFunc, .nilFunc, .nilFunc, .nilFunc, .nilFunc, .nilFunc, .nilFunc, .nilFunc, .nilFunc, .nilFunc, .nilFunc, .nilFunc, .nilFunc, .nilFunc, .nilFunc, .nilFunc, .nilFunc, .nilFunc, .nilFunc, .nilFunc, .nilFunc, .nilFunc, .nilFunc, .nilFunc, .nilFunc, .nilFunc, .nilFunc, .nilFunc, .nilFunc, .nilFunc, .nilFunc, .nilFunc, .nilFunc, .nilFunc, .nilFunc, .nilFunc, .nilFunc, .nilFunc, .nilFunc, .nilFunc, .nilFunc], false⟩
theorem ti130_ok : TIok Tryz.prog 130 ti130 := ⟨by kernel_rfl, by kernel_rfl, fun h => by cases h⟩
def ti131 : TI := ⟨.func, 1, 8, [.nilFunc], false⟩
theorem ti131_ok : TIok Tryz.prog 131 ti131 := ⟨by kernel_rfl, by kernel_rfl, fun h => by cases h⟩
def ti132 : TI := ⟨.func, 1, 8, [.nilFunc], false⟩
theorem ti132_ok : TIok Tryz.prog 132 ti132 := ⟨by kernel_rfl, by kernel_rfl, fun h => by cases h⟩
def ti133 : TI := ⟨.func, 1, 8, [.nilFunc], false⟩
theorem ti133_ok : TIok Tryz.prog 133 ti133 := ⟨by kernel_rfl, by kernel_rfl, fun h => by cases h⟩
def ti134 : TI := ⟨.func, 1, 8, [.nilFunc], false⟩
theorem ti134_ok : TIok Tryz.prog 134 ti134 := ⟨by kernel_rfl, by kernel_rfl, fun h => by cases h⟩
def ti135 : TI := ⟨.func, 1, 8, [.nilFunc], false⟩
theorem ti135_ok : TIok Tryz.prog 135 ti135 := ⟨by kernel_rfl, by kernel_rfl, fun h => by cases h⟩
def ti136 : TI := ⟨.func, 1, 8, [.nilFunc], false⟩
theorem ti136_ok : TIok Tryz.prog 136 ti136 := ⟨by kernel_rfl, by kernel_rfl, fun h => by cases h⟩
def ti137 : TI := ⟨.func, 1, 8, [.nilFunc], false⟩
theorem ti137_ok : TIok Tryz.prog 137 ti137 := ⟨by kernel_rfl, by kernel_rfl, fun h => by cases h⟩
def ti138 : TI := ⟨.ptr 76, 1, 8, [.pointer none], false⟩
theorem ti138_ok : TIok Tryz.prog 138 ti138 := ⟨by kernel_rfl, by kernel_rfl, fun h => by cases h⟩
def ti139 : TI := ⟨.func, 1, 8, [.nilFunc], false⟩
theorem ti139_ok : TIok Tryz.prog 139 ti139 := ⟨by kernel_rfl, by kernel_rfl, fun h => by cases h⟩
def ti140 : TI := ⟨.struct [(0, 4), (1, 3), (2, 3), (3, 3), (4, 3), (5, 4), (6, 4), (7, 4)], 8, 48, [.bool false, .int .i64 0, .int .i64 0, .int .i64 0, .int .i64 0, .bool false, .bool false, .bool false], true⟩
theorem ti140_ok : TIok Tryz.prog 140 ti140 := ⟨by kernel_rfl, by kernel_rfl, fun _ => ⟨by kernel_rfl, by kernel_rfl, by kernel_rfl⟩⟩
def ti141 : TI := ⟨.struct [(0, 4), (1, 3), (2, 3), (3, 3), (4, 3), (5, 4), (6, 4), (7, 4)], 8, 48, [.bool false, .int .i64 0, .int .i64 0, .int .i64 0, .int .i64 0, .bool false, .bool false, .bool false], true⟩
theorem ti141_ok : TIok Tryz.prog 141 ti141 := ⟨by kernel_rfl, by kernel_rfl, fun _ => ⟨by kernel_rfl, by kernel_rfl, by kernel_rfl⟩⟩
def ti142 : TI := ⟨.func, 1, 8, [.nilFunc], false⟩
theorem ti142_ok : TIok Tryz.prog 142 ti142 := ⟨by kernel_rfl, by kernel_rfl, fun h => by cases h⟩
def ti143 : TI := ⟨.ptr 70, 1, 8, [.pointer none], false⟩
theorem ti143_ok : TIok Tryz.prog 143 ti143 := ⟨by kernel_rfl, by kernel_rfl, fun h => by cases h⟩
def ti144 : TI := ⟨.ptr 74, 1, 8, [.pointer none], false⟩
theorem ti144_ok : TIok Tryz.prog 144 ti144 := ⟨by kernel_rfl, by kernel_rfl, fun h => by cases h⟩
def ti145 : TI := ⟨.func, 1, 8, [.nilFunc], false⟩
theorem ti145_ok : TIok Tryz.prog 145 ti145 := ⟨by kernel_rfl, by kernel_rfl, fun h => by cases h⟩
def ti146 : TI := ⟨.func, 1, 8, [.nilFunc], false⟩
theorem ti146_ok : TIok Tryz.prog 146 ti146 := ⟨by kernel_rfl, by kernel_rfl, fun h => by cases h⟩
def ti147 : TI := ⟨.func, 1, 8, [.nilFunc], false⟩
theorem ti147_ok : TIok Tryz.prog 147 ti147 := ⟨by kernel_rfl, by kernel_rfl, fun h => by cases h⟩
def ti148 : TI := ⟨.struct [(0, 32), (1, 2)], 2, 32, [.slice none 0 0, .int .i64 0], false⟩
theorem ti148_ok : TIok Tryz.prog 148 ti148 := ⟨by kernel_rfl, by kernel_rfl, fun h => by cases h⟩
def ti149 : TI := ⟨.ptr 203, 1, 8, [.pointer none], false⟩
theorem ti149_ok : TIok Tryz.prog 149 ti149 := ⟨by kernel_rfl, by kernel_rfl, fun h => by cases h⟩
def ti150 : TI := ⟨.slice 80, 1, 24, [.slice none 0 0], false⟩
theorem ti150_ok : TIok Tryz.prog 150 ti150 := ⟨by kernel_rfl, by kernel_rfl, fun h => by cases h⟩
def ti151 : TI := ⟨.struct [(0, 149), (1, 150)], 2, 32, [.pointer none, .slice none 0 0], false⟩
theorem ti151_ok : TIok Tryz.prog 151 ti151 := ⟨by kernel_rfl, by kernel_rfl, fun h => by cases h⟩
def ti152 : TI := ⟨.struct [(0, 149), (1, 150)], 2, 32, [.pointer none, .slice none 0 0], false⟩
theorem ti152_ok : TIok Tryz.prog 152 ti152 := ⟨by kernel_rfl, by kernel_rfl, fun h => by cases h⟩
def ti153 : TI := ⟨.ptr 152, 1, 8, [.pointer none], false⟩
theorem ti153_ok : TIok Tryz.prog 153 ti153 := ⟨by kernel_rfl, by kernel_rfl, fun h => by cases h⟩
def ti154 : TI := ⟨.struct [(0, 153), (1, 124)], 2, 16, [.pointer none, .nilFunc], false⟩
theorem ti154_ok : TIok Tryz.prog 154 ti154 := ⟨by kernel_rfl, by kernel_rfl, fun h => by cases h⟩
def ti155 : TI := ⟨.struct [(0, 153), (1, 124)], 2, 16, [.pointer none, .nilFunc], false⟩
theorem ti155_ok : TIok Tryz.prog 155 ti155 := ⟨by kernel_rfl, by kernel_rfl, fun h => by cases h⟩
def ti156 : TI := ⟨.func, 1, 8, [.nilFunc], false⟩
theorem ti156_ok : TIok Tryz.prog 156 ti156 := ⟨by kernel_rfl, by kernel_rfl, fun h => by cases h⟩
def ti157 : TI := ⟨.func, 1, 8, [.nilFunc], false⟩
theorem ti157_ok : TIok Tryz.prog 157 ti157 := ⟨by kernel_rfl, by kernel_rfl, fun h => by cases h⟩
def ti158 : TI := ⟨.func, 1, 8, [.nilFunc], false⟩
theorem ti158_ok : TIok Tryz.prog 158 ti158 := ⟨by kernel_rfl, by kernel_rfl, fun h => by cases h⟩
def ti159 : TI := ⟨.func, 1, 8, [.nilFunc], false⟩
theorem ti159_ok : TIok Tryz.prog 159 ti159 := ⟨by kernel_rfl, by kernel_rfl, fun h => by cases h⟩
def ti160 : TI := ⟨.func, 1, 8, [.nilFunc], false⟩
theorem ti160_ok : TIok Tryz.prog 160 ti160 := ⟨by kernel_rfl, by kernel_rfl, fun h => by cases h⟩
def ti161 : TI := ⟨.func, 1, 8, [.nilFunc], false⟩
theorem ti161_ok : TIok Tryz.prog 161 ti161 := ⟨by kernel_rfl, by kernel_rfl, fun h => by cases h⟩
def ti162 : TI := ⟨.int .u64, 1, 8, [.int .u64 0], false⟩
theorem ti162_ok : TIok Tryz.prog 162 ti162 := ⟨by kernel_rfl, by kernel_rfl, fun h => by cases h⟩
def ti163 : TI := ⟨.func, 1, 8, [.nilFunc], false⟩
theorem ti163_ok : TIok Tryz.prog 163 ti163 := ⟨by kernel_rfl, by kernel_rfl, fun h => by cases h⟩
def ti164 : TI := ⟨.func, 1, 8, [.nilFunc], false⟩
theorem ti164_ok : TIok Tryz.prog 164 ti164 := ⟨by kernel_rfl, by kernel_rfl, fun h => by cases h⟩
def ti165 : TI := ⟨.func, 1, 8, [.nilFunc], false⟩
theorem ti165_ok : TIok Tryz.prog 165 ti165 := ⟨by kernel_rfl, by kernel_rfl, fun h => by cases h⟩
def ti166 : TI := ⟨.func, 1, 8, [.nilFunc], false⟩
theorem ti166_ok : TIok Tryz.prog 166 ti166 := ⟨by kernel_rfl, by kernel_rfl, fun h => by cases h⟩
def ti167 : TI := ⟨.func, 1, 8, [.nilFunc], false⟩
theorem ti167_ok : TIok Tryz.prog 167 ti167 := ⟨by kernel_rfl, by kernel_rfl, fun h => by cases h⟩
def ti169 : TI := ⟨.func, 1, 8, [.nilFunc], false⟩
theorem ti169_ok : TIok Tryz.prog 169 ti169 := ⟨by kernel_rfl, by kernel_rfl, fun h => by cases h⟩
def ti170 : TI := ⟨.func, 1, 8, [.nilFunc], false⟩
theorem ti170_ok : TIok Tryz.prog 170 ti170 := ⟨by kernel_rfl, by kernel_rfl, fun h => by cases h⟩
def ti171 : TI := ⟨.func, 1, 8, [.nilFunc], false⟩
theorem ti171_ok : TIok Tryz.prog 171 ti171 := ⟨by kernel_rfl, by kernel_rfl, fun h => by cases h⟩
def ti172 : TI := ⟨.func, 1, 8, [.nilFunc], false⟩
theorem ti172_ok : TIok Tryz.prog 172 ti172 := ⟨by kernel_rfl, by kernel_rfl, fun h => by cases h⟩
def ti173 : TI := ⟨.slice 3, 1, 24, [.slice none 0 0], false⟩
theorem ti173_ok : TIok Tryz.prog 173 ti173 := ⟨by kernel_rfl, by kernel_rfl, fun h => by cases h⟩
def ti174 : TI := ⟨.func, 1, 8, [.nilFunc], false⟩
theorem ti174_ok : TIok Tryz.prog 174 ti174 := ⟨by kernel_rfl, by kernel_rfl, fun h => by cases h⟩
def ti175 : TI := ⟨.func, 1, 8, [.nilFunc], false⟩
theorem ti175_ok : TIok Tryz.prog 175 ti175 := ⟨by kernel_rfl, by kernel_rfl, fun h => by cases h⟩
def ti177 : TI := ⟨.func, 1, 8, [.nilFunc], false⟩
theorem ti177_ok : TIok Tryz.prog 177 ti177 := ⟨by kernel_rfl, by kernel_rfl, fun h => by cases h⟩
def ti178 : TI := ⟨.func, 1, 8, [.nilFunc], false⟩
theorem ti178_ok : TIok Tryz.prog 178 ti178 := ⟨by kernel_rfl, by kernel_rfl, fun h => by cases h⟩
def ti179 : TI := ⟨.func, 1, 8, [.nilFunc], false⟩
theorem ti179_ok : TIok Tryz.prog 179 ti179 := ⟨by kernel_rfl, by kernel_rfl, fun h => by cases h⟩
def ti180 : TI := ⟨.func, 1, 8, [.nilFunc], false⟩
theorem ti180_ok : TIok Tryz.prog 180 ti180 := ⟨by kernel_rfl, by kernel_rfl, fun h => by cases h⟩
def ti182 : TI := ⟨.func, 1, 8, [.nilFunc], false⟩
theorem ti182_ok : TIok Tryz.prog 182 ti182 := ⟨by kernel_rfl, by kernel_rfl, fun h => by cases h⟩
def ti184 : TI := ⟨.func, 1, 8, [.nilFunc], false⟩
theorem ti184_ok : TIok Tryz.prog 184 ti184 := ⟨by kernel_rfl, by kernel_rfl, fun h => by cases h⟩
def ti185 : TI := ⟨.func, 1, 8, [.nilFunc], false⟩
theorem ti185_ok : TIok Tryz.prog 185 ti185 := ⟨by kernel_rfl, by kernel_rfl, fun h => by cases h⟩
def ti186 : TI := ⟨.func, 1, 8, [.nilFunc], false⟩
theorem ti186_ok : TIok Tryz.prog 186 ti186 := ⟨by kernel_rfl, by kernel_rfl, fun h => by cases h⟩
def ti187 : TI := ⟨.func, 1, 8, [.nilFunc], false⟩
theorem ti187_ok : TIok Tryz.prog 187 ti187 := ⟨by kernel_rfl, by kernel_rfl, fun h => by cases h⟩
def ti188 : TI := ⟨.func, 1, 8, [.nilFunc], false⟩
theorem ti188_ok : TIok Tryz.prog 188 ti188 := ⟨by kernel_rfl, by kernel_rfl, fun h => by cases h⟩
def ti189 : TI := ⟨.func, 1, 8, [.nilFunc], false⟩
theorem ti189_ok : TIok Tryz.prog 189 ti189 := ⟨by kernel_rfl, by kernel_rfl, fun h => by cases h⟩
def ti190 : TI := ⟨.func, 1, 8, [.nilFunc], false⟩
theorem ti190_ok : TIok Tryz.prog 190 ti190 := ⟨by kernel_rfl, by kernel_rfl, fun h => by cases h⟩
def ti191 : TI := ⟨.func, 1, 8, [.nilFunc], false⟩
theorem ti191_ok : TIok Tryz.prog 191 ti191 := ⟨by kernel_rfl, by kernel_rfl, fun h => by cases h⟩
def ti192 : TI := ⟨.ptr 128, 1, 8, [.pointer none], false⟩
theorem ti192_ok : TIok Tryz.prog 192 ti192 := ⟨by kernel_rfl, by kernel_rfl, fun h => by cases h⟩
def ti194 : TI := ⟨.func, 1, 8, [.nilFunc], false⟩
theorem ti194_ok : TIok Tryz.prog 194 ti194 := ⟨by kernel_rfl, by kernel_rfl, fun h => by cases h⟩
def ti195 : TI := ⟨.func, 1, 8, [.nilFunc], false⟩
theorem ti195_ok : TIok Tryz.prog 195 ti195 := ⟨by kernel_rfl, by kernel_rfl, fun h => by cases h⟩
def ti196 : TI := ⟨.func, 1, 8, [.nilFunc], false⟩
theorem ti196_ok : TIok Tryz.prog 196 ti196 := ⟨by kernel_rfl, by kernel_rfl, fun h => by cases h⟩
def ti197 : TI := ⟨.func, 1, 8, [.nilFunc], false⟩
theorem ti197_ok : TIok Tryz.prog 197 ti197 := ⟨by kernel_rfl, by kernel_rfl, fun h => by cases h⟩
def ti198 : TI := ⟨.func, 1, 8, [.nilFunc], false⟩
theorem ti198_ok : TIok Tryz.prog 198 ti198 := ⟨by kernel_rfl, by kernel_rfl, fun h => by cases h⟩
def ti199 : TI := ⟨.func, 1, 8, [.nilFunc], false⟩
theorem ti199_ok : TIok Tryz.prog 199 ti199 := ⟨by kernel_rfl, by kernel_rfl, fun h => by cases h⟩
def ti200 : TI := ⟨.slice 67, 1, 24, [.slice none 0 0], false⟩
theorem ti200_ok : TIok Tryz.prog 200 ti200 := ⟨by kernel_rfl, by kernel_rfl, fun h => by cases h⟩
def ti201 : TI := ⟨.slice 274, 1, 24, [.slice none 0 0], false⟩
theorem ti201_ok : TIok Tryz.prog 201 ti201 := ⟨by kernel_rfl, by kernel_rfl, fun h => by cases h⟩
def ti202 : TI := ⟨.struct [(0, 200), (1, 2), (2, 3), (3, 201)], 4, 64, [.slice none 0 0, .int .i64 0, .int .i64 0, .slice none 0 0], false⟩
theorem ti202_ok : TIok Tryz.prog 202 ti202 := ⟨by kernel_rfl, by kernel_rfl, fun h => by cases h⟩
def ti203 : TI := ⟨.struct [(0, 200), (1, 2), (2, 3), (3, 201)], 4, 64, [.slice none 0 0, .int .i64 0, .int .i64 0, .slice none 0 0], false⟩
theorem ti203_ok : TIok Tryz.prog 203 ti203 := ⟨by kernel_rfl, by kernel_rfl, fun h => by cases h⟩
def ti204 : TI := ⟨.func, 1, 8, [.nilFunc], false⟩
theorem ti204_ok : TIok Tryz.prog 204 ti204 := ⟨by kernel_rfl, by kernel_rfl, fun h => by cases h⟩
def ti205 : TI := ⟨.func, 1, 8, [.nilFunc], false⟩
theorem ti205_ok : TIok Tryz.prog 205 ti205 := ⟨by kernel_rfl, by kernel_rfl, fun h => by cases h⟩
def ti206 : TI := ⟨.func, 1, 8, [.nilFunc], false⟩
theorem ti206_ok : TIok Tryz.prog 206 ti206 := ⟨by kernel_rfl, by kernel_rfl, fun h => by cases h⟩
def ti207 : TI := ⟨.func, 1, 8, [.nilFunc], false⟩
theorem ti207_ok : TIok Tryz.prog 207 ti207 := ⟨by kernel_rfl, by kernel_rfl, fun h => by cases h⟩
def ti208 : TI := ⟨.func, 1, 8, [.nilFunc], false⟩
theorem ti208_ok : TIok Tryz.prog 208 ti208 := ⟨by kernel_rfl, by kernel_rfl, fun h => by cases h⟩
def ti209 : TI := ⟨.func, 1, 8, [.nilFunc], false⟩
theorem ti209_ok : TIok Tryz.prog 209 ti209 := ⟨by kernel_rfl, by kernel_rfl, fun h => by cases h⟩
def ti210 : TI := ⟨.func, 1, 8, [.nilFunc], false⟩
theorem ti210_ok : TIok Tryz.prog 210 ti210 := ⟨by kernel_rfl, by kernel_rfl, fun h => by cases h⟩
def ti211 : TI := ⟨.ptr 251, 1, 8, [.pointer none], false⟩
theorem ti211_ok : TIok Tryz.prog 211 ti211 := ⟨by kernel_rfl, by kernel_rfl, fun h => by cases h⟩
def ti213 : TI := ⟨.func, 1, 8, [.nilFunc], false⟩
theorem ti213_ok : TIok Tryz.prog 213 ti213 := ⟨by kernel_rfl, by kernel_rfl, fun h => by cases h⟩
def ti214 : TI := ⟨.func, 1, 8, [.nilFunc], false⟩
theorem ti214_ok : TIok Tryz.prog 214 ti214 := ⟨by kernel_rfl, by kernel_rfl, fun h => by cases h⟩
def ti216 : TI := ⟨.func, 1, 8, [.nilFunc], false⟩
theorem ti216_ok : TIok Tryz.prog 216 ti216 := ⟨by kernel_rfl, by kernel_rfl, fun h => by cases h⟩
def ti218 : TI := ⟨.func, 1, 8, [.nilFunc], false⟩
theorem ti218_ok : TIok Tryz.prog 218 ti218 := ⟨by kernel_rfl, by kernel_rfl, fun h => by cases h⟩
def ti219 : TI := ⟨.func, 1, 8, [.nilFunc], false⟩
theorem ti219_ok : TIok Tryz.prog 219 ti219 := ⟨by kernel_rfl, by kernel_rfl, fun h => by cases h⟩
def ti221 : TI := ⟨.func, 1, 8, [.nilFunc], false⟩
theorem ti221_ok : TIok Tryz.prog 221 ti221 := ⟨by kernel_rfl, by kernel_rfl, fun h => by cases h⟩
def ti222 : TI := ⟨.func, 1, 8, [.nilFunc], false⟩
theorem ti222_ok : TIok Tryz.prog 222 ti222 := ⟨by kernel_rfl, by kernel_rfl, fun h => by cases h⟩
def ti223 : TI := ⟨.func, 1, 8, [.nilFunc], false⟩
theorem ti223_ok : TIok Tryz.prog 223 ti223 := ⟨by kernel_rfl, by kernel_rfl, fun h => by cases h⟩
def ti224 : TI := ⟨.func, 1, 8, [.nilFunc], false⟩
theorem ti224_ok : TIok Tryz.prog 224 ti224 := ⟨by kernel_rfl, by kernel_rfl, fun h => by cases h⟩
def ti225 : TI := ⟨.func, 1, 8, [.nilFunc], false⟩
theorem ti225_ok : TIok Tryz.prog 225 ti225 := ⟨by kernel_rfl, by kernel_rfl, fun h => by cases h⟩
def ti226 : TI := ⟨.func, 1, 8, [.nilFunc], false⟩
theorem ti226_ok : TIok Tryz.prog 226 ti226 := ⟨by kernel_rfl, by kernel_rfl, fun h => by cases h⟩
def ti227 : TI := ⟨.func, 1, 8, [.nilFunc], false⟩
theorem ti227_ok : TIok Tryz.prog 227 ti227 := ⟨by kernel_rfl, by kernel_rfl, fun h => by cases h⟩
def ti228 : TI := ⟨.func, 1, 8, [.nilFunc], false⟩
theorem ti228_ok : TIok Tryz.prog 228 ti228 := ⟨by kernel_rfl, by kernel_rfl, fun h => by cases h⟩
def ti229 : TI := ⟨.func, 1, 8, [.nilFunc], false⟩
theorem ti229_ok : TIok Tryz.prog 229 ti229 := ⟨by kernel_rfl, by kernel_rfl, fun h => by cases h⟩
def ti230 : TI := ⟨.func, 1, 8, [.nilFunc], false⟩
theorem ti230_ok : TIok Tryz.prog 230 ti230 := ⟨by kernel_rfl, by kernel_rfl, fun h => by cases h⟩
def ti231 : TI := ⟨.func, 1, 8, [.nilFunc], false⟩
theorem ti231_ok : TIok Tryz.prog 231 ti231 := ⟨by kernel_rfl, by kernel_rfl, fun h => by cases h⟩
def ti232 : TI := ⟨.func, 1, 8, [.nilFunc], false⟩
theorem ti232_ok : TIok Tryz.prog 232 ti232 := ⟨by kernel_rfl, by kernel_rfl, fun h => by cases h⟩
def ti233 : TI := ⟨.func, 1, 8, [.nilFunc], false⟩
theorem ti233_ok : TIok Tryz.prog 233 ti233 := ⟨by kernel_rfl, by kernel_rfl, fun h => by cases h⟩
def ti234 : TI := ⟨.func, 1, 8, [.nilFunc], false⟩
theorem ti234_ok : TIok Tryz.prog 234 ti234 := ⟨by kernel_rfl, by kernel_rfl, fun h => by cases h⟩
def ti235 : TI := ⟨.int .i64, 1, 8, [.int .i64 0], false⟩
theorem ti235_ok : TIok Tryz.prog 235 ti235 := ⟨by kernel_rfl, by kernel_rfl, fun h => by cases h⟩
def ti237 : TI := ⟨.func, 1, 8, [.nilFunc], false⟩
theorem ti237_ok : TIok Tryz.prog 237 ti237 := ⟨by kernel_rfl, by kernel_rfl, fun h => by cases h⟩
def ti238 : TI := ⟨.func, 1, 8, [.nilFunc], false⟩
theorem ti238_ok : TIok Tryz.prog 238 ti238 := ⟨by kernel_rfl, by kernel_rfl, fun h => by cases h⟩
def ti239 : TI := ⟨.func, 1, 8, [.nilFunc], false⟩
theorem ti239_ok : TIok Tryz.prog 239 ti239 := ⟨by kernel_rfl, by kernel_rfl, fun h => by cases h⟩
def ti240 : TI := ⟨.func, 1, 8, [.nilFunc], false⟩
theorem ti240_ok : TIok Tryz.prog 240 ti240 := ⟨by kernel_rfl, by kernel_rfl, fun h => by cases h⟩
def ti241 : TI := ⟨.func, 1, 8, [.nilFunc], false⟩
theorem ti241_ok : TIok Tryz.prog 241 ti241 := ⟨by kernel_rfl, by kernel_rfl, fun h => by cases h⟩
def ti242 : TI := ⟨.int .u32, 1, 4, [.int .u32 0], false⟩
theorem ti242_ok : TIok Tryz.prog 242 ti242 := ⟨by kernel_rfl, by kernel_rfl, fun h => by cases h⟩
def ti243 : TI := ⟨.func, 1, 8, [.nilFunc], false⟩
theorem ti243_ok : TIok Tryz.prog 243 ti243 := ⟨by kernel_rfl, by kernel_rfl, fun h => by cases h⟩
def ti245 : TI := ⟨.func, 1, 8, [.nilFunc], false⟩
theorem ti245_ok : TIok Tryz.prog 245 ti245 := ⟨by kernel_rfl, by kernel_rfl, fun h => by cases h⟩
def ti246 : TI := ⟨.func, 1, 8, [.nilFunc], false⟩
theorem ti246_ok : TIok Tryz.prog 246 ti246 := ⟨by kernel_rfl, by kernel_rfl, fun h => by cases h⟩
def ti247 : TI := ⟨.func, 1, 8, [.nilFunc], false⟩
theorem ti247_ok : TIok Tryz.prog 247 ti247 := ⟨by kernel_rfl, by kernel_rfl, fun h => by cases h⟩
def ti248 : TI := ⟨.func, 1, 8, [.nilFunc], false⟩
theorem ti248_ok : TIok Tryz.prog 248 ti248 := ⟨by kernel_rfl, by kernel_rfl, fun h => by cases h⟩
def ti249 : TI := ⟨.slice 121, 1, 24, [.slice none 0 0], false⟩
theorem ti249_ok : TIok Tryz.prog 249 ti249 := ⟨by kernel_rfl, by kernel_rfl, fun h => by cases h⟩
def ti250 : TI := ⟨.struct [(0, 22), (1, 3), (2, 249)], 3, 56, [.slice none 0 0, .int .i64 0, .slice none 0 0], false⟩
theorem ti250_ok : TIok Tryz.prog 250 ti250 := ⟨by kernel_rfl, by kernel_rfl, fun h => by cases h⟩
def ti251 : TI := ⟨.struct [(0, 22), (1, 3), (2, 249)], 3, 56, [.slice none 0 0, .int .i64 0, .slice none 0 0], false⟩
theorem ti251_ok : TIok Tryz.prog 251 ti251 := ⟨by kernel_rfl, by kernel_rfl, fun h => by cases h⟩
def ti252 : TI := ⟨.func, 1, 8, [.nilFunc], false⟩
theorem ti252_ok : TIok Tryz.prog 252 ti252 := ⟨by kernel_rfl, by kernel_rfl, fun h => by cases h⟩
def ti253 : TI := ⟨.func, 1, 8, [.nilFunc], false⟩
theorem ti253_ok : TIok Tryz.prog 253 ti253 := ⟨by kernel_rfl, by kernel_rfl, fun h => by cases h⟩
def ti254 : TI := ⟨.func, 1, 8, [.nilFunc], false⟩
theorem ti254_ok : TIok Tryz.prog 254 ti254 := ⟨by kernel_rfl, by kernel_rfl, fun h => by cases h⟩
def ti255 : TI := ⟨.func, 1, 8, [.nilFunc], false⟩
theorem ti255_ok : TIok Tryz.prog 255 ti255 := ⟨by kernel_rfl, by kernel_rfl, fun h => by cases h⟩
def ti257 : TI := ⟨.func, 1, 8, [.nilFunc], false⟩
theorem ti257_ok : TIok Tryz.prog 257 ti257 := ⟨by kernel_rfl, by kernel_rfl, fun h => by cases h⟩
def ti258 : TI := ⟨.func, 1, 8, [.nilFunc], false⟩
theorem ti258_ok : TIok Tryz.prog 258 ti258 := ⟨by kernel_rfl, by kernel_rfl, fun h => by cases h⟩
def ti259 : TI := ⟨.func, 1, 8, [.nilFunc], false⟩
theorem ti259_ok : TIok Tryz.prog 259 ti259 := ⟨by kernel_rfl, by kernel_rfl, fun h => by cases h⟩
def ti260 : TI := ⟨.func, 1, 8, [.nilFunc], false⟩
theorem ti260_ok : TIok Tryz.prog 260 ti260 := ⟨by kernel_rfl, by kernel_rfl, fun h => by cases h⟩
def ti261 : TI := ⟨.func, 1, 8, [.nilFunc], false⟩
theorem ti261_ok : TIok Tryz.prog 261 ti261 := ⟨by kernel_rfl, by kernel_rfl, fun h => by cases h⟩
def ti262 : TI := ⟨.func, 1, 8, [.nilFunc], false⟩
theorem ti262_ok : TIok Tryz.prog 262 ti262 := ⟨by kernel_rfl, by kernel_rfl, fun h => by cases h⟩
def ti263 : TI := ⟨.struct [(0, 4), (1, 2), (2, 2), (3, 2)], 4, 32, [.bool false, .int .i64 0, .int .i64 0, .int .i64 0], true⟩
theorem ti263_ok : TIok Tryz.prog 263 ti263 := ⟨by kernel_rfl, by kernel_rfl, fun _ => ⟨by kernel_rfl, by kernel_rfl, by kernel_rfl⟩⟩
def ti264 : TI := ⟨.struct [(0, 4), (1, 2), (2, 2), (3, 2)], 4, 32, [.bool false, .int .i64 0, .int .i64 0, .int .i64 0], true⟩
theorem ti264_ok : TIok Tryz.prog 264 ti264 := ⟨by kernel_rfl, by kernel_rfl, fun _ => ⟨by kernel_rfl, by kernel_rfl, by kernel_rfl⟩⟩
def ti265 : TI := ⟨.func, 1, 8, [.nilFunc], false⟩
theorem ti265_ok : TIok Tryz.prog 265 ti265 := ⟨by kernel_rfl, by kernel_rfl, fun h => by cases h⟩
def ti266 : TI := ⟨.func, 1, 8, [.nilFunc], false⟩
theorem ti266_ok : TIok Tryz.prog 266 ti266 := ⟨by kernel_rfl, by kernel_rfl, fun h => by cases h⟩
def ti267 : TI := ⟨.func, 1, 8, [.nilFunc], false⟩
theorem ti267_ok : TIok Tryz.prog 267 ti267 := ⟨by kernel_rfl, by kernel_rfl, fun h => by cases h⟩
def ti268 : TI := ⟨.func, 1, 8, [.nilFunc], false⟩
theorem ti268_ok : TIok Tryz.prog 268 ti268 := ⟨by kernel_rfl, by kernel_rfl, fun h => by cases h⟩
def ti269 : TI := ⟨.func, 1, 8, [.nilFunc], false⟩
theorem ti269_ok : TIok Tryz.prog 269 ti269 := ⟨by kernel_rfl, by kernel_rfl, fun h => by cases h⟩
def ti270 : TI := ⟨.func, 1, 8, [.nilFunc], false⟩
theorem ti270_ok : TIok Tryz.prog 270 ti270 := ⟨by kernel_rfl, by kernel_rfl, fun h => by cases h⟩
def ti271 : TI := ⟨.func, 1, 8, [.nilFunc], false⟩
theorem ti271_ok : TIok Tryz.prog 271 ti271 := ⟨by kernel_rfl, by kernel_rfl, fun h => by cases h⟩
def ti272 : TI := ⟨.func, 1, 8, [.nilFunc], false⟩
theorem ti272_ok : TIok Tryz.prog 272 ti272 := ⟨by kernel_rfl, by kernel_rfl, fun h => by cases h⟩
def ti273 : TI := ⟨.struct [(0, 3), (1, 5), (2, 3), (3, 67), (4, 67), (5, 4)], 6, 48, [.int .i64 0, .int .u8 0, .int .i64 0, .int .u64 0, .int .u64 0, .bool false], true⟩
theorem ti273_ok : TIok Tryz.prog 273 ti273 := ⟨by kernel_rfl, by kernel_rfl, fun _ => ⟨by kernel_rfl, by kernel_rfl, by kernel_rfl⟩⟩
def ti274 : TI := ⟨.struct [(0, 3), (1, 5), (2, 3), (3, 67), (4, 67), (5, 4)], 6, 48, [.int .i64 0, .int .u8 0, .int .i64 0, .int .u64 0, .int .u64 0, .bool false], true⟩
theorem ti274_ok : TIok Tryz.prog 274 ti274 := ⟨by kernel_rfl, by kernel_rfl, fun _ => ⟨by kernel_rfl, by kernel_rfl, by kernel_rfl⟩⟩
def ti275 : TI := ⟨.ptr 53, 1, 8, [.pointer none], false⟩
theorem ti275_ok : TIok Tryz.prog 275 ti275 := ⟨by kernel_rfl, by kernel_rfl, fun h => by cases h⟩
def ti276 : TI := ⟨.int .u64, 1, 8, [.int .u64 0], false⟩
theorem ti276_ok : TIok Tryz.prog 276 ti276 := ⟨by kernel_rfl, by kernel_rfl, fun h => by cases h⟩
def ti277 : TI := ⟨.func, 1, 8, [.nilFunc], false⟩
theorem ti277_ok : TIok Tryz.prog 277 ti277 := ⟨by kernel_rfl, by kernel_rfl, fun h => by cases h⟩
def ti278 : TI := ⟨.func, 1, 8, [.nilFunc], false⟩
theorem ti278_ok : TIok Tryz.prog 278 ti278 := ⟨by kernel_rfl, by kernel_rfl, fun h => by cases h⟩
def ti279 : TI := ⟨.func, 1, 8, [.nilFunc], false⟩
theorem ti279_ok : TIok Tryz.prog 279 ti279 := ⟨by kernel_rfl, by kernel_rfl, fun h => by cases h⟩
def ti280 : TI := ⟨.ptr 3, 1, 8, [.pointer none], false⟩
theorem ti280_ok : TIok Tryz.prog 280 ti280 := ⟨by kernel_rfl, by kernel_rfl, fun h => by cases h⟩
def ti281 : TI := ⟨.func, 1, 8, [.nilFunc], false⟩
theorem ti281_ok : TIok Tryz.prog 281 ti281 := ⟨by kernel_rfl, by kernel_rfl, fun h => by cases h⟩
def ti282 : TI := ⟨.func, 1, 8, [.nilFunc], false⟩
theorem ti282_ok : TIok Tryz.prog 282 ti282 := ⟨by kernel_rfl, by kernel_rfl, fun h => by cases h⟩
def ti283 : TI := ⟨.func, 1, 8, [.nilFunc], false⟩
theorem ti283_ok : TIok Tryz.prog 283 ti283 := ⟨by kernel_rfl, by kernel_rfl, fun h => by cases h⟩
def ti284 : TI := ⟨.func, 1, 8, [.nilFunc], false⟩
theorem ti284_ok : TIok Tryz.prog 284 ti284 := ⟨by kernel_rfl, by kernel_rfl, fun h => by cases h⟩
def ti286 : TI := ⟨.func, 1, 8, [.nilFunc], false⟩
theorem ti286_ok : TIok Tryz.prog 286 ti286 := ⟨by kernel_rfl, by kernel_rfl, fun h => by cases h⟩
def ti287 : TI := ⟨.func, 1, 8, [.nilFunc], false⟩
theorem ti287_ok : TIok Tryz.prog 287 ti287 := ⟨by kernel_rfl, by kernel_rfl, fun h => by cases h⟩
def ti288 : TI := ⟨.struct [(0, 4), (1, 2), (2, 2), (3, 2)], 4, 32, [.bool false, .int .i64 0, .int .i64 0, .int .i64 0], true⟩
theorem ti288_ok : TIok Tryz.prog 288 ti288 := ⟨by kernel_rfl, by kernel_rfl, fun _ => ⟨by kernel_rfl, by kernel_rfl, by kernel_rfl⟩⟩
def ti290 : TI := ⟨.func, 1, 8, [.nilFunc], false⟩
theorem ti290_ok : TIok Tryz.prog 290 ti290 := ⟨by kernel_rfl, by kernel_rfl, fun h => by cases h⟩
def ti291 : TI := ⟨.struct [(0, 3), (1, 119)], 2, 32, [.int .i64 0, .slice none 0 0], false⟩
theorem ti291_ok : TIok Tryz.prog 291 ti291 := ⟨by kernel_rfl, by kernel_rfl, fun h => by cases h⟩
def ti292 : TI := ⟨.struct [(0, 3), (1, 119)], 2, 32, [.int .i64 0, .slice none 0 0], false⟩
theorem ti292_ok : TIok Tryz.prog 292 ti292 := ⟨by kernel_rfl, by kernel_rfl, fun h => by cases h⟩
def ti294 : TI := ⟨.func, 1, 8, [.nilFunc], false⟩
theorem ti294_ok : TIok Tryz.prog 294 ti294 := ⟨by kernel_rfl, by kernel_rfl, fun h => by cases h⟩
def ti295 : TI := ⟨.func, 1, 8, [.nilFunc], false⟩
theorem ti295_ok : TIok Tryz.prog 295 ti295 := ⟨by kernel_rfl, by kernel_rfl, fun h => by cases h⟩
def ti296 : TI := ⟨.func, 1, 8, [.nilFunc], false⟩
theorem ti296_ok : TIok Tryz.prog 296 ti296 := ⟨by kernel_rfl, by kernel_rfl, fun h => by cases h⟩
def ti297 : TI := ⟨.func, 1, 8, [.nilFunc], false⟩
theorem ti297_ok : TIok Tryz.prog 297 ti297 := ⟨by kernel_rfl, by kernel_rfl, fun h => by cases h⟩
def ti298 : TI := ⟨.func, 1, 8, [.nilFunc], false⟩
theorem ti298_ok : TIok Tryz.prog 298 ti298 := ⟨by kernel_rfl, by kernel_rfl, fun h => by cases h⟩
def ti299 : TI := ⟨.func, 1, 8, [.nilFunc], false⟩
theorem ti299_ok : TIok Tryz.prog 299 ti299 := ⟨by kernel_rfl, by kernel_rfl, fun h => by cases h⟩
def ti300 : TI := ⟨.func, 1, 8, [.nilFunc], false⟩
theorem ti300_ok : TIok Tryz.prog 300 ti300 := ⟨by kernel_rfl, by kernel_rfl, fun h => by cases h⟩
def ti301 : TI := ⟨.ptr 276, 1, 8, [.pointer none], false⟩
theorem ti301_ok : TIok Tryz.prog 301 ti301 := ⟨by kernel_rfl, by kernel_rfl, fun h => by cases h⟩
def ti303 : TI := ⟨.func, 1, 8, [.nilFunc], false⟩
theorem ti303_ok : TIok Tryz.prog 303 ti303 := ⟨by kernel_rfl, by kernel_rfl, fun h => by cases h⟩
def ti304 : TI := ⟨.func, 1, 8, [.nilFunc], false⟩
theorem ti304_ok : TIok Tryz.prog 304 ti304 := ⟨by kernel_rfl, by kernel_rfl, fun h => by cases h⟩
def ti305 : TI := ⟨.func, 1, 8, [.nilFunc], false⟩
theorem ti305_ok : TIok Tryz.prog 305 ti305 := ⟨by kernel_rfl, by kernel_rfl, fun h => by cases h⟩
def ti306 : TI := ⟨.func, 1, 8, [.nilFunc], false⟩
theorem ti306_ok : TIok Tryz.prog 306 ti306 := ⟨by kernel_rfl, by kernel_rfl, fun h => by cases h⟩
def ti307 : TI := ⟨.func, 1, 8, [.nilFunc], false⟩
theorem ti307_ok : TIok Tryz.prog 307 ti307 := ⟨by kernel_rfl, by kernel_rfl, fun h => by cases h⟩
def ti308 : TI := ⟨.func, 1, 8, [.nilFunc], false⟩
theorem ti308_ok : TIok Tryz.prog 308 ti308 := ⟨by kernel_rfl, by kernel_rfl, fun h => by cases h⟩
def ti309 : TI := ⟨.func, 1, 8, [.nilFunc], false⟩
theorem ti309_ok : TIok Tryz.prog 309 ti309 := ⟨by kernel_rfl, by kernel_rfl, fun h => by cases h⟩
def ti310 : TI := ⟨.func, 1, 8, [.nilFunc], false⟩
theorem ti310_ok : TIok Tryz.prog 310 ti310 := ⟨by kernel_rfl, by kernel_rfl, fun h => by cases h⟩
def ti311 : TI := ⟨.func, 1, 8, [.nilFunc], false⟩
theorem ti311_ok : TIok Tryz.prog 311 ti311 := ⟨by kernel_rfl, by kernel_rfl, fun h => by cases h⟩
def ti312 : TI := ⟨.func, 1, 8, [.nilFunc], false⟩
theorem ti312_ok : TIok Tryz.prog 312 ti312 := ⟨by kernel_rfl, by kernel_rfl, fun h => by cases h⟩
def ti313 : TI := ⟨.func, 1, 8, [.nilFunc], false⟩
theorem ti313_ok : TIok Tryz.prog 313 ti313 := ⟨by kernel_rfl, by kernel_rfl, fun h => by cases h⟩
def ti314 : TI := ⟨.func, 1, 8, [.nilFunc], false⟩
theorem ti314_ok : TIok Tryz.prog 314 ti314 := ⟨by kernel_rfl, by kernel_rfl, fun h => by cases h⟩
def ti315 : TI := ⟨.func, 1, 8, [.nilFunc], false⟩
theorem ti315_ok : TIok Tryz.prog 315 ti315 := ⟨by kernel_rfl, by kernel_rfl, fun h => by cases h⟩
def ti316 : TI := ⟨.func, 1, 8, [.nilFunc], false⟩
theorem ti316_ok : TIok Tryz.prog 316 ti316 := ⟨by kernel_rfl, by kernel_rfl, fun h => by cases h⟩
def ti317 : TI := ⟨.func, 1, 8, [.nilFunc], false⟩
theorem ti317_ok : TIok Tryz.prog 317 ti317 := ⟨by kernel_rfl, by kernel_rfl, fun h => by cases h⟩
def ti318 : TI := ⟨.func, 1, 8, [.nilFunc], false⟩
theorem ti318_ok : TIok Tryz.prog 318 ti318 := ⟨by kernel_rfl, by kernel_rfl, fun h => by cases h⟩
def ti319 : TI := ⟨.func, 1, 8, [.nilFunc], false⟩
theorem ti319_ok : TIok Tryz.prog 319 ti319 := ⟨by kernel_rfl, by kernel_rfl, fun h => by cases h⟩
def ti321 : TI := ⟨.func, 1, 8, [.nilFunc], false⟩
theorem ti321_ok : TIok Tryz.prog 321 ti321 := ⟨by kernel_rfl, by kernel_rfl, fun h => by cases h⟩
def ti322 : TI := ⟨.func, 1, 8, [.nilFunc], false⟩
theorem ti322_ok : TIok Tryz.prog 322 ti322 := ⟨by kernel_rfl, by kernel_rfl, fun h => by cases h⟩
def ti324 : TI := ⟨.func, 1, 8, [.nilFunc], false⟩
theorem ti324_ok : TIok Tryz.prog 324 ti324 := ⟨by kernel_rfl, by kernel_rfl, fun h => by cases h⟩
def ti325 : TI := ⟨.func, 1, 8, [.nilFunc], false⟩
theorem ti325_ok : TIok Tryz.prog 325 ti325 := ⟨by kernel_rfl, by kernel_rfl, fun h => by cases h⟩
def ti326 : TI := ⟨.func, 1, 8, [.nilFunc], false⟩
theorem ti326_ok : TIok Tryz.prog 326 ti326 := ⟨by kernel_rfl, by kernel_rfl, fun h => by cases h⟩
def ti327 : TI := ⟨.struct [(0, 17), (1, 17), (2, 17), (3, 9)], 4, 40, [.pointer none, .pointer none, .pointer none, .string ⟨#[]⟩], false⟩
theorem ti327_ok : TIok Tryz.prog 327 ti327 := ⟨by kernel_rfl, by kernel_rfl, fun h => by cases h⟩
def ti328 : TI := ⟨.struct [(0, 17), (1, 17), (2, 17), (3, 9)], 4, 40, [.pointer none, .pointer none, .pointer none, .string ⟨#[]⟩], false⟩
theorem ti328_ok : TIok Tryz.prog 328 ti328 := ⟨by kernel_rfl, by kernel_rfl, fun h => by cases h⟩
def ti329 : TI := ⟨.array 0 16, 0, 0, [], false⟩
theorem ti329_ok : TIok Tryz.prog 329 ti329 := ⟨by kernel_rfl, by kernel_rfl, fun h => by cases h⟩
def ti330 : TI := ⟨.struct [(0, 329)], 0, 0, [], false⟩
theorem ti330_ok : TIok Tryz.prog 330 ti330 := ⟨by kernel_rfl, by kernel_rfl, fun h => by cases h⟩
def ti331 : TI := ⟨.struct [(0, 329)], 0, 0, [], false⟩
theorem ti331_ok : TIok Tryz.prog 331 ti331 := ⟨by kernel_rfl, by kernel_rfl, fun h => by cases h⟩
def ti332 : TI := ⟨.int .u8, 1, 1, [.int .u8 0], false⟩
theorem ti332_ok : TIok Tryz.prog 332 ti332 := ⟨by kernel_rfl, by kernel_rfl, fun h => by cases h⟩
def ti333 : TI := ⟨.int .u8, 1, 1, [.int .u8 0], false⟩
theorem ti333_ok : TIok Tryz.prog 333 ti333 := ⟨by kernel_rfl, by kernel_rfl, fun h => by cases h⟩
def ti334 : TI := ⟨.func, 1, 8, [.nilFunc], false⟩
theorem ti334_ok : TIok Tryz.prog 334 ti334 := ⟨by kernel_rfl, by kernel_rfl, fun h => by cases h⟩
def ti335 : TI := ⟨.ptr 5, 1, 8, [.pointer none], false⟩
theorem ti335_ok : TIok Tryz.prog 335 ti335 := ⟨by kernel_rfl, by kernel_rfl, fun h => by cases h⟩
def ti336 : TI := ⟨.int .i32, 1, 4, [.int .i32 0], false⟩
theorem ti336_ok : TIok Tryz.prog 336 ti336 := ⟨by kernel_rfl, by kernel_rfl, fun h => by cases h⟩
def ti337 : TI := ⟨.int .i32, 1, 4, [.int .i32 0], false⟩
theorem ti337_ok : TIok Tryz.prog 337 ti337 := ⟨by kernel_rfl, by kernel_rfl, fun h => by cases h⟩
def ti338 : TI := ⟨.struct [(0, 12), (1, 12), (2, 242), (3, 332), (4, 5), (5, 5), (6, 333), (7, 334), (8, 335), (9, 336), (10, 337)], 11, 48, [.int .u64 0, .int .u64 0, .int .u32 0, .int .u8 0, .int .u8 0, .int .u8 0, .int .u8 0, .nilFunc, .pointer none, .int .i32 0, .int .i32 0], false⟩
theorem ti338_ok : TIok Tryz.prog 338 ti338 := ⟨by kernel_rfl, by kernel_rfl, fun h => by cases h⟩
def ti339 : TI := ⟨.struct [(0, 12), (1, 12), (2, 242), (3, 332), (4, 5), (5, 5), (6, 333), (7, 334), (8, 335), (9, 336), (10, 337)], 11, 48, [.int .u64 0, .int .u64 0, .int .u32 0, .int .u8 0, .int .u8 0, .int .u8 0, .int .u8 0, .nilFunc, .pointer none, .int .i32 0, .int .i32 0], false⟩
theorem ti339_ok : TIok Tryz.prog 339 ti339 := ⟨by kernel_rfl, by kernel_rfl, fun h => by cases h⟩
def tyTree : TyTree := .node (.node (.node (.node (.node (.node (.node (.node (.node (.leaf) 1 ti1 (.leaf)) 2 ti2 (.leaf)) 3 ti3 (.node (.leaf) 4 ti4 (.leaf))) 5 ti5 (.node (.node (.node (.leaf) 6 ti6 (.leaf)) 7 ti7 (.leaf)) 8 ti8 (.node (.leaf) 9 ti9 (.leaf)))) 10 ti10 (.node (.node (.node (.node (.leaf) 11 ti11 (.leaf)) 12 ti12 (.leaf)) 13 ti13 (.node (.leaf) 14 ti14 (.leaf))) 15 ti15 (.node (.node (.node (.leaf) 16 ti16 (.leaf)) 17 ti17 (.leaf)) 18 ti18 (.node (.leaf) 19 ti19 (.leaf))))) 20 ti20 (.node (.node (.node (.node (.node (.leaf) 21 ti21 (.leaf)) 22 ti22 (.leaf)) 23 ti23 (.node (.leaf) 24 ti24 (.leaf))) 25 ti25 (.node (.node (.node (.leaf) 26 ti26 (.leaf)) 27 ti27 (.leaf)) 29 ti29 (.node (.leaf) 31 ti31 (.leaf)))) 32 ti32 (.node (.node (.node (.node (.leaf) 33 ti33 (.leaf)) 34 ti34 (.leaf)) 35 ti35 (.node (.leaf) 36 ti36 (.leaf))) 37 ti37 (.node (.node (.node (.leaf) 38 ti38 (.leaf)) 39 ti39 (.leaf)) 40 ti40 (.node (.leaf) 41 ti41 (.leaf)))))) 42 ti42 (.node (.node (.node (.node (.node (.node (.leaf) 43 ti43 (.leaf)) 44 ti44 (.leaf)) 45 ti45 (.node (.leaf) 46 ti46 (.leaf))) 47 ti47 (.node (.node (.node (.leaf) 49 ti49 (.leaf)) 50 ti50 (.leaf)) 51 ti51 (.node (.leaf) 52 ti52 (.leaf)))) 53 ti53 (.node (.node (.node (.node (.leaf) 55 ti55 (.leaf)) 56 ti56 (.leaf)) 57 ti57 (.node (.leaf) 59 ti59 (.leaf))) 60 ti60 (.node (.node (.node (.leaf) 62 ti62 (.leaf)) 63 ti63 (.leaf)) 64 ti64 (.node (.leaf) 65 ti65 (.leaf))))) 66 ti66 (.node (.node (.node (.node (.node (.leaf) 67 ti67 (.leaf)) 68 ti68 (.leaf)) 69 ti69 (.node (.leaf) 70 ti70 (.leaf))) 71 ti71 (.node (.node (.node (.leaf) 72 ti72 (.leaf)) 73 ti73 (.leaf)) 74 ti74 (.node (.leaf) 75 ti75 (.leaf)))) 76 ti76 (.node (.node (.node (.node (.leaf) 77 ti77 (.leaf)) 78 ti78 (.leaf)) 79 ti79 (.node (.leaf) 80 ti80 (.leaf))) 81 ti81 (.node (.node (.leaf) 82 ti82 (.leaf)) 83 ti83 (.node (.leaf) 84 ti84 (.leaf))))))) 85 ti85 (.node (.node (.node (.node (.node (.node (.node (.leaf) 86 ti86 (.leaf)) 87 ti87 (.leaf)) 88 ti88 (.node (.leaf) 89 ti89 (.leaf))) 90 ti90 (.node (.node (.node (.leaf) 91 ti91 (.leaf)) 93 ti93 (.leaf)) 95 ti95 (.node (.leaf) 96 ti96 (.leaf)))) 97 ti97 (.node (.node (.node (.node (.leaf) 98 ti98 (.leaf)) 99 ti99 (.leaf)) 100 ti100 (.node (.leaf) 102 ti102 (.leaf))) 103 ti103 (.node (.node (.node (.leaf) 104 ti104 (.leaf)) 105 ti105 (.leaf)) 106 ti106 (.node (.leaf) 107 ti107 (.leaf))))) 108 ti108 (.node (.node (.node (.node (.node (.leaf) 109 ti109 (.leaf)) 110 ti110 (.leaf)) 111 ti111 (.node (.leaf) 112 ti112 (.leaf))) 113 ti113 (.node (.node (.node (.leaf) 114 ti114 (.leaf)) 115 ti115 (.leaf)) 116 ti116 (.node (.leaf) 117 ti117 (.leaf)))) 118 ti118 (.node (.node (.node (.node (.leaf) 119 ti119 (.leaf)) 120 ti120 (.leaf)) 121 ti121 (.node (.leaf) 122 ti122 (.leaf))) 123 ti123 (.node (.node (.leaf) 124 ti124 (.leaf)) 125 ti125 (.node (.leaf) 126 ti126 (.leaf)))))) 127 ti127 (.node (.node (.node (.node (.node (.node (.leaf) 128 ti128 (.leaf)) 129 ti129 (.leaf)) 130 ti130 (.node (.leaf) 131 ti131 (.leaf))) 132 ti132 (.node (.node (.node (.leaf) 133 ti133 (.leaf)) 134 ti134 (.leaf)) 135 ti135 (.node (.leaf) 136 ti136 (.leaf)))) 137 ti137 (.node (.node (.node (.node (.leaf) 138 ti138 (.leaf)) 139 ti139 (.leaf)) 140 ti140 (.node (.leaf) 141 ti141 (.leaf))) 142 ti142 (.node (.node (.node (.leaf) 143 ti143 (.leaf)) 144 ti144 (.leaf)) 145 ti145 (.node (.leaf) 146 ti146 (.leaf))))) 147 ti147 (.node (.node (.node (.node (.node (.leaf) 148 ti148 (.leaf)) 149 ti149 (.leaf)) 150 ti150 (.node (.leaf) 151 ti151 (.leaf))) 152 ti152 (.node (.node (.node (.leaf) 153 ti153 (.leaf)) 154 ti154 (.leaf)) 155 ti155 (.node (.leaf) 156 ti156 (.leaf)))) 157 ti157 (.node (.node (.node (.node (.leaf) 158 ti158 (.leaf)) 159 ti159 (.leaf)) 160 ti160 (.node (.leaf) 161 ti161 (.leaf))) 162 ti162 (.node (.node (.leaf) 163 ti163 (.leaf)) 164 ti164 (.node (.leaf) 165 ti165 (.leaf)))))))) 166 ti166 (.node (.node (.node (.node (.node (.node (.node (.node (.leaf) 167 ti167 (.leaf)) 169 ti169 (.leaf)) 170 ti170 (.node (.leaf) 171 ti171 (.leaf))) 172 ti172 (.node (.node (.node (.leaf) 173 ti173 (.leaf)) 174 ti174 (.leaf)) 175 ti175 (.node (.leaf) 177 ti177 (.leaf)))) 178 ti178 (.node (.node (.node (.node (.leaf) 179 ti179 (.leaf)) 180 ti180 (.leaf)) 182 ti182 (.node (.leaf) 184 ti184 (.leaf))) 185 ti185 (.node (.node (.node (.leaf) 186 ti186 (.leaf)) 187 ti187 (.leaf)) 188 ti188 (.node (.leaf) 189 ti189 (.leaf))))) 190 ti190 (.node (.node (.node (.node (.node (.leaf) 191 ti191 (.leaf)) 192 ti192 (.leaf)) 194 ti194 (.node (.leaf) 195 ti195 (.leaf))) 196 ti196 (.node (.node (.node (.leaf) 197 ti197 (.leaf)) 198 ti198 (.leaf)) 199 ti199 (.node (.leaf) 200 ti200 (.leaf)))) 201 ti201 (.node (.node (.node (.node (.leaf) 202 ti202 (.leaf)) 203 ti203 (.leaf)) 204 ti204 (.node (.leaf) 205 ti205 (.leaf))) 206 ti206 (.node (.node (.leaf) 207 ti207 (.leaf)) 208 ti208 (.node (.leaf) 209 ti209 (.leaf)))))) 210 ti210 (.node (.node (.node (.node (.node (.node (.leaf) 211 ti211 (.leaf)) 213 ti213 (.leaf)) 214 ti214 (.node (.leaf) 216 ti216 (.leaf))) 218 ti218 (.node (.node (.node (.leaf) 219 ti219 (.leaf)) 221 ti221 (.leaf)) 222 ti222 (.node (.leaf) 223 ti223 (.leaf)))) 224 ti224 (.node (.node (.node (.node (.leaf) 225 ti225 (.leaf)) 226 ti226 (.leaf)) 227 ti227 (.node (.leaf) 228 ti228 (.leaf))) 229 ti229 (.node (.node (.node (.leaf) 230 ti230 (.leaf)) 231 ti231 (.leaf)) 232 ti232 (.node (.leaf) 233 ti233 (.leaf))))) 234 ti234 (.node (.node (.node (.node (.node (.leaf) 235 ti235 (.leaf)) 237 ti237 (.leaf)) 238 ti238 (.node (.leaf) 239 ti239 (.leaf))) 240 ti240 (.node (.node (.node (.leaf) 241 ti241 (.leaf)) 242 ti242 (.leaf)) 243 ti243 (.node (.leaf) 245 ti245 (.leaf)))) 246 ti246 (.node (.node (.node (.node (.leaf) 247 ti247 (.leaf)) 248 ti248 (.leaf)) 249 ti249 (.node (.leaf) 250 ti250 (.leaf))) 251 ti251 (.node (.node (.leaf) 252 ti252 (.leaf)) 253 ti253 (.node (.leaf) 254 ti254 (.leaf))))))) 255 ti255 (.node (.node (.node (.node (.node (.node (.node (.leaf) 257 ti257 (.leaf)) 258 ti258 (.leaf)) 259 ti259 (.node (.leaf) 260 ti260 (.leaf))) 261 ti261 (.node (.node (.node (.leaf) 262 ti262 (.leaf)) 263 ti263 (.leaf)) 264 ti264 (.node (.leaf) 265 ti265 (.leaf)))) 266 ti266 (.node (.node (.node (.node (.leaf) 267 ti267 (.leaf)) 268 ti268 (.leaf)) 269 ti269 (.node (.leaf) 270 ti270 (.leaf))) 271 ti271 (.node (.node (.node (.leaf) 272 ti272 (.leaf)) 273 ti273 (.leaf)) 274 ti274 (.node (.leaf) 275 ti275 (.leaf))))) 276 ti276 (.node (.node (.node (.node (.node (.leaf) 277 ti277 (.leaf)) 278 ti278 (.leaf)) 279 ti279 (.node (.leaf) 280 ti280 (.leaf))) 281 ti281 (.node (.node (.node (.leaf) 282 ti282 (.leaf)) 283 ti283 (.leaf)) 284 ti284 (.node (.leaf) 286 ti286 (.leaf)))) 287 ti287 (.node (.node (.node (.node (.leaf) 288 ti288 (.leaf)) 290 ti290 (.leaf)) 291 ti291 (.node (.leaf) 292 ti292 (.leaf))) 294 ti294 (.node (.node (.leaf) 295 ti295 (.leaf)) 296 ti296 (.node (.leaf) 297 ti297 (.leaf)))))) 298 ti298 (.node (.node (.node (.node (.node (.node (.leaf) 299 ti299 (.leaf)) 300 ti300 (.leaf)) 301 ti301 (.node (.leaf) 303 ti303 (.leaf))) 304 ti304 (.node (.node (.node (.leaf) 305 ti305 (.leaf)) 306 ti306 (.leaf)) 307 ti307 (.node (.leaf) 308 ti308 (.leaf)))) 309 ti309 (.node (.node (.node (.node (.leaf) 310 ti310 (.leaf)) 311 ti311 (.leaf)) 312 ti312 (.node (.leaf) 313 ti313 (.leaf))) 314 ti314 (.node (.node (.node (.leaf) 315 ti315 (.leaf)) 316 ti316 (.leaf)) 317 ti317 (.node (.leaf) 318 ti318 (.leaf))))) 319 ti319 (.node (.node (.node (.node (.node (.leaf) 321 ti321 (.leaf)) 322 ti322 (.leaf)) 324 ti324 (.node (.leaf) 325 ti325 (.leaf))) 326 ti326 (.node (.node (.node (.leaf) 327 ti327 (.leaf)) 328 ti328 (.leaf)) 329 ti329 (.node (.leaf) 330 ti330 (.leaf)))) 331 ti331 (.node (.node (.node (.node (.leaf) 332 ti332 (.leaf)) 333 ti333 (.leaf)) 334 ti334 (.node (.leaf) 335 ti335 (.leaf))) 336 ti336 (.node (.node (.leaf) 337 ti337 (.leaf)) 338 ti338 (.node (.leaf) 339 ti339 (.leaf))))))))
theorem tyTree_ok : tyTree.allP (TIok Tryz.prog) := ⟨⟨⟨⟨⟨⟨⟨⟨⟨trivial, ti1_ok, trivial⟩, ti2_ok, trivial⟩, ti3_ok, ⟨trivial, ti4_ok, trivial⟩⟩, ti5_ok, ⟨⟨⟨trivial, ti6_ok, trivial⟩, ti7_ok, trivial⟩, ti8_ok, ⟨trivial, ti9_ok, trivial⟩⟩⟩, ti10_ok, ⟨⟨⟨⟨trivial, ti11_ok, trivial⟩, ti12_ok, trivial⟩, ti13_ok, ⟨trivial, ti14_ok, trivial⟩⟩, ti15_ok, ⟨⟨⟨trivial, ti16_ok, trivial⟩, ti17_ok, trivial⟩, ti18_ok, ⟨trivial, ti19_ok, trivial⟩⟩⟩⟩, ti20_ok, ⟨⟨⟨⟨⟨trivial, ti21_ok, trivial⟩, ti22_ok, trivial⟩, ti23_ok, ⟨trivial, ti24_ok, trivial⟩⟩, ti25_ok, ⟨⟨⟨trivial, ti26_ok, trivial⟩, ti27_ok, trivial⟩, ti29_ok, ⟨trivial, ti31_ok, trivial⟩⟩⟩, ti32_ok, ⟨⟨⟨⟨trivial, ti33_ok, trivial⟩, ti34_ok, trivial⟩, ti35_ok, ⟨trivial, ti36_ok, trivial⟩⟩, ti37_ok, ⟨⟨⟨trivial, ti38_ok, trivial⟩, ti39_ok, trivial⟩, ti40_ok, ⟨trivial, ti41_ok, trivial⟩⟩⟩⟩⟩, ti42_ok, ⟨⟨⟨⟨⟨⟨trivial, ti43_ok, trivial⟩, ti44_ok, trivial⟩, ti45_ok, ⟨trivial, ti46_ok, trivial⟩⟩, ti47_ok, ⟨⟨⟨trivial, ti49_ok, trivial⟩, ti50_ok, trivial⟩, ti51_ok, ⟨trivial, ti52_ok, trivial⟩⟩⟩, ti53_ok, ⟨⟨⟨⟨trivial, ti55_ok, trivial⟩, ti56_ok, trivial⟩, ti57_ok, ⟨trivial, ti59_ok, trivial⟩⟩, ti60_ok, ⟨⟨⟨trivial, ti62_ok, trivial⟩, ti63_ok, trivial⟩, ti64_ok, ⟨trivial, ti65_ok, trivial⟩⟩⟩⟩, ti66_ok, ⟨⟨⟨⟨⟨trivial, ti67_ok, trivial⟩, ti68_ok, trivial⟩, ti69_ok, ⟨trivial, ti70_ok, trivial⟩⟩, ti71_ok, ⟨⟨⟨trivial, ti72_ok, trivial⟩, ti73_ok, trivial⟩, ti74_ok, ⟨trivial, ti75_ok, trivial⟩⟩⟩, ti76_ok, ⟨⟨⟨⟨trivial, ti77_ok, trivial⟩, ti78_ok, trivial⟩, ti79_ok, ⟨trivial, ti80_ok, trivial⟩⟩, ti81_ok, ⟨⟨trivial, ti82_ok, trivial⟩, ti83_ok, ⟨trivial, ti84_ok, trivial⟩⟩⟩⟩⟩⟩, ti85_ok, ⟨⟨⟨⟨⟨⟨⟨trivial, ti86_ok, trivial⟩, ti87_ok, trivial⟩, ti88_ok, ⟨trivial, ti89_ok, trivial⟩⟩, ti90_ok, ⟨⟨⟨trivial, ti91_ok, trivial⟩, ti93_ok, trivial⟩, ti95_ok, ⟨trivial, ti96_ok, trivial⟩⟩⟩, ti97_ok, ⟨⟨⟨⟨trivial, ti98_ok, trivial⟩, ti99_ok, trivial⟩, ti100_ok, ⟨trivial, ti102_ok, trivial⟩⟩, ti103_ok, ⟨⟨⟨trivial, ti104_ok, trivial⟩, ti105_ok, trivial⟩, ti106_ok, ⟨trivial, ti107_ok, trivial⟩⟩⟩⟩, ti108_ok, ⟨⟨⟨⟨⟨trivial, ti109_ok, trivial⟩, ti110_ok, trivial⟩, ti111_ok, ⟨trivial, ti112_ok, trivial⟩⟩, ti113_ok, ⟨⟨⟨trivial, ti114_ok, trivial⟩, ti115_ok, trivial⟩, ti116_ok, ⟨trivial, ti117_ok, trivial⟩⟩⟩, ti118_ok, ⟨⟨⟨⟨trivial, ti119_ok, trivial⟩, ti120_ok, trivial⟩, ti121_ok, ⟨trivial, ti122_ok, trivial⟩⟩, ti123_ok, ⟨⟨trivial, ti124_ok, trivial⟩, ti125_ok, ⟨trivial, ti126_ok, trivial⟩⟩⟩⟩⟩, ti127_ok, ⟨⟨⟨⟨⟨⟨trivial, ti128_ok, trivial⟩, ti129_ok, trivial⟩, ti130_ok, ⟨trivial, ti131_ok, trivial⟩⟩, ti132_ok, ⟨⟨⟨trivial, ti133_ok, trivial⟩, ti134_ok, trivial⟩, ti135_ok, ⟨trivial, ti136_ok, trivial⟩⟩⟩, ti137_ok, ⟨⟨⟨⟨trivial, ti138_ok, trivial⟩, ti139_ok, trivial⟩, ti140_ok, ⟨trivial, ti141_ok, trivial⟩⟩, ti142_ok, ⟨⟨⟨trivial, ti143_ok, trivial⟩, ti144_ok, trivial⟩, ti145_ok, ⟨trivial, ti146_ok, trivial⟩⟩⟩⟩, ti147_ok, ⟨⟨⟨⟨⟨trivial, ti148_ok, trivial⟩, ti149_ok, trivial⟩, ti150_ok, ⟨trivial, ti151_ok, trivial⟩⟩, ti152_ok, ⟨⟨⟨trivial, ti153_ok, trivial⟩, ti154_ok, trivial⟩, ti155_ok, ⟨trivial, ti156_ok, trivial⟩⟩⟩, ti157_ok, ⟨⟨⟨⟨trivial, ti158_ok, trivial⟩, ti159_ok, trivial⟩, ti160_ok, ⟨trivial, ti161_ok, trivial⟩⟩, ti162_ok, ⟨⟨trivial, ti163_ok, trivial⟩, ti164_ok, ⟨trivial, ti165_ok, trivial⟩⟩⟩⟩⟩⟩⟩, ti166_ok, ⟨⟨⟨⟨⟨⟨⟨⟨trivial, ti167_ok, trivial⟩, ti169_ok, trivial⟩, ti170_ok, ⟨trivial, ti171_ok, trivial⟩⟩, ti172_ok, ⟨⟨⟨trivial, ti173_ok, trivial⟩, ti174_ok, trivial⟩, ti175_ok, ⟨trivial, ti177_ok, trivial⟩⟩⟩, ti178_ok, ⟨⟨⟨⟨trivial, ti179_ok, trivial⟩, ti180_ok, trivial⟩, ti182_ok, ⟨trivial, ti184_ok, trivial⟩⟩, ti185_ok, ⟨⟨⟨trivial, ti186_ok, trivial⟩, ti187_ok, trivial⟩, ti188_ok, ⟨trivial, ti189_ok, trivial⟩⟩⟩⟩, ti190_ok, ⟨⟨⟨⟨⟨trivial, ti191_ok, trivial⟩, ti192_ok, trivial⟩, ti194_ok, ⟨trivial, ti195_ok, trivial⟩⟩, ti196_ok, ⟨⟨⟨trivial, ti197_ok, trivial⟩, ti198_ok, trivial⟩, ti199_ok, ⟨trivial, ti200_ok, trivial⟩⟩⟩, ti201_ok, ⟨⟨⟨⟨trivial, ti202_ok, trivial⟩, ti203_ok, trivial⟩, ti204_ok, ⟨trivial, ti205_ok, trivial⟩⟩, ti206_ok, ⟨⟨trivial, ti207_ok, trivial⟩, ti208_ok, ⟨trivial, ti209_ok, trivial⟩⟩⟩⟩⟩, ti210_ok, ⟨⟨⟨⟨⟨⟨trivial, ti211_ok, trivial⟩, ti213_ok, trivial⟩, ti214_ok, ⟨trivial, ti216_ok, trivial⟩⟩, ti218_ok, ⟨⟨⟨trivial, ti219_ok, trivial⟩, ti221_ok, trivial⟩, ti222_ok, ⟨trivial, ti223_ok, trivial⟩⟩⟩, ti224_ok, ⟨⟨⟨⟨trivial, ti225_ok, trivial⟩, ti226_ok, trivial⟩, ti227_ok, ⟨trivial, ti228_ok, trivial⟩⟩, ti229_ok, ⟨⟨⟨trivial, ti230_ok, trivial⟩, ti231_ok, trivial⟩, ti232_ok, ⟨trivial, ti233_ok, trivial⟩⟩⟩⟩, ti234_ok, ⟨⟨⟨⟨⟨trivial, ti235_ok, trivial⟩, ti237_ok, trivial⟩, ti238_ok, ⟨trivial, ti239_ok, trivial⟩⟩, ti240_ok, ⟨⟨⟨trivial, ti241_ok, trivial⟩, ti242_ok, trivial⟩, ti243_ok, ⟨trivial, ti245_ok, trivial⟩⟩⟩, ti246_ok, ⟨⟨⟨⟨trivial, ti247_ok, trivial⟩, ti248_ok, trivial⟩, ti249_ok, ⟨trivial, ti250_ok, trivial⟩⟩, ti251_ok, ⟨⟨trivial, ti252_ok, trivial⟩, ti253_ok, ⟨trivial, ti254_ok, trivial⟩⟩⟩⟩⟩⟩, ti255_ok, ⟨⟨⟨⟨⟨⟨⟨trivial, ti257_ok, trivial⟩, ti258_ok, trivial⟩, ti259_ok, ⟨trivial, ti260_ok, trivial⟩⟩, ti261_ok, ⟨⟨⟨trivial, ti262_ok, trivial⟩, ti263_ok, trivial⟩, ti264_ok, ⟨trivial, ti265_ok, trivial⟩⟩⟩, ti266_ok, ⟨⟨⟨⟨trivial, ti267_ok, trivial⟩, ti268_ok, trivial⟩, ti269_ok, ⟨trivial, ti270_ok, trivial⟩⟩, ti271_ok, ⟨⟨⟨trivial, ti272_ok, trivial⟩, ti273_ok, trivial⟩, ti274_ok, ⟨trivial, ti275_ok, trivial⟩⟩⟩⟩, ti276_ok, ⟨⟨⟨⟨⟨trivial, ti277_ok, trivial⟩, ti278_ok, trivial⟩, ti279_ok, ⟨trivial, ti280_ok, trivial⟩⟩, ti281_ok, ⟨⟨⟨trivial, ti282_ok, trivial⟩, ti283_ok, trivial⟩, ti284_ok, ⟨trivial, ti286_ok, trivial⟩⟩⟩, ti287_ok, ⟨⟨⟨⟨trivial, ti288_ok, trivial⟩, ti290_ok, trivial⟩, ti291_ok, ⟨trivial, ti292_ok, trivial⟩⟩, ti294_ok, ⟨⟨trivial, ti295_ok, trivial⟩, ti296_ok, ⟨trivial, ti297_ok, trivial⟩⟩⟩⟩⟩, ti298_ok, ⟨⟨⟨⟨⟨⟨trivial, ti299_ok, trivial⟩, ti300_ok, trivial⟩, ti301_ok, ⟨trivial, ti303_ok, trivial⟩⟩, ti304_ok, ⟨⟨⟨trivial, ti305_ok, trivial⟩, ti306_ok, trivial⟩, ti307_ok, ⟨trivial, ti308_ok, trivial⟩⟩⟩, ti309_ok, ⟨⟨⟨⟨trivial, ti310_ok, trivial⟩, ti311_ok, trivial⟩, ti312_ok, ⟨trivial, ti313_ok, trivial⟩⟩, ti314_ok, ⟨⟨⟨trivial, ti315_ok, trivial⟩, ti316_ok, trivial⟩, ti317_ok, ⟨trivial, ti318_ok, trivial⟩⟩⟩⟩, ti319_ok, ⟨⟨⟨⟨⟨trivial, ti321_ok, trivial⟩, ti322_ok, trivial⟩, ti324_ok, ⟨trivial, ti325_ok, trivial⟩⟩, ti326_ok, ⟨⟨⟨trivial, ti327_ok, trivial⟩, ti328_ok, trivial⟩, ti329_ok, ⟨trivial, ti330_ok, trivial⟩⟩⟩, ti331_ok, ⟨⟨⟨⟨trivial, ti332_ok, trivial⟩, ti333_ok, trivial⟩, ti334_ok, ⟨trivial, ti335_ok, trivial⟩⟩, ti336_ok, ⟨⟨trivial, ti337_ok, trivial⟩, ti338_ok, ⟨trivial, ti339_ok, trivial⟩⟩⟩⟩⟩⟩⟩⟩
noncomputable def TC : Cx := ⟨Tryz.prog, tyTree.look, TyTree.look_ok tyTree_ok⟩
theorem TC_mixed : TC.P.follows .mixedOrders = true := by kernel_rfl
end Go.Proofs.YtbdclkjelhlfbaaGreat

namespace Go.Proofs.YtbdclkjelhlfbaaGreat
open Go.RowKit Go.Shelf
theorem Pure.val {C : Cx} {g : Nat} {xs : List Value} {r : Value} (ent : Enters C.P g) (hr : r.oneCell' = true) (h : ∀ w, Calls C.P g xs.toArray w fun e w' => e = .returned r ∧ w' = w) : Pure C g (xs.map fun v => .d (.val v)) (.d (.val r)) := by
  refine ⟨ent, fun E w vs hIm hsz hargs => ?_⟩
  have : vs = xs.toArray := by
    apply Array.ext (by simpa using hsz)
    intro i h1 h2
    have h3 := hargs i (by simpa using h2)
    rw [List.getElem_map] at h3
    have := h3.val_inv
    simpa [Array.getD, h1] using this
  subst this
  refine (h w).mono ?_
  rintro e w' ⟨rfl, rfl⟩
  exact ⟨r, rfl, Kp.refl _, .d _ _ (.val _ hr)⟩
end Go.Proofs.YtbdclkjelhlfbaaGreat

namespace Go.Proofs.YtbdclkjelhlfbaaGreat
open Go.RowKit
def slOf {α : Type} [Inhabited α] (esz : Nat) (enc : α → List D) (xs : List α) : D := .sl esz xs.length fun i => enc (xs.getD i default)
def encI (k : IntKind) (n : Int) : List D := [.val (.int k n)]
def tickB (n : Int) : Bool := decide (0 ≤ n) && decide (n ≤ 4611686018427387903)
theorem tick_Form (n : Int) : Pure TC 48 [.i .i64 n] (.b (tickB n)) := by
  refine Pure.mk' Tryz.func48 rfl rfl (Nat.le_of_ble_eq_true rfl) ?_
  (repeat' (first
    | with_reducible refine Wp.seq ?_
    | with_reducible refine Wp.block ?_
    | ((with_reducible first | refine Wp.region ?_ | refine Wp.drawL TC_mixed ?_ | refine Wp.cond ?_ | refine Wp.ret ?_ | refine Wp.skip ?_ | refine Wp.exit ?_ | refine Go.mk ?_ | apply Eff1.of); conv => whnf)
    | with_reducible exact rfl
    | ((with_reducible refine Ov.ok zO ?_); conv => whnf)
    | (with_reducible refine Ov.sh1 (by with_unfolding_all exact rfl) ?_)
    | ((with_reducible refine Ov.quo (by omega) (by omega) (by omega) (fun _ _ => ?_)); conv => whnf)
    | ((with_reducible refine And.intro (show drawOK _ _ _ _ = true by kernel_rfl) ?_); conv => whnf)
    | ((with_reducible refine And.intro zC ?_); conv => whnf)
    | ((with_reducible refine And.intro ?hb ?_); (case hb => exact bytes_bd (Nat.le_of_ble_eq_true rfl) (by omega)); (conv => whnf))
    | ((refine DApp.a rfl rfl rfl rfl rfl rfl ?hb ?_); (case hb => exact zB); (conv => whnf))
    | ((refine DApp.b rfl rfl rfl rfl rfl rfl rfl rfl ?hb ?ho ?_); (case hb => exact zB); (case ho => omega); (conv => whnf))
    | ((refine DApp.c rfl rfl rfl rfl rfl ?hb ?_); (case hb => exact zB); (conv => whnf))
    | ((refine DApp.d rfl rfl rfl rfl rfl rfl ?hb ?ho ?_); (case hb => exact zB); (case ho => omega); (conv => whnf))
    | ((with_reducible refine nil_no (by omega) ?_); (conv => whnf))
    | ((with_reducible refine nil_any ?_ (fun hn0 => ?_)) <;> (conv => whnf))
    
    | ((refine ways (fun hc => ?_) (fun hc => ?_)) <;> (try simp only [decide_eq_true_eq, decide_eq_false_iff_not, Bool.and_eq_true, Bool.or_eq_true, Bool.and_eq_false_iff, Bool.or_eq_false_iff, Bool.not_eq_true', Bool.not_eq_false', beq_iff_eq, bne_iff_ne, ne_eq, beq_eq_false_iff_ne, bne_eq_false_iff_eq, Bool.not_eq_true, Bool.not_eq_false] at hc) <;> (try (exfalso; omega)) <;> (conv => whnf))))
  all_goals exact .b (by simp [tickB]; omega)
structure Pol where
  kind : Int
  T : Int
  tau : Int
  permits : Int
  deriving Inhabited
def Pol.D (p : Pol) : List D := [.val (.int .u8 p.kind), .val (.int .i64 p.T), .val (.int .i64 p.tau), .val (.int .i64 p.permits)]
def bsF (lt : Nat → Bool) : Nat → Nat → Nat → Nat
  | 0, i, _ => i
  | n + 1, i, j => if i < j then (if lt ((i + j) / 2) then bsF lt n ((i + j) / 2 + 1) j else bsF lt n i ((i + j) / 2)) else i
def bs (lt : Nat → Bool) (n : Nat) : Nat := bsF lt (n + 1) 0 n
theorem bsF_end {lt : Nat → Bool} {q i j : Nat} (h : ¬ i < j) : bsF lt q i j = i := by cases q <;> simp [bsF, h]
end Go.Proofs.YtbdclkjelhlfbaaGreat
