/- Parts of the proof, one behind the other: Ty, Sx20, Bk1, Bk2. Lemmas and contracts of functions; no condition of its own. -/
import Derived.Test.YtkdolemhhihidaaM4
import Derived.IntWalk
import Derived.Test.YtkdolemhhihidaaRows
import Derived.Shelf.Bits.Mul64
set_option linter.unusedVariables false
set_option linter.unusedSimpArgs false
namespace Go.Proofs.Ytkdolemhhihidaa
open Go.RowKit

def ti1 : TI := ⟨.func, 1, 8, [.nilFunc], false⟩
theorem ti1_ok : TIok Try.prog 1 ti1 := ⟨by kernel_rfl, by kernel_rfl, fun h => by cases h⟩
def ti2 : TI := ⟨.int .i64, 1, 8, [.int .i64 0], false⟩
theorem ti2_ok : TIok Try.prog 2 ti2 := ⟨by kernel_rfl, by kernel_rfl, fun h => by cases h⟩
def ti3 : TI := ⟨.int .i64, 1, 8, [.int .i64 0], false⟩
theorem ti3_ok : TIok Try.prog 3 ti3 := ⟨by kernel_rfl, by kernel_rfl, fun h => by cases h⟩
def ti4 : TI := ⟨.bool, 1, 1, [.bool false], false⟩
theorem ti4_ok : TIok Try.prog 4 ti4 := ⟨by kernel_rfl, by kernel_rfl, fun h => by cases h⟩
def ti5 : TI := ⟨.int .u8, 1, 1, [.int .u8 0], false⟩
theorem ti5_ok : TIok Try.prog 5 ti5 := ⟨by kernel_rfl, by kernel_rfl, fun h => by cases h⟩
def ti6 : TI := ⟨.int .u8, 1, 1, [.int .u8 0], false⟩
theorem ti6_ok : TIok Try.prog 6 ti6 := ⟨by kernel_rfl, by kernel_rfl, fun h => by cases h⟩
def ti7 : TI := ⟨.struct [(0, 2), (1, 3), (2, 4), (3, 6)], 4, 24, [.int .i64 0, .int .i64 0, .bool false, .int .u8 0], false⟩
theorem ti7_ok : TIok Try.prog 7 ti7 := ⟨by kernel_rfl, by kernel_rfl, fun h => by cases h⟩
def ti8 : TI := ⟨.struct [(0, 2), (1, 3), (2, 4), (3, 6)], 4, 24, [.int .i64 0, .int .i64 0, .bool false, .int .u8 0], false⟩
theorem ti8_ok : TIok Try.prog 8 ti8 := ⟨by kernel_rfl, by kernel_rfl, fun h => by cases h⟩
def ti9 : TI := ⟨.str, 1, 16, [.string ⟨#[]⟩], false⟩
theorem ti9_ok : TIok Try.prog 9 ti9 := ⟨by kernel_rfl, by kernel_rfl, fun h => by cases h⟩
def ti10 : TI := ⟨.str, 1, 16, [.string ⟨#[]⟩], false⟩
theorem ti10_ok : TIok Try.prog 10 ti10 := ⟨by kernel_rfl, by kernel_rfl, fun h => by cases h⟩
def ti11 : TI := ⟨.str, 1, 16, [.string ⟨#[]⟩], false⟩
theorem ti11_ok : TIok Try.prog 11 ti11 := ⟨by kernel_rfl, by kernel_rfl, fun h => by cases h⟩
def ti12 : TI := ⟨.int .u64, 1, 8, [.int .u64 0], false⟩
theorem ti12_ok : TIok Try.prog 12 ti12 := ⟨by kernel_rfl, by kernel_rfl, fun h => by cases h⟩
def ti13 : TI := ⟨.struct [(0, 9), (1, 12)], 2, 24, [.string ⟨#[]⟩, .int .u64 0], false⟩
theorem ti13_ok : TIok Try.prog 13 ti13 := ⟨by kernel_rfl, by kernel_rfl, fun h => by cases h⟩
def ti14 : TI := ⟨.struct [(0, 9), (1, 12)], 2, 24, [.string ⟨#[]⟩, .int .u64 0], false⟩
theorem ti14_ok : TIok Try.prog 14 ti14 := ⟨by kernel_rfl, by kernel_rfl, fun h => by cases h⟩
def ti15 : TI := ⟨.ptr 134, 1, 8, [.pointer none], false⟩
theorem ti15_ok : TIok Try.prog 15 ti15 := ⟨by kernel_rfl, by kernel_rfl, fun h => by cases h⟩
def ti16 : TI := ⟨.ptr 137, 1, 8, [.pointer none], false⟩
theorem ti16_ok : TIok Try.prog 16 ti16 := ⟨by kernel_rfl, by kernel_rfl, fun h => by cases h⟩
def ti17 : TI := ⟨.ptr 146, 1, 8, [.pointer none], false⟩
theorem ti17_ok : TIok Try.prog 17 ti17 := ⟨by kernel_rfl, by kernel_rfl, fun h => by cases h⟩
def ti18 : TI := ⟨.struct [(0, 17)], 1, 8, [.pointer none], false⟩
theorem ti18_ok : TIok Try.prog 18 ti18 := ⟨by kernel_rfl, by kernel_rfl, fun h => by cases h⟩
def ti19 : TI := ⟨.struct [(0, 17)], 1, 8, [.pointer none], false⟩
theorem ti19_ok : TIok Try.prog 19 ti19 := ⟨by kernel_rfl, by kernel_rfl, fun h => by cases h⟩
def ti20 : TI := ⟨.other, 1, 16, [.nilIface], false⟩
theorem ti20_ok : TIok Try.prog 20 ti20 := ⟨by kernel_rfl, by kernel_rfl, fun h => by cases h⟩
def ti21 : TI := ⟨.int .i32, 1, 4, [.int .i32 0], false⟩
theorem ti21_ok : TIok Try.prog 21 ti21 := ⟨by kernel_rfl, by kernel_rfl, fun h => by cases h⟩
def ti22 : TI := ⟨.slice 51, 1, 24, [.slice none 0 0], false⟩
theorem ti22_ok : TIok Try.prog 22 ti22 := ⟨by kernel_rfl, by kernel_rfl, fun h => by cases h⟩
def ti23 : TI := ⟨.slice 5, 1, 24, [.slice none 0 0], false⟩
theorem ti23_ok : TIok Try.prog 23 ti23 := ⟨by kernel_rfl, by kernel_rfl, fun h => by cases h⟩
def ti24 : TI := ⟨.struct [(0, 5), (1, 3), (2, 23), (3, 2)], 4, 48, [.int .u8 0, .int .i64 0, .slice none 0 0, .int .i64 0], false⟩
theorem ti24_ok : TIok Try.prog 24 ti24 := ⟨by kernel_rfl, by kernel_rfl, fun h => by cases h⟩
def ti25 : TI := ⟨.struct [(0, 5), (1, 3), (2, 23), (3, 2)], 4, 48, [.int .u8 0, .int .i64 0, .slice none 0 0, .int .i64 0], false⟩
theorem ti25_ok : TIok Try.prog 25 ti25 := ⟨by kernel_rfl, by kernel_rfl, fun h => by cases h⟩
def ti26 : TI := ⟨.func, 1, 8, [.nilFunc], false⟩
theorem ti26_ok : TIok Try.prog 26 ti26 := ⟨by kernel_rfl, by kernel_rfl, fun h => by cases h⟩
def ti27 : TI := ⟨.int .i64, 1, 8, [.int .i64 0], false⟩
theorem ti27_ok : TIok Try.prog 27 ti27 := ⟨by kernel_rfl, by kernel_rfl, fun h => by cases h⟩
def ti28 : TI := ⟨.func, 1, 8, [.nilFunc], false⟩
theorem ti28_ok : TIok Try.prog 28 ti28 := ⟨by kernel_rfl, by kernel_rfl, fun h => by cases h⟩
def ti29 : TI := ⟨.func, 1, 8, [.nilFunc], false⟩
theorem ti29_ok : TIok Try.prog 29 ti29 := ⟨by kernel_rfl, by kernel_rfl, fun h => by cases h⟩
def ti30 : TI := ⟨.func, 1, 8, [.nilFunc], false⟩
theorem ti30_ok : TIok Try.prog 30 ti30 := ⟨by kernel_rfl, by kernel_rfl, fun h => by cases h⟩
def ti31 : TI := ⟨.func, 1, 8, [.nilFunc], false⟩
theorem ti31_ok : TIok Try.prog 31 ti31 := ⟨by kernel_rfl, by kernel_rfl, fun h => by cases h⟩
def ti32 : TI := ⟨.func, 1, 8, [.nilFunc], false⟩
theorem ti32_ok : TIok Try.prog 32 ti32 := ⟨by kernel_rfl, by kernel_rfl, fun h => by cases h⟩
def ti33 : TI := ⟨.slice 39, 1, 24, [.slice none 0 0], false⟩
theorem ti33_ok : TIok Try.prog 33 ti33 := ⟨by kernel_rfl, by kernel_rfl, fun h => by cases h⟩
def ti34 : TI := ⟨.ptr 69, 1, 8, [.pointer none], false⟩
theorem ti34_ok : TIok Try.prog 34 ti34 := ⟨by kernel_rfl, by kernel_rfl, fun h => by cases h⟩
def ti36 : TI := ⟨.func, 1, 8, [.nilFunc], false⟩
theorem ti36_ok : TIok Try.prog 36 ti36 := ⟨by kernel_rfl, by kernel_rfl, fun h => by cases h⟩
def ti37 : TI := ⟨.func, 1, 8, [.nilFunc], false⟩
theorem ti37_ok : TIok Try.prog 37 ti37 := ⟨by kernel_rfl, by kernel_rfl, fun h => by cases h⟩
def ti38 : TI := ⟨.struct [(0, 25), (4, 2), (5, 2)], 6, 64, [.int .u8 0, .int .i64 0, .slice none 0 0, .int .i64 0, .int .i64 0, .int .i64 0], false⟩
theorem ti38_ok : TIok Try.prog 38 ti38 := ⟨by kernel_rfl, by kernel_rfl, fun h => by cases h⟩
def ti39 : TI := ⟨.struct [(0, 25), (4, 2), (5, 2)], 6, 64, [.int .u8 0, .int .i64 0, .slice none 0 0, .int .i64 0, .int .i64 0, .int .i64 0], false⟩
theorem ti39_ok : TIok Try.prog 39 ti39 := ⟨by kernel_rfl, by kernel_rfl, fun h => by cases h⟩
def ti40 : TI := ⟨.func, 1, 8, [.nilFunc], false⟩
theorem ti40_ok : TIok Try.prog 40 ti40 := ⟨by kernel_rfl, by kernel_rfl, fun h => by cases h⟩
def ti41 : TI := ⟨.struct [(0, 27), (1, 4), (2, 2), (3, 2), (4, 2), (5, 2)], 6, 48, [.int .i64 0, .bool false, .int .i64 0, .int .i64 0, .int .i64 0, .int .i64 0], true⟩
theorem ti41_ok : TIok Try.prog 41 ti41 := ⟨by kernel_rfl, by kernel_rfl, fun _ => ⟨by kernel_rfl, by kernel_rfl, by kernel_rfl⟩⟩
def ti42 : TI := ⟨.struct [(0, 27), (1, 4), (2, 2), (3, 2), (4, 2), (5, 2)], 6, 48, [.int .i64 0, .bool false, .int .i64 0, .int .i64 0, .int .i64 0, .int .i64 0], true⟩
theorem ti42_ok : TIok Try.prog 42 ti42 := ⟨by kernel_rfl, by kernel_rfl, fun _ => ⟨by kernel_rfl, by kernel_rfl, by kernel_rfl⟩⟩
def ti43 : TI := ⟨.func, 1, 8, [.nilFunc], false⟩
theorem ti43_ok : TIok Try.prog 43 ti43 := ⟨by kernel_rfl, by kernel_rfl, fun h => by cases h⟩
def ti44 : TI := ⟨.func, 1, 8, [.nilFunc], false⟩
theorem ti44_ok : TIok Try.prog 44 ti44 := ⟨by kernel_rfl, by kernel_rfl, fun h => by cases h⟩
def ti45 : TI := ⟨.func, 1, 8, [.nilFunc], false⟩
theorem ti45_ok : TIok Try.prog 45 ti45 := ⟨by kernel_rfl, by kernel_rfl, fun h => by cases h⟩
def ti46 : TI := ⟨.func, 1, 8, [.nilFunc], false⟩
theorem ti46_ok : TIok Try.prog 46 ti46 := ⟨by kernel_rfl, by kernel_rfl, fun h => by cases h⟩
def ti47 : TI := ⟨.struct [(0, 2), (1, 2)], 2, 16, [.int .i64 0, .int .i64 0], true⟩
theorem ti47_ok : TIok Try.prog 47 ti47 := ⟨by kernel_rfl, by kernel_rfl, fun _ => ⟨by kernel_rfl, by kernel_rfl, by kernel_rfl⟩⟩
def ti48 : TI := ⟨.struct [(0, 2), (1, 2)], 2, 16, [.int .i64 0, .int .i64 0], true⟩
theorem ti48_ok : TIok Try.prog 48 ti48 := ⟨by kernel_rfl, by kernel_rfl, fun _ => ⟨by kernel_rfl, by kernel_rfl, by kernel_rfl⟩⟩
def ti49 : TI := ⟨.func, 1, 8, [.nilFunc], false⟩
theorem ti49_ok : TIok Try.prog 49 ti49 := ⟨by kernel_rfl, by kernel_rfl, fun h => by cases h⟩
def ti50 : TI := ⟨.struct [(0, 5), (1, 48), (3, 3)], 4, 32, [.int .u8 0, .int .i64 0, .int .i64 0, .int .i64 0], true⟩
theorem ti50_ok : TIok Try.prog 50 ti50 := ⟨by kernel_rfl, by kernel_rfl, fun _ => ⟨by kernel_rfl, by kernel_rfl, by kernel_rfl⟩⟩
def ti51 : TI := ⟨.struct [(0, 5), (1, 48), (3, 3)], 4, 32, [.int .u8 0, .int .i64 0, .int .i64 0, .int .i64 0], true⟩
theorem ti51_ok : TIok Try.prog 51 ti51 := ⟨by kernel_rfl, by kernel_rfl, fun _ => ⟨by kernel_rfl, by kernel_rfl, by kernel_rfl⟩⟩
def ti53 : TI := ⟨.func, 1, 8, [.nilFunc], false⟩
theorem ti53_ok : TIok Try.prog 53 ti53 := ⟨by kernel_rfl, by kernel_rfl, fun h => by cases h⟩
def ti54 : TI := ⟨.func, 1, 8, [.nilFunc], false⟩
theorem ti54_ok : TIok Try.prog 54 ti54 := ⟨by kernel_rfl, by kernel_rfl, fun h => by cases h⟩
def ti55 : TI := ⟨.func, 1, 8, [.nilFunc], false⟩
theorem ti55_ok : TIok Try.prog 55 ti55 := ⟨by kernel_rfl, by kernel_rfl, fun h => by cases h⟩
def ti56 : TI := ⟨.slice 73, 1, 24, [.slice none 0 0], false⟩
theorem ti56_ok : TIok Try.prog 56 ti56 := ⟨by kernel_rfl, by kernel_rfl, fun h => by cases h⟩
def ti57 : TI := ⟨.func, 1, 8, [.nilFunc], false⟩
theorem ti57_ok : TIok Try.prog 57 ti57 := ⟨by kernel_rfl, by kernel_rfl, fun h => by cases h⟩
def ti58 : TI := ⟨.func, 1, 8, [.nilFunc], false⟩
theorem ti58_ok : TIok Try.prog 58 ti58 := ⟨by kernel_rfl, by kernel_rfl, fun h => by cases h⟩
def ti59 : TI := ⟨.slice 2, 1, 24, [.slice none 0 0], false⟩
theorem ti59_ok : TIok Try.prog 59 ti59 := ⟨by kernel_rfl, by kernel_rfl, fun h => by cases h⟩
def ti60 : TI := ⟨.int .u64, 1, 8, [.int .u64 0], false⟩
theorem ti60_ok : TIok Try.prog 60 ti60 := ⟨by kernel_rfl, by kernel_rfl, fun h => by cases h⟩
def ti61 : TI := ⟨.func, 1, 8, [.nilFunc], false⟩
theorem ti61_ok : TIok Try.prog 61 ti61 := ⟨by kernel_rfl, by kernel_rfl, fun h => by cases h⟩
def ti62 : TI := ⟨.func, 1, 8, [.nilFunc], false⟩
theorem ti62_ok : TIok Try.prog 62 ti62 := ⟨by kernel_rfl, by kernel_rfl, fun h => by cases h⟩
def ti63 : TI := ⟨.func, 1, 8, [.nilFunc], false⟩
theorem ti63_ok : TIok Try.prog 63 ti63 := ⟨by kernel_rfl, by kernel_rfl, fun h => by cases h⟩
def ti64 : TI := ⟨.func, 1, 8, [.nilFunc], false⟩
theorem ti64_ok : TIok Try.prog 64 ti64 := ⟨by kernel_rfl, by kernel_rfl, fun h => by cases h⟩
def ti65 : TI := ⟨.func, 1, 8, [.nilFunc], false⟩
theorem ti65_ok : TIok Try.prog 65 ti65 := ⟨by kernel_rfl, by kernel_rfl, fun h => by cases h⟩
def ti66 : TI := ⟨.func, 1, 8, [.nilFunc], false⟩
theorem ti66_ok : TIok Try.prog 66 ti66 := ⟨by kernel_rfl, by kernel_rfl, fun h => by cases h⟩
def ti67 : TI := ⟨.func, 1, 8, [.nilFunc], false⟩
theorem ti67_ok : TIok Try.prog 67 ti67 := ⟨by kernel_rfl, by kernel_rfl, fun h => by cases h⟩
def ti68 : TI := ⟨.struct [(0, 22), (1, 3), (2, 56)], 3, 56, [.slice none 0 0, .int .i64 0, .slice none 0 0], false⟩
theorem ti68_ok : TIok Try.prog 68 ti68 := ⟨by kernel_rfl, by kernel_rfl, fun h => by cases h⟩
def ti69 : TI := ⟨.struct [(0, 22), (1, 3), (2, 56)], 3, 56, [.slice none 0 0, .int .i64 0, .slice none 0 0], false⟩
theorem ti69_ok : TIok Try.prog 69 ti69 := ⟨by kernel_rfl, by kernel_rfl, fun h => by cases h⟩
def ti70 : TI := ⟨.func, 1, 8, [.nilFunc], false⟩
theorem ti70_ok : TIok Try.prog 70 ti70 := ⟨by kernel_rfl, by kernel_rfl, fun h => by cases h⟩
def ti71 : TI := ⟨.func, 1, 8, [.nilFunc], false⟩
theorem ti71_ok : TIok Try.prog 71 ti71 := ⟨by kernel_rfl, by kernel_rfl, fun h => by cases h⟩
def ti72 : TI := ⟨.struct [(0, 3), (1, 23), (2, 2), (3, 59)], 4, 64, [.int .i64 0, .slice none 0 0, .int .i64 0, .slice none 0 0], false⟩
theorem ti72_ok : TIok Try.prog 72 ti72 := ⟨by kernel_rfl, by kernel_rfl, fun h => by cases h⟩
def ti73 : TI := ⟨.struct [(0, 3), (1, 23), (2, 2), (3, 59)], 4, 64, [.int .i64 0, .slice none 0 0, .int .i64 0, .slice none 0 0], false⟩
theorem ti73_ok : TIok Try.prog 73 ti73 := ⟨by kernel_rfl, by kernel_rfl, fun h => by cases h⟩
def ti74 : TI := ⟨.func, 1, 8, [.nilFunc], false⟩
theorem ti74_ok : TIok Try.prog 74 ti74 := ⟨by kernel_rfl, by kernel_rfl, fun h => by cases h⟩
def ti75 : TI := ⟨.func, 1, 8, [.nilFunc], false⟩
theorem ti75_ok : TIok Try.prog 75 ti75 := ⟨by kernel_rfl, by kernel_rfl, fun h => by cases h⟩
def ti77 : TI := ⟨.func, 1, 8, [.nilFunc], false⟩
theorem ti77_ok : TIok Try.prog 77 ti77 := ⟨by kernel_rfl, by kernel_rfl, fun h => by cases h⟩
def ti78 : TI := ⟨.func, 1, 8, [.nilFunc], false⟩
theorem ti78_ok : TIok Try.prog 78 ti78 := ⟨by kernel_rfl, by kernel_rfl, fun h => by cases h⟩
def ti80 : TI := ⟨.func, 1, 8, [.nilFunc], false⟩
theorem ti80_ok : TIok Try.prog 80 ti80 := ⟨by kernel_rfl, by kernel_rfl, fun h => by cases h⟩
def ti81 : TI := ⟨.func, 1, 8, [.nilFunc], false⟩
theorem ti81_ok : TIok Try.prog 81 ti81 := ⟨by kernel_rfl, by kernel_rfl, fun h => by cases h⟩
def ti82 : TI := ⟨.func, 1, 8, [.nilFunc], false⟩
theorem ti82_ok : TIok Try.prog 82 ti82 := ⟨by kernel_rfl, by kernel_rfl, fun h => by cases h⟩
def ti83 : TI := ⟨.func, 1, 8, [.nilFunc], false⟩
theorem ti83_ok : TIok Try.prog 83 ti83 := ⟨by kernel_rfl, by kernel_rfl, fun h => by cases h⟩
def ti84 : TI := ⟨.slice 60, 1, 24, [.slice none 0 0], false⟩
theorem ti84_ok : TIok Try.prog 84 ti84 := ⟨by kernel_rfl, by kernel_rfl, fun h => by cases h⟩
def ti85 : TI := ⟨.func, 1, 8, [.nilFunc], false⟩
theorem ti85_ok : TIok Try.prog 85 ti85 := ⟨by kernel_rfl, by kernel_rfl, fun h => by cases h⟩
def ti86 : TI := ⟨.func, 1, 8, [.nilFunc], false⟩
theorem ti86_ok : TIok Try.prog 86 ti86 := ⟨by kernel_rfl, by kernel_rfl, fun h => by cases h⟩
def ti87 : TI := ⟨.func, 1, 8, [.nilFunc], false⟩
theorem ti87_ok : TIok Try.prog 87 ti87 := ⟨by kernel_rfl, by kernel_rfl, fun h => by cases h⟩
def ti88 : TI := ⟨.func, 1, 8, [.nilFunc], false⟩
theorem ti88_ok : TIok Try.prog 88 ti88 := ⟨by kernel_rfl, by kernel_rfl, fun h => by cases h⟩
def ti89 : TI := ⟨.func, 1, 8, [.nilFunc], false⟩
theorem ti89_ok : TIok Try.prog 89 ti89 := ⟨by kernel_rfl, by kernel_rfl, fun h => by cases h⟩
def ti90 : TI := ⟨.func, 1, 8, [.nilFunc], false⟩
theorem ti90_ok : TIok Try.prog 90 ti90 := ⟨by kernel_rfl, by kernel_rfl, fun h => by cases h⟩
def ti92 : TI := ⟨.func, 1, 8, [.nilFunc], false⟩
theorem ti92_ok : TIok Try.prog 92 ti92 := ⟨by kernel_rfl, by kernel_rfl, fun h => by cases h⟩
def ti93 : TI := ⟨.func, 1, 8, [.nilFunc], false⟩
theorem ti93_ok : TIok Try.prog 93 ti93 := ⟨by kernel_rfl, by kernel_rfl, fun h => by cases h⟩
def ti94 : TI := ⟨.func, 1, 8, [.nilFunc], false⟩
theorem ti94_ok : TIok Try.prog 94 ti94 := ⟨by kernel_rfl, by kernel_rfl, fun h => by cases h⟩
def ti95 : TI := ⟨.func, 1, 8, [.nilFunc], false⟩
theorem ti95_ok : TIok Try.prog 95 ti95 := ⟨by kernel_rfl, by kernel_rfl, fun h => by cases h⟩
def ti96 : TI := ⟨.struct [(0, 4), (1, 2), (2, 2), (3, 2)], 4, 32, [.bool false, .int .i64 0, .int .i64 0, .int .i64 0], true⟩
theorem ti96_ok : TIok Try.prog 96 ti96 := ⟨by kernel_rfl, by kernel_rfl, fun _ => ⟨by kernel_rfl, by kernel_rfl, by kernel_rfl⟩⟩
def ti97 : TI := ⟨.struct [(0, 4), (1, 2), (2, 2), (3, 2)], 4, 32, [.bool false, .int .i64 0, .int .i64 0, .int .i64 0], true⟩
theorem ti97_ok : TIok Try.prog 97 ti97 := ⟨by kernel_rfl, by kernel_rfl, fun _ => ⟨by kernel_rfl, by kernel_rfl, by kernel_rfl⟩⟩
def ti99 : TI := ⟨.func, 1, 8, [.nilFunc], false⟩
theorem ti99_ok : TIok Try.prog 99 ti99 := ⟨by kernel_rfl, by kernel_rfl, fun h => by cases h⟩
def ti100 : TI := ⟨.struct [(0, 3), (1, 59)], 2, 32, [.int .i64 0, .slice none 0 0], false⟩
theorem ti100_ok : TIok Try.prog 100 ti100 := ⟨by kernel_rfl, by kernel_rfl, fun h => by cases h⟩
def ti101 : TI := ⟨.struct [(0, 3), (1, 59)], 2, 32, [.int .i64 0, .slice none 0 0], false⟩
theorem ti101_ok : TIok Try.prog 101 ti101 := ⟨by kernel_rfl, by kernel_rfl, fun h => by cases h⟩
def ti103 : TI := ⟨.func, 1, 8, [.nilFunc], false⟩
theorem ti103_ok : TIok Try.prog 103 ti103 := ⟨by kernel_rfl, by kernel_rfl, fun h => by cases h⟩
def ti104 : TI := ⟨.func, 1, 8, [.nilFunc], false⟩
theorem ti104_ok : TIok Try.prog 104 ti104 := ⟨by kernel_rfl, by kernel_rfl, fun h => by cases h⟩
def ti105 : TI := ⟨.func, 1, 8, [.nilFunc], false⟩
theorem ti105_ok : TIok Try.prog 105 ti105 := ⟨by kernel_rfl, by kernel_rfl, fun h => by cases h⟩
def ti107 : TI := ⟨.func, 1, 8, [.nilFunc], false⟩
theorem ti107_ok : TIok Try.prog 107 ti107 := ⟨by kernel_rfl, by kernel_rfl, fun h => by cases h⟩
def ti108 : TI := ⟨.func, 1, 8, [.nilFunc], false⟩
theorem ti108_ok : TIok Try.prog 108 ti108 := ⟨by kernel_rfl, by kernel_rfl, fun h => by cases h⟩
def ti109 : TI := ⟨.func, 1, 8, [.nilFunc], false⟩
theorem ti109_ok : TIok Try.prog 109 ti109 := ⟨by kernel_rfl, by kernel_rfl, fun h => by cases h⟩
def ti110 : TI := ⟨.int .u64, 1, 8, [.int .u64 0], false⟩
theorem ti110_ok : TIok Try.prog 110 ti110 := ⟨by kernel_rfl, by kernel_rfl, fun h => by cases h⟩
def ti112 : TI := ⟨.func, 1, 8, [.nilFunc], false⟩
theorem ti112_ok : TIok Try.prog 112 ti112 := ⟨by kernel_rfl, by kernel_rfl, fun h => by cases h⟩
def ti113 : TI := ⟨.func, 1, 8, [.nilFunc], false⟩
theorem ti113_ok : TIok Try.prog 113 ti113 := ⟨by kernel_rfl, by kernel_rfl, fun h => by cases h⟩
def ti114 : TI := ⟨.func, 1, 8, [.nilFunc], false⟩
theorem ti114_ok : TIok Try.prog 114 ti114 := ⟨by kernel_rfl, by kernel_rfl, fun h => by cases h⟩
def ti115 : TI := ⟨.func, 1, 8, [.nilFunc], false⟩
theorem ti115_ok : TIok Try.prog 115 ti115 := ⟨by kernel_rfl, by kernel_rfl, fun h => by cases h⟩
def ti116 : TI := ⟨.func, 1, 8, [.nilFunc], false⟩
theorem ti116_ok : TIok Try.prog 116 ti116 := ⟨by kernel_rfl, by kernel_rfl, fun h => by cases h⟩
def ti117 : TI := ⟨.func, 1, 8, [.nilFunc], false⟩
theorem ti117_ok : TIok Try.prog 117 ti117 := ⟨by kernel_rfl, by kernel_rfl, fun h => by cases h⟩
def ti118 : TI := ⟨.func, 1, 8, [.nilFunc], false⟩
theorem ti118_ok : TIok Try.prog 118 ti118 := ⟨by kernel_rfl, by kernel_rfl, fun h => by cases h⟩
def ti119 : TI := ⟨.func, 1, 8, [.nilFunc], false⟩
theorem ti119_ok : TIok Try.prog 119 ti119 := ⟨by kernel_rfl, by kernel_rfl, fun h => by cases h⟩
def ti120 : TI := ⟨.func, 1, 8, [.nilFunc], false⟩
theorem ti120_ok : TIok Try.prog 120 ti120 := ⟨by kernel_rfl, by kernel_rfl, fun h => by cases h⟩
def ti121 : TI := ⟨.func, 1, 8, [.nilFunc], false⟩
theorem ti121_ok : TIok Try.prog 121 ti121 := ⟨by kernel_rfl, by kernel_rfl, fun h => by cases h⟩
def ti122 : TI := ⟨.func, 1, 8, [.nilFunc], false⟩
theorem ti122_ok : TIok Try.prog 122 ti122 := ⟨by kernel_rfl, by kernel_rfl, fun h => by cases h⟩
def ti123 : TI := ⟨.func, 1, 8, [.nilFunc], false⟩
theorem ti123_ok : TIok Try.prog 123 ti123 := ⟨by kernel_rfl, by kernel_rfl, fun h => by cases h⟩
def ti124 : TI := ⟨.func, 1, 8, [.nilFunc], false⟩
theorem ti124_ok : TIok Try.prog 124 ti124 := ⟨by kernel_rfl, by kernel_rfl, fun h => by cases h⟩
def ti125 : TI := ⟨.func, 1, 8, [.nilFunc], false⟩
theorem ti125_ok : TIok Try.prog 125 ti125 := ⟨by kernel_rfl, by kernel_rfl, fun h => by cases h⟩
def ti127 : TI := ⟨.func, 1, 8, [.nilFunc], false⟩
theorem ti127_ok : TIok Try.prog 127 ti127 := ⟨by kernel_rfl, by kernel_rfl, fun h => by cases h⟩
def ti128 : TI := ⟨.func, 1, 8, [.nilFunc], false⟩
theorem ti128_ok : TIok Try.prog 128 ti128 := ⟨by kernel_rfl, by kernel_rfl, fun h => by cases h⟩
def ti130 : TI := ⟨.func, 1, 8, [.nilFunc], false⟩
theorem ti130_ok : TIok Try.prog 130 ti130 := ⟨by kernel_rfl, by kernel_rfl, fun h => by cases h⟩
def ti131 : TI := ⟨.func, 1, 8, [.nilFunc], false⟩
theorem ti131_ok : TIok Try.prog 131 ti131 := ⟨by kernel_rfl, by kernel_rfl, fun h => by cases h⟩
def ti132 : TI := ⟨.func, 1, 8, [.nilFunc], false⟩
theorem ti132_ok : TIok Try.prog 132 ti132 := ⟨by kernel_rfl, by kernel_rfl, fun h => by cases h⟩
def ti133 : TI := ⟨.struct [(0, 17), (1, 17), (2, 17), (3, 9)], 4, 40, [.pointer none, .pointer none, .pointer none, .string ⟨#[]⟩], false⟩
theorem ti133_ok : TIok Try.prog 133 ti133 := ⟨by kernel_rfl, by kernel_rfl, fun h => by cases h⟩
def ti134 : TI := ⟨.struct [(0, 17), (1, 17), (2, 17), (3, 9)], 4, 40, [.pointer none, .pointer none, .pointer none, .string ⟨#[]⟩], false⟩
theorem ti134_ok : TIok Try.prog 134 ti134 := ⟨by kernel_rfl, by kernel_rfl, fun h => by cases h⟩
def ti135 : TI := ⟨.array 0 16, 0, 0, [], false⟩
theorem ti135_ok : TIok Try.prog 135 ti135 := ⟨by kernel_rfl, by kernel_rfl, fun h => by cases h⟩
def ti136 : TI := ⟨.struct [(0, 135)], 0, 0, [], false⟩
theorem ti136_ok : TIok Try.prog 136 ti136 := ⟨by kernel_rfl, by kernel_rfl, fun h => by cases h⟩
def ti137 : TI := ⟨.struct [(0, 135)], 0, 0, [], false⟩
theorem ti137_ok : TIok Try.prog 137 ti137 := ⟨by kernel_rfl, by kernel_rfl, fun h => by cases h⟩
def ti138 : TI := ⟨.int .u32, 1, 4, [.int .u32 0], false⟩
theorem ti138_ok : TIok Try.prog 138 ti138 := ⟨by kernel_rfl, by kernel_rfl, fun h => by cases h⟩
def ti139 : TI := ⟨.int .u8, 1, 1, [.int .u8 0], false⟩
theorem ti139_ok : TIok Try.prog 139 ti139 := ⟨by kernel_rfl, by kernel_rfl, fun h => by cases h⟩
def ti140 : TI := ⟨.int .u8, 1, 1, [.int .u8 0], false⟩
theorem ti140_ok : TIok Try.prog 140 ti140 := ⟨by kernel_rfl, by kernel_rfl, fun h => by cases h⟩
def ti141 : TI := ⟨.func, 1, 8, [.nilFunc], false⟩
theorem ti141_ok : TIok Try.prog 141 ti141 := ⟨by kernel_rfl, by kernel_rfl, fun h => by cases h⟩
def ti142 : TI := ⟨.ptr 5, 1, 8, [.pointer none], false⟩
theorem ti142_ok : TIok Try.prog 142 ti142 := ⟨by kernel_rfl, by kernel_rfl, fun h => by cases h⟩
def ti143 : TI := ⟨.int .i32, 1, 4, [.int .i32 0], false⟩
theorem ti143_ok : TIok Try.prog 143 ti143 := ⟨by kernel_rfl, by kernel_rfl, fun h => by cases h⟩
def ti144 : TI := ⟨.int .i32, 1, 4, [.int .i32 0], false⟩
theorem ti144_ok : TIok Try.prog 144 ti144 := ⟨by kernel_rfl, by kernel_rfl, fun h => by cases h⟩
def ti145 : TI := ⟨.struct [(0, 12), (1, 12), (2, 138), (3, 139), (4, 5), (5, 5), (6, 140), (7, 141), (8, 142), (9, 143), (10, 144)], 11, 48, [.int .u64 0, .int .u64 0, .int .u32 0, .int .u8 0, .int .u8 0, .int .u8 0, .int .u8 0, .nilFunc, .pointer none, .int .i32 0, .int .i32 0], false⟩
theorem ti145_ok : TIok Try.prog 145 ti145 := ⟨by kernel_rfl, by kernel_rfl, fun h => by cases h⟩
def ti146 : TI := ⟨.struct [(0, 12), (1, 12), (2, 138), (3, 139), (4, 5), (5, 5), (6, 140), (7, 141), (8, 142), (9, 143), (10, 144)], 11, 48, [.int .u64 0, .int .u64 0, .int .u32 0, .int .u8 0, .int .u8 0, .int .u8 0, .int .u8 0, .nilFunc, .pointer none, .int .i32 0, .int .i32 0], false⟩
theorem ti146_ok : TIok Try.prog 146 ti146 := ⟨by kernel_rfl, by kernel_rfl, fun h => by cases h⟩
def tyTree : TyTree := .node (.node (.node (.node (.node (.node (.node (.node (.leaf) 1 ti1 (.leaf)) 2 ti2 (.leaf)) 3 ti3 (.node (.leaf) 4 ti4 (.leaf))) 5 ti5 (.node (.node (.leaf) 6 ti6 (.leaf)) 7 ti7 (.node (.leaf) 8 ti8 (.leaf)))) 9 ti9 (.node (.node (.node (.leaf) 10 ti10 (.leaf)) 11 ti11 (.node (.leaf) 12 ti12 (.leaf))) 13 ti13 (.node (.node (.leaf) 14 ti14 (.leaf)) 15 ti15 (.node (.leaf) 16 ti16 (.leaf))))) 17 ti17 (.node (.node (.node (.node (.node (.leaf) 18 ti18 (.leaf)) 19 ti19 (.leaf)) 20 ti20 (.node (.leaf) 21 ti21 (.leaf))) 22 ti22 (.node (.node (.leaf) 23 ti23 (.leaf)) 24 ti24 (.node (.leaf) 25 ti25 (.leaf)))) 26 ti26 (.node (.node (.node (.leaf) 27 ti27 (.leaf)) 28 ti28 (.node (.leaf) 29 ti29 (.leaf))) 30 ti30 (.node (.node (.leaf) 31 ti31 (.leaf)) 32 ti32 (.node (.leaf) 33 ti33 (.leaf)))))) 34 ti34 (.node (.node (.node (.node (.node (.node (.leaf) 36 ti36 (.leaf)) 37 ti37 (.leaf)) 38 ti38 (.node (.leaf) 39 ti39 (.leaf))) 40 ti40 (.node (.node (.leaf) 41 ti41 (.leaf)) 42 ti42 (.node (.leaf) 43 ti43 (.leaf)))) 44 ti44 (.node (.node (.node (.leaf) 45 ti45 (.leaf)) 46 ti46 (.node (.leaf) 47 ti47 (.leaf))) 48 ti48 (.node (.node (.leaf) 49 ti49 (.leaf)) 50 ti50 (.node (.leaf) 51 ti51 (.leaf))))) 53 ti53 (.node (.node (.node (.node (.node (.leaf) 54 ti54 (.leaf)) 55 ti55 (.leaf)) 56 ti56 (.node (.leaf) 57 ti57 (.leaf))) 58 ti58 (.node (.node (.leaf) 59 ti59 (.leaf)) 60 ti60 (.node (.leaf) 61 ti61 (.leaf)))) 62 ti62 (.node (.node (.node (.leaf) 63 ti63 (.leaf)) 64 ti64 (.node (.leaf) 65 ti65 (.leaf))) 66 ti66 (.node (.node (.leaf) 67 ti67 (.leaf)) 68 ti68 (.node (.leaf) 69 ti69 (.leaf))))))) 70 ti70 (.node (.node (.node (.node (.node (.node (.node (.leaf) 71 ti71 (.leaf)) 72 ti72 (.leaf)) 73 ti73 (.node (.leaf) 74 ti74 (.leaf))) 75 ti75 (.node (.node (.leaf) 77 ti77 (.leaf)) 78 ti78 (.node (.leaf) 80 ti80 (.leaf)))) 81 ti81 (.node (.node (.node (.leaf) 82 ti82 (.leaf)) 83 ti83 (.node (.leaf) 84 ti84 (.leaf))) 85 ti85 (.node (.node (.leaf) 86 ti86 (.leaf)) 87 ti87 (.node (.leaf) 88 ti88 (.leaf))))) 89 ti89 (.node (.node (.node (.node (.node (.leaf) 90 ti90 (.leaf)) 92 ti92 (.leaf)) 93 ti93 (.node (.leaf) 94 ti94 (.leaf))) 95 ti95 (.node (.node (.leaf) 96 ti96 (.leaf)) 97 ti97 (.node (.leaf) 99 ti99 (.leaf)))) 100 ti100 (.node (.node (.node (.leaf) 101 ti101 (.leaf)) 103 ti103 (.node (.leaf) 104 ti104 (.leaf))) 105 ti105 (.node (.node (.leaf) 107 ti107 (.leaf)) 108 ti108 (.node (.leaf) 109 ti109 (.leaf)))))) 110 ti110 (.node (.node (.node (.node (.node (.node (.leaf) 112 ti112 (.leaf)) 113 ti113 (.leaf)) 114 ti114 (.node (.leaf) 115 ti115 (.leaf))) 116 ti116 (.node (.node (.leaf) 117 ti117 (.leaf)) 118 ti118 (.node (.leaf) 119 ti119 (.leaf)))) 120 ti120 (.node (.node (.node (.leaf) 121 ti121 (.leaf)) 122 ti122 (.node (.leaf) 123 ti123 (.leaf))) 124 ti124 (.node (.node (.leaf) 125 ti125 (.leaf)) 127 ti127 (.node (.leaf) 128 ti128 (.leaf))))) 130 ti130 (.node (.node (.node (.node (.node (.leaf) 131 ti131 (.leaf)) 132 ti132 (.leaf)) 133 ti133 (.node (.leaf) 134 ti134 (.leaf))) 135 ti135 (.node (.node (.leaf) 136 ti136 (.leaf)) 137 ti137 (.node (.leaf) 138 ti138 (.leaf)))) 139 ti139 (.node (.node (.node (.leaf) 140 ti140 (.leaf)) 141 ti141 (.node (.leaf) 142 ti142 (.leaf))) 143 ti143 (.node (.node (.leaf) 144 ti144 (.leaf)) 145 ti145 (.node (.leaf) 146 ti146 (.leaf)))))))
theorem tyTree_ok : tyTree.allP (TIok Try.prog) := ⟨⟨⟨⟨⟨⟨⟨⟨trivial, ti1_ok, trivial⟩, ti2_ok, trivial⟩, ti3_ok, ⟨trivial, ti4_ok, trivial⟩⟩, ti5_ok, ⟨⟨trivial, ti6_ok, trivial⟩, ti7_ok, ⟨trivial, ti8_ok, trivial⟩⟩⟩, ti9_ok, ⟨⟨⟨trivial, ti10_ok, trivial⟩, ti11_ok, ⟨trivial, ti12_ok, trivial⟩⟩, ti13_ok, ⟨⟨trivial, ti14_ok, trivial⟩, ti15_ok, ⟨trivial, ti16_ok, trivial⟩⟩⟩⟩, ti17_ok, ⟨⟨⟨⟨⟨trivial, ti18_ok, trivial⟩, ti19_ok, trivial⟩, ti20_ok, ⟨trivial, ti21_ok, trivial⟩⟩, ti22_ok, ⟨⟨trivial, ti23_ok, trivial⟩, ti24_ok, ⟨trivial, ti25_ok, trivial⟩⟩⟩, ti26_ok, ⟨⟨⟨trivial, ti27_ok, trivial⟩, ti28_ok, ⟨trivial, ti29_ok, trivial⟩⟩, ti30_ok, ⟨⟨trivial, ti31_ok, trivial⟩, ti32_ok, ⟨trivial, ti33_ok, trivial⟩⟩⟩⟩⟩, ti34_ok, ⟨⟨⟨⟨⟨⟨trivial, ti36_ok, trivial⟩, ti37_ok, trivial⟩, ti38_ok, ⟨trivial, ti39_ok, trivial⟩⟩, ti40_ok, ⟨⟨trivial, ti41_ok, trivial⟩, ti42_ok, ⟨trivial, ti43_ok, trivial⟩⟩⟩, ti44_ok, ⟨⟨⟨trivial, ti45_ok, trivial⟩, ti46_ok, ⟨trivial, ti47_ok, trivial⟩⟩, ti48_ok, ⟨⟨trivial, ti49_ok, trivial⟩, ti50_ok, ⟨trivial, ti51_ok, trivial⟩⟩⟩⟩, ti53_ok, ⟨⟨⟨⟨⟨trivial, ti54_ok, trivial⟩, ti55_ok, trivial⟩, ti56_ok, ⟨trivial, ti57_ok, trivial⟩⟩, ti58_ok, ⟨⟨trivial, ti59_ok, trivial⟩, ti60_ok, ⟨trivial, ti61_ok, trivial⟩⟩⟩, ti62_ok, ⟨⟨⟨trivial, ti63_ok, trivial⟩, ti64_ok, ⟨trivial, ti65_ok, trivial⟩⟩, ti66_ok, ⟨⟨trivial, ti67_ok, trivial⟩, ti68_ok, ⟨trivial, ti69_ok, trivial⟩⟩⟩⟩⟩⟩, ti70_ok, ⟨⟨⟨⟨⟨⟨⟨trivial, ti71_ok, trivial⟩, ti72_ok, trivial⟩, ti73_ok, ⟨trivial, ti74_ok, trivial⟩⟩, ti75_ok, ⟨⟨trivial, ti77_ok, trivial⟩, ti78_ok, ⟨trivial, ti80_ok, trivial⟩⟩⟩, ti81_ok, ⟨⟨⟨trivial, ti82_ok, trivial⟩, ti83_ok, ⟨trivial, ti84_ok, trivial⟩⟩, ti85_ok, ⟨⟨trivial, ti86_ok, trivial⟩, ti87_ok, ⟨trivial, ti88_ok, trivial⟩⟩⟩⟩, ti89_ok, ⟨⟨⟨⟨⟨trivial, ti90_ok, trivial⟩, ti92_ok, trivial⟩, ti93_ok, ⟨trivial, ti94_ok, trivial⟩⟩, ti95_ok, ⟨⟨trivial, ti96_ok, trivial⟩, ti97_ok, ⟨trivial, ti99_ok, trivial⟩⟩⟩, ti100_ok, ⟨⟨⟨trivial, ti101_ok, trivial⟩, ti103_ok, ⟨trivial, ti104_ok, trivial⟩⟩, ti105_ok, ⟨⟨trivial, ti107_ok, trivial⟩, ti108_ok, ⟨trivial, ti109_ok, trivial⟩⟩⟩⟩⟩, ti110_ok, ⟨⟨⟨⟨⟨⟨trivial, ti112_ok, trivial⟩, ti113_ok, trivial⟩, ti114_ok, ⟨trivial, ti115_ok, trivial⟩⟩, ti116_ok, ⟨⟨trivial, ti117_ok, trivial⟩, ti118_ok, ⟨trivial, ti119_ok, trivial⟩⟩⟩, ti120_ok, ⟨⟨⟨trivial, ti121_ok, trivial⟩, ti122_ok, ⟨trivial, ti123_ok, trivial⟩⟩, ti124_ok, ⟨⟨trivial, ti125_ok, trivial⟩, ti127_ok, ⟨trivial, ti128_ok, trivial⟩⟩⟩⟩, ti130_ok, ⟨⟨⟨⟨⟨trivial, ti131_ok, trivial⟩, ti132_ok, trivial⟩, ti133_ok, ⟨trivial, ti134_ok, trivial⟩⟩, ti135_ok, ⟨⟨trivial, ti136_ok, trivial⟩, ti137_ok, ⟨trivial, ti138_ok, trivial⟩⟩⟩, ti139_ok, ⟨⟨⟨trivial, ti140_ok, trivial⟩, ti141_ok, ⟨trivial, ti142_ok, trivial⟩⟩, ti143_ok, ⟨⟨trivial, ti144_ok, trivial⟩, ti145_ok, ⟨trivial, ti146_ok, trivial⟩⟩⟩⟩⟩⟩⟩
noncomputable def TC : Cx := ⟨Try.prog, tyTree.look, TyTree.look_ok tyTree_ok⟩
theorem TC_mixed : TC.P.follows .mixedOrders = true := by kernel_rfl
end Go.Proofs.Ytkdolemhhihidaa

namespace Go.Proofs.Ytkdolemhhihidaa
open Go.RowKit Go.Shelf

/-- a call of plain values that leaves all as it is -/
theorem Pure.val {C : Cx} {g : Nat} {xs : List Value} {r : Value} (ent : Enters C.P g) (hr : r.oneCell' = true) (h : ∀ w, Calls C.P g xs.toArray w fun e w' => e = .returned r ∧ w' = w) : Pure C g (xs.map fun v => .d (.val v)) (.d (.val r)) := by
  refine ⟨ent, fun E w vs hIm hsz hargs => ?_⟩
  have : vs = xs.toArray := by
    apply Array.ext (by simpa using hsz)
    intro i h1 h2
    have h3 := hargs i (by simpa using h2)
    rw [List.getElem_map] at h3
    have := h3.val_inv
    simpa [Array.getD, h1] using this
  subst this
  refine (h w).mono ?_
  rintro e w' ⟨rfl, rfl⟩
  exact ⟨r, rfl, Kp.refl _, .d _ _ (.val _ hr)⟩
theorem Pure.val2 {C : Cx} {g : Nat} {xs : List Value} {r s : Value} (ent : Enters C.P g) (hr : r.oneCell' = true) (hs : s.oneCell' = true) (h : ∀ w, Calls C.P g xs.toArray w fun e w' => e = .returned (.tuple #[r, s]) ∧ w' = w) : Pure C g (xs.map fun v => .d (.val v)) (.tup [.d (.val r), .d (.val s)]) := by
  refine ⟨ent, fun E w vs hIm hsz hargs => ?_⟩
  have : vs = xs.toArray := by
    apply Array.ext (by simpa using hsz)
    intro i h1 h2
    have h3 := hargs i (by simpa using h2)
    rw [List.getElem_map] at h3
    have := h3.val_inv
    simpa [Array.getD, h1] using this
  subst this
  refine (h w).mono ?_
  rintro e w' ⟨rfl, rfl⟩
  refine ⟨_, rfl, Kp.refl _, .tup _ _ rfl fun j hj => ?_⟩
  have : j = 0 ∨ j = 1 := by simp at hj; omega
  rcases this with rfl | rfl
  · exact .d _ _ (.val _ hr)
  · exact .d _ _ (.val _ hs)
def mulRen : Go.Shelf.Ren := ⟨fun | 264 => 89 | n => n, fun | 53 => 60 | 46 => 110 | n => n, fun | n => n⟩
theorem mulLays : Go.Proofs.Lays.n264 Try.prog mulRen := {
  mixed := by kernel_rfl
  f264 := Try.func89.trans (congrArg some (by kernel_rfl))
  t46 := Try.underlying110
  a46 := Try.isAgg110
  z46 := Try.sizeOf110
  v46 := Try.zeroValue110
  t53 := Try.underlying60
  a53 := Try.isAgg60
  z53 := Try.sizeOf60
  v53 := Try.zeroValue60 }
def hiI (x : Int) : Int := x / 18446744073709551616
def loI (x : Int) : Int := x % 18446744073709551616
theorem bits_Mul64 (x y : Int) (hx : 0 ≤ x) (hx2 : x < 18446744073709551616) (hy : 0 ≤ y) (hy2 : y < 18446744073709551616) : Pure TC 89 [.i .u64 x, .i .u64 y] (.tup [.i .u64 (hiI (x * y)), .i .u64 (loI (x * y))]) := by
  obtain ⟨n, rfl⟩ := Int.eq_ofNat_of_zero_le hx
  obtain ⟨m, rfl⟩ := Int.eq_ofNat_of_zero_le hy
  refine Pure.val2 (xs := [.int .u64 n, .int .u64 m]) (.mk Try.func89 rfl rfl) rfl rfl fun w => ?_
  refine (Any.bits_Mul64 mulLays n m (by omega) (by omega) w).mono ?_
  rintro e w' ⟨rfl, rfl⟩
  refine ⟨?_, rfl⟩
  simp [hiI, loI]
end Go.Proofs.Ytkdolemhhihidaa

namespace Go.Proofs.Ytkdolemhhihidaa
open Go.RowKit

/-- a slice of things, each of which lies in esz cells -/
def slOf {α : Type} [Inhabited α] (esz : Nat) (enc : α → List D) (xs : List α) : D := .sl esz xs.length fun i => enc (xs.getD i default)
def encI (k : IntKind) (n : Int) : List D := [.val (.int k n)]
theorem if_ii {c : Prop} [Decidable c] {k : IntKind} {x y : Int} : (if c then SV.i k x else SV.i k y) = SV.i k (if c then x else y) := by split <;> rfl

def tickB (n : Int) : Bool := decide (0 ≤ n) && decide (n ≤ 4611686018427387903)
theorem tickB_iff (n : Int) : tickB n = true ↔ 0 ≤ n ∧ n ≤ 4611686018427387903 := by simp [tickB]
theorem tickB_no (n : Int) : tickB n = false ↔ n < 0 ∨ 4611686018427387903 < n := by simp [tickB]; omega
def limE (T tau : Int) : Int := if tickB T = true ∧ 1 ≤ T ∧ tickB tau = true then 0 else 1

theorem tick_Form (n : Int) : Pure TC 28 [.i .i64 n] (.b (tickB n)) := by
  refine Pure.mk' Try.func28 rfl rfl (Nat.le_of_ble_eq_true rfl) ?_
  (repeat' (first
    | with_reducible refine Wp.seq ?_
    | with_reducible refine Wp.block ?_
    | ((with_reducible refine Wp.region ?_); conv => whnf)
    | ((with_reducible refine Wp.drawL TC_mixed ?_); conv => whnf)
    | ((with_reducible refine Wp.cond ?_); conv => whnf)
    | ((with_reducible refine Wp.ret ?_); conv => whnf)
    | ((with_reducible refine Wp.skip ?_); conv => whnf)
    | ((with_reducible refine Wp.exit ?_); conv => whnf)
    | ((with_reducible refine Go.mk ?_); conv => whnf)
    | ((with_reducible apply Eff1.of); conv => whnf)
    | with_reducible exact rfl
    | ((with_reducible refine Ov.ok (by first | exact IntWalk.i64_in _ (by omega) | exact IntWalk.u64_in _ (by omega) | exact IntWalk.u8_in _ (by omega) | exact IntWalk.u32_in _ (by omega) | exact IntWalk.i32_in _ (by omega) | exact IntWalk.u16_in _ (by omega)) ?_); conv => whnf)
    | (with_reducible refine Ov.sh1 (by with_unfolding_all exact rfl) ?_)
    | ((with_reducible refine Ov.quo (by omega) (by omega) (by omega) (fun _ _ => ?_)); conv => whnf)
    | ((with_reducible refine And.intro (show drawOK _ _ _ _ = true by kernel_rfl) ?_); conv => whnf)
    | ((with_reducible refine And.intro (by first | omega | exact Nat.le_of_ble_eq_true rfl) ?_); conv => whnf)
    | ((with_reducible refine And.intro ?hb ?_); (case hb => exact bytes_bd (Nat.le_of_ble_eq_true rfl) (by omega)); (conv => whnf))
    | ((refine DApp.a rfl rfl rfl rfl rfl rfl ?hb ?_); (case hb => first | exact bytes_bd (Nat.le_of_ble_eq_true rfl) (by omega) | omega); (conv => whnf))
    | ((refine DApp.b rfl rfl rfl rfl rfl rfl rfl rfl ?hb ?ho ?_); (case hb => first | exact bytes_bd (Nat.le_of_ble_eq_true rfl) (by omega) | omega); (case ho => omega); (conv => whnf))
    | ((refine DApp.c rfl rfl rfl rfl rfl ?hb ?_); (case hb => first | exact bytes_bd (Nat.le_of_ble_eq_true rfl) (by omega) | omega); (conv => whnf))
    | ((refine DApp.d rfl rfl rfl rfl rfl rfl ?hb ?ho ?_); (case hb => first | exact bytes_bd (Nat.le_of_ble_eq_true rfl) (by omega) | omega); (case ho => omega); (conv => whnf))
    | ((with_reducible refine nil_no (by omega) ?_); (conv => whnf))
    | ((with_reducible refine nil_any ?_ (fun hn0 => ?_)) <;> (conv => whnf))
    
    | ((refine ways (fun hc => ?_) (fun hc => ?_)) <;> (try simp only [decide_eq_true_eq, decide_eq_false_iff_not, Bool.and_eq_true, Bool.or_eq_true, Bool.and_eq_false_iff, Bool.or_eq_false_iff, Bool.not_eq_true', Bool.not_eq_false', beq_iff_eq, bne_iff_ne, ne_eq, beq_eq_false_iff_ne, bne_eq_false_iff_eq, Bool.not_eq_true, Bool.not_eq_false] at hc) <;> (try (exfalso; omega)) <;> (conv => whnf))))
  all_goals exact .b (by simp [tickB]; omega)
theorem r1_Form (n : Int) : Pure TC 30 [.i .i64 n] (.b (tickB n)) := by
  refine Pure.mk' Try.func30 rfl rfl (Nat.le_of_ble_eq_true rfl) ?_
  (repeat' (first
    | with_reducible refine Wp.seq ?_
    | with_reducible refine Wp.block ?_
    | ((with_reducible refine Wp.region ?_); conv => whnf)
    | ((with_reducible refine Wp.drawL TC_mixed ?_); conv => whnf)
    | ((with_reducible refine Wp.cond ?_); conv => whnf)
    | ((with_reducible refine Wp.ret ?_); conv => whnf)
    | ((with_reducible refine Wp.skip ?_); conv => whnf)
    | ((with_reducible refine Wp.exit ?_); conv => whnf)
    | ((with_reducible refine Go.mk ?_); conv => whnf)
    | ((with_reducible apply Eff1.of); conv => whnf)
    | with_reducible exact rfl
    | ((with_reducible refine Ov.ok (by first | exact IntWalk.i64_in _ (by omega) | exact IntWalk.u64_in _ (by omega) | exact IntWalk.u8_in _ (by omega) | exact IntWalk.u32_in _ (by omega) | exact IntWalk.i32_in _ (by omega) | exact IntWalk.u16_in _ (by omega)) ?_); conv => whnf)
    | (with_reducible refine Ov.sh1 (by with_unfolding_all exact rfl) ?_)
    | ((with_reducible refine Ov.quo (by omega) (by omega) (by omega) (fun _ _ => ?_)); conv => whnf)
    | ((with_reducible refine And.intro (show drawOK _ _ _ _ = true by kernel_rfl) ?_); conv => whnf)
    | ((with_reducible refine And.intro (by first | omega | exact Nat.le_of_ble_eq_true rfl) ?_); conv => whnf)
    | ((with_reducible refine And.intro ?hb ?_); (case hb => exact bytes_bd (Nat.le_of_ble_eq_true rfl) (by omega)); (conv => whnf))
    | ((refine DApp.a rfl rfl rfl rfl rfl rfl ?hb ?_); (case hb => first | exact bytes_bd (Nat.le_of_ble_eq_true rfl) (by omega) | omega); (conv => whnf))
    | ((refine DApp.b rfl rfl rfl rfl rfl rfl rfl rfl ?hb ?ho ?_); (case hb => first | exact bytes_bd (Nat.le_of_ble_eq_true rfl) (by omega) | omega); (case ho => omega); (conv => whnf))
    | ((refine DApp.c rfl rfl rfl rfl rfl ?hb ?_); (case hb => first | exact bytes_bd (Nat.le_of_ble_eq_true rfl) (by omega) | omega); (conv => whnf))
    | ((refine DApp.d rfl rfl rfl rfl rfl rfl ?hb ?ho ?_); (case hb => first | exact bytes_bd (Nat.le_of_ble_eq_true rfl) (by omega) | omega); (case ho => omega); (conv => whnf))
    | ((with_reducible refine nil_no (by omega) ?_); (conv => whnf))
    | ((with_reducible refine nil_any ?_ (fun hn0 => ?_)) <;> (conv => whnf))
    
    | ((refine ways (fun hc => ?_) (fun hc => ?_)) <;> (try simp only [decide_eq_true_eq, decide_eq_false_iff_not, Bool.and_eq_true, Bool.or_eq_true, Bool.and_eq_false_iff, Bool.or_eq_false_iff, Bool.not_eq_true', Bool.not_eq_false', beq_iff_eq, bne_iff_ne, ne_eq, beq_eq_false_iff_ne, bne_eq_false_iff_eq, Bool.not_eq_true, Bool.not_eq_false] at hc) <;> (try (exfalso; omega)) <;> (conv => whnf))))
  all_goals exact .b (by simp [tickB]; omega)
theorem rate_Check (T tau : Int) : Pure TC 45 [.agg [.i .i64 T, .i .i64 tau]] (.i .i64 (limE T tau)) := by
  refine Pure.mk' Try.func45 rfl rfl (Nat.le_of_ble_eq_true rfl) ?_
  (repeat' (first
    | with_reducible refine Wp.seq ?_
    | with_reducible refine Wp.block ?_
    | ((with_reducible refine Wp.region ?_); conv => whnf)
    | ((with_reducible refine Wp.drawL TC_mixed ?_); conv => whnf)
    | ((with_reducible refine Wp.cond ?_); conv => whnf)
    | ((with_reducible refine Wp.ret ?_); conv => whnf)
    | ((with_reducible refine Wp.skip ?_); conv => whnf)
    | ((with_reducible refine Wp.exit ?_); conv => whnf)
    | ((with_reducible refine Go.mk ?_); conv => whnf)
    | ((with_reducible apply Eff1.of); conv => whnf)
    | with_reducible exact rfl
    | ((with_reducible refine Ov.ok (by first | exact IntWalk.i64_in _ (by omega) | exact IntWalk.u64_in _ (by omega) | exact IntWalk.u8_in _ (by omega) | exact IntWalk.u32_in _ (by omega) | exact IntWalk.i32_in _ (by omega) | exact IntWalk.u16_in _ (by omega)) ?_); conv => whnf)
    | (with_reducible refine Ov.sh1 (by with_unfolding_all exact rfl) ?_)
    | ((with_reducible refine Ov.quo (by omega) (by omega) (by omega) (fun _ _ => ?_)); conv => whnf)
    | ((with_reducible refine And.intro (show drawOK _ _ _ _ = true by kernel_rfl) ?_); conv => whnf)
    | ((with_reducible refine And.intro (by first | omega | exact Nat.le_of_ble_eq_true rfl) ?_); conv => whnf)
    | ((with_reducible refine And.intro ?hb ?_); (case hb => exact bytes_bd (Nat.le_of_ble_eq_true rfl) (by omega)); (conv => whnf))
    | ((refine DApp.a rfl rfl rfl rfl rfl rfl ?hb ?_); (case hb => first | exact bytes_bd (Nat.le_of_ble_eq_true rfl) (by omega) | omega); (conv => whnf))
    | ((refine DApp.b rfl rfl rfl rfl rfl rfl rfl rfl ?hb ?ho ?_); (case hb => first | exact bytes_bd (Nat.le_of_ble_eq_true rfl) (by omega) | omega); (case ho => omega); (conv => whnf))
    | ((refine DApp.c rfl rfl rfl rfl rfl ?hb ?_); (case hb => first | exact bytes_bd (Nat.le_of_ble_eq_true rfl) (by omega) | omega); (conv => whnf))
    | ((refine DApp.d rfl rfl rfl rfl rfl rfl ?hb ?ho ?_); (case hb => first | exact bytes_bd (Nat.le_of_ble_eq_true rfl) (by omega) | omega); (case ho => omega); (conv => whnf))
    | ((with_reducible refine nil_no (by omega) ?_); (conv => whnf))
    | ((with_reducible refine nil_any ?_ (fun hn0 => ?_)) <;> (conv => whnf))
    | ((with_reducible refine CallStop.pure (tick_Form _) rfl rfl ?_); conv => whnf) | ((with_reducible refine DCall.pure (tick_Form _) rfl rfl ?_); conv => whnf)
    | ((refine ways (fun hc => ?_) (fun hc => ?_)) <;> (try simp only [decide_eq_true_eq, decide_eq_false_iff_not, Bool.and_eq_true, Bool.or_eq_true, Bool.and_eq_false_iff, Bool.or_eq_false_iff, Bool.not_eq_true', Bool.not_eq_false', beq_iff_eq, bne_iff_ne, ne_eq, beq_eq_false_iff_ne, bne_eq_false_iff_eq, Bool.not_eq_true, Bool.not_eq_false] at hc) <;> (try (exfalso; omega)) <;> (conv => whnf))))
  all_goals exact .i (by simp [limE, *]; try omega)
theorem r4_Check (T tau : Int) : Pure TC 48 [.agg [.i .i64 T, .i .i64 tau]] (.i .i64 (limE T tau)) := by
  refine Pure.mk' Try.func48 rfl rfl (Nat.le_of_ble_eq_true rfl) ?_
  (repeat' (first
    | with_reducible refine Wp.seq ?_
    | with_reducible refine Wp.block ?_
    | ((with_reducible refine Wp.region ?_); conv => whnf)
    | ((with_reducible refine Wp.drawL TC_mixed ?_); conv => whnf)
    | ((with_reducible refine Wp.cond ?_); conv => whnf)
    | ((with_reducible refine Wp.ret ?_); conv => whnf)
    | ((with_reducible refine Wp.skip ?_); conv => whnf)
    | ((with_reducible refine Wp.exit ?_); conv => whnf)
    | ((with_reducible refine Go.mk ?_); conv => whnf)
    | ((with_reducible apply Eff1.of); conv => whnf)
    | with_reducible exact rfl
    | ((with_reducible refine Ov.ok (by first | exact IntWalk.i64_in _ (by omega) | exact IntWalk.u64_in _ (by omega) | exact IntWalk.u8_in _ (by omega) | exact IntWalk.u32_in _ (by omega) | exact IntWalk.i32_in _ (by omega) | exact IntWalk.u16_in _ (by omega)) ?_); conv => whnf)
    | (with_reducible refine Ov.sh1 (by with_unfolding_all exact rfl) ?_)
    | ((with_reducible refine Ov.quo (by omega) (by omega) (by omega) (fun _ _ => ?_)); conv => whnf)
    | ((with_reducible refine And.intro (show drawOK _ _ _ _ = true by kernel_rfl) ?_); conv => whnf)
    | ((with_reducible refine And.intro (by first | omega | exact Nat.le_of_ble_eq_true rfl) ?_); conv => whnf)
    | ((with_reducible refine And.intro ?hb ?_); (case hb => exact bytes_bd (Nat.le_of_ble_eq_true rfl) (by omega)); (conv => whnf))
    | ((refine DApp.a rfl rfl rfl rfl rfl rfl ?hb ?_); (case hb => first | exact bytes_bd (Nat.le_of_ble_eq_true rfl) (by omega) | omega); (conv => whnf))
    | ((refine DApp.b rfl rfl rfl rfl rfl rfl rfl rfl ?hb ?ho ?_); (case hb => first | exact bytes_bd (Nat.le_of_ble_eq_true rfl) (by omega) | omega); (case ho => omega); (conv => whnf))
    | ((refine DApp.c rfl rfl rfl rfl rfl ?hb ?_); (case hb => first | exact bytes_bd (Nat.le_of_ble_eq_true rfl) (by omega) | omega); (conv => whnf))
    | ((refine DApp.d rfl rfl rfl rfl rfl rfl ?hb ?ho ?_); (case hb => first | exact bytes_bd (Nat.le_of_ble_eq_true rfl) (by omega) | omega); (case ho => omega); (conv => whnf))
    | ((with_reducible refine nil_no (by omega) ?_); (conv => whnf))
    | ((with_reducible refine nil_any ?_ (fun hn0 => ?_)) <;> (conv => whnf))
    | ((with_reducible refine CallStop.pure (r1_Form _) rfl rfl ?_); conv => whnf) | ((with_reducible refine DCall.pure (r1_Form _) rfl rfl ?_); conv => whnf)
    | ((refine ways (fun hc => ?_) (fun hc => ?_)) <;> (try simp only [decide_eq_true_eq, decide_eq_false_iff_not, Bool.and_eq_true, Bool.or_eq_true, Bool.and_eq_false_iff, Bool.or_eq_false_iff, Bool.not_eq_true', Bool.not_eq_false', beq_iff_eq, bne_iff_ne, ne_eq, beq_eq_false_iff_ne, bne_eq_false_iff_eq, Bool.not_eq_true, Bool.not_eq_false] at hc) <;> (try (exfalso; omega)) <;> (conv => whnf))))
  all_goals exact .i (by simp [limE, *]; try omega)

structure Pol where
  kind : Int
  T : Int
  tau : Int
  permits : Int
  deriving Inhabited
def Pol.D (p : Pol) : List D := [.val (.int .u8 p.kind), .val (.int .i64 p.T), .val (.int .i64 p.tau), .val (.int .i64 p.permits)]
def formB (k T tau m : Int) : Bool := if k = 1 then limE T tau == 0 else if k = 2 then decide (1 ≤ m) && decide (m ≤ 64) else false

theorem book_form (k T tau m : Int) : Pure TC 26 [.agg [.i .u8 k, .i .i64 T, .i .i64 tau, .i .i64 m]] (.b (formB k T tau m)) := by
  refine Pure.mk' Try.func26 rfl rfl (Nat.le_of_ble_eq_true rfl) ?_
  (repeat' (first
    | with_reducible refine Wp.seq ?_
    | with_reducible refine Wp.block ?_
    | ((with_reducible refine Wp.region ?_); conv => whnf)
    | ((with_reducible refine Wp.drawL TC_mixed ?_); conv => whnf)
    | ((with_reducible refine Wp.cond ?_); conv => whnf)
    | ((with_reducible refine Wp.ret ?_); conv => whnf)
    | ((with_reducible refine Wp.skip ?_); conv => whnf)
    | ((with_reducible refine Wp.exit ?_); conv => whnf)
    | ((with_reducible refine Go.mk ?_); conv => whnf)
    | ((with_reducible apply Eff1.of); conv => whnf)
    | with_reducible exact rfl
    | ((with_reducible refine Ov.ok (by first | exact IntWalk.i64_in _ (by omega) | exact IntWalk.u64_in _ (by omega) | exact IntWalk.u8_in _ (by omega) | exact IntWalk.u32_in _ (by omega) | exact IntWalk.i32_in _ (by omega) | exact IntWalk.u16_in _ (by omega)) ?_); conv => whnf)
    | (with_reducible refine Ov.sh1 (by with_unfolding_all exact rfl) ?_)
    | ((with_reducible refine Ov.quo (by omega) (by omega) (by omega) (fun _ _ => ?_)); conv => whnf)
    | ((with_reducible refine And.intro (show drawOK _ _ _ _ = true by kernel_rfl) ?_); conv => whnf)
    | ((with_reducible refine And.intro (by first | omega | exact Nat.le_of_ble_eq_true rfl) ?_); conv => whnf)
    | ((with_reducible refine And.intro ?hb ?_); (case hb => exact bytes_bd (Nat.le_of_ble_eq_true rfl) (by omega)); (conv => whnf))
    | ((refine DApp.a rfl rfl rfl rfl rfl rfl ?hb ?_); (case hb => first | exact bytes_bd (Nat.le_of_ble_eq_true rfl) (by omega) | omega); (conv => whnf))
    | ((refine DApp.b rfl rfl rfl rfl rfl rfl rfl rfl ?hb ?ho ?_); (case hb => first | exact bytes_bd (Nat.le_of_ble_eq_true rfl) (by omega) | omega); (case ho => omega); (conv => whnf))
    | ((refine DApp.c rfl rfl rfl rfl rfl ?hb ?_); (case hb => first | exact bytes_bd (Nat.le_of_ble_eq_true rfl) (by omega) | omega); (conv => whnf))
    | ((refine DApp.d rfl rfl rfl rfl rfl rfl ?hb ?ho ?_); (case hb => first | exact bytes_bd (Nat.le_of_ble_eq_true rfl) (by omega) | omega); (case ho => omega); (conv => whnf))
    | ((with_reducible refine nil_no (by omega) ?_); (conv => whnf))
    | ((with_reducible refine nil_any ?_ (fun hn0 => ?_)) <;> (conv => whnf))
    | ((with_reducible refine CallStop.pure (rate_Check _ _) rfl rfl ?_); conv => whnf) | ((with_reducible refine DCall.pure (rate_Check _ _) rfl rfl ?_); conv => whnf)
    | ((refine ways (fun hc => ?_) (fun hc => ?_)) <;> (try simp only [decide_eq_true_eq, decide_eq_false_iff_not, Bool.and_eq_true, Bool.or_eq_true, Bool.and_eq_false_iff, Bool.or_eq_false_iff, Bool.not_eq_true', Bool.not_eq_false', beq_iff_eq, bne_iff_ne, ne_eq, beq_eq_false_iff_ne, bne_eq_false_iff_eq, Bool.not_eq_true, Bool.not_eq_false] at hc) <;> (try (exfalso; omega)) <;> (conv => whnf))))
  all_goals exact .b (by simp [formB, *])
theorem r16_Form (k T tau m : Int) : Pure TC 27 [.agg [.i .u8 k, .i .i64 T, .i .i64 tau, .i .i64 m]] (.b (formB k T tau m)) := by
  refine Pure.mk' Try.func27 rfl rfl (Nat.le_of_ble_eq_true rfl) ?_
  (repeat' (first
    | with_reducible refine Wp.seq ?_
    | with_reducible refine Wp.block ?_
    | ((with_reducible refine Wp.region ?_); conv => whnf)
    | ((with_reducible refine Wp.drawL TC_mixed ?_); conv => whnf)
    | ((with_reducible refine Wp.cond ?_); conv => whnf)
    | ((with_reducible refine Wp.ret ?_); conv => whnf)
    | ((with_reducible refine Wp.skip ?_); conv => whnf)
    | ((with_reducible refine Wp.exit ?_); conv => whnf)
    | ((with_reducible refine Go.mk ?_); conv => whnf)
    | ((with_reducible apply Eff1.of); conv => whnf)
    | with_reducible exact rfl
    | ((with_reducible refine Ov.ok (by first | exact IntWalk.i64_in _ (by omega) | exact IntWalk.u64_in _ (by omega) | exact IntWalk.u8_in _ (by omega) | exact IntWalk.u32_in _ (by omega) | exact IntWalk.i32_in _ (by omega) | exact IntWalk.u16_in _ (by omega)) ?_); conv => whnf)
    | (with_reducible refine Ov.sh1 (by with_unfolding_all exact rfl) ?_)
    | ((with_reducible refine Ov.quo (by omega) (by omega) (by omega) (fun _ _ => ?_)); conv => whnf)
    | ((with_reducible refine And.intro (show drawOK _ _ _ _ = true by kernel_rfl) ?_); conv => whnf)
    | ((with_reducible refine And.intro (by first | omega | exact Nat.le_of_ble_eq_true rfl) ?_); conv => whnf)
    | ((with_reducible refine And.intro ?hb ?_); (case hb => exact bytes_bd (Nat.le_of_ble_eq_true rfl) (by omega)); (conv => whnf))
    | ((refine DApp.a rfl rfl rfl rfl rfl rfl ?hb ?_); (case hb => first | exact bytes_bd (Nat.le_of_ble_eq_true rfl) (by omega) | omega); (conv => whnf))
    | ((refine DApp.b rfl rfl rfl rfl rfl rfl rfl rfl ?hb ?ho ?_); (case hb => first | exact bytes_bd (Nat.le_of_ble_eq_true rfl) (by omega) | omega); (case ho => omega); (conv => whnf))
    | ((refine DApp.c rfl rfl rfl rfl rfl ?hb ?_); (case hb => first | exact bytes_bd (Nat.le_of_ble_eq_true rfl) (by omega) | omega); (conv => whnf))
    | ((refine DApp.d rfl rfl rfl rfl rfl rfl ?hb ?ho ?_); (case hb => first | exact bytes_bd (Nat.le_of_ble_eq_true rfl) (by omega) | omega); (case ho => omega); (conv => whnf))
    | ((with_reducible refine nil_no (by omega) ?_); (conv => whnf))
    | ((with_reducible refine nil_any ?_ (fun hn0 => ?_)) <;> (conv => whnf))
    | ((with_reducible refine CallStop.pure (r4_Check _ _) rfl rfl ?_); conv => whnf) | ((with_reducible refine DCall.pure (r4_Check _ _) rfl rfl ?_); conv => whnf)
    | ((refine ways (fun hc => ?_) (fun hc => ?_)) <;> (try simp only [decide_eq_true_eq, decide_eq_false_iff_not, Bool.and_eq_true, Bool.or_eq_true, Bool.and_eq_false_iff, Bool.or_eq_false_iff, Bool.not_eq_true', Bool.not_eq_false', beq_iff_eq, bne_iff_ne, ne_eq, beq_eq_false_iff_ne, bne_eq_false_iff_eq, Bool.not_eq_true, Bool.not_eq_false] at hc) <;> (try (exfalso; omega)) <;> (conv => whnf))))
  all_goals exact .b (by simp [formB, *])

def polsE (ps : List Pol) : Int := if 32 < ps.length then 2 else if ps.all (fun p => formB p.kind p.T p.tau p.permits) then 0 else 3

theorem polsE_all {ps : List Pol} (h : ¬ 32 < ps.length) : polsE ps = if ps.all (fun p => formB p.kind p.T p.tau p.permits) then 0 else 3 := by simp [polsE, h]
theorem all_take_succ {α : Type} [Inhabited α] {f : α → Bool} {xs : List α} {k : Nat} (hk : k < xs.length) (h : (xs.take k).all f = true) (h2 : f (xs.getD k default) = true) : (xs.take (k + 1)).all f = true := by
  rw [List.take_succ_eq_append_getElem hk, List.all_append, h]
  simp only [List.getD, List.getElem?_eq_getElem hk, Option.getD_some] at h2
  simp [h2]
theorem not_all {α : Type} [Inhabited α] {f : α → Bool} {xs : List α} {k : Nat} (hk : k < xs.length) (h2 : f (xs.getD k default) = false) : xs.all f = false := by
  simp only [List.getD, List.getElem?_eq_getElem hk, Option.getD_some] at h2
  rw [List.all_eq_false]
  exact ⟨_, List.getElem_mem hk, by simp [h2]⟩

theorem book_Policies (ps : List Pol) : Pure TC 11 [.d (slOf 4 Pol.D ps)] (.i .i64 (polsE ps)) := by
  refine Pure.mk' Try.func11 rfl rfl (Nat.le_of_ble_eq_true rfl) ?_
  (repeat' (first
    | with_reducible refine Wp.seq ?_
    | with_reducible refine Wp.block ?_
    | ((with_reducible refine Wp.region ?_); conv => whnf)
    | ((with_reducible refine Wp.drawL TC_mixed ?_); conv => whnf)
    | ((with_reducible refine Wp.cond ?_); conv => whnf)
    | ((with_reducible refine Wp.ret ?_); conv => whnf)
    | ((with_reducible refine Wp.skip ?_); conv => whnf)
    | ((with_reducible refine Wp.exit ?_); conv => whnf)
    | ((with_reducible refine Go.mk ?_); conv => whnf)
    | ((with_reducible apply Eff1.of); conv => whnf)
    | with_reducible exact rfl
    | ((with_reducible refine Ov.ok (by first | exact IntWalk.i64_in _ (by omega) | exact IntWalk.u64_in _ (by omega) | exact IntWalk.u8_in _ (by omega) | exact IntWalk.u32_in _ (by omega) | exact IntWalk.i32_in _ (by omega) | exact IntWalk.u16_in _ (by omega)) ?_); conv => whnf)
    | (with_reducible refine Ov.sh1 (by with_unfolding_all exact rfl) ?_)
    | ((with_reducible refine Ov.quo (by omega) (by omega) (by omega) (fun _ _ => ?_)); conv => whnf)
    | ((with_reducible refine And.intro (show drawOK _ _ _ _ = true by kernel_rfl) ?_); conv => whnf)
    | ((with_reducible refine And.intro (by first | omega | exact Nat.le_of_ble_eq_true rfl) ?_); conv => whnf)
    | ((with_reducible refine And.intro ?hb ?_); (case hb => exact bytes_bd (Nat.le_of_ble_eq_true rfl) (by omega)); (conv => whnf))
    | ((refine DApp.a rfl rfl rfl rfl rfl rfl ?hb ?_); (case hb => first | exact bytes_bd (Nat.le_of_ble_eq_true rfl) (by omega) | omega); (conv => whnf))
    | ((refine DApp.b rfl rfl rfl rfl rfl rfl rfl rfl ?hb ?ho ?_); (case hb => first | exact bytes_bd (Nat.le_of_ble_eq_true rfl) (by omega) | omega); (case ho => omega); (conv => whnf))
    | ((refine DApp.c rfl rfl rfl rfl rfl ?hb ?_); (case hb => first | exact bytes_bd (Nat.le_of_ble_eq_true rfl) (by omega) | omega); (conv => whnf))
    | ((refine DApp.d rfl rfl rfl rfl rfl rfl ?hb ?ho ?_); (case hb => first | exact bytes_bd (Nat.le_of_ble_eq_true rfl) (by omega) | omega); (case ho => omega); (conv => whnf))
    | ((with_reducible refine nil_no (by omega) ?_); (conv => whnf))
    | ((with_reducible refine nil_any ?_ (fun hn0 => ?_)) <;> (conv => whnf))
    
    | ((refine ways (fun hc => ?_) (fun hc => ?_)) <;> (try simp only [decide_eq_true_eq, decide_eq_false_iff_not, Bool.and_eq_true, Bool.or_eq_true, Bool.and_eq_false_iff, Bool.or_eq_false_iff, Bool.not_eq_true', Bool.not_eq_false', beq_iff_eq, bne_iff_ne, ne_eq, beq_eq_false_iff_ne, bne_eq_false_iff_eq, Bool.not_eq_true, Bool.not_eq_false] at hc) <;> (try (exfalso; omega)) <;> (conv => whnf))))
  · exact .i (by simp [polsE]; omega)
  · refine Wp.loopP (fun k => k ≤ ps.length ∧ (ps.take k).all (fun p => formB p.kind p.T p.tau p.permits) = true) (fun k => ⟨⟨Try.f11.ntmps, 0⟩, 0, [(8, .d (slOf 4 Pol.D ps)), (9, .i .i64 ps.length), (10, .i .i64 k)], []⟩) (fun k => ps.length - k) 0 ⟨by simp, by simp⟩ ?_ ?_
    · (refine Le.by [] rfl rfl rfl rfl ?_ ?_ <;> (conv => whnf) <;> (repeat' (first | exact trivial | exact ArgLe.rfl rfl | exact ArgLe.ptr rfl | exact ArgLe.sl rfl | ((with_reducible refine ArgLe.fn ?_); (conv => whnf)) | exact ⟨rfl, rfl, rfl⟩ | exact fun i hi => rfl | ((with_reducible refine And.intro ?_ ?_) <;> (conv => whnf)))))
    · rintro k ⟨hk, hall⟩
      (repeat' (first
    | with_reducible refine Wp.seq ?_
    | with_reducible refine Wp.block ?_
    | ((with_reducible refine Wp.region ?_); conv => whnf)
    | ((with_reducible refine Wp.drawL TC_mixed ?_); conv => whnf)
    | ((with_reducible refine Wp.cond ?_); conv => whnf)
    | ((with_reducible refine Wp.ret ?_); conv => whnf)
    | ((with_reducible refine Wp.skip ?_); conv => whnf)
    | ((with_reducible refine Wp.exit ?_); conv => whnf)
    | ((with_reducible refine Go.mk ?_); conv => whnf)
    | ((with_reducible apply Eff1.of); conv => whnf)
    | with_reducible exact rfl
    | ((with_reducible refine Ov.ok (by first | exact IntWalk.i64_in _ (by omega) | exact IntWalk.u64_in _ (by omega) | exact IntWalk.u8_in _ (by omega) | exact IntWalk.u32_in _ (by omega) | exact IntWalk.i32_in _ (by omega) | exact IntWalk.u16_in _ (by omega)) ?_); conv => whnf)
    | (with_reducible refine Ov.sh1 (by with_unfolding_all exact rfl) ?_)
    | ((with_reducible refine Ov.quo (by omega) (by omega) (by omega) (fun _ _ => ?_)); conv => whnf)
    | ((with_reducible refine And.intro (show drawOK _ _ _ _ = true by kernel_rfl) ?_); conv => whnf)
    | ((with_reducible refine And.intro (by first | omega | exact Nat.le_of_ble_eq_true rfl) ?_); conv => whnf)
    | ((with_reducible refine And.intro ?hb ?_); (case hb => exact bytes_bd (Nat.le_of_ble_eq_true rfl) (by omega)); (conv => whnf))
    | ((refine DApp.a rfl rfl rfl rfl rfl rfl ?hb ?_); (case hb => first | exact bytes_bd (Nat.le_of_ble_eq_true rfl) (by omega) | omega); (conv => whnf))
    | ((refine DApp.b rfl rfl rfl rfl rfl rfl rfl rfl ?hb ?ho ?_); (case hb => first | exact bytes_bd (Nat.le_of_ble_eq_true rfl) (by omega) | omega); (case ho => omega); (conv => whnf))
    | ((refine DApp.c rfl rfl rfl rfl rfl ?hb ?_); (case hb => first | exact bytes_bd (Nat.le_of_ble_eq_true rfl) (by omega) | omega); (conv => whnf))
    | ((refine DApp.d rfl rfl rfl rfl rfl rfl ?hb ?ho ?_); (case hb => first | exact bytes_bd (Nat.le_of_ble_eq_true rfl) (by omega) | omega); (case ho => omega); (conv => whnf))
    | ((with_reducible refine nil_no (by omega) ?_); (conv => whnf))
    | ((with_reducible refine nil_any ?_ (fun hn0 => ?_)) <;> (conv => whnf))
    | ((with_reducible refine CallStop.pure (book_form _ _ _ _) rfl rfl ?_); conv => whnf) | ((with_reducible refine DCall.pure (book_form _ _ _ _) rfl rfl ?_); conv => whnf)
    | ((refine ways (fun hc => ?_) (fun hc => ?_)) <;> (try simp only [decide_eq_true_eq, decide_eq_false_iff_not, Bool.and_eq_true, Bool.or_eq_true, Bool.and_eq_false_iff, Bool.or_eq_false_iff, Bool.not_eq_true', Bool.not_eq_false', beq_iff_eq, bne_iff_ne, ne_eq, beq_eq_false_iff_ne, bne_eq_false_iff_eq, Bool.not_eq_true, Bool.not_eq_false] at hc) <;> (try (exfalso; omega)) <;> (conv => whnf))))
      · exact .i (by rw [polsE_all (by omega), not_all (k := k) (by omega) (by simpa using hc)]; rfl)
      · refine ⟨k + 1, ⟨by omega, all_take_succ (by omega) hall (by simpa using hc)⟩, by dsimp only; omega, ?_⟩
        (refine Le.by [] rfl rfl rfl rfl ?_ ?_ <;> (conv => whnf) <;> (repeat' (first | exact trivial | exact ArgLe.rfl rfl | exact ArgLe.ptr rfl | exact ArgLe.sl rfl | ((with_reducible refine ArgLe.fn ?_); (conv => whnf)) | exact ⟨rfl, rfl, rfl⟩ | exact fun i hi => rfl | ((with_reducible refine And.intro ?_ ?_) <;> (conv => whnf)))))
      · rw [List.take_of_length_le (by omega)] at hall
        exact .i (by rw [polsE_all (by omega), hall]; rfl)
theorem r16_Policies (ps : List Pol) : Pure TC 12 [.d (slOf 4 Pol.D ps)] (.i .i64 (polsE ps)) := by
  refine Pure.mk' Try.func12 rfl rfl (Nat.le_of_ble_eq_true rfl) ?_
  (repeat' (first
    | with_reducible refine Wp.seq ?_
    | with_reducible refine Wp.block ?_
    | ((with_reducible refine Wp.region ?_); conv => whnf)
    | ((with_reducible refine Wp.drawL TC_mixed ?_); conv => whnf)
    | ((with_reducible refine Wp.cond ?_); conv => whnf)
    | ((with_reducible refine Wp.ret ?_); conv => whnf)
    | ((with_reducible refine Wp.skip ?_); conv => whnf)
    | ((with_reducible refine Wp.exit ?_); conv => whnf)
    | ((with_reducible refine Go.mk ?_); conv => whnf)
    | ((with_reducible apply Eff1.of); conv => whnf)
    | with_reducible exact rfl
    | ((with_reducible refine Ov.ok (by first | exact IntWalk.i64_in _ (by omega) | exact IntWalk.u64_in _ (by omega) | exact IntWalk.u8_in _ (by omega) | exact IntWalk.u32_in _ (by omega) | exact IntWalk.i32_in _ (by omega) | exact IntWalk.u16_in _ (by omega)) ?_); conv => whnf)
    | (with_reducible refine Ov.sh1 (by with_unfolding_all exact rfl) ?_)
    | ((with_reducible refine Ov.quo (by omega) (by omega) (by omega) (fun _ _ => ?_)); conv => whnf)
    | ((with_reducible refine And.intro (show drawOK _ _ _ _ = true by kernel_rfl) ?_); conv => whnf)
    | ((with_reducible refine And.intro (by first | omega | exact Nat.le_of_ble_eq_true rfl) ?_); conv => whnf)
    | ((with_reducible refine And.intro ?hb ?_); (case hb => exact bytes_bd (Nat.le_of_ble_eq_true rfl) (by omega)); (conv => whnf))
    | ((refine DApp.a rfl rfl rfl rfl rfl rfl ?hb ?_); (case hb => first | exact bytes_bd (Nat.le_of_ble_eq_true rfl) (by omega) | omega); (conv => whnf))
    | ((refine DApp.b rfl rfl rfl rfl rfl rfl rfl rfl ?hb ?ho ?_); (case hb => first | exact bytes_bd (Nat.le_of_ble_eq_true rfl) (by omega) | omega); (case ho => omega); (conv => whnf))
    | ((refine DApp.c rfl rfl rfl rfl rfl ?hb ?_); (case hb => first | exact bytes_bd (Nat.le_of_ble_eq_true rfl) (by omega) | omega); (conv => whnf))
    | ((refine DApp.d rfl rfl rfl rfl rfl rfl ?hb ?ho ?_); (case hb => first | exact bytes_bd (Nat.le_of_ble_eq_true rfl) (by omega) | omega); (case ho => omega); (conv => whnf))
    | ((with_reducible refine nil_no (by omega) ?_); (conv => whnf))
    | ((with_reducible refine nil_any ?_ (fun hn0 => ?_)) <;> (conv => whnf))
    
    | ((refine ways (fun hc => ?_) (fun hc => ?_)) <;> (try simp only [decide_eq_true_eq, decide_eq_false_iff_not, Bool.and_eq_true, Bool.or_eq_true, Bool.and_eq_false_iff, Bool.or_eq_false_iff, Bool.not_eq_true', Bool.not_eq_false', beq_iff_eq, bne_iff_ne, ne_eq, beq_eq_false_iff_ne, bne_eq_false_iff_eq, Bool.not_eq_true, Bool.not_eq_false] at hc) <;> (try (exfalso; omega)) <;> (conv => whnf))))
  · exact .i (by simp [polsE]; omega)
  · refine Wp.loopP (fun k => k ≤ ps.length ∧ (ps.take k).all (fun p => formB p.kind p.T p.tau p.permits) = true) (fun k => ⟨⟨Try.f12.ntmps, 0⟩, 0, [(8, .d (slOf 4 Pol.D ps)), (9, .i .i64 ps.length), (10, .i .i64 k)], []⟩) (fun k => ps.length - k) 0 ⟨by simp, by simp⟩ ?_ ?_
    · (refine Le.by [] rfl rfl rfl rfl ?_ ?_ <;> (conv => whnf) <;> (repeat' (first | exact trivial | exact ArgLe.rfl rfl | exact ArgLe.ptr rfl | exact ArgLe.sl rfl | ((with_reducible refine ArgLe.fn ?_); (conv => whnf)) | exact ⟨rfl, rfl, rfl⟩ | exact fun i hi => rfl | ((with_reducible refine And.intro ?_ ?_) <;> (conv => whnf)))))
    · rintro k ⟨hk, hall⟩
      (repeat' (first
    | with_reducible refine Wp.seq ?_
    | with_reducible refine Wp.block ?_
    | ((with_reducible refine Wp.region ?_); conv => whnf)
    | ((with_reducible refine Wp.drawL TC_mixed ?_); conv => whnf)
    | ((with_reducible refine Wp.cond ?_); conv => whnf)
    | ((with_reducible refine Wp.ret ?_); conv => whnf)
    | ((with_reducible refine Wp.skip ?_); conv => whnf)
    | ((with_reducible refine Wp.exit ?_); conv => whnf)
    | ((with_reducible refine Go.mk ?_); conv => whnf)
    | ((with_reducible apply Eff1.of); conv => whnf)
    | with_reducible exact rfl
    | ((with_reducible refine Ov.ok (by first | exact IntWalk.i64_in _ (by omega) | exact IntWalk.u64_in _ (by omega) | exact IntWalk.u8_in _ (by omega) | exact IntWalk.u32_in _ (by omega) | exact IntWalk.i32_in _ (by omega) | exact IntWalk.u16_in _ (by omega)) ?_); conv => whnf)
    | (with_reducible refine Ov.sh1 (by with_unfolding_all exact rfl) ?_)
    | ((with_reducible refine Ov.quo (by omega) (by omega) (by omega) (fun _ _ => ?_)); conv => whnf)
    | ((with_reducible refine And.intro (show drawOK _ _ _ _ = true by kernel_rfl) ?_); conv => whnf)
    | ((with_reducible refine And.intro (by first | omega | exact Nat.le_of_ble_eq_true rfl) ?_); conv => whnf)
    | ((with_reducible refine And.intro ?hb ?_); (case hb => exact bytes_bd (Nat.le_of_ble_eq_true rfl) (by omega)); (conv => whnf))
    | ((refine DApp.a rfl rfl rfl rfl rfl rfl ?hb ?_); (case hb => first | exact bytes_bd (Nat.le_of_ble_eq_true rfl) (by omega) | omega); (conv => whnf))
    | ((refine DApp.b rfl rfl rfl rfl rfl rfl rfl rfl ?hb ?ho ?_); (case hb => first | exact bytes_bd (Nat.le_of_ble_eq_true rfl) (by omega) | omega); (case ho => omega); (conv => whnf))
    | ((refine DApp.c rfl rfl rfl rfl rfl ?hb ?_); (case hb => first | exact bytes_bd (Nat.le_of_ble_eq_true rfl) (by omega) | omega); (conv => whnf))
    | ((refine DApp.d rfl rfl rfl rfl rfl rfl ?hb ?ho ?_); (case hb => first | exact bytes_bd (Nat.le_of_ble_eq_true rfl) (by omega) | omega); (case ho => omega); (conv => whnf))
    | ((with_reducible refine nil_no (by omega) ?_); (conv => whnf))
    | ((with_reducible refine nil_any ?_ (fun hn0 => ?_)) <;> (conv => whnf))
    | ((with_reducible refine CallStop.pure (r16_Form _ _ _ _) rfl rfl ?_); conv => whnf) | ((with_reducible refine DCall.pure (r16_Form _ _ _ _) rfl rfl ?_); conv => whnf)
    | ((refine ways (fun hc => ?_) (fun hc => ?_)) <;> (try simp only [decide_eq_true_eq, decide_eq_false_iff_not, Bool.and_eq_true, Bool.or_eq_true, Bool.and_eq_false_iff, Bool.or_eq_false_iff, Bool.not_eq_true', Bool.not_eq_false', beq_iff_eq, bne_iff_ne, ne_eq, beq_eq_false_iff_ne, bne_eq_false_iff_eq, Bool.not_eq_true, Bool.not_eq_false] at hc) <;> (try (exfalso; omega)) <;> (conv => whnf))))
      · exact .i (by rw [polsE_all (by omega), not_all (k := k) (by omega) (by simpa using hc)]; rfl)
      · refine ⟨k + 1, ⟨by omega, all_take_succ (by omega) hall (by simpa using hc)⟩, by dsimp only; omega, ?_⟩
        (refine Le.by [] rfl rfl rfl rfl ?_ ?_ <;> (conv => whnf) <;> (repeat' (first | exact trivial | exact ArgLe.rfl rfl | exact ArgLe.ptr rfl | exact ArgLe.sl rfl | ((with_reducible refine ArgLe.fn ?_); (conv => whnf)) | exact ⟨rfl, rfl, rfl⟩ | exact fun i hi => rfl | ((with_reducible refine And.intro ?_ ?_) <;> (conv => whnf)))))
      · rw [List.take_of_length_le (by omega)] at hall
        exact .i (by rw [polsE_all (by omega), hall]; rfl)
def kindE (op : Int) : Int := if op = 1 then 1 else if op = 2 ∨ op = 3 then 2 else 0
theorem book_kind (op : Int) : Pure TC 29 [.i .u8 op] (.i .u8 (kindE op)) := by
  refine Pure.mk' Try.func29 rfl rfl (Nat.le_of_ble_eq_true rfl) ?_
  (repeat' (first
    | with_reducible refine Wp.seq ?_
    | with_reducible refine Wp.block ?_
    | ((with_reducible refine Wp.region ?_); conv => whnf)
    | ((with_reducible refine Wp.drawL TC_mixed ?_); conv => whnf)
    | ((with_reducible refine Wp.cond ?_); conv => whnf)
    | ((with_reducible refine Wp.ret ?_); conv => whnf)
    | ((with_reducible refine Wp.skip ?_); conv => whnf)
    | ((with_reducible refine Wp.exit ?_); conv => whnf)
    | ((with_reducible refine Go.mk ?_); conv => whnf)
    | ((with_reducible apply Eff1.of); conv => whnf)
    | with_reducible exact rfl
    | ((with_reducible refine Ov.ok (by first | exact IntWalk.i64_in _ (by omega) | exact IntWalk.u64_in _ (by omega) | exact IntWalk.u8_in _ (by omega) | exact IntWalk.u32_in _ (by omega) | exact IntWalk.i32_in _ (by omega) | exact IntWalk.u16_in _ (by omega)) ?_); conv => whnf)
    | (with_reducible refine Ov.sh1 (by with_unfolding_all exact rfl) ?_)
    | ((with_reducible refine Ov.quo (by omega) (by omega) (by omega) (fun _ _ => ?_)); conv => whnf)
    | ((with_reducible refine And.intro (show drawOK _ _ _ _ = true by kernel_rfl) ?_); conv => whnf)
    | ((with_reducible refine And.intro (by first | omega | exact Nat.le_of_ble_eq_true rfl) ?_); conv => whnf)
    | ((with_reducible refine And.intro ?hb ?_); (case hb => exact bytes_bd (Nat.le_of_ble_eq_true rfl) (by omega)); (conv => whnf))
    | ((refine DApp.a rfl rfl rfl rfl rfl rfl ?hb ?_); (case hb => first | exact bytes_bd (Nat.le_of_ble_eq_true rfl) (by omega) | omega); (conv => whnf))
    | ((refine DApp.b rfl rfl rfl rfl rfl rfl rfl rfl ?hb ?ho ?_); (case hb => first | exact bytes_bd (Nat.le_of_ble_eq_true rfl) (by omega) | omega); (case ho => omega); (conv => whnf))
    | ((refine DApp.c rfl rfl rfl rfl rfl ?hb ?_); (case hb => first | exact bytes_bd (Nat.le_of_ble_eq_true rfl) (by omega) | omega); (conv => whnf))
    | ((refine DApp.d rfl rfl rfl rfl rfl rfl ?hb ?ho ?_); (case hb => first | exact bytes_bd (Nat.le_of_ble_eq_true rfl) (by omega) | omega); (case ho => omega); (conv => whnf))
    | ((with_reducible refine nil_no (by omega) ?_); (conv => whnf))
    | ((with_reducible refine nil_any ?_ (fun hn0 => ?_)) <;> (conv => whnf))
    
    | ((refine ways (fun hc => ?_) (fun hc => ?_)) <;> (try simp only [decide_eq_true_eq, decide_eq_false_iff_not, Bool.and_eq_true, Bool.or_eq_true, Bool.and_eq_false_iff, Bool.or_eq_false_iff, Bool.not_eq_true', Bool.not_eq_false', beq_iff_eq, bne_iff_ne, ne_eq, beq_eq_false_iff_ne, bne_eq_false_iff_eq, Bool.not_eq_true, Bool.not_eq_false] at hc) <;> (try (exfalso; omega)) <;> (conv => whnf))))
  all_goals exact .i (by simp [kindE, *])
theorem r16_wants (op : Int) : Pure TC 31 [.i .u8 op] (.i .u8 (kindE op)) := by
  refine Pure.mk' Try.func31 rfl rfl (Nat.le_of_ble_eq_true rfl) ?_
  (repeat' (first
    | with_reducible refine Wp.seq ?_
    | with_reducible refine Wp.block ?_
    | ((with_reducible refine Wp.region ?_); conv => whnf)
    | ((with_reducible refine Wp.drawL TC_mixed ?_); conv => whnf)
    | ((with_reducible refine Wp.cond ?_); conv => whnf)
    | ((with_reducible refine Wp.ret ?_); conv => whnf)
    | ((with_reducible refine Wp.skip ?_); conv => whnf)
    | ((with_reducible refine Wp.exit ?_); conv => whnf)
    | ((with_reducible refine Go.mk ?_); conv => whnf)
    | ((with_reducible apply Eff1.of); conv => whnf)
    | with_reducible exact rfl
    | ((with_reducible refine Ov.ok (by first | exact IntWalk.i64_in _ (by omega) | exact IntWalk.u64_in _ (by omega) | exact IntWalk.u8_in _ (by omega) | exact IntWalk.u32_in _ (by omega) | exact IntWalk.i32_in _ (by omega) | exact IntWalk.u16_in _ (by omega)) ?_); conv => whnf)
    | (with_reducible refine Ov.sh1 (by with_unfolding_all exact rfl) ?_)
    | ((with_reducible refine Ov.quo (by omega) (by omega) (by omega) (fun _ _ => ?_)); conv => whnf)
    | ((with_reducible refine And.intro (show drawOK _ _ _ _ = true by kernel_rfl) ?_); conv => whnf)
    | ((with_reducible refine And.intro (by first | omega | exact Nat.le_of_ble_eq_true rfl) ?_); conv => whnf)
    | ((with_reducible refine And.intro ?hb ?_); (case hb => exact bytes_bd (Nat.le_of_ble_eq_true rfl) (by omega)); (conv => whnf))
    | ((refine DApp.a rfl rfl rfl rfl rfl rfl ?hb ?_); (case hb => first | exact bytes_bd (Nat.le_of_ble_eq_true rfl) (by omega) | omega); (conv => whnf))
    | ((refine DApp.b rfl rfl rfl rfl rfl rfl rfl rfl ?hb ?ho ?_); (case hb => first | exact bytes_bd (Nat.le_of_ble_eq_true rfl) (by omega) | omega); (case ho => omega); (conv => whnf))
    | ((refine DApp.c rfl rfl rfl rfl rfl ?hb ?_); (case hb => first | exact bytes_bd (Nat.le_of_ble_eq_true rfl) (by omega) | omega); (conv => whnf))
    | ((refine DApp.d rfl rfl rfl rfl rfl rfl ?hb ?ho ?_); (case hb => first | exact bytes_bd (Nat.le_of_ble_eq_true rfl) (by omega) | omega); (case ho => omega); (conv => whnf))
    | ((with_reducible refine nil_no (by omega) ?_); (conv => whnf))
    | ((with_reducible refine nil_any ?_ (fun hn0 => ?_)) <;> (conv => whnf))
    
    | ((refine ways (fun hc => ?_) (fun hc => ?_)) <;> (try simp only [decide_eq_true_eq, decide_eq_false_iff_not, Bool.and_eq_true, Bool.or_eq_true, Bool.and_eq_false_iff, Bool.or_eq_false_iff, Bool.not_eq_true', Bool.not_eq_false', beq_iff_eq, bne_iff_ne, ne_eq, beq_eq_false_iff_ne, bne_eq_false_iff_eq, Bool.not_eq_true, Bool.not_eq_false] at hc) <;> (try (exfalso; omega)) <;> (conv => whnf))))
  all_goals exact .i (by simp [kindE, *])
end Go.Proofs.Ytkdolemhhihidaa

namespace Go.Proofs.Ytkdolemhhihidaa
open Go.RowKit
set_option maxRecDepth 100000

def chkE (ps : List Pol) (op pol : Int) (key : List Int) (n : Int) : Int :=
  if op < 1 ∨ 6 < op ∨ (op = 1 ∧ tickB n = false) then 1
  else if op ≤ 4 ∧ 255 < key.length then 2
  else if polsE ps ≠ 0 then polsE ps
  else if op ≤ 4 ∧ (pol < 0 ∨ ps.length ≤ pol ∨ (kindE op ≠ 0 ∧ (ps.getD pol.toNat default).kind ≠ kindE op)) then 6 else 0

theorem book_Check (ps : List Pol) (op pol : Int) (key : List Int) (n : Int) : Pure TC 13 [.d (slOf 4 Pol.D ps), .agg [.i .u8 op, .i .i64 pol, .d (slOf 1 (encI .u8) key), .i .i64 n]] (.i .i64 (chkE ps op pol key n)) := by
  refine Pure.mk' Try.func13 rfl rfl (Nat.le_of_ble_eq_true rfl) ?_
  (repeat' (first
    | with_reducible refine Wp.seq ?_
    | with_reducible refine Wp.block ?_
    | ((with_reducible refine Wp.region ?_); conv => whnf)
    | ((with_reducible refine Wp.drawL TC_mixed ?_); conv => whnf)
    | ((with_reducible refine Wp.cond ?_); conv => whnf)
    | ((with_reducible refine Wp.ret ?_); conv => whnf)
    | ((with_reducible refine Wp.skip ?_); conv => whnf)
    | ((with_reducible refine Wp.exit ?_); conv => whnf)
    | ((with_reducible refine Go.mk ?_); conv => whnf)
    | ((with_reducible apply Eff1.of); conv => whnf)
    | with_reducible exact rfl
    | ((with_reducible refine Ov.ok (by first | exact IntWalk.i64_in _ (by omega) | exact IntWalk.u64_in _ (by omega) | exact IntWalk.u8_in _ (by omega) | exact IntWalk.u32_in _ (by omega) | exact IntWalk.i32_in _ (by omega) | exact IntWalk.u16_in _ (by omega)) ?_); conv => whnf)
    | (with_reducible refine Ov.sh1 (by with_unfolding_all exact rfl) ?_)
    | ((with_reducible refine Ov.quo (by omega) (by omega) (by omega) (fun _ _ => ?_)); conv => whnf)
    | ((with_reducible refine And.intro (show drawOK _ _ _ _ = true by kernel_rfl) ?_); conv => whnf)
    | ((with_reducible refine And.intro (by first | omega | exact Nat.le_of_ble_eq_true rfl) ?_); conv => whnf)
    | ((with_reducible refine And.intro ?hb ?_); (case hb => exact bytes_bd (Nat.le_of_ble_eq_true rfl) (by omega)); (conv => whnf))
    | ((refine DApp.a rfl rfl rfl rfl rfl rfl ?hb ?_); (case hb => first | exact bytes_bd (Nat.le_of_ble_eq_true rfl) (by omega) | omega); (conv => whnf))
    | ((refine DApp.b rfl rfl rfl rfl rfl rfl rfl rfl ?hb ?ho ?_); (case hb => first | exact bytes_bd (Nat.le_of_ble_eq_true rfl) (by omega) | omega); (case ho => omega); (conv => whnf))
    | ((refine DApp.c rfl rfl rfl rfl rfl ?hb ?_); (case hb => first | exact bytes_bd (Nat.le_of_ble_eq_true rfl) (by omega) | omega); (conv => whnf))
    | ((refine DApp.d rfl rfl rfl rfl rfl rfl ?hb ?ho ?_); (case hb => first | exact bytes_bd (Nat.le_of_ble_eq_true rfl) (by omega) | omega); (case ho => omega); (conv => whnf))
    | ((with_reducible refine nil_no (by omega) ?_); (conv => whnf))
    | ((with_reducible refine nil_any ?_ (fun hn0 => ?_)) <;> (conv => whnf))
    | ((with_reducible refine CallStop.pure (tick_Form _) rfl rfl ?_); conv => whnf) | ((with_reducible refine DCall.pure (tick_Form _) rfl rfl ?_); conv => whnf)
    | ((with_reducible refine CallStop.pure (book_Policies _) rfl rfl ?_); conv => whnf) | ((with_reducible refine DCall.pure (book_Policies _) rfl rfl ?_); conv => whnf)
    | ((with_reducible refine CallStop.pure (book_kind _) rfl rfl ?_); conv => whnf) | ((with_reducible refine DCall.pure (book_kind _) rfl rfl ?_); conv => whnf)
    | ((refine ways (fun hc => ?_) (fun hc => ?_)) <;> (try simp only [decide_eq_true_eq, decide_eq_false_iff_not, Bool.and_eq_true, Bool.or_eq_true, Bool.and_eq_false_iff, Bool.or_eq_false_iff, Bool.not_eq_true', Bool.not_eq_false', beq_iff_eq, bne_iff_ne, ne_eq, beq_eq_false_iff_ne, bne_eq_false_iff_eq, Bool.not_eq_true, Bool.not_eq_false] at hc) <;> (try (exfalso; omega)) <;> (conv => whnf))))
  all_goals exact .i (by
    unfold chkE
    repeat' split
    all_goals first | rfl | omega | (exfalso; simp_all; try omega) | simp_all)
theorem r16_Check (ps : List Pol) (op pol : Int) (key : List Int) (n : Int) : Pure TC 14 [.d (slOf 4 Pol.D ps), .agg [.i .u8 op, .i .i64 pol, .d (slOf 1 (encI .u8) key), .i .i64 n]] (.i .i64 (chkE ps op pol key n)) := by
  refine Pure.mk' Try.func14 rfl rfl (Nat.le_of_ble_eq_true rfl) ?_
  (repeat' (first
    | with_reducible refine Wp.seq ?_
    | with_reducible refine Wp.block ?_
    | ((with_reducible refine Wp.region ?_); conv => whnf)
    | ((with_reducible refine Wp.drawL TC_mixed ?_); conv => whnf)
    | ((with_reducible refine Wp.cond ?_); conv => whnf)
    | ((with_reducible refine Wp.ret ?_); conv => whnf)
    | ((with_reducible refine Wp.skip ?_); conv => whnf)
    | ((with_reducible refine Wp.exit ?_); conv => whnf)
    | ((with_reducible refine Go.mk ?_); conv => whnf)
    | ((with_reducible apply Eff1.of); conv => whnf)
    | with_reducible exact rfl
    | ((with_reducible refine Ov.ok (by first | exact IntWalk.i64_in _ (by omega) | exact IntWalk.u64_in _ (by omega) | exact IntWalk.u8_in _ (by omega) | exact IntWalk.u32_in _ (by omega) | exact IntWalk.i32_in _ (by omega) | exact IntWalk.u16_in _ (by omega)) ?_); conv => whnf)
    | (with_reducible refine Ov.sh1 (by with_unfolding_all exact rfl) ?_)
    | ((with_reducible refine Ov.quo (by omega) (by omega) (by omega) (fun _ _ => ?_)); conv => whnf)
    | ((with_reducible refine And.intro (show drawOK _ _ _ _ = true by kernel_rfl) ?_); conv => whnf)
    | ((with_reducible refine And.intro (by first | omega | exact Nat.le_of_ble_eq_true rfl) ?_); conv => whnf)
    | ((with_reducible refine And.intro ?hb ?_); (case hb => exact bytes_bd (Nat.le_of_ble_eq_true rfl) (by omega)); (conv => whnf))
    | ((refine DApp.a rfl rfl rfl rfl rfl rfl ?hb ?_); (case hb => first | exact bytes_bd (Nat.le_of_ble_eq_true rfl) (by omega) | omega); (conv => whnf))
    | ((refine DApp.b rfl rfl rfl rfl rfl rfl rfl rfl ?hb ?ho ?_); (case hb => first | exact bytes_bd (Nat.le_of_ble_eq_true rfl) (by omega) | omega); (case ho => omega); (conv => whnf))
    | ((refine DApp.c rfl rfl rfl rfl rfl ?hb ?_); (case hb => first | exact bytes_bd (Nat.le_of_ble_eq_true rfl) (by omega) | omega); (conv => whnf))
    | ((refine DApp.d rfl rfl rfl rfl rfl rfl ?hb ?ho ?_); (case hb => first | exact bytes_bd (Nat.le_of_ble_eq_true rfl) (by omega) | omega); (case ho => omega); (conv => whnf))
    | ((with_reducible refine nil_no (by omega) ?_); (conv => whnf))
    | ((with_reducible refine nil_any ?_ (fun hn0 => ?_)) <;> (conv => whnf))
    | ((with_reducible refine CallStop.pure (r1_Form _) rfl rfl ?_); conv => whnf) | ((with_reducible refine DCall.pure (r1_Form _) rfl rfl ?_); conv => whnf)
    | ((with_reducible refine CallStop.pure (r16_Policies _) rfl rfl ?_); conv => whnf) | ((with_reducible refine DCall.pure (r16_Policies _) rfl rfl ?_); conv => whnf)
    | ((with_reducible refine CallStop.pure (r16_wants _) rfl rfl ?_); conv => whnf) | ((with_reducible refine DCall.pure (r16_wants _) rfl rfl ?_); conv => whnf)
    | ((refine ways (fun hc => ?_) (fun hc => ?_)) <;> (try simp only [decide_eq_true_eq, decide_eq_false_iff_not, Bool.and_eq_true, Bool.or_eq_true, Bool.and_eq_false_iff, Bool.or_eq_false_iff, Bool.not_eq_true', Bool.not_eq_false', beq_iff_eq, bne_iff_ne, ne_eq, beq_eq_false_iff_ne, bne_eq_false_iff_eq, Bool.not_eq_true, Bool.not_eq_false] at hc) <;> (try (exfalso; omega)) <;> (conv => whnf))))
  all_goals exact .i (by
    unfold chkE
    repeat' split
    all_goals first | rfl | omega | (exfalso; simp_all; try omega) | simp_all)
end Go.Proofs.Ytkdolemhhihidaa
