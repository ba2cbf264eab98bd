/- Lemmas of Ty, Sx20, Bk1, Bk2, Bk3. No condition. -/
import Derived.Test.YtlplngmpggkloaaGreatMJ5
import Derived.IntWalk
import Derived.Test.YtlplngmpggkloaaGreatRows
import Derived.Shelf.Bits.Mul64
set_option linter.unusedVariables false
set_option linter.unusedSimpArgs false
set_option maxHeartbeats 80000000
set_option maxRecDepth 100000
namespace Go.Proofs.YtlplngmpggkloaaGreat
open Go.RowKit
abbrev zP := dP Tryz.prog
theorem zT {P : Program} {t : Nat} {i : TI} (h : dP P t i := by exact ⟨by kernel_rfl, by kernel_rfl, fun h => by cases h⟩) : dP P t i := h
def ti1 : TI := ⟨.func, 1, 8, [.nilFunc], false⟩
theorem ti1_ok : zP 1 ti1 := zT
def ti2 : TI := ⟨.int .i64, 1, 8, [.int .i64 0], false⟩
theorem ti2_ok : zP 2 ti2 := zT
def ti3 : TI := ⟨.int .i64, 1, 8, [.int .i64 0], false⟩
theorem ti3_ok : zP 3 ti3 := zT
def ti4 : TI := ⟨.bool, 1, 1, [.bool false], false⟩
theorem ti4_ok : zP 4 ti4 := zT
def ti5 : TI := ⟨.int .u8, 1, 1, [.int .u8 0], false⟩
theorem ti5_ok : zP 5 ti5 := zT
def ti6 : TI := ⟨.int .u8, 1, 1, [.int .u8 0], false⟩
theorem ti6_ok : zP 6 ti6 := zT
def ti7 : TI := ⟨.struct [(0, 2), (1, 3), (2, 4), (3, 6)], 4, 24, [.int .i64 0, .int .i64 0, .bool false, .int .u8 0], false⟩
theorem ti7_ok : zP 7 ti7 := zT
def ti8 : TI := ⟨.struct [(0, 2), (1, 3), (2, 4), (3, 6)], 4, 24, [.int .i64 0, .int .i64 0, .bool false, .int .u8 0], false⟩
theorem ti8_ok : zP 8 ti8 := zT
def ti9 : TI := ⟨.str, 1, 16, [.string ⟨#[]⟩], false⟩
theorem ti9_ok : zP 9 ti9 := zT
def ti10 : TI := ⟨.str, 1, 16, [.string ⟨#[]⟩], false⟩
theorem ti10_ok : zP 10 ti10 := zT
def ti11 : TI := ⟨.str, 1, 16, [.string ⟨#[]⟩], false⟩
theorem ti11_ok : zP 11 ti11 := zT
def ti12 : TI := ⟨.int .u64, 1, 8, [.int .u64 0], false⟩
theorem ti12_ok : zP 12 ti12 := zT
def ti13 : TI := ⟨.struct [(0, 9), (1, 12)], 2, 24, [.string ⟨#[]⟩, .int .u64 0], false⟩
theorem ti13_ok : zP 13 ti13 := zT
def ti14 : TI := ⟨.struct [(0, 9), (1, 12)], 2, 24, [.string ⟨#[]⟩, .int .u64 0], false⟩
theorem ti14_ok : zP 14 ti14 := zT
def ti15 : TI := ⟨.ptr 161, 1, 8, [.pointer none], false⟩
theorem ti15_ok : zP 15 ti15 := zT
def ti16 : TI := ⟨.ptr 164, 1, 8, [.pointer none], false⟩
theorem ti16_ok : zP 16 ti16 := zT
def ti17 : TI := ⟨.ptr 174, 1, 8, [.pointer none], false⟩
theorem ti17_ok : zP 17 ti17 := zT
def ti18 : TI := ⟨.struct [(0, 17)], 1, 8, [.pointer none], false⟩
theorem ti18_ok : zP 18 ti18 := zT
def ti19 : TI := ⟨.struct [(0, 17)], 1, 8, [.pointer none], false⟩
theorem ti19_ok : zP 19 ti19 := zT
def ti20 : TI := ⟨.other, 1, 16, [.nilIface], false⟩
theorem ti20_ok : zP 20 ti20 := zT
def ti21 : TI := ⟨.int .i32, 1, 4, [.int .i32 0], false⟩
theorem ti21_ok : zP 21 ti21 := zT
def ti22 : TI := ⟨.slice 57, 1, 24, [.slice none 0 0], false⟩
theorem ti22_ok : zP 22 ti22 := zT
def ti23 : TI := ⟨.slice 42, 1, 24, [.slice none 0 0], false⟩
theorem ti23_ok : zP 23 ti23 := zT
def ti24 : TI := ⟨.func, 1, 8, [.nilFunc], false⟩
theorem ti24_ok : zP 24 ti24 := zT
def ti25 : TI := ⟨.slice 38, 1, 24, [.slice none 0 0], false⟩
theorem ti25_ok : zP 25 ti25 := zT
def ti26 : TI := ⟨.func, 1, 8, [.nilFunc], false⟩
theorem ti26_ok : zP 26 ti26 := zT
def ti27 : TI := ⟨.int .i64, 1, 8, [.int .i64 0], false⟩
theorem ti27_ok : zP 27 ti27 := zT
def ti29 : TI := ⟨.func, 1, 8, [.nilFunc], false⟩
theorem ti29_ok : zP 29 ti29 := zT
def ti31 : TI := ⟨.func, 1, 8, [.nilFunc], false⟩
theorem ti31_ok : zP 31 ti31 := zT
def ti32 : TI := ⟨.slice 5, 1, 24, [.slice none 0 0], false⟩
theorem ti32_ok : zP 32 ti32 := zT
def ti33 : TI := ⟨.struct [(0, 5), (1, 3), (2, 32), (3, 2)], 4, 48, [.int .u8 0, .int .i64 0, .slice none 0 0, .int .i64 0], false⟩
theorem ti33_ok : zP 33 ti33 := zT
def ti34 : TI := ⟨.struct [(0, 5), (1, 3), (2, 32), (3, 2)], 4, 48, [.int .u8 0, .int .i64 0, .slice none 0 0, .int .i64 0], false⟩
theorem ti34_ok : zP 34 ti34 := zT
def ti35 : TI := ⟨.struct [(0, 27), (1, 4), (2, 2), (3, 2), (4, 2), (5, 2)], 6, 48, [.int .i64 0, .bool false, .int .i64 0, .int .i64 0, .int .i64 0, .int .i64 0], true⟩
theorem ti35_ok : zP 35 ti35 := ⟨by kernel_rfl, by kernel_rfl, fun _ => ⟨by kernel_rfl, by kernel_rfl, by kernel_rfl⟩⟩
def ti36 : TI := ⟨.struct [(0, 27), (1, 4), (2, 2), (3, 2), (4, 2), (5, 2)], 6, 48, [.int .i64 0, .bool false, .int .i64 0, .int .i64 0, .int .i64 0, .int .i64 0], true⟩
theorem ti36_ok : zP 36 ti36 := ⟨by kernel_rfl, by kernel_rfl, fun _ => ⟨by kernel_rfl, by kernel_rfl, by kernel_rfl⟩⟩
def ti37 : TI := ⟨.struct [(0, 3), (1, 34), (5, 3), (6, 3), (7, 36)], 13, 120, [.int .i64 0, .int .u8 0, .int .i64 0, .slice none 0 0, .int .i64 0, .int .i64 0, .int .i64 0, .int .i64 0, .bool false, .int .i64 0, .int .i64 0, .int .i64 0, .int .i64 0], false⟩
theorem ti37_ok : zP 37 ti37 := zT
def ti38 : TI := ⟨.struct [(0, 3), (1, 34), (5, 3), (6, 3), (7, 36)], 13, 120, [.int .i64 0, .int .u8 0, .int .i64 0, .slice none 0 0, .int .i64 0, .int .i64 0, .int .i64 0, .int .i64 0, .bool false, .int .i64 0, .int .i64 0, .int .i64 0, .int .i64 0], false⟩
theorem ti38_ok : zP 38 ti38 := zT
def ti39 : TI := ⟨.func, 1, 8, [.nilFunc], false⟩
theorem ti39_ok : zP 39 ti39 := zT
def ti40 : TI := ⟨.func, 1, 8, [.nilFunc], false⟩
theorem ti40_ok : zP 40 ti40 := zT
def ti41 : TI := ⟨.func, 1, 8, [.nilFunc], false⟩
theorem ti41_ok : zP 41 ti41 := zT
def ti42 : TI := ⟨.struct [(0, 3), (1, 34), (5, 3), (6, 3), (7, 36)], 13, 120, [.int .i64 0, .int .u8 0, .int .i64 0, .slice none 0 0, .int .i64 0, .int .i64 0, .int .i64 0, .int .i64 0, .bool false, .int .i64 0, .int .i64 0, .int .i64 0, .int .i64 0], false⟩
theorem ti42_ok : zP 42 ti42 := zT
def ti43 : TI := ⟨.func, 1, 8, [.nilFunc], false⟩
theorem ti43_ok : zP 43 ti43 := zT
def ti44 : TI := ⟨.other, 1, 8, [.map none], false⟩
theorem ti44_ok : zP 44 ti44 := zT
def ti46 : TI := ⟨.func, 1, 8, [.nilFunc], false⟩
theorem ti46_ok : zP 46 ti46 := zT
def ti47 : TI := ⟨.func, 1, 8, [.nilFunc], false⟩
theorem ti47_ok : zP 47 ti47 := zT
def ti48 : TI := ⟨.struct [(0, 22), (1, 25), (2, 2)], 3, 56, [.slice none 0 0, .slice none 0 0, .int .i64 0], false⟩
theorem ti48_ok : zP 48 ti48 := zT
def ti49 : TI := ⟨.struct [(0, 22), (1, 25), (2, 2)], 3, 56, [.slice none 0 0, .slice none 0 0, .int .i64 0], false⟩
theorem ti49_ok : zP 49 ti49 := zT
def ti50 : TI := ⟨.func, 1, 8, [.nilFunc], false⟩
theorem ti50_ok : zP 50 ti50 := zT
def ti51 : TI := ⟨.func, 1, 8, [.nilFunc], false⟩
theorem ti51_ok : zP 51 ti51 := zT
def ti52 : TI := ⟨.func, 1, 8, [.nilFunc], false⟩
theorem ti52_ok : zP 52 ti52 := zT
def ti53 : TI := ⟨.ptr 59, 1, 8, [.pointer none], false⟩
theorem ti53_ok : zP 53 ti53 := zT
def ti54 : TI := ⟨.struct [(0, 2), (1, 2)], 2, 16, [.int .i64 0, .int .i64 0], true⟩
theorem ti54_ok : zP 54 ti54 := ⟨by kernel_rfl, by kernel_rfl, fun _ => ⟨by kernel_rfl, by kernel_rfl, by kernel_rfl⟩⟩
def ti55 : TI := ⟨.struct [(0, 2), (1, 2)], 2, 16, [.int .i64 0, .int .i64 0], true⟩
theorem ti55_ok : zP 55 ti55 := ⟨by kernel_rfl, by kernel_rfl, fun _ => ⟨by kernel_rfl, by kernel_rfl, by kernel_rfl⟩⟩
def ti56 : TI := ⟨.struct [(0, 5), (1, 55), (3, 3)], 4, 32, [.int .u8 0, .int .i64 0, .int .i64 0, .int .i64 0], true⟩
theorem ti56_ok : zP 56 ti56 := ⟨by kernel_rfl, by kernel_rfl, fun _ => ⟨by kernel_rfl, by kernel_rfl, by kernel_rfl⟩⟩
def ti57 : TI := ⟨.struct [(0, 5), (1, 55), (3, 3)], 4, 32, [.int .u8 0, .int .i64 0, .int .i64 0, .int .i64 0], true⟩
theorem ti57_ok : zP 57 ti57 := ⟨by kernel_rfl, by kernel_rfl, fun _ => ⟨by kernel_rfl, by kernel_rfl, by kernel_rfl⟩⟩
def ti58 : TI := ⟨.struct [(0, 57), (4, 23), (5, 2)], 6, 64, [.int .u8 0, .int .i64 0, .int .i64 0, .int .i64 0, .slice none 0 0, .int .i64 0], false⟩
theorem ti58_ok : zP 58 ti58 := zT
def ti59 : TI := ⟨.struct [(0, 57), (4, 23), (5, 2)], 6, 64, [.int .u8 0, .int .i64 0, .int .i64 0, .int .i64 0, .slice none 0 0, .int .i64 0], false⟩
theorem ti59_ok : zP 59 ti59 := zT
def ti60 : TI := ⟨.func, 1, 8, [.nilFunc], false⟩
theorem ti60_ok : zP 60 ti60 := zT
def ti61 : TI := ⟨.func, 1, 8, [.nilFunc], false⟩
theorem ti61_ok : zP 61 ti61 := zT
def ti62 : TI := ⟨.slice 4, 1, 24, [.slice none 0 0], false⟩
theorem ti62_ok : zP 62 ti62 := zT
def ti63 : TI := ⟨.slice 2, 1, 24, [.slice none 0 0], false⟩
theorem ti63_ok : zP 63 ti63 := zT
def ti64 : TI := ⟨.struct [(0, 3), (1, 32), (2, 2), (3, 63)], 4, 64, [.int .i64 0, .slice none 0 0, .int .i64 0, .slice none 0 0], false⟩
theorem ti64_ok : zP 64 ti64 := zT
def ti65 : TI := ⟨.struct [(0, 3), (1, 32), (2, 2), (3, 63)], 4, 64, [.int .i64 0, .slice none 0 0, .int .i64 0, .slice none 0 0], false⟩
theorem ti65_ok : zP 65 ti65 := zT
def ti66 : TI := ⟨.func, 1, 8, [.nilFunc], false⟩
theorem ti66_ok : zP 66 ti66 := zT
def ti67 : TI := ⟨.func, 1, 8, [.nilFunc], false⟩
theorem ti67_ok : zP 67 ti67 := zT
def ti68 : TI := ⟨.func, 1, 8, [.nilFunc], false⟩
theorem ti68_ok : zP 68 ti68 := zT
def ti70 : TI := ⟨.func, 1, 8, [.nilFunc], false⟩
theorem ti70_ok : zP 70 ti70 := zT
def ti71 : TI := ⟨.func, 1, 8, [.nilFunc], false⟩
theorem ti71_ok : zP 71 ti71 := zT
def ti72 : TI := ⟨.func, 1, 8, [.nilFunc], false⟩
theorem ti72_ok : zP 72 ti72 := zT
def ti73 : TI := ⟨.func, 1, 8, [.nilFunc], false⟩
theorem ti73_ok : zP 73 ti73 := zT
def ti74 : TI := ⟨.slice 3, 1, 24, [.slice none 0 0], false⟩
theorem ti74_ok : zP 74 ti74 := zT
def ti75 : TI := ⟨.func, 1, 8, [.nilFunc], false⟩
theorem ti75_ok : zP 75 ti75 := zT
def ti76 : TI := ⟨.func, 1, 8, [.nilFunc], false⟩
theorem ti76_ok : zP 76 ti76 := zT
def ti78 : TI := ⟨.func, 1, 8, [.nilFunc], false⟩
theorem ti78_ok : zP 78 ti78 := zT
def ti79 : TI := ⟨.func, 1, 8, [.nilFunc], false⟩
theorem ti79_ok : zP 79 ti79 := zT
def ti80 : TI := ⟨.func, 1, 8, [.nilFunc], false⟩
theorem ti80_ok : zP 80 ti80 := zT
def ti81 : TI := ⟨.func, 1, 8, [.nilFunc], false⟩
theorem ti81_ok : zP 81 ti81 := zT
def ti82 : TI := ⟨.ptr 92, 1, 8, [.pointer none], false⟩
theorem ti82_ok : zP 82 ti82 := zT
def ti84 : TI := ⟨.func, 1, 8, [.nilFunc], false⟩
theorem ti84_ok : zP 84 ti84 := zT
def ti85 : TI := ⟨.func, 1, 8, [.nilFunc], false⟩
theorem ti85_ok : zP 85 ti85 := zT
def ti87 : TI := ⟨.func, 1, 8, [.nilFunc], false⟩
theorem ti87_ok : zP 87 ti87 := zT
def ti88 : TI := ⟨.func, 1, 8, [.nilFunc], false⟩
theorem ti88_ok : zP 88 ti88 := zT
def ti89 : TI := ⟨.func, 1, 8, [.nilFunc], false⟩
theorem ti89_ok : zP 89 ti89 := zT
def ti90 : TI := ⟨.slice 65, 1, 24, [.slice none 0 0], false⟩
theorem ti90_ok : zP 90 ti90 := zT
def ti91 : TI := ⟨.struct [(0, 22), (1, 3), (2, 90)], 3, 56, [.slice none 0 0, .int .i64 0, .slice none 0 0], false⟩
theorem ti91_ok : zP 91 ti91 := zT
def ti92 : TI := ⟨.struct [(0, 22), (1, 3), (2, 90)], 3, 56, [.slice none 0 0, .int .i64 0, .slice none 0 0], false⟩
theorem ti92_ok : zP 92 ti92 := zT
def ti93 : TI := ⟨.func, 1, 8, [.nilFunc], false⟩
theorem ti93_ok : zP 93 ti93 := zT
def ti94 : TI := ⟨.func, 1, 8, [.nilFunc], false⟩
theorem ti94_ok : zP 94 ti94 := zT
def ti95 : TI := ⟨.func, 1, 8, [.nilFunc], false⟩
theorem ti95_ok : zP 95 ti95 := zT
def ti96 : TI := ⟨.func, 1, 8, [.nilFunc], false⟩
theorem ti96_ok : zP 96 ti96 := zT
def ti98 : TI := ⟨.func, 1, 8, [.nilFunc], false⟩
theorem ti98_ok : zP 98 ti98 := zT
def ti99 : TI := ⟨.func, 1, 8, [.nilFunc], false⟩
theorem ti99_ok : zP 99 ti99 := zT
def ti100 : TI := ⟨.func, 1, 8, [.nilFunc], false⟩
theorem re : zP 100 ti100 := zT
def ti101 : TI := ⟨.func, 1, 8, [.nilFunc], false⟩
theorem rc : zP 101 ti101 := zT
def ti102 : TI := ⟨.func, 1, 8, [.nilFunc], false⟩
theorem rb : zP 102 ti102 := zT
def ti103 : TI := ⟨.func, 1, 8, [.nilFunc], false⟩
theorem ra : zP 103 ti103 := zT
def ti104 : TI := ⟨.struct [(0, 4), (1, 2), (2, 2), (3, 2)], 4, 32, [.bool false, .int .i64 0, .int .i64 0, .int .i64 0], true⟩
theorem q9 : zP 104 ti104 := ⟨by kernel_rfl, by kernel_rfl, fun _ => ⟨by kernel_rfl, by kernel_rfl, by kernel_rfl⟩⟩
def ti105 : TI := ⟨.struct [(0, 4), (1, 2), (2, 2), (3, 2)], 4, 32, [.bool false, .int .i64 0, .int .i64 0, .int .i64 0], true⟩
theorem q8 : zP 105 ti105 := ⟨by kernel_rfl, by kernel_rfl, fun _ => ⟨by kernel_rfl, by kernel_rfl, by kernel_rfl⟩⟩
def ti106 : TI := ⟨.func, 1, 8, [.nilFunc], false⟩
theorem q0 : zP 106 ti106 := zT
def ti107 : TI := ⟨.func, 1, 8, [.nilFunc], false⟩
theorem qZ : zP 107 ti107 := zT
def ti108 : TI := ⟨.func, 1, 8, [.nilFunc], false⟩
theorem qY : zP 108 ti108 := zT
def ti109 : TI := ⟨.func, 1, 8, [.nilFunc], false⟩
theorem qX : zP 109 ti109 := zT
def ti110 : TI := ⟨.func, 1, 8, [.nilFunc], false⟩
theorem qW : zP 110 ti110 := zT
def ti111 : TI := ⟨.func, 1, 8, [.nilFunc], false⟩
theorem qV : zP 111 ti111 := zT
def ti112 : TI := ⟨.func, 1, 8, [.nilFunc], false⟩
theorem qU : zP 112 ti112 := zT
def ti114 : TI := ⟨.func, 1, 8, [.nilFunc], false⟩
theorem qT : zP 114 ti114 := zT
def ti115 : TI := ⟨.func, 1, 8, [.nilFunc], false⟩
theorem qS : zP 115 ti115 := zT
def ti117 : TI := ⟨.func, 1, 8, [.nilFunc], false⟩
theorem qR : zP 117 ti117 := zT
def ti118 : TI := ⟨.func, 1, 8, [.nilFunc], false⟩
theorem qQ : zP 118 ti118 := zT
def ti119 : TI := ⟨.struct [(0, 4), (1, 2), (2, 2), (3, 2)], 4, 32, [.bool false, .int .i64 0, .int .i64 0, .int .i64 0], true⟩
theorem qP : zP 119 ti119 := ⟨by kernel_rfl, by kernel_rfl, fun _ => ⟨by kernel_rfl, by kernel_rfl, by kernel_rfl⟩⟩
def ti121 : TI := ⟨.func, 1, 8, [.nilFunc], false⟩
theorem qO : zP 121 ti121 := zT
def ti122 : TI := ⟨.struct [(0, 3), (1, 63)], 2, 32, [.int .i64 0, .slice none 0 0], false⟩
theorem qN : zP 122 ti122 := zT
def ti123 : TI := ⟨.struct [(0, 3), (1, 63)], 2, 32, [.int .i64 0, .slice none 0 0], false⟩
theorem qM : zP 123 ti123 := zT
def ti125 : TI := ⟨.func, 1, 8, [.nilFunc], false⟩
theorem qL : zP 125 ti125 := zT
def ti126 : TI := ⟨.func, 1, 8, [.nilFunc], false⟩
theorem qK : zP 126 ti126 := zT
def ti127 : TI := ⟨.func, 1, 8, [.nilFunc], false⟩
theorem qJ : zP 127 ti127 := zT
def ti128 : TI := ⟨.func, 1, 8, [.nilFunc], false⟩
theorem qI : zP 128 ti128 := zT
def ti129 : TI := ⟨.func, 1, 8, [.nilFunc], false⟩
theorem qH : zP 129 ti129 := zT
def ti130 : TI := ⟨.int .u64, 1, 8, [.int .u64 0], false⟩
theorem qG : zP 130 ti130 := zT
def ti131 : TI := ⟨.func, 1, 8, [.nilFunc], false⟩
theorem qF : zP 131 ti131 := zT
def ti132 : TI := ⟨.func, 1, 8, [.nilFunc], false⟩
theorem qE : zP 132 ti132 := zT
def ti133 : TI := ⟨.func, 1, 8, [.nilFunc], false⟩
theorem qD : zP 133 ti133 := zT
def ti134 : TI := ⟨.func, 1, 8, [.nilFunc], false⟩
theorem qC : zP 134 ti134 := zT
def ti135 : TI := ⟨.func, 1, 8, [.nilFunc], false⟩
theorem qB : zP 135 ti135 := zT
def ti136 : TI := ⟨.func, 1, 8, [.nilFunc], false⟩
theorem qA : zP 136 ti136 := zT
def ti137 : TI := ⟨.func, 1, 8, [.nilFunc], false⟩
theorem qz : zP 137 ti137 := zT
def ti138 : TI := ⟨.func, 1, 8, [.nilFunc], false⟩
theorem qy : zP 138 ti138 := zT
def ti139 : TI := ⟨.func, 1, 8, [.nilFunc], false⟩
theorem qx : zP 139 ti139 := zT
def ti140 : TI := ⟨.func, 1, 8, [.nilFunc], false⟩
theorem qw : zP 140 ti140 := zT
def ti141 : TI := ⟨.func, 1, 8, [.nilFunc], false⟩
theorem qv : zP 141 ti141 := zT
def ti142 : TI := ⟨.func, 1, 8, [.nilFunc], false⟩
theorem qu : zP 142 ti142 := zT
def ti143 : TI := ⟨.slice 151, 1, 24, [.slice none 0 0], false⟩
theorem qt : zP 143 ti143 := zT
def ti144 : TI := ⟨.func, 1, 8, [.nilFunc], false⟩
theorem qs : zP 144 ti144 := zT
def ti145 : TI := ⟨.func, 1, 8, [.nilFunc], false⟩
theorem qr : zP 145 ti145 := zT
def ti146 : TI := ⟨.func, 1, 8, [.nilFunc], false⟩
theorem qq : zP 146 ti146 := zT
def ti147 : TI := ⟨.func, 1, 8, [.nilFunc], false⟩
theorem qp : zP 147 ti147 := zT
def ti148 : TI := ⟨.func, 1, 8, [.nilFunc], false⟩
theorem qo : zP 148 ti148 := zT
def ti149 : TI := ⟨.func, 1, 8, [.nilFunc], false⟩
theorem qn : zP 149 ti149 := zT
def ti150 : TI := ⟨.func, 1, 8, [.nilFunc], false⟩
theorem qm : zP 150 ti150 := zT
def ti151 : TI := ⟨.int .u64, 1, 8, [.int .u64 0], false⟩
theorem ql : zP 151 ti151 := zT
def ti152 : TI := ⟨.func, 1, 8, [.nilFunc], false⟩
theorem qk : zP 152 ti152 := zT
def ti154 : TI := ⟨.func, 1, 8, [.nilFunc], false⟩
theorem qj : zP 154 ti154 := zT
def ti155 : TI := ⟨.func, 1, 8, [.nilFunc], false⟩
theorem qi : zP 155 ti155 := zT
def ti157 : TI := ⟨.func, 1, 8, [.nilFunc], false⟩
theorem qh : zP 157 ti157 := zT
def ti158 : TI := ⟨.func, 1, 8, [.nilFunc], false⟩
theorem qg : zP 158 ti158 := zT
def ti159 : TI := ⟨.func, 1, 8, [.nilFunc], false⟩
theorem qf : zP 159 ti159 := zT
def ti160 : TI := ⟨.struct [(0, 17), (1, 17), (2, 17), (3, 9)], 4, 40, [.pointer none, .pointer none, .pointer none, .string ⟨#[]⟩], false⟩
theorem qe : zP 160 ti160 := zT
def ti161 : TI := ⟨.struct [(0, 17), (1, 17), (2, 17), (3, 9)], 4, 40, [.pointer none, .pointer none, .pointer none, .string ⟨#[]⟩], false⟩
theorem qd : zP 161 ti161 := zT
def ti162 : TI := ⟨.array 0 16, 0, 0, [], false⟩
theorem qc : zP 162 ti162 := zT
def ti163 : TI := ⟨.struct [(0, 162)], 0, 0, [], false⟩
theorem qb : zP 163 ti163 := zT
def ti164 : TI := ⟨.struct [(0, 162)], 0, 0, [], false⟩
theorem qa : zP 164 ti164 := zT
def ti165 : TI := ⟨.func, 1, 8, [.nilFunc], false⟩
theorem p9 : zP 165 ti165 := zT
def ti166 : TI := ⟨.int .u32, 1, 4, [.int .u32 0], false⟩
theorem p8 : zP 166 ti166 := zT
def ti167 : TI := ⟨.int .u8, 1, 1, [.int .u8 0], false⟩
theorem p7 : zP 167 ti167 := zT
def ti168 : TI := ⟨.int .u8, 1, 1, [.int .u8 0], false⟩
theorem p6 : zP 168 ti168 := zT
def ti169 : TI := ⟨.func, 1, 8, [.nilFunc], false⟩
theorem pZ : zP 169 ti169 := zT
def ti170 : TI := ⟨.ptr 5, 1, 8, [.pointer none], false⟩
theorem pY : zP 170 ti170 := zT
def ti171 : TI := ⟨.int .i32, 1, 4, [.int .i32 0], false⟩
theorem pX : zP 171 ti171 := zT
def ti172 : TI := ⟨.int .i32, 1, 4, [.int .i32 0], false⟩
theorem pW : zP 172 ti172 := zT
def ti173 : TI := ⟨.struct [(0, 12), (1, 12), (2, 166), (3, 167), (4, 5), (5, 5), (6, 168), (7, 169), (8, 170), (9, 171), (10, 172)], 11, 48, [.int .u64 0, .int .u64 0, .int .u32 0, .int .u8 0, .int .u8 0, .int .u8 0, .int .u8 0, .nilFunc, .pointer none, .int .i32 0, .int .i32 0], false⟩
theorem pV : zP 173 ti173 := zT
def ti174 : TI := ⟨.struct [(0, 12), (1, 12), (2, 166), (3, 167), (4, 5), (5, 5), (6, 168), (7, 169), (8, 170), (9, 171), (10, 172)], 11, 48, [.int .u64 0, .int .u64 0, .int .u32 0, .int .u8 0, .int .u8 0, .int .u8 0, .int .u8 0, .nilFunc, .pointer none, .int .i32 0, .int .i32 0], false⟩
theorem pU : zP 174 ti174 := zT
def sw : cg := .node (.node (.node (.node (.node (.node (.node (.node (.leaf) 1 ti1 (.leaf)) 2 ti2 (.leaf)) 3 ti3 (.node (.node (.leaf) 4 ti4 (.leaf)) 5 ti5 (.leaf))) 6 ti6 (.node (.node (.node (.leaf) 7 ti7 (.leaf)) 8 ti8 (.leaf)) 9 ti9 (.node (.leaf) 10 ti10 (.leaf)))) 11 ti11 (.node (.node (.node (.node (.leaf) 12 ti12 (.leaf)) 13 ti13 (.leaf)) 14 ti14 (.node (.leaf) 15 ti15 (.leaf))) 16 ti16 (.node (.node (.node (.leaf) 17 ti17 (.leaf)) 18 ti18 (.leaf)) 19 ti19 (.node (.leaf) 20 ti20 (.leaf))))) 21 ti21 (.node (.node (.node (.node (.node (.leaf) 22 ti22 (.leaf)) 23 ti23 (.leaf)) 24 ti24 (.node (.leaf) 25 ti25 (.leaf))) 26 ti26 (.node (.node (.node (.leaf) 27 ti27 (.leaf)) 29 ti29 (.leaf)) 31 ti31 (.node (.leaf) 32 ti32 (.leaf)))) 33 ti33 (.node (.node (.node (.node (.leaf) 34 ti34 (.leaf)) 35 ti35 (.leaf)) 36 ti36 (.node (.leaf) 37 ti37 (.leaf))) 38 ti38 (.node (.node (.node (.leaf) 39 ti39 (.leaf)) 40 ti40 (.leaf)) 41 ti41 (.node (.leaf) 42 ti42 (.leaf)))))) 43 ti43 (.node (.node (.node (.node (.node (.node (.leaf) 44 ti44 (.leaf)) 46 ti46 (.leaf)) 47 ti47 (.node (.leaf) 48 ti48 (.leaf))) 49 ti49 (.node (.node (.node (.leaf) 50 ti50 (.leaf)) 51 ti51 (.leaf)) 52 ti52 (.node (.leaf) 53 ti53 (.leaf)))) 54 ti54 (.node (.node (.node (.node (.leaf) 55 ti55 (.leaf)) 56 ti56 (.leaf)) 57 ti57 (.node (.leaf) 58 ti58 (.leaf))) 59 ti59 (.node (.node (.node (.leaf) 60 ti60 (.leaf)) 61 ti61 (.leaf)) 62 ti62 (.node (.leaf) 63 ti63 (.leaf))))) 64 ti64 (.node (.node (.node (.node (.node (.leaf) 65 ti65 (.leaf)) 66 ti66 (.leaf)) 67 ti67 (.node (.leaf) 68 ti68 (.leaf))) 70 ti70 (.node (.node (.node (.leaf) 71 ti71 (.leaf)) 72 ti72 (.leaf)) 73 ti73 (.node (.leaf) 74 ti74 (.leaf)))) 75 ti75 (.node (.node (.node (.node (.leaf) 76 ti76 (.leaf)) 78 ti78 (.leaf)) 79 ti79 (.node (.leaf) 80 ti80 (.leaf))) 81 ti81 (.node (.node (.node (.leaf) 82 ti82 (.leaf)) 84 ti84 (.leaf)) 85 ti85 (.node (.leaf) 87 ti87 (.leaf))))))) 88 ti88 (.node (.node (.node (.node (.node (.node (.node (.leaf) 89 ti89 (.leaf)) 90 ti90 (.leaf)) 91 ti91 (.node (.leaf) 92 ti92 (.leaf))) 93 ti93 (.node (.node (.node (.leaf) 94 ti94 (.leaf)) 95 ti95 (.leaf)) 96 ti96 (.node (.leaf) 98 ti98 (.leaf)))) 99 ti99 (.node (.node (.node (.node (.leaf) 100 ti100 (.leaf)) 101 ti101 (.leaf)) 102 ti102 (.node (.leaf) 103 ti103 (.leaf))) 104 ti104 (.node (.node (.node (.leaf) 105 ti105 (.leaf)) 106 ti106 (.leaf)) 107 ti107 (.node (.leaf) 108 ti108 (.leaf))))) 109 ti109 (.node (.node (.node (.node (.node (.leaf) 110 ti110 (.leaf)) 111 ti111 (.leaf)) 112 ti112 (.node (.leaf) 114 ti114 (.leaf))) 115 ti115 (.node (.node (.node (.leaf) 117 ti117 (.leaf)) 118 ti118 (.leaf)) 119 ti119 (.node (.leaf) 121 ti121 (.leaf)))) 122 ti122 (.node (.node (.node (.node (.leaf) 123 ti123 (.leaf)) 125 ti125 (.leaf)) 126 ti126 (.node (.leaf) 127 ti127 (.leaf))) 128 ti128 (.node (.node (.node (.leaf) 129 ti129 (.leaf)) 130 ti130 (.leaf)) 131 ti131 (.node (.leaf) 132 ti132 (.leaf)))))) 133 ti133 (.node (.node (.node (.node (.node (.node (.leaf) 134 ti134 (.leaf)) 135 ti135 (.leaf)) 136 ti136 (.node (.leaf) 137 ti137 (.leaf))) 138 ti138 (.node (.node (.node (.leaf) 139 ti139 (.leaf)) 140 ti140 (.leaf)) 141 ti141 (.node (.leaf) 142 ti142 (.leaf)))) 143 ti143 (.node (.node (.node (.node (.leaf) 144 ti144 (.leaf)) 145 ti145 (.leaf)) 146 ti146 (.node (.leaf) 147 ti147 (.leaf))) 148 ti148 (.node (.node (.node (.leaf) 149 ti149 (.leaf)) 150 ti150 (.leaf)) 151 ti151 (.node (.leaf) 152 ti152 (.leaf))))) 154 ti154 (.node (.node (.node (.node (.node (.leaf) 155 ti155 (.leaf)) 157 ti157 (.leaf)) 158 ti158 (.node (.leaf) 159 ti159 (.leaf))) 160 ti160 (.node (.node (.node (.leaf) 161 ti161 (.leaf)) 162 ti162 (.leaf)) 163 ti163 (.node (.leaf) 164 ti164 (.leaf)))) 165 ti165 (.node (.node (.node (.node (.leaf) 166 ti166 (.leaf)) 167 ti167 (.leaf)) 168 ti168 (.node (.leaf) 169 ti169 (.leaf))) 170 ti170 (.node (.node (.node (.leaf) 171 ti171 (.leaf)) 172 ti172 (.leaf)) 173 ti173 (.node (.leaf) 174 ti174 (.leaf)))))))
theorem nP : sw.allP (dP Tryz.prog) := ⟨⟨⟨⟨⟨⟨⟨⟨trivial, ti1_ok, trivial⟩, ti2_ok, trivial⟩, ti3_ok, ⟨⟨trivial, ti4_ok, trivial⟩, ti5_ok, trivial⟩⟩, ti6_ok, ⟨⟨⟨trivial, ti7_ok, trivial⟩, ti8_ok, trivial⟩, ti9_ok, ⟨trivial, ti10_ok, trivial⟩⟩⟩, ti11_ok, ⟨⟨⟨⟨trivial, ti12_ok, trivial⟩, ti13_ok, trivial⟩, ti14_ok, ⟨trivial, ti15_ok, trivial⟩⟩, ti16_ok, ⟨⟨⟨trivial, ti17_ok, trivial⟩, ti18_ok, trivial⟩, ti19_ok, ⟨trivial, ti20_ok, trivial⟩⟩⟩⟩, ti21_ok, ⟨⟨⟨⟨⟨trivial, ti22_ok, trivial⟩, ti23_ok, trivial⟩, ti24_ok, ⟨trivial, ti25_ok, trivial⟩⟩, ti26_ok, ⟨⟨⟨trivial, ti27_ok, trivial⟩, ti29_ok, trivial⟩, ti31_ok, ⟨trivial, ti32_ok, trivial⟩⟩⟩, ti33_ok, ⟨⟨⟨⟨trivial, ti34_ok, trivial⟩, ti35_ok, trivial⟩, ti36_ok, ⟨trivial, ti37_ok, trivial⟩⟩, ti38_ok, ⟨⟨⟨trivial, ti39_ok, trivial⟩, ti40_ok, trivial⟩, ti41_ok, ⟨trivial, ti42_ok, trivial⟩⟩⟩⟩⟩, ti43_ok, ⟨⟨⟨⟨⟨⟨trivial, ti44_ok, trivial⟩, ti46_ok, trivial⟩, ti47_ok, ⟨trivial, ti48_ok, trivial⟩⟩, ti49_ok, ⟨⟨⟨trivial, ti50_ok, trivial⟩, ti51_ok, trivial⟩, ti52_ok, ⟨trivial, ti53_ok, trivial⟩⟩⟩, ti54_ok, ⟨⟨⟨⟨trivial, ti55_ok, trivial⟩, ti56_ok, trivial⟩, ti57_ok, ⟨trivial, ti58_ok, trivial⟩⟩, ti59_ok, ⟨⟨⟨trivial, ti60_ok, trivial⟩, ti61_ok, trivial⟩, ti62_ok, ⟨trivial, ti63_ok, trivial⟩⟩⟩⟩, ti64_ok, ⟨⟨⟨⟨⟨trivial, ti65_ok, trivial⟩, ti66_ok, trivial⟩, ti67_ok, ⟨trivial, ti68_ok, trivial⟩⟩, ti70_ok, ⟨⟨⟨trivial, ti71_ok, trivial⟩, ti72_ok, trivial⟩, ti73_ok, ⟨trivial, ti74_ok, trivial⟩⟩⟩, ti75_ok, ⟨⟨⟨⟨trivial, ti76_ok, trivial⟩, ti78_ok, trivial⟩, ti79_ok, ⟨trivial, ti80_ok, trivial⟩⟩, ti81_ok, ⟨⟨⟨trivial, ti82_ok, trivial⟩, ti84_ok, trivial⟩, ti85_ok, ⟨trivial, ti87_ok, trivial⟩⟩⟩⟩⟩⟩, ti88_ok, ⟨⟨⟨⟨⟨⟨⟨trivial, ti89_ok, trivial⟩, ti90_ok, trivial⟩, ti91_ok, ⟨trivial, ti92_ok, trivial⟩⟩, ti93_ok, ⟨⟨⟨trivial, ti94_ok, trivial⟩, ti95_ok, trivial⟩, ti96_ok, ⟨trivial, ti98_ok, trivial⟩⟩⟩, ti99_ok, ⟨⟨⟨⟨trivial, re, trivial⟩, rc, trivial⟩, rb, ⟨trivial, ra, trivial⟩⟩, q9, ⟨⟨⟨trivial, q8, trivial⟩, q0, trivial⟩, qZ, ⟨trivial, qY, trivial⟩⟩⟩⟩, qX, ⟨⟨⟨⟨⟨trivial, qW, trivial⟩, qV, trivial⟩, qU, ⟨trivial, qT, trivial⟩⟩, qS, ⟨⟨⟨trivial, qR, trivial⟩, qQ, trivial⟩, qP, ⟨trivial, qO, trivial⟩⟩⟩, qN, ⟨⟨⟨⟨trivial, qM, trivial⟩, qL, trivial⟩, qK, ⟨trivial, qJ, trivial⟩⟩, qI, ⟨⟨⟨trivial, qH, trivial⟩, qG, trivial⟩, qF, ⟨trivial, qE, trivial⟩⟩⟩⟩⟩, qD, ⟨⟨⟨⟨⟨⟨trivial, qC, trivial⟩, qB, trivial⟩, qA, ⟨trivial, qz, trivial⟩⟩, qy, ⟨⟨⟨trivial, qx, trivial⟩, qw, trivial⟩, qv, ⟨trivial, qu, trivial⟩⟩⟩, qt, ⟨⟨⟨⟨trivial, qs, trivial⟩, qr, trivial⟩, qq, ⟨trivial, qp, trivial⟩⟩, qo, ⟨⟨⟨trivial, qn, trivial⟩, qm, trivial⟩, ql, ⟨trivial, qk, trivial⟩⟩⟩⟩, qj, ⟨⟨⟨⟨⟨trivial, qi, trivial⟩, qh, trivial⟩, qg, ⟨trivial, qf, trivial⟩⟩, qe, ⟨⟨⟨trivial, qd, trivial⟩, qc, trivial⟩, qb, ⟨trivial, qa, trivial⟩⟩⟩, p9, ⟨⟨⟨⟨trivial, p8, trivial⟩, p7, trivial⟩, p6, ⟨trivial, pZ, trivial⟩⟩, pY, ⟨⟨⟨trivial, pX, trivial⟩, pW, trivial⟩, pV, ⟨trivial, pU, trivial⟩⟩⟩⟩⟩⟩⟩
noncomputable def TC : Cx := ⟨Tryz.prog, sw.look, cg.look_ok nP⟩
theorem ac : TC.P.follows .mixedOrders = true := by kernel_rfl
section
open Go.RowKit Go.Shelf
theorem Pure.val {C : Cx} {g : Nat} {xs : List Value} {r : Value} (ent : dH C.P g) (hr : r.oneCell' = true) (h : ∀ w, Calls C.P g xs.toArray w fun e w' => e = .returned r ∧ w' = w) : Pure C g (xs.map fun v => .d (.val v)) (.d (.val r)) := by
  refine ⟨ent, fun E w vs hIm hsz hargs => ?_⟩
  have : vs = xs.toArray := by
    apply Array.ext (by simpa using hsz)
    intro i h1 h2
    have h3 := hargs i (by simpa using h2)
    rw [List.getElem_map] at h3
    have := h3.val_inv
    simpa [Array.getD, h1] using this
  subst this
  refine (h w).mono ?_
  rintro e w' ⟨rfl, rfl⟩
  exact ⟨r, rfl, Kp.refl _, .d _ _ (.val _ hr)⟩
theorem Pure.val2 {C : Cx} {g : Nat} {xs : List Value} {r s : Value} (ent : dH C.P g) (hr : r.oneCell' = true) (hs : s.oneCell' = true) (h : ∀ w, Calls C.P g xs.toArray w fun e w' => e = .returned (.tuple #[r, s]) ∧ w' = w) : Pure C g (xs.map fun v => .d (.val v)) (.tup [.d (.val r), .d (.val s)]) := by
  refine ⟨ent, fun E w vs hIm hsz hargs => ?_⟩
  have : vs = xs.toArray := by
    apply Array.ext (by simpa using hsz)
    intro i h1 h2
    have h3 := hargs i (by simpa using h2)
    rw [List.getElem_map] at h3
    have := h3.val_inv
    simpa [Array.getD, h1] using this
  subst this
  refine (h w).mono ?_
  rintro e w' ⟨rfl, rfl⟩
  refine ⟨_, rfl, Kp.refl _, .tup _ _ rfl fun j hj => ?_⟩
  have : j = 0 ∨ j = 1 := by simp at hj; omega
  rcases this with rfl | rfl
  · exact .d _ _ (.val _ hr)
  · exact .d _ _ (.val _ hs)
def mulRen : Go.Shelf.Ren := ⟨fun | 264 => 102 | n => n, fun | 53 => 151 | 46 => 130 | n => n, fun | n => n⟩
theorem mulLays : Go.Proofs.Lays.n264 Tryz.prog mulRen := {
  mixed := by kernel_rfl
  f264 := Tryz.func102.trans (congrArg some (by kernel_rfl))
  t46 := Tryz.underlying130
  a46 := Tryz.isAgg130
  z46 := Tryz.sizeOf130
  v46 := Tryz.zeroValue130
  t53 := Tryz.underlying151
  a53 := Tryz.isAgg151
  z53 := Tryz.sizeOf151
  v53 := Tryz.zeroValue151 }
def hiI (x : Int) : Int := x / 18446744073709551616
def loI (x : Int) : Int := x % 18446744073709551616
theorem bits_Mul64 (x y : Int) (hx : 0 ≤ x) (hx2 : x < 18446744073709551616) (hy : 0 ≤ y) (hy2 : y < 18446744073709551616) : Pure TC 102 [.i .u64 x, .i .u64 y] (.tup [.i .u64 (hiI (x * y)), .i .u64 (loI (x * y))]) := by
  obtain ⟨n, rfl⟩ := Int.eq_ofNat_of_zero_le hx
  obtain ⟨m, rfl⟩ := Int.eq_ofNat_of_zero_le hy
  refine Pure.val2 (xs := [.int .u64 n, .int .u64 m]) (.mk Tryz.func102 rfl rfl) rfl rfl fun w => ?_
  refine (Any.bits_Mul64 mulLays n m (by omega) (by omega) w).mono ?_
  rintro e w' ⟨rfl, rfl⟩
  refine ⟨?_, rfl⟩
  simp [hiI, loI]
end
def ak {α : Type} [Inhabited α] (esz : Nat) (enc : α → List D) (xs : List α) : D := .sl esz xs.length fun i => enc (xs.getD i default)
def ar (k : IntKind) (n : Int) : List D := [.val (.int k n)]
def bk (n : Int) : Bool := decide (0 ≤ n) && decide (n ≤ 4611686018427387903)
theorem bp (n : Int) : bk n = true ↔ 0 ≤ n ∧ n ≤ 4611686018427387903 := by simp [bk]
def sQ (T tau : Int) : Int := if bk T = true ∧ 1 ≤ T ∧ bk tau = true then 0 else 1
theorem a9 (n : Int) : Pure TC 29 [.i .i64 n] (.b (bk n)) := by
  refine Pure.mk' Tryz.func29 rfl rfl (zzb rfl) ?_
  (repeat' (first
    | with_reducible refine Wp.seq ?_
    | with_reducible refine Wp.block ?_
    | ((with_reducible first | refine Wp.region ?_ | refine Wp.drawL ac ?_ | refine Wp.cond ?_ | refine Wp.ret ?_ | refine Wp.skip ?_ | refine Wp.exit ?_ | refine Go.mk ?_ | apply ao.of); conv => whnf)
    | with_reducible exact rfl
    | ((with_reducible refine Ov.ok zO ?_); conv => whnf)
    | (with_reducible refine Ov.sh1 (by with_unfolding_all exact rfl) ?_)
    | ((with_reducible refine Ov.quo (by omega) (by omega) (by omega) (fun _ _ => ?_)); conv => whnf)
    | ((with_reducible refine And.intro (show ah _ _ _ _ = true by kernel_rfl) ?_); conv => whnf)
    | ((with_reducible refine And.intro zC ?_); conv => whnf)
    | ((with_reducible refine And.intro ?hb ?_); (case hb => exact ae (zzb rfl) (by omega)); (conv => whnf))
    | ((refine af.a rfl rfl rfl rfl rfl rfl ?hb ?_); (case hb => exact zB); (conv => whnf))
    | ((refine af.b rfl rfl rfl rfl rfl rfl rfl rfl ?hb ?ho ?_); (case hb => exact zB); (case ho => omega); (conv => whnf))
    | ((refine af.c rfl rfl rfl rfl rfl ?hb ?_); (case hb => exact zB); (conv => whnf))
    | ((refine af.d rfl rfl rfl rfl rfl rfl ?hb ?ho ?_); (case hb => exact zB); (case ho => omega); (conv => whnf))
    | (with_reducible refine Or.inl ?_)
    | ((with_reducible refine IxA.ptr ?_); conv => whnf)
    | ((with_reducible refine nil_no (by omega) ?_); (conv => whnf))
    | ((with_reducible refine ag ?_ (fun hn0 => ?_)) <;> (conv => whnf))
    
    | ((refine ap (fun hc => ?_) (fun hc => ?_)) <;> (try simp only [decide_eq_true_eq, decide_eq_false_iff_not, Q5, Q20, Bool.and_eq_false_iff, Bool.or_eq_false_iff, Bool.not_eq_true', Bool.not_eq_false', beq_iff_eq, bne_iff_ne, ne_eq, beq_eq_false_iff_ne, bne_eq_false_iff_eq, Bool.not_eq_true, Bool.not_eq_false] at hc) <;> (try (exfalso; omega)) <;> (conv => whnf))))
  all_goals exact .b (by simp [bk]; omega)
theorem eI (n : Int) : Pure TC 34 [.i .i64 n] (.b (bk n)) := by
  refine Pure.mk' Tryz.func34 rfl rfl (zzb rfl) ?_
  (repeat' (first
    | with_reducible refine Wp.seq ?_
    | with_reducible refine Wp.block ?_
    | ((with_reducible first | refine Wp.region ?_ | refine Wp.drawL ac ?_ | refine Wp.cond ?_ | refine Wp.ret ?_ | refine Wp.skip ?_ | refine Wp.exit ?_ | refine Go.mk ?_ | apply ao.of); conv => whnf)
    | with_reducible exact rfl
    | ((with_reducible refine Ov.ok zO ?_); conv => whnf)
    | (with_reducible refine Ov.sh1 (by with_unfolding_all exact rfl) ?_)
    | ((with_reducible refine Ov.quo (by omega) (by omega) (by omega) (fun _ _ => ?_)); conv => whnf)
    | ((with_reducible refine And.intro (show ah _ _ _ _ = true by kernel_rfl) ?_); conv => whnf)
    | ((with_reducible refine And.intro zC ?_); conv => whnf)
    | ((with_reducible refine And.intro ?hb ?_); (case hb => exact ae (zzb rfl) (by omega)); (conv => whnf))
    | ((refine af.a rfl rfl rfl rfl rfl rfl ?hb ?_); (case hb => exact zB); (conv => whnf))
    | ((refine af.b rfl rfl rfl rfl rfl rfl rfl rfl ?hb ?ho ?_); (case hb => exact zB); (case ho => omega); (conv => whnf))
    | ((refine af.c rfl rfl rfl rfl rfl ?hb ?_); (case hb => exact zB); (conv => whnf))
    | ((refine af.d rfl rfl rfl rfl rfl rfl ?hb ?ho ?_); (case hb => exact zB); (case ho => omega); (conv => whnf))
    | (with_reducible refine Or.inl ?_)
    | ((with_reducible refine IxA.ptr ?_); conv => whnf)
    | ((with_reducible refine nil_no (by omega) ?_); (conv => whnf))
    | ((with_reducible refine ag ?_ (fun hn0 => ?_)) <;> (conv => whnf))
    
    | ((refine ap (fun hc => ?_) (fun hc => ?_)) <;> (try simp only [decide_eq_true_eq, decide_eq_false_iff_not, Q5, Q20, Bool.and_eq_false_iff, Bool.or_eq_false_iff, Bool.not_eq_true', Bool.not_eq_false', beq_iff_eq, bne_iff_ne, ne_eq, beq_eq_false_iff_ne, bne_eq_false_iff_eq, Bool.not_eq_true, Bool.not_eq_false] at hc) <;> (try (exfalso; omega)) <;> (conv => whnf))))
  all_goals exact .b (by simp [bk]; omega)
theorem dr (T tau : Int) : Pure TC 37 [.agg [.i .i64 T, .i .i64 tau]] (.i .i64 (sQ T tau)) := by
  refine Pure.mk' Tryz.func37 rfl rfl (zzb rfl) ?_
  (repeat' (first
    | with_reducible refine Wp.seq ?_
    | with_reducible refine Wp.block ?_
    | ((with_reducible first | refine Wp.region ?_ | refine Wp.drawL ac ?_ | refine Wp.cond ?_ | refine Wp.ret ?_ | refine Wp.skip ?_ | refine Wp.exit ?_ | refine Go.mk ?_ | apply ao.of); conv => whnf)
    | with_reducible exact rfl
    | ((with_reducible refine Ov.ok zO ?_); conv => whnf)
    | (with_reducible refine Ov.sh1 (by with_unfolding_all exact rfl) ?_)
    | ((with_reducible refine Ov.quo (by omega) (by omega) (by omega) (fun _ _ => ?_)); conv => whnf)
    | ((with_reducible refine And.intro (show ah _ _ _ _ = true by kernel_rfl) ?_); conv => whnf)
    | ((with_reducible refine And.intro zC ?_); conv => whnf)
    | ((with_reducible refine And.intro ?hb ?_); (case hb => exact ae (zzb rfl) (by omega)); (conv => whnf))
    | ((refine af.a rfl rfl rfl rfl rfl rfl ?hb ?_); (case hb => exact zB); (conv => whnf))
    | ((refine af.b rfl rfl rfl rfl rfl rfl rfl rfl ?hb ?ho ?_); (case hb => exact zB); (case ho => omega); (conv => whnf))
    | ((refine af.c rfl rfl rfl rfl rfl ?hb ?_); (case hb => exact zB); (conv => whnf))
    | ((refine af.d rfl rfl rfl rfl rfl rfl ?hb ?ho ?_); (case hb => exact zB); (case ho => omega); (conv => whnf))
    | (with_reducible refine Or.inl ?_)
    | ((with_reducible refine IxA.ptr ?_); conv => whnf)
    | ((with_reducible refine nil_no (by omega) ?_); (conv => whnf))
    | ((with_reducible refine ag ?_ (fun hn0 => ?_)) <;> (conv => whnf))
    | ((with_reducible refine ab.pure (a9 _) rfl rfl ?_); conv => whnf) | ((with_reducible refine ai.pure (a9 _) rfl rfl ?_); conv => whnf)
    | ((refine ap (fun hc => ?_) (fun hc => ?_)) <;> (try simp only [decide_eq_true_eq, decide_eq_false_iff_not, Q5, Q20, Bool.and_eq_false_iff, Bool.or_eq_false_iff, Bool.not_eq_true', Bool.not_eq_false', beq_iff_eq, bne_iff_ne, ne_eq, beq_eq_false_iff_ne, bne_eq_false_iff_eq, Bool.not_eq_true, Bool.not_eq_false] at hc) <;> (try (exfalso; omega)) <;> (conv => whnf))))
  all_goals exact .i (by simp [sQ, *]; try omega)
theorem l4 (T tau : Int) : Pure TC 49 [.agg [.i .i64 T, .i .i64 tau]] (.i .i64 (sQ T tau)) := by
  refine Pure.mk' Tryz.func49 rfl rfl (zzb rfl) ?_
  (repeat' (first
    | with_reducible refine Wp.seq ?_
    | with_reducible refine Wp.block ?_
    | ((with_reducible first | refine Wp.region ?_ | refine Wp.drawL ac ?_ | refine Wp.cond ?_ | refine Wp.ret ?_ | refine Wp.skip ?_ | refine Wp.exit ?_ | refine Go.mk ?_ | apply ao.of); conv => whnf)
    | with_reducible exact rfl
    | ((with_reducible refine Ov.ok zO ?_); conv => whnf)
    | (with_reducible refine Ov.sh1 (by with_unfolding_all exact rfl) ?_)
    | ((with_reducible refine Ov.quo (by omega) (by omega) (by omega) (fun _ _ => ?_)); conv => whnf)
    | ((with_reducible refine And.intro (show ah _ _ _ _ = true by kernel_rfl) ?_); conv => whnf)
    | ((with_reducible refine And.intro zC ?_); conv => whnf)
    | ((with_reducible refine And.intro ?hb ?_); (case hb => exact ae (zzb rfl) (by omega)); (conv => whnf))
    | ((refine af.a rfl rfl rfl rfl rfl rfl ?hb ?_); (case hb => exact zB); (conv => whnf))
    | ((refine af.b rfl rfl rfl rfl rfl rfl rfl rfl ?hb ?ho ?_); (case hb => exact zB); (case ho => omega); (conv => whnf))
    | ((refine af.c rfl rfl rfl rfl rfl ?hb ?_); (case hb => exact zB); (conv => whnf))
    | ((refine af.d rfl rfl rfl rfl rfl rfl ?hb ?ho ?_); (case hb => exact zB); (case ho => omega); (conv => whnf))
    | (with_reducible refine Or.inl ?_)
    | ((with_reducible refine IxA.ptr ?_); conv => whnf)
    | ((with_reducible refine nil_no (by omega) ?_); (conv => whnf))
    | ((with_reducible refine ag ?_ (fun hn0 => ?_)) <;> (conv => whnf))
    | ((with_reducible refine ab.pure (eI _) rfl rfl ?_); conv => whnf) | ((with_reducible refine ai.pure (eI _) rfl rfl ?_); conv => whnf)
    | ((refine ap (fun hc => ?_) (fun hc => ?_)) <;> (try simp only [decide_eq_true_eq, decide_eq_false_iff_not, Q5, Q20, Bool.and_eq_false_iff, Bool.or_eq_false_iff, Bool.not_eq_true', Bool.not_eq_false', beq_iff_eq, bne_iff_ne, ne_eq, beq_eq_false_iff_ne, bne_eq_false_iff_eq, Bool.not_eq_true, Bool.not_eq_false] at hc) <;> (try (exfalso; omega)) <;> (conv => whnf))))
  all_goals exact .i (by simp [sQ, *]; try omega)
structure Pol where
  kind : Int
  T : Int
  tau : Int
  permits : Int
  deriving Inhabited
def Pol.D (p : Pol) : List D := [.val (.int .u8 p.kind), .val (.int .i64 p.T), .val (.int .i64 p.tau), .val (.int .i64 p.permits)]
def eW (k T tau m : Int) : Bool := if k = 1 then sQ T tau == 0 else if k = 2 then decide (1 ≤ m) && decide (m ≤ 64) else false
theorem kR (k T tau m : Int) : Pure TC 28 [.agg [.i .u8 k, .i .i64 T, .i .i64 tau, .i .i64 m]] (.b (eW k T tau m)) := by
  refine Pure.mk' Tryz.func28 rfl rfl (zzb rfl) ?_
  (repeat' (first
    | with_reducible refine Wp.seq ?_
    | with_reducible refine Wp.block ?_
    | ((with_reducible first | refine Wp.region ?_ | refine Wp.drawL ac ?_ | refine Wp.cond ?_ | refine Wp.ret ?_ | refine Wp.skip ?_ | refine Wp.exit ?_ | refine Go.mk ?_ | apply ao.of); conv => whnf)
    | with_reducible exact rfl
    | ((with_reducible refine Ov.ok zO ?_); conv => whnf)
    | (with_reducible refine Ov.sh1 (by with_unfolding_all exact rfl) ?_)
    | ((with_reducible refine Ov.quo (by omega) (by omega) (by omega) (fun _ _ => ?_)); conv => whnf)
    | ((with_reducible refine And.intro (show ah _ _ _ _ = true by kernel_rfl) ?_); conv => whnf)
    | ((with_reducible refine And.intro zC ?_); conv => whnf)
    | ((with_reducible refine And.intro ?hb ?_); (case hb => exact ae (zzb rfl) (by omega)); (conv => whnf))
    | ((refine af.a rfl rfl rfl rfl rfl rfl ?hb ?_); (case hb => exact zB); (conv => whnf))
    | ((refine af.b rfl rfl rfl rfl rfl rfl rfl rfl ?hb ?ho ?_); (case hb => exact zB); (case ho => omega); (conv => whnf))
    | ((refine af.c rfl rfl rfl rfl rfl ?hb ?_); (case hb => exact zB); (conv => whnf))
    | ((refine af.d rfl rfl rfl rfl rfl rfl ?hb ?ho ?_); (case hb => exact zB); (case ho => omega); (conv => whnf))
    | (with_reducible refine Or.inl ?_)
    | ((with_reducible refine IxA.ptr ?_); conv => whnf)
    | ((with_reducible refine nil_no (by omega) ?_); (conv => whnf))
    | ((with_reducible refine ag ?_ (fun hn0 => ?_)) <;> (conv => whnf))
    | ((with_reducible refine ab.pure (dr _ _) rfl rfl ?_); conv => whnf) | ((with_reducible refine ai.pure (dr _ _) rfl rfl ?_); conv => whnf)
    | ((refine ap (fun hc => ?_) (fun hc => ?_)) <;> (try simp only [decide_eq_true_eq, decide_eq_false_iff_not, Q5, Q20, Bool.and_eq_false_iff, Bool.or_eq_false_iff, Bool.not_eq_true', Bool.not_eq_false', beq_iff_eq, bne_iff_ne, ne_eq, beq_eq_false_iff_ne, bne_eq_false_iff_eq, Bool.not_eq_true, Bool.not_eq_false] at hc) <;> (try (exfalso; omega)) <;> (conv => whnf))))
  all_goals exact .b (by simp [eW, *])
theorem l5 (k T tau m : Int) : Pure TC 33 [.agg [.i .u8 k, .i .i64 T, .i .i64 tau, .i .i64 m]] (.b (eW k T tau m)) := by
  refine Pure.mk' Tryz.func33 rfl rfl (zzb rfl) ?_
  (repeat' (first
    | with_reducible refine Wp.seq ?_
    | with_reducible refine Wp.block ?_
    | ((with_reducible first | refine Wp.region ?_ | refine Wp.drawL ac ?_ | refine Wp.cond ?_ | refine Wp.ret ?_ | refine Wp.skip ?_ | refine Wp.exit ?_ | refine Go.mk ?_ | apply ao.of); conv => whnf)
    | with_reducible exact rfl
    | ((with_reducible refine Ov.ok zO ?_); conv => whnf)
    | (with_reducible refine Ov.sh1 (by with_unfolding_all exact rfl) ?_)
    | ((with_reducible refine Ov.quo (by omega) (by omega) (by omega) (fun _ _ => ?_)); conv => whnf)
    | ((with_reducible refine And.intro (show ah _ _ _ _ = true by kernel_rfl) ?_); conv => whnf)
    | ((with_reducible refine And.intro zC ?_); conv => whnf)
    | ((with_reducible refine And.intro ?hb ?_); (case hb => exact ae (zzb rfl) (by omega)); (conv => whnf))
    | ((refine af.a rfl rfl rfl rfl rfl rfl ?hb ?_); (case hb => exact zB); (conv => whnf))
    | ((refine af.b rfl rfl rfl rfl rfl rfl rfl rfl ?hb ?ho ?_); (case hb => exact zB); (case ho => omega); (conv => whnf))
    | ((refine af.c rfl rfl rfl rfl rfl ?hb ?_); (case hb => exact zB); (conv => whnf))
    | ((refine af.d rfl rfl rfl rfl rfl rfl ?hb ?ho ?_); (case hb => exact zB); (case ho => omega); (conv => whnf))
    | (with_reducible refine Or.inl ?_)
    | ((with_reducible refine IxA.ptr ?_); conv => whnf)
    | ((with_reducible refine nil_no (by omega) ?_); (conv => whnf))
    | ((with_reducible refine ag ?_ (fun hn0 => ?_)) <;> (conv => whnf))
    | ((with_reducible refine ab.pure (l4 _ _) rfl rfl ?_); conv => whnf) | ((with_reducible refine ai.pure (l4 _ _) rfl rfl ?_); conv => whnf)
    | ((refine ap (fun hc => ?_) (fun hc => ?_)) <;> (try simp only [decide_eq_true_eq, decide_eq_false_iff_not, Q5, Q20, Bool.and_eq_false_iff, Bool.or_eq_false_iff, Bool.not_eq_true', Bool.not_eq_false', beq_iff_eq, bne_iff_ne, ne_eq, beq_eq_false_iff_ne, bne_eq_false_iff_eq, Bool.not_eq_true, Bool.not_eq_false] at hc) <;> (try (exfalso; omega)) <;> (conv => whnf))))
  all_goals exact .b (by simp [eW, *])
def aG (ps : List Pol) : Int := if 32 < ps.length then 2 else if ps.all (fun p => eW p.kind p.T p.tau p.permits) then 0 else 3
theorem dX {ps : List Pol} (h : ¬ 32 < ps.length) : aG ps = if ps.all (fun p => eW p.kind p.T p.tau p.permits) then 0 else 3 := by simp [aG, h]
theorem cV {α : Type} [Inhabited α] {f : α → Bool} {xs : List α} {k : Nat} (hk : k < xs.length) (h : (xs.take k).all f = true) (h2 : f (xs.getD k default) = true) : (xs.take (k + 1)).all f = true := by
  rw [List.take_succ_eq_append_getElem hk, List.all_append, h]
  simp only [List.getD, Q0 hk, Option.getD_some] at h2
  simp [h2]
theorem lj {α : Type} [Inhabited α] {f : α → Bool} {xs : List α} {k : Nat} (hk : k < xs.length) (h2 : f (xs.getD k default) = false) : xs.all f = false := by
  simp only [List.getD, Q0 hk, Option.getD_some] at h2
  rw [List.all_eq_false]
  exact ⟨_, Q14 hk, by simp [h2]⟩
theorem bz (ps : List Pol) : Pure TC 18 [.d (ak 4 Pol.D ps)] (.i .i64 (aG ps)) := by
  refine Pure.mk' Tryz.func18 rfl rfl (zzb rfl) ?_
  (repeat' (first
    | with_reducible refine Wp.seq ?_
    | with_reducible refine Wp.block ?_
    | ((with_reducible first | refine Wp.region ?_ | refine Wp.drawL ac ?_ | refine Wp.cond ?_ | refine Wp.ret ?_ | refine Wp.skip ?_ | refine Wp.exit ?_ | refine Go.mk ?_ | apply ao.of); conv => whnf)
    | with_reducible exact rfl
    | ((with_reducible refine Ov.ok zO ?_); conv => whnf)
    | (with_reducible refine Ov.sh1 (by with_unfolding_all exact rfl) ?_)
    | ((with_reducible refine Ov.quo (by omega) (by omega) (by omega) (fun _ _ => ?_)); conv => whnf)
    | ((with_reducible refine And.intro (show ah _ _ _ _ = true by kernel_rfl) ?_); conv => whnf)
    | ((with_reducible refine And.intro zC ?_); conv => whnf)
    | ((with_reducible refine And.intro ?hb ?_); (case hb => exact ae (zzb rfl) (by omega)); (conv => whnf))
    | ((refine af.a rfl rfl rfl rfl rfl rfl ?hb ?_); (case hb => exact zB); (conv => whnf))
    | ((refine af.b rfl rfl rfl rfl rfl rfl rfl rfl ?hb ?ho ?_); (case hb => exact zB); (case ho => omega); (conv => whnf))
    | ((refine af.c rfl rfl rfl rfl rfl ?hb ?_); (case hb => exact zB); (conv => whnf))
    | ((refine af.d rfl rfl rfl rfl rfl rfl ?hb ?ho ?_); (case hb => exact zB); (case ho => omega); (conv => whnf))
    | (with_reducible refine Or.inl ?_)
    | ((with_reducible refine IxA.ptr ?_); conv => whnf)
    | ((with_reducible refine nil_no (by omega) ?_); (conv => whnf))
    | ((with_reducible refine ag ?_ (fun hn0 => ?_)) <;> (conv => whnf))
    
    | ((refine ap (fun hc => ?_) (fun hc => ?_)) <;> (try simp only [decide_eq_true_eq, decide_eq_false_iff_not, Q5, Q20, Bool.and_eq_false_iff, Bool.or_eq_false_iff, Bool.not_eq_true', Bool.not_eq_false', beq_iff_eq, bne_iff_ne, ne_eq, beq_eq_false_iff_ne, bne_eq_false_iff_eq, Bool.not_eq_true, Bool.not_eq_false] at hc) <;> (try (exfalso; omega)) <;> (conv => whnf))))
  · exact .i (by simp [aG]; omega)
  · refine Wp.loopP (fun k => k ≤ ps.length ∧ (ps.take k).all (fun p => eW p.kind p.T p.tau p.permits) = true) (fun k => ⟨⟨Tryz.f18.ntmps, 0⟩, 0, [(8, .d (ak 4 Pol.D ps)), (9, .i .i64 ps.length), (10, .i .i64 k)], []⟩) (fun k => ps.length - k) 0 ⟨by simp, by simp⟩ ?_ ?_
    · (refine Le.by [] rfl rfl rfl rfl ?_ ?_ <;> (conv => whnf) <;> (repeat' (first | exact trivial | exact aa.rfl rfl | exact aa.ptr rfl | exact aa.sl rfl | ((with_reducible refine aa.fn ?_); (conv => whnf)) | ((refine aa.iref ?_); (conv => whnf)) | exact ⟨rfl, rfl, rfl⟩ | exact fun i hi => rfl | ((with_reducible refine And.intro ?_ ?_) <;> (conv => whnf)))))
    · rintro k ⟨hk, hall⟩
      (repeat' (first
    | with_reducible refine Wp.seq ?_
    | with_reducible refine Wp.block ?_
    | ((with_reducible first | refine Wp.region ?_ | refine Wp.drawL ac ?_ | refine Wp.cond ?_ | refine Wp.ret ?_ | refine Wp.skip ?_ | refine Wp.exit ?_ | refine Go.mk ?_ | apply ao.of); conv => whnf)
    | with_reducible exact rfl
    | ((with_reducible refine Ov.ok zO ?_); conv => whnf)
    | (with_reducible refine Ov.sh1 (by with_unfolding_all exact rfl) ?_)
    | ((with_reducible refine Ov.quo (by omega) (by omega) (by omega) (fun _ _ => ?_)); conv => whnf)
    | ((with_reducible refine And.intro (show ah _ _ _ _ = true by kernel_rfl) ?_); conv => whnf)
    | ((with_reducible refine And.intro zC ?_); conv => whnf)
    | ((with_reducible refine And.intro ?hb ?_); (case hb => exact ae (zzb rfl) (by omega)); (conv => whnf))
    | ((refine af.a rfl rfl rfl rfl rfl rfl ?hb ?_); (case hb => exact zB); (conv => whnf))
    | ((refine af.b rfl rfl rfl rfl rfl rfl rfl rfl ?hb ?ho ?_); (case hb => exact zB); (case ho => omega); (conv => whnf))
    | ((refine af.c rfl rfl rfl rfl rfl ?hb ?_); (case hb => exact zB); (conv => whnf))
    | ((refine af.d rfl rfl rfl rfl rfl rfl ?hb ?ho ?_); (case hb => exact zB); (case ho => omega); (conv => whnf))
    | (with_reducible refine Or.inl ?_)
    | ((with_reducible refine IxA.ptr ?_); conv => whnf)
    | ((with_reducible refine nil_no (by omega) ?_); (conv => whnf))
    | ((with_reducible refine ag ?_ (fun hn0 => ?_)) <;> (conv => whnf))
    | ((with_reducible refine ab.pure (kR _ _ _ _) rfl rfl ?_); conv => whnf) | ((with_reducible refine ai.pure (kR _ _ _ _) rfl rfl ?_); conv => whnf)
    | ((refine ap (fun hc => ?_) (fun hc => ?_)) <;> (try simp only [decide_eq_true_eq, decide_eq_false_iff_not, Q5, Q20, Bool.and_eq_false_iff, Bool.or_eq_false_iff, Bool.not_eq_true', Bool.not_eq_false', beq_iff_eq, bne_iff_ne, ne_eq, beq_eq_false_iff_ne, bne_eq_false_iff_eq, Bool.not_eq_true, Bool.not_eq_false] at hc) <;> (try (exfalso; omega)) <;> (conv => whnf))))
      · exact .i (by rw [dX (by omega), lj (k := k) (by omega) (by simpa using hc)]; rfl)
      · refine ⟨k + 1, ⟨by omega, cV (by omega) hall (by simpa using hc)⟩, by dsimp only; omega, ?_⟩
        (refine Le.by [] rfl rfl rfl rfl ?_ ?_ <;> (conv => whnf) <;> (repeat' (first | exact trivial | exact aa.rfl rfl | exact aa.ptr rfl | exact aa.sl rfl | ((with_reducible refine aa.fn ?_); (conv => whnf)) | ((refine aa.iref ?_); (conv => whnf)) | exact ⟨rfl, rfl, rfl⟩ | exact fun i hi => rfl | ((with_reducible refine And.intro ?_ ?_) <;> (conv => whnf)))))
      · rw [Q21 (by omega)] at hall
        exact .i (by rw [dX (by omega), hall]; rfl)
theorem b7 (ps : List Pol) : Pure TC 24 [.d (ak 4 Pol.D ps)] (.i .i64 (aG ps)) := by
  refine Pure.mk' Tryz.func24 rfl rfl (zzb rfl) ?_
  (repeat' (first
    | with_reducible refine Wp.seq ?_
    | with_reducible refine Wp.block ?_
    | ((with_reducible first | refine Wp.region ?_ | refine Wp.drawL ac ?_ | refine Wp.cond ?_ | refine Wp.ret ?_ | refine Wp.skip ?_ | refine Wp.exit ?_ | refine Go.mk ?_ | apply ao.of); conv => whnf)
    | with_reducible exact rfl
    | ((with_reducible refine Ov.ok zO ?_); conv => whnf)
    | (with_reducible refine Ov.sh1 (by with_unfolding_all exact rfl) ?_)
    | ((with_reducible refine Ov.quo (by omega) (by omega) (by omega) (fun _ _ => ?_)); conv => whnf)
    | ((with_reducible refine And.intro (show ah _ _ _ _ = true by kernel_rfl) ?_); conv => whnf)
    | ((with_reducible refine And.intro zC ?_); conv => whnf)
    | ((with_reducible refine And.intro ?hb ?_); (case hb => exact ae (zzb rfl) (by omega)); (conv => whnf))
    | ((refine af.a rfl rfl rfl rfl rfl rfl ?hb ?_); (case hb => exact zB); (conv => whnf))
    | ((refine af.b rfl rfl rfl rfl rfl rfl rfl rfl ?hb ?ho ?_); (case hb => exact zB); (case ho => omega); (conv => whnf))
    | ((refine af.c rfl rfl rfl rfl rfl ?hb ?_); (case hb => exact zB); (conv => whnf))
    | ((refine af.d rfl rfl rfl rfl rfl rfl ?hb ?ho ?_); (case hb => exact zB); (case ho => omega); (conv => whnf))
    | (with_reducible refine Or.inl ?_)
    | ((with_reducible refine IxA.ptr ?_); conv => whnf)
    | ((with_reducible refine nil_no (by omega) ?_); (conv => whnf))
    | ((with_reducible refine ag ?_ (fun hn0 => ?_)) <;> (conv => whnf))
    
    | ((refine ap (fun hc => ?_) (fun hc => ?_)) <;> (try simp only [decide_eq_true_eq, decide_eq_false_iff_not, Q5, Q20, Bool.and_eq_false_iff, Bool.or_eq_false_iff, Bool.not_eq_true', Bool.not_eq_false', beq_iff_eq, bne_iff_ne, ne_eq, beq_eq_false_iff_ne, bne_eq_false_iff_eq, Bool.not_eq_true, Bool.not_eq_false] at hc) <;> (try (exfalso; omega)) <;> (conv => whnf))))
  · exact .i (by simp [aG]; omega)
  · refine Wp.loopP (fun k => k ≤ ps.length ∧ (ps.take k).all (fun p => eW p.kind p.T p.tau p.permits) = true) (fun k => ⟨⟨Tryz.f24.ntmps, 0⟩, 0, [(8, .d (ak 4 Pol.D ps)), (9, .i .i64 ps.length), (10, .i .i64 k)], []⟩) (fun k => ps.length - k) 0 ⟨by simp, by simp⟩ ?_ ?_
    · (refine Le.by [] rfl rfl rfl rfl ?_ ?_ <;> (conv => whnf) <;> (repeat' (first | exact trivial | exact aa.rfl rfl | exact aa.ptr rfl | exact aa.sl rfl | ((with_reducible refine aa.fn ?_); (conv => whnf)) | ((refine aa.iref ?_); (conv => whnf)) | exact ⟨rfl, rfl, rfl⟩ | exact fun i hi => rfl | ((with_reducible refine And.intro ?_ ?_) <;> (conv => whnf)))))
    · rintro k ⟨hk, hall⟩
      (repeat' (first
    | with_reducible refine Wp.seq ?_
    | with_reducible refine Wp.block ?_
    | ((with_reducible first | refine Wp.region ?_ | refine Wp.drawL ac ?_ | refine Wp.cond ?_ | refine Wp.ret ?_ | refine Wp.skip ?_ | refine Wp.exit ?_ | refine Go.mk ?_ | apply ao.of); conv => whnf)
    | with_reducible exact rfl
    | ((with_reducible refine Ov.ok zO ?_); conv => whnf)
    | (with_reducible refine Ov.sh1 (by with_unfolding_all exact rfl) ?_)
    | ((with_reducible refine Ov.quo (by omega) (by omega) (by omega) (fun _ _ => ?_)); conv => whnf)
    | ((with_reducible refine And.intro (show ah _ _ _ _ = true by kernel_rfl) ?_); conv => whnf)
    | ((with_reducible refine And.intro zC ?_); conv => whnf)
    | ((with_reducible refine And.intro ?hb ?_); (case hb => exact ae (zzb rfl) (by omega)); (conv => whnf))
    | ((refine af.a rfl rfl rfl rfl rfl rfl ?hb ?_); (case hb => exact zB); (conv => whnf))
    | ((refine af.b rfl rfl rfl rfl rfl rfl rfl rfl ?hb ?ho ?_); (case hb => exact zB); (case ho => omega); (conv => whnf))
    | ((refine af.c rfl rfl rfl rfl rfl ?hb ?_); (case hb => exact zB); (conv => whnf))
    | ((refine af.d rfl rfl rfl rfl rfl rfl ?hb ?ho ?_); (case hb => exact zB); (case ho => omega); (conv => whnf))
    | (with_reducible refine Or.inl ?_)
    | ((with_reducible refine IxA.ptr ?_); conv => whnf)
    | ((with_reducible refine nil_no (by omega) ?_); (conv => whnf))
    | ((with_reducible refine ag ?_ (fun hn0 => ?_)) <;> (conv => whnf))
    | ((with_reducible refine ab.pure (l5 _ _ _ _) rfl rfl ?_); conv => whnf) | ((with_reducible refine ai.pure (l5 _ _ _ _) rfl rfl ?_); conv => whnf)
    | ((refine ap (fun hc => ?_) (fun hc => ?_)) <;> (try simp only [decide_eq_true_eq, decide_eq_false_iff_not, Q5, Q20, Bool.and_eq_false_iff, Bool.or_eq_false_iff, Bool.not_eq_true', Bool.not_eq_false', beq_iff_eq, bne_iff_ne, ne_eq, beq_eq_false_iff_ne, bne_eq_false_iff_eq, Bool.not_eq_true, Bool.not_eq_false] at hc) <;> (try (exfalso; omega)) <;> (conv => whnf))))
      · exact .i (by rw [dX (by omega), lj (k := k) (by omega) (by simpa using hc)]; rfl)
      · refine ⟨k + 1, ⟨by omega, cV (by omega) hall (by simpa using hc)⟩, by dsimp only; omega, ?_⟩
        (refine Le.by [] rfl rfl rfl rfl ?_ ?_ <;> (conv => whnf) <;> (repeat' (first | exact trivial | exact aa.rfl rfl | exact aa.ptr rfl | exact aa.sl rfl | ((with_reducible refine aa.fn ?_); (conv => whnf)) | ((refine aa.iref ?_); (conv => whnf)) | exact ⟨rfl, rfl, rfl⟩ | exact fun i hi => rfl | ((with_reducible refine And.intro ?_ ?_) <;> (conv => whnf)))))
      · rw [Q21 (by omega)] at hall
        exact .i (by rw [dX (by omega), hall]; rfl)
def fC (op : Int) : Int := if op = 1 then 1 else if op = 2 ∨ op = 3 then 2 else 0
theorem kQ (op : Int) : Pure TC 30 [.i .u8 op] (.i .u8 (fC op)) := by
  refine Pure.mk' Tryz.func30 rfl rfl (zzb rfl) ?_
  (repeat' (first
    | with_reducible refine Wp.seq ?_
    | with_reducible refine Wp.block ?_
    | ((with_reducible first | refine Wp.region ?_ | refine Wp.drawL ac ?_ | refine Wp.cond ?_ | refine Wp.ret ?_ | refine Wp.skip ?_ | refine Wp.exit ?_ | refine Go.mk ?_ | apply ao.of); conv => whnf)
    | with_reducible exact rfl
    | ((with_reducible refine Ov.ok zO ?_); conv => whnf)
    | (with_reducible refine Ov.sh1 (by with_unfolding_all exact rfl) ?_)
    | ((with_reducible refine Ov.quo (by omega) (by omega) (by omega) (fun _ _ => ?_)); conv => whnf)
    | ((with_reducible refine And.intro (show ah _ _ _ _ = true by kernel_rfl) ?_); conv => whnf)
    | ((with_reducible refine And.intro zC ?_); conv => whnf)
    | ((with_reducible refine And.intro ?hb ?_); (case hb => exact ae (zzb rfl) (by omega)); (conv => whnf))
    | ((refine af.a rfl rfl rfl rfl rfl rfl ?hb ?_); (case hb => exact zB); (conv => whnf))
    | ((refine af.b rfl rfl rfl rfl rfl rfl rfl rfl ?hb ?ho ?_); (case hb => exact zB); (case ho => omega); (conv => whnf))
    | ((refine af.c rfl rfl rfl rfl rfl ?hb ?_); (case hb => exact zB); (conv => whnf))
    | ((refine af.d rfl rfl rfl rfl rfl rfl ?hb ?ho ?_); (case hb => exact zB); (case ho => omega); (conv => whnf))
    | (with_reducible refine Or.inl ?_)
    | ((with_reducible refine IxA.ptr ?_); conv => whnf)
    | ((with_reducible refine nil_no (by omega) ?_); (conv => whnf))
    | ((with_reducible refine ag ?_ (fun hn0 => ?_)) <;> (conv => whnf))
    
    | ((refine ap (fun hc => ?_) (fun hc => ?_)) <;> (try simp only [decide_eq_true_eq, decide_eq_false_iff_not, Q5, Q20, Bool.and_eq_false_iff, Bool.or_eq_false_iff, Bool.not_eq_true', Bool.not_eq_false', beq_iff_eq, bne_iff_ne, ne_eq, beq_eq_false_iff_ne, bne_eq_false_iff_eq, Bool.not_eq_true, Bool.not_eq_false] at hc) <;> (try (exfalso; omega)) <;> (conv => whnf))))
  all_goals exact .i (by simp [fC, *])
theorem jX (op : Int) : Pure TC 35 [.i .u8 op] (.i .u8 (fC op)) := by
  refine Pure.mk' Tryz.func35 rfl rfl (zzb rfl) ?_
  (repeat' (first
    | with_reducible refine Wp.seq ?_
    | with_reducible refine Wp.block ?_
    | ((with_reducible first | refine Wp.region ?_ | refine Wp.drawL ac ?_ | refine Wp.cond ?_ | refine Wp.ret ?_ | refine Wp.skip ?_ | refine Wp.exit ?_ | refine Go.mk ?_ | apply ao.of); conv => whnf)
    | with_reducible exact rfl
    | ((with_reducible refine Ov.ok zO ?_); conv => whnf)
    | (with_reducible refine Ov.sh1 (by with_unfolding_all exact rfl) ?_)
    | ((with_reducible refine Ov.quo (by omega) (by omega) (by omega) (fun _ _ => ?_)); conv => whnf)
    | ((with_reducible refine And.intro (show ah _ _ _ _ = true by kernel_rfl) ?_); conv => whnf)
    | ((with_reducible refine And.intro zC ?_); conv => whnf)
    | ((with_reducible refine And.intro ?hb ?_); (case hb => exact ae (zzb rfl) (by omega)); (conv => whnf))
    | ((refine af.a rfl rfl rfl rfl rfl rfl ?hb ?_); (case hb => exact zB); (conv => whnf))
    | ((refine af.b rfl rfl rfl rfl rfl rfl rfl rfl ?hb ?ho ?_); (case hb => exact zB); (case ho => omega); (conv => whnf))
    | ((refine af.c rfl rfl rfl rfl rfl ?hb ?_); (case hb => exact zB); (conv => whnf))
    | ((refine af.d rfl rfl rfl rfl rfl rfl ?hb ?ho ?_); (case hb => exact zB); (case ho => omega); (conv => whnf))
    | (with_reducible refine Or.inl ?_)
    | ((with_reducible refine IxA.ptr ?_); conv => whnf)
    | ((with_reducible refine nil_no (by omega) ?_); (conv => whnf))
    | ((with_reducible refine ag ?_ (fun hn0 => ?_)) <;> (conv => whnf))
    
    | ((refine ap (fun hc => ?_) (fun hc => ?_)) <;> (try simp only [decide_eq_true_eq, decide_eq_false_iff_not, Q5, Q20, Bool.and_eq_false_iff, Bool.or_eq_false_iff, Bool.not_eq_true', Bool.not_eq_false', beq_iff_eq, bne_iff_ne, ne_eq, beq_eq_false_iff_ne, bne_eq_false_iff_eq, Bool.not_eq_true, Bool.not_eq_false] at hc) <;> (try (exfalso; omega)) <;> (conv => whnf))))
  all_goals exact .i (by simp [fC, *])
def bsF (lt : Nat → Bool) : Nat → Nat → Nat → Nat
  | 0, i, _ => i
  | n + 1, i, j => if i < j then (if lt ((i + j) / 2) then bsF lt n ((i + j) / 2 + 1) j else bsF lt n i ((i + j) / 2)) else i
def bs (lt : Nat → Bool) (n : Nat) : Nat := bsF lt (n + 1) 0 n
theorem pu {lt : Nat → Bool} {q i j : Nat} (h : ¬ i < j) : bsF lt q i j = i := by cases q <;> simp [bsF, h]
def iE (ps : List Pol) (op pol : Int) (key : List Int) (n : Int) : Int :=
  if op < 1 ∨ 6 < op ∨ (op = 1 ∧ bk n = false) then 1
  else if op ≤ 4 ∧ 255 < key.length then 2
  else if aG ps ≠ 0 then aG ps
  else if op ≤ 4 ∧ (pol < 0 ∨ ps.length ≤ pol ∨ (fC op ≠ 0 ∧ (ps.getD pol.toNat default).kind ≠ fC op)) then 6 else 0
theorem fc (ps : List Pol) (op pol : Int) (key : List Int) (n : Int) : Pure TC 20 [.d (ak 4 Pol.D ps), .agg [.i .u8 op, .i .i64 pol, .d (ak 1 (ar .u8) key), .i .i64 n]] (.i .i64 (iE ps op pol key n)) := by
  refine Pure.mk' Tryz.func20 rfl rfl (zzb rfl) ?_
  (repeat' (first
    | with_reducible refine Wp.seq ?_
    | with_reducible refine Wp.block ?_
    | ((with_reducible first | refine Wp.region ?_ | refine Wp.drawL ac ?_ | refine Wp.cond ?_ | refine Wp.ret ?_ | refine Wp.skip ?_ | refine Wp.exit ?_ | refine Go.mk ?_ | apply ao.of); conv => whnf)
    | with_reducible exact rfl
    | ((with_reducible refine Ov.ok zO ?_); conv => whnf)
    | (with_reducible refine Ov.sh1 (by with_unfolding_all exact rfl) ?_)
    | ((with_reducible refine Ov.quo (by omega) (by omega) (by omega) (fun _ _ => ?_)); conv => whnf)
    | ((with_reducible refine And.intro (show ah _ _ _ _ = true by kernel_rfl) ?_); conv => whnf)
    | ((with_reducible refine And.intro zC ?_); conv => whnf)
    | ((with_reducible refine And.intro ?hb ?_); (case hb => exact ae (zzb rfl) (by omega)); (conv => whnf))
    | ((refine af.a rfl rfl rfl rfl rfl rfl ?hb ?_); (case hb => exact zB); (conv => whnf))
    | ((refine af.b rfl rfl rfl rfl rfl rfl rfl rfl ?hb ?ho ?_); (case hb => exact zB); (case ho => omega); (conv => whnf))
    | ((refine af.c rfl rfl rfl rfl rfl ?hb ?_); (case hb => exact zB); (conv => whnf))
    | ((refine af.d rfl rfl rfl rfl rfl rfl ?hb ?ho ?_); (case hb => exact zB); (case ho => omega); (conv => whnf))
    | (with_reducible refine Or.inl ?_)
    | ((with_reducible refine IxA.ptr ?_); conv => whnf)
    | ((with_reducible refine nil_no (by omega) ?_); (conv => whnf))
    | ((with_reducible refine ag ?_ (fun hn0 => ?_)) <;> (conv => whnf))
    | ((with_reducible refine ab.pure (a9 _) rfl rfl ?_); conv => whnf) | ((with_reducible refine ai.pure (a9 _) rfl rfl ?_); conv => whnf)
    | ((with_reducible refine ab.pure (bz _) rfl rfl ?_); conv => whnf) | ((with_reducible refine ai.pure (bz _) rfl rfl ?_); conv => whnf)
    | ((with_reducible refine ab.pure (kQ _) rfl rfl ?_); conv => whnf) | ((with_reducible refine ai.pure (kQ _) rfl rfl ?_); conv => whnf)
    | ((refine ap (fun hc => ?_) (fun hc => ?_)) <;> (try simp only [decide_eq_true_eq, decide_eq_false_iff_not, Q5, Q20, Bool.and_eq_false_iff, Bool.or_eq_false_iff, Bool.not_eq_true', Bool.not_eq_false', beq_iff_eq, bne_iff_ne, ne_eq, beq_eq_false_iff_ne, bne_eq_false_iff_eq, Bool.not_eq_true, Bool.not_eq_false] at hc) <;> (try (exfalso; omega)) <;> (conv => whnf))))
  all_goals exact .i (by
    unfold iE
    repeat' split
    all_goals first | rfl | omega | (exfalso; simp_all; try omega) | simp_all)
theorem dW (ps : List Pol) (op pol : Int) (key : List Int) (n : Int) : Pure TC 25 [.d (ak 4 Pol.D ps), .agg [.i .u8 op, .i .i64 pol, .d (ak 1 (ar .u8) key), .i .i64 n]] (.i .i64 (iE ps op pol key n)) := by
  refine Pure.mk' Tryz.func25 rfl rfl (zzb rfl) ?_
  (repeat' (first
    | with_reducible refine Wp.seq ?_
    | with_reducible refine Wp.block ?_
    | ((with_reducible first | refine Wp.region ?_ | refine Wp.drawL ac ?_ | refine Wp.cond ?_ | refine Wp.ret ?_ | refine Wp.skip ?_ | refine Wp.exit ?_ | refine Go.mk ?_ | apply ao.of); conv => whnf)
    | with_reducible exact rfl
    | ((with_reducible refine Ov.ok zO ?_); conv => whnf)
    | (with_reducible refine Ov.sh1 (by with_unfolding_all exact rfl) ?_)
    | ((with_reducible refine Ov.quo (by omega) (by omega) (by omega) (fun _ _ => ?_)); conv => whnf)
    | ((with_reducible refine And.intro (show ah _ _ _ _ = true by kernel_rfl) ?_); conv => whnf)
    | ((with_reducible refine And.intro zC ?_); conv => whnf)
    | ((with_reducible refine And.intro ?hb ?_); (case hb => exact ae (zzb rfl) (by omega)); (conv => whnf))
    | ((refine af.a rfl rfl rfl rfl rfl rfl ?hb ?_); (case hb => exact zB); (conv => whnf))
    | ((refine af.b rfl rfl rfl rfl rfl rfl rfl rfl ?hb ?ho ?_); (case hb => exact zB); (case ho => omega); (conv => whnf))
    | ((refine af.c rfl rfl rfl rfl rfl ?hb ?_); (case hb => exact zB); (conv => whnf))
    | ((refine af.d rfl rfl rfl rfl rfl rfl ?hb ?ho ?_); (case hb => exact zB); (case ho => omega); (conv => whnf))
    | (with_reducible refine Or.inl ?_)
    | ((with_reducible refine IxA.ptr ?_); conv => whnf)
    | ((with_reducible refine nil_no (by omega) ?_); (conv => whnf))
    | ((with_reducible refine ag ?_ (fun hn0 => ?_)) <;> (conv => whnf))
    | ((with_reducible refine ab.pure (eI _) rfl rfl ?_); conv => whnf) | ((with_reducible refine ai.pure (eI _) rfl rfl ?_); conv => whnf)
    | ((with_reducible refine ab.pure (b7 _) rfl rfl ?_); conv => whnf) | ((with_reducible refine ai.pure (b7 _) rfl rfl ?_); conv => whnf)
    | ((with_reducible refine ab.pure (jX _) rfl rfl ?_); conv => whnf) | ((with_reducible refine ai.pure (jX _) rfl rfl ?_); conv => whnf)
    | ((refine ap (fun hc => ?_) (fun hc => ?_)) <;> (try simp only [decide_eq_true_eq, decide_eq_false_iff_not, Q5, Q20, Bool.and_eq_false_iff, Bool.or_eq_false_iff, Bool.not_eq_true', Bool.not_eq_false', beq_iff_eq, bne_iff_ne, ne_eq, beq_eq_false_iff_ne, bne_eq_false_iff_eq, Bool.not_eq_true, Bool.not_eq_false] at hc) <;> (try (exfalso; omega)) <;> (conv => whnf))))
  all_goals exact .i (by
    unfold iE
    repeat' split
    all_goals first | rfl | omega | (exfalso; simp_all; try omega) | simp_all)
def lB (a b : Int) : Int := if bk a && bk b then 0 else 1
theorem gK (a b : Int) : lB a b = 0 ↔ (0 ≤ a ∧ a ≤ 4611686018427387903) ∧ 0 ≤ b ∧ b ≤ 4611686018427387903 := by simp [lB, bk]; omega
theorem mj (T tau : Int) : sQ T tau = 0 ↔ (1 ≤ T ∧ T ≤ 4611686018427387903) ∧ 0 ≤ tau ∧ tau ≤ 4611686018427387903 := by simp [sQ, bk]; omega
theorem jM (a b : Int) : Pure TC 73 [.i .i64 a, .i .i64 b] (.i .i64 (lB a b)) := by
  refine Pure.mk' Tryz.func73 rfl rfl (zzb rfl) ?_
  (repeat' (first
    | with_reducible refine Wp.seq ?_
    | with_reducible refine Wp.block ?_
    | ((with_reducible first | refine Wp.region ?_ | refine Wp.drawL ac ?_ | refine Wp.cond ?_ | refine Wp.ret ?_ | refine Wp.skip ?_ | refine Wp.exit ?_ | refine Go.mk ?_ | apply ao.of); conv => whnf)
    | with_reducible exact rfl
    | ((with_reducible refine Ov.ok zO ?_); conv => whnf)
    | (with_reducible refine Ov.sh1 (by with_unfolding_all exact rfl) ?_)
    | ((with_reducible refine Ov.quo (by omega) (by omega) (by omega) (fun _ _ => ?_)); conv => whnf)
    | ((with_reducible refine And.intro (show ah _ _ _ _ = true by kernel_rfl) ?_); conv => whnf)
    | ((with_reducible refine And.intro zC ?_); conv => whnf)
    | ((with_reducible refine And.intro ?hb ?_); (case hb => exact ae (zzb rfl) (by omega)); (conv => whnf))
    | ((refine af.a rfl rfl rfl rfl rfl rfl ?hb ?_); (case hb => exact zB); (conv => whnf))
    | ((refine af.b rfl rfl rfl rfl rfl rfl rfl rfl ?hb ?ho ?_); (case hb => exact zB); (case ho => omega); (conv => whnf))
    | ((refine af.c rfl rfl rfl rfl rfl ?hb ?_); (case hb => exact zB); (conv => whnf))
    | ((refine af.d rfl rfl rfl rfl rfl rfl ?hb ?ho ?_); (case hb => exact zB); (case ho => omega); (conv => whnf))
    | (with_reducible refine Or.inl ?_)
    | ((with_reducible refine IxA.ptr ?_); conv => whnf)
    | ((with_reducible refine nil_no (by omega) ?_); (conv => whnf))
    | ((with_reducible refine ag ?_ (fun hn0 => ?_)) <;> (conv => whnf))
    | ((with_reducible refine ab.pure (a9 _) rfl rfl ?_); conv => whnf) | ((with_reducible refine ai.pure (a9 _) rfl rfl ?_); conv => whnf)
    | ((refine ap (fun hc => ?_) (fun hc => ?_)) <;> (try simp only [decide_eq_true_eq, decide_eq_false_iff_not, Q5, Q20, Bool.and_eq_false_iff, Bool.or_eq_false_iff, Bool.not_eq_true', Bool.not_eq_false', beq_iff_eq, bne_iff_ne, ne_eq, beq_eq_false_iff_ne, bne_eq_false_iff_eq, Bool.not_eq_true, Bool.not_eq_false] at hc) <;> (try (exfalso; omega)) <;> (conv => whnf))))
  all_goals exact .i (by simp [lB, *])
def aR (n : Int) : Int := min (max n 0) 4611686018427387903
theorem ia (n : Int) : Pure TC 74 [.i .i64 n] (.i .i64 (aR n)) := by
  refine Pure.mk' Tryz.func74 rfl rfl (zzb rfl) ?_
  (repeat' (first
    | with_reducible refine Wp.seq ?_
    | with_reducible refine Wp.block ?_
    | ((with_reducible first | refine Wp.region ?_ | refine Wp.drawL ac ?_ | refine Wp.cond ?_ | refine Wp.ret ?_ | refine Wp.skip ?_ | refine Wp.exit ?_ | refine Go.mk ?_ | apply ao.of); conv => whnf)
    | with_reducible exact rfl
    | ((with_reducible refine Ov.ok zO ?_); conv => whnf)
    | (with_reducible refine Ov.sh1 (by with_unfolding_all exact rfl) ?_)
    | ((with_reducible refine Ov.quo (by omega) (by omega) (by omega) (fun _ _ => ?_)); conv => whnf)
    | ((with_reducible refine And.intro (show ah _ _ _ _ = true by kernel_rfl) ?_); conv => whnf)
    | ((with_reducible refine And.intro zC ?_); conv => whnf)
    | ((with_reducible refine And.intro ?hb ?_); (case hb => exact ae (zzb rfl) (by omega)); (conv => whnf))
    | ((refine af.a rfl rfl rfl rfl rfl rfl ?hb ?_); (case hb => exact zB); (conv => whnf))
    | ((refine af.b rfl rfl rfl rfl rfl rfl rfl rfl ?hb ?ho ?_); (case hb => exact zB); (case ho => omega); (conv => whnf))
    | ((refine af.c rfl rfl rfl rfl rfl ?hb ?_); (case hb => exact zB); (conv => whnf))
    | ((refine af.d rfl rfl rfl rfl rfl rfl ?hb ?ho ?_); (case hb => exact zB); (case ho => omega); (conv => whnf))
    | (with_reducible refine Or.inl ?_)
    | ((with_reducible refine IxA.ptr ?_); conv => whnf)
    | ((with_reducible refine nil_no (by omega) ?_); (conv => whnf))
    | ((with_reducible refine ag ?_ (fun hn0 => ?_)) <;> (conv => whnf))
    
    | ((refine ap (fun hc => ?_) (fun hc => ?_)) <;> (try simp only [decide_eq_true_eq, decide_eq_false_iff_not, Q5, Q20, Bool.and_eq_false_iff, Bool.or_eq_false_iff, Bool.not_eq_true', Bool.not_eq_false', beq_iff_eq, bne_iff_ne, ne_eq, beq_eq_false_iff_ne, bne_eq_false_iff_eq, Bool.not_eq_true, Bool.not_eq_false] at hc) <;> (try (exfalso; omega)) <;> (conv => whnf))))
  all_goals exact .i (by unfold aR; omega)
def jL (a b : Int) : Int := if lB a b = 0 then max (a - b) 0 else 0
theorem lK (a b : Int) : Pure TC 61 [.i .i64 a, .i .i64 b] (.tup [.i .i64 (jL a b), .i .i64 (lB a b)]) := by
  refine Pure.mk' Tryz.func61 rfl rfl (zzb rfl) ?_
  (repeat' (first
    | with_reducible refine Wp.seq ?_
    | with_reducible refine Wp.block ?_
    | ((with_reducible first | refine Wp.region ?_ | refine Wp.drawL ac ?_ | refine Wp.cond ?_ | refine Wp.ret ?_ | refine Wp.skip ?_ | refine Wp.exit ?_ | refine Go.mk ?_ | apply ao.of); conv => whnf)
    | with_reducible exact rfl
    | ((with_reducible refine Ov.ok zO ?_); conv => whnf)
    | (with_reducible refine Ov.sh1 (by with_unfolding_all exact rfl) ?_)
    | ((with_reducible refine Ov.quo (by omega) (by omega) (by omega) (fun _ _ => ?_)); conv => whnf)
    | ((with_reducible refine And.intro (show ah _ _ _ _ = true by kernel_rfl) ?_); conv => whnf)
    | ((with_reducible refine And.intro zC ?_); conv => whnf)
    | ((with_reducible refine And.intro ?hb ?_); (case hb => exact ae (zzb rfl) (by omega)); (conv => whnf))
    | ((refine af.a rfl rfl rfl rfl rfl rfl ?hb ?_); (case hb => exact zB); (conv => whnf))
    | ((refine af.b rfl rfl rfl rfl rfl rfl rfl rfl ?hb ?ho ?_); (case hb => exact zB); (case ho => omega); (conv => whnf))
    | ((refine af.c rfl rfl rfl rfl rfl ?hb ?_); (case hb => exact zB); (conv => whnf))
    | ((refine af.d rfl rfl rfl rfl rfl rfl ?hb ?ho ?_); (case hb => exact zB); (case ho => omega); (conv => whnf))
    | (with_reducible refine Or.inl ?_)
    | ((with_reducible refine IxA.ptr ?_); conv => whnf)
    | ((with_reducible refine nil_no (by omega) ?_); (conv => whnf))
    | ((with_reducible refine ag ?_ (fun hn0 => ?_)) <;> (conv => whnf))
    | ((with_reducible refine ab.pure (jM _ _) rfl rfl ?_); conv => whnf) | ((with_reducible refine ai.pure (jM _ _) rfl rfl ?_); conv => whnf)
    | ((with_reducible refine ab.pure (ia _) rfl rfl ?_); conv => whnf) | ((with_reducible refine ai.pure (ia _) rfl rfl ?_); conv => whnf)
    | ((refine ap (fun hc => ?_) (fun hc => ?_)) <;> (try simp only [decide_eq_true_eq, decide_eq_false_iff_not, Q5, Q20, Bool.and_eq_false_iff, Bool.or_eq_false_iff, Bool.not_eq_true', Bool.not_eq_false', beq_iff_eq, bne_iff_ne, ne_eq, beq_eq_false_iff_ne, bne_eq_false_iff_eq, Bool.not_eq_true, Bool.not_eq_false, gK] at hc) <;> (try (exfalso; omega)) <;> (conv => whnf))))
  · exact .of_eq (by rw [jL, if_neg (by rw [gK]; omega)])
  · exact .of_eq (by rw [jL, if_pos (by rw [gK]; omega), show lB a b = 0 by rw [gK]; omega, show aR (a - b) = max (a - b) 0 by unfold aR; omega])
theorem jY (a T : Int) (ha : 0 ≤ a) (hT : 1 ≤ T) : 0 ≤ a / T ∧ a / T ≤ a := ⟨Int.ediv_nonneg ha (by omega), Int.ediv_le_self _ ha⟩
def aJ (T tau tat now : Int) : Int := if tau < max tat now - now then 0 else min ((tau - (max tat now - now)) / T + 1) ((4611686018427387903 - max tat now) / T)
theorem ec (T tau tat now : Int) (hT : 1 ≤ T) (hT2 : T ≤ 4611686018427387903) (h1 : 0 ≤ tau) (h2 : tau ≤ 4611686018427387903) (h3 : 0 ≤ tat) (h4 : tat ≤ 4611686018427387903) (h5 : 0 ≤ now) (h6 : now ≤ 4611686018427387903) :
    Pure TC 72 [.agg [.i .i64 T, .i .i64 tau], .i .i64 tat, .i .i64 now] (.i .i64 (aJ T tau tat now)) := by
  have q1 : ¬ (if now > tat then now else tat) - now > tau → _ := fun h => jY (tau - ((if now > tat then now else tat) - now)) T (by omega) hT
  have q2 := jY (4611686018427387903 - (if now > tat then now else tat)) T (by omega) hT
  refine Pure.mk' Tryz.func72 rfl rfl (zzb rfl) ?_
  (repeat' (first
    | with_reducible refine Wp.seq ?_
    | with_reducible refine Wp.block ?_
    | ((with_reducible first | refine Wp.region ?_ | refine Wp.drawL ac ?_ | refine Wp.cond ?_ | refine Wp.ret ?_ | refine Wp.skip ?_ | refine Wp.exit ?_ | refine Go.mk ?_ | apply ao.of); conv => whnf)
    | with_reducible exact rfl
    | ((with_reducible refine Ov.ok zO ?_); conv => whnf)
    | (with_reducible refine Ov.sh1 (by with_unfolding_all exact rfl) ?_)
    | ((with_reducible refine Ov.quo (by omega) (by omega) (by omega) (fun _ _ => ?_)); conv => whnf)
    | ((with_reducible refine And.intro (show ah _ _ _ _ = true by kernel_rfl) ?_); conv => whnf)
    | ((with_reducible refine And.intro zC ?_); conv => whnf)
    | ((with_reducible refine And.intro ?hb ?_); (case hb => exact ae (zzb rfl) (by omega)); (conv => whnf))
    | ((refine af.a rfl rfl rfl rfl rfl rfl ?hb ?_); (case hb => exact zB); (conv => whnf))
    | ((refine af.b rfl rfl rfl rfl rfl rfl rfl rfl ?hb ?ho ?_); (case hb => exact zB); (case ho => omega); (conv => whnf))
    | ((refine af.c rfl rfl rfl rfl rfl ?hb ?_); (case hb => exact zB); (conv => whnf))
    | ((refine af.d rfl rfl rfl rfl rfl rfl ?hb ?ho ?_); (case hb => exact zB); (case ho => omega); (conv => whnf))
    | (with_reducible refine Or.inl ?_)
    | ((with_reducible refine IxA.ptr ?_); conv => whnf)
    | ((with_reducible refine nil_no (by omega) ?_); (conv => whnf))
    | ((with_reducible refine ag ?_ (fun hn0 => ?_)) <;> (conv => whnf))
    
    | ((refine ap (fun hc => ?_) (fun hc => ?_)) <;> (try simp only [decide_eq_true_eq, decide_eq_false_iff_not, Q5, Q20, Bool.and_eq_false_iff, Bool.or_eq_false_iff, Bool.not_eq_true', Bool.not_eq_false', beq_iff_eq, bne_iff_ne, ne_eq, beq_eq_false_iff_ne, bne_eq_false_iff_eq, Bool.not_eq_true, Bool.not_eq_false] at hc) <;> (try (exfalso; omega)) <;> (conv => whnf))))
  · exact .i (by unfold aJ; omega)
  · refine .i ?_
    have e : max tat now = if now > tat then now else tat := by omega
    rw [aJ, e, if_neg (show ¬ tau < (if now > tat then now else tat) - now by omega)]
    omega
theorem sM {x y : Int} (hx : 0 ≤ x) (hx2 : x ≤ 4611686018427387903) (hy : 0 ≤ y) (hy2 : y ≤ 4611686018427387903) : 0 ≤ x * y ∧ x * y ≤ 4611686018427387903 * 4611686018427387903 :=
  ⟨Int.mul_nonneg hx hy, Int.mul_le_mul hx2 hy2 hy (by omega)⟩
def gL (T n : Int) : Int := IntKind.i64.wrap (loI ((n - 1) * T))
theorem hi_0 {p : Int} (h : 0 ≤ p) : (hiI p = 0 → loI p = p) ∧ (hiI p ≠ 0 → 18446744073709551616 ≤ p) := by unfold hiI loI; omega
theorem iy (T tau n : Int) (hT : 1 ≤ T) (hT2 : T ≤ 4611686018427387903) (h1 : 0 ≤ tau) (h2 : tau ≤ 4611686018427387903) (h3 : 1 ≤ n) (h4 : n ≤ 4611686018427387903) :
    Pure TC 98 [.agg [.i .i64 T, .i .i64 tau], .i .i64 n] (.tup [.i .i64 (gL T n), .b (decide ((n - 1) * T ≤ tau))]) := by
  obtain ⟨m1, m2⟩ := sM (x := n - 1) (y := T) (by omega) (by omega) (by omega) hT2
  refine Pure.mk' Tryz.func98 rfl rfl (zzb rfl) ?_
  (repeat' (first
    | with_reducible refine Wp.seq ?_
    | with_reducible refine Wp.block ?_
    | ((with_reducible first | refine Wp.region ?_ | refine Wp.drawL ac ?_ | refine Wp.cond ?_ | refine Wp.ret ?_ | refine Wp.skip ?_ | refine Wp.exit ?_ | refine Go.mk ?_ | apply ao.of); conv => whnf)
    | with_reducible exact rfl
    | ((with_reducible refine Ov.ok zO ?_); conv => whnf)
    | (with_reducible refine Ov.sh1 (by with_unfolding_all exact rfl) ?_)
    | ((with_reducible refine Ov.quo (by omega) (by omega) (by omega) (fun _ _ => ?_)); conv => whnf)
    | ((with_reducible refine And.intro (show ah _ _ _ _ = true by kernel_rfl) ?_); conv => whnf)
    | ((with_reducible refine And.intro zC ?_); conv => whnf)
    | ((with_reducible refine And.intro ?hb ?_); (case hb => exact ae (zzb rfl) (by omega)); (conv => whnf))
    | ((refine af.a rfl rfl rfl rfl rfl rfl ?hb ?_); (case hb => exact zB); (conv => whnf))
    | ((refine af.b rfl rfl rfl rfl rfl rfl rfl rfl ?hb ?ho ?_); (case hb => exact zB); (case ho => omega); (conv => whnf))
    | ((refine af.c rfl rfl rfl rfl rfl ?hb ?_); (case hb => exact zB); (conv => whnf))
    | ((refine af.d rfl rfl rfl rfl rfl rfl ?hb ?ho ?_); (case hb => exact zB); (case ho => omega); (conv => whnf))
    | (with_reducible refine Or.inl ?_)
    | ((with_reducible refine IxA.ptr ?_); conv => whnf)
    | ((with_reducible refine nil_no (by omega) ?_); (conv => whnf))
    | ((with_reducible refine ag ?_ (fun hn0 => ?_)) <;> (conv => whnf))
    | ((with_reducible refine ab.pure (bits_Mul64 _ _ (by omega) (by omega) (by omega) (by omega)) rfl rfl ?_); conv => whnf) | ((with_reducible refine ai.pure (bits_Mul64 _ _ (by omega) (by omega) (by omega) (by omega)) rfl rfl ?_); conv => whnf)
    | ((with_reducible refine Ov.mk ?_); conv => whnf)
    | ((refine ap (fun hc => ?_) (fun hc => ?_)) <;> (try simp only [decide_eq_true_eq, decide_eq_false_iff_not, Q5, Q20, Bool.and_eq_false_iff, Bool.or_eq_false_iff, Bool.not_eq_true', Bool.not_eq_false', beq_iff_eq, bne_iff_ne, ne_eq, beq_eq_false_iff_ne, bne_eq_false_iff_eq, Bool.not_eq_true, Bool.not_eq_false] at hc) <;> (try (exfalso; omega)) <;> (conv => whnf))))
  · rw [(hi_0 m1).1 hc]
    exact .of_eq (by unfold gL; rw [(hi_0 m1).1 hc])
  · have := (hi_0 m1).2 hc
    exact .of_eq (by rw [show decide ((n - 1) * T ≤ tau) = false by simp; omega]; rfl)
def cK (T tau tat now n : Int) : Int :=
  if (n - 1) * T ≤ tau ∧ n ≤ (4611686018427387903 - max tat now) / T then tat - now - (tau - (n - 1) * T) else 4611686018427387903
theorem sq {T tau n : Int} (h0 : 0 ≤ (n - 1) * T) (h : (n - 1) * T ≤ tau) (ht : tau ≤ 4611686018427387903) : gL T n = (n - 1) * T := by
  unfold gL loI
  generalize (n - 1) * T = p at *
  rw [show p % 18446744073709551616 = p by omega, IntWalk.i64_in _ (by omega)]
theorem ky (T tau tat now n : Int) (hT : 1 ≤ T) (hT2 : T ≤ 4611686018427387903) (h1 : 0 ≤ tau) (h2 : tau ≤ 4611686018427387903) (h3 : 0 ≤ tat) (h4 : tat ≤ 4611686018427387903) (h5 : 0 ≤ now) (h6 : now ≤ 4611686018427387903) (h7 : 1 ≤ n) (h8 : n ≤ 4611686018427387903) :
    Pure TC 89 [.agg [.i .i64 T, .i .i64 tau], .i .i64 tat, .i .i64 now, .i .i64 n] (.i .i64 (cK T tau tat now n)) := by
  obtain ⟨m1, m2⟩ := sM (x := n - 1) (y := T) (by omega) (by omega) (by omega) hT2
  have q2 := jY (4611686018427387903 - (if now > tat then now else tat)) T (by omega) hT
  have q3 : (n - 1) * T ≤ tau → gL T n = (n - 1) * T := fun h => sq m1 h h2
  refine Pure.mk' Tryz.func89 rfl rfl (zzb rfl) ?_
  have e : max tat now = if now > tat then now else tat := by omega
  (repeat' (first
    | with_reducible refine Wp.seq ?_
    | with_reducible refine Wp.block ?_
    | ((with_reducible first | refine Wp.region ?_ | refine Wp.drawL ac ?_ | refine Wp.cond ?_ | refine Wp.ret ?_ | refine Wp.skip ?_ | refine Wp.exit ?_ | refine Go.mk ?_ | apply ao.of); conv => whnf)
    | with_reducible exact rfl
    | ((with_reducible refine Ov.ok zO ?_); conv => whnf)
    | (with_reducible refine Ov.sh1 (by with_unfolding_all exact rfl) ?_)
    | ((with_reducible refine Ov.quo (by omega) (by omega) (by omega) (fun _ _ => ?_)); conv => whnf)
    | ((with_reducible refine And.intro (show ah _ _ _ _ = true by kernel_rfl) ?_); conv => whnf)
    | ((with_reducible refine And.intro zC ?_); conv => whnf)
    | ((with_reducible refine And.intro ?hb ?_); (case hb => exact ae (zzb rfl) (by omega)); (conv => whnf))
    | ((refine af.a rfl rfl rfl rfl rfl rfl ?hb ?_); (case hb => exact zB); (conv => whnf))
    | ((refine af.b rfl rfl rfl rfl rfl rfl rfl rfl ?hb ?ho ?_); (case hb => exact zB); (case ho => omega); (conv => whnf))
    | ((refine af.c rfl rfl rfl rfl rfl ?hb ?_); (case hb => exact zB); (conv => whnf))
    | ((refine af.d rfl rfl rfl rfl rfl rfl ?hb ?ho ?_); (case hb => exact zB); (case ho => omega); (conv => whnf))
    | (with_reducible refine Or.inl ?_)
    | ((with_reducible refine IxA.ptr ?_); conv => whnf)
    | ((with_reducible refine nil_no (by omega) ?_); (conv => whnf))
    | ((with_reducible refine ag ?_ (fun hn0 => ?_)) <;> (conv => whnf))
    | ((with_reducible refine ab.pure (iy T tau n hT hT2 h1 h2 h7 h8) rfl rfl ?_); conv => whnf) | ((with_reducible refine ai.pure (iy T tau n hT hT2 h1 h2 h7 h8) rfl rfl ?_); conv => whnf)
    | ((refine ap (fun hc => ?_) (fun hc => ?_)) <;> (try simp only [decide_eq_true_eq, decide_eq_false_iff_not, Q5, Q20, Bool.and_eq_false_iff, Bool.or_eq_false_iff, Bool.not_eq_true', Bool.not_eq_false', beq_iff_eq, bne_iff_ne, ne_eq, beq_eq_false_iff_ne, bne_eq_false_iff_eq, Bool.not_eq_true, Bool.not_eq_false] at hc) <;> (try (exfalso; omega)) <;> (conv => whnf))))
  · exact .i (by rw [cK, if_neg (by omega)])
  · exact .i (by rw [cK, e, if_neg (show ¬ ((n - 1) * T ≤ tau ∧ n ≤ (4611686018427387903 - (if now > tat then now else tat)) / T) by omega)])
  · exact .i (by rw [cK, e, if_pos (show (n - 1) * T ≤ tau ∧ n ≤ (4611686018427387903 - (if now > tat then now else tat)) / T by omega), q3 (by omega)])
structure Ans where
  g : Bool
  tat : Int
  wait : Int
  left : Int
def Ans.S (a : Ans) : SV := .agg [.b a.g, .i .i64 a.tat, .i .i64 a.wait, .i .i64 a.left]
def m6 (T tau tat now n : Int) : Int := if n ≤ aJ T tau tat now ∧ 0 < n then max tat now + n * T else tat
def fP (T tau tat now n : Int) : Ans :=
  { g := decide (n ≤ aJ T tau tat now), tat := m6 T tau tat now n
    wait := if n ≤ aJ T tau tat now then 0 else cK T tau tat now n, left := aJ T tau (m6 T tau tat now n) now }
theorem ji {T tau tat now : Int} (hT : 1 ≤ T) (h3 : 0 ≤ tat) (h4 : tat ≤ 4611686018427387903) (h5 : 0 ≤ now) (h6 : now ≤ 4611686018427387903) {n : Int} (hn : n ≤ aJ T tau tat now) (h0 : 0 < n) :
    0 ≤ n * T ∧ max tat now + n * T ≤ 4611686018427387903 := by
  unfold aJ at hn
  split at hn
  · omega
  · have h : n ≤ (4611686018427387903 - max tat now) / T := by omega
    rw [Int.le_ediv_iff_mul_le (by omega)] at h
    exact ⟨Int.mul_nonneg (by omega) (by omega), by omega⟩
theorem ca {T tau tat now : Int} (hT : 1 ≤ T) (h3 : 0 ≤ tat) (h4 : tat ≤ 4611686018427387903) (h5 : 0 ≤ now) (h6 : now ≤ 4611686018427387903) : 0 ≤ aJ T tau tat now ∧ aJ T tau tat now ≤ 4611686018427387903 := by
  unfold aJ
  split
  · omega
  · have h1 := jY (tau - (max tat now - now)) T (by omega) hT
    have h2 := jY (4611686018427387903 - max tat now) T (by omega) hT
    omega
theorem gx (T tau tat now n : Int) (hT : 1 ≤ T) (hT2 : T ≤ 4611686018427387903) (h1 : 0 ≤ tau) (h2 : tau ≤ 4611686018427387903) (h3 : 0 ≤ tat) (h4 : tat ≤ 4611686018427387903) (h5 : 0 ≤ now) (h6 : now ≤ 4611686018427387903) (h7 : 0 ≤ n) (h8 : n ≤ 4611686018427387903) :
    Pure TC 75 [.agg [.i .i64 T, .i .i64 tau], .i .i64 tat, .i .i64 now, .i .i64 n] (fP T tau tat now n).S := by
  have hl0 := ca (tau := tau) hT h3 h4 h5 h6
  have hl1 : n ≤ aJ T tau tat now → 0 < n → _ := ji (n := n) (tau := tau) hT h3 h4 h5 h6
  have e : max tat now = if now > tat then now else tat := by omega
  refine Pure.mk' Tryz.func75 rfl rfl (zzb rfl) ?_
  (repeat' (first
    | with_reducible refine Wp.seq ?_
    | with_reducible refine Wp.block ?_
    | ((with_reducible first | refine Wp.region ?_ | refine Wp.drawL ac ?_ | refine Wp.cond ?_ | refine Wp.ret ?_ | refine Wp.skip ?_ | refine Wp.exit ?_ | refine Go.mk ?_ | apply ao.of); conv => whnf)
    | with_reducible exact rfl
    | ((with_reducible refine Ov.ok zO ?_); conv => whnf)
    | (with_reducible refine Ov.sh1 (by with_unfolding_all exact rfl) ?_)
    | ((with_reducible refine Ov.quo (by omega) (by omega) (by omega) (fun _ _ => ?_)); conv => whnf)
    | ((with_reducible refine And.intro (show ah _ _ _ _ = true by kernel_rfl) ?_); conv => whnf)
    | ((with_reducible refine And.intro zC ?_); conv => whnf)
    | ((with_reducible refine And.intro ?hb ?_); (case hb => exact ae (zzb rfl) (by omega)); (conv => whnf))
    | ((refine af.a rfl rfl rfl rfl rfl rfl ?hb ?_); (case hb => exact zB); (conv => whnf))
    | ((refine af.b rfl rfl rfl rfl rfl rfl rfl rfl ?hb ?ho ?_); (case hb => exact zB); (case ho => omega); (conv => whnf))
    | ((refine af.c rfl rfl rfl rfl rfl ?hb ?_); (case hb => exact zB); (conv => whnf))
    | ((refine af.d rfl rfl rfl rfl rfl rfl ?hb ?ho ?_); (case hb => exact zB); (case ho => omega); (conv => whnf))
    | (with_reducible refine Or.inl ?_)
    | ((with_reducible refine IxA.ptr ?_); conv => whnf)
    | ((with_reducible refine nil_no (by omega) ?_); (conv => whnf))
    | ((with_reducible refine ag ?_ (fun hn0 => ?_)) <;> (conv => whnf))
    | ((with_reducible refine ab.pure (ec _ _ _ _ hT hT2 h1 h2 (by omega) (by omega) h5 h6) rfl rfl ?_); conv => whnf) | ((with_reducible refine ai.pure (ec _ _ _ _ hT hT2 h1 h2 (by omega) (by omega) h5 h6) rfl rfl ?_); conv => whnf)
    | ((with_reducible refine ab.pure (ky _ _ _ _ _ hT hT2 h1 h2 (by omega) (by omega) h5 h6 (by omega) (by omega)) rfl rfl ?_); conv => whnf) | ((with_reducible refine ai.pure (ky _ _ _ _ _ hT hT2 h1 h2 (by omega) (by omega) h5 h6 (by omega) (by omega)) rfl rfl ?_); conv => whnf)
    | ((refine ap (fun hc => ?_) (fun hc => ?_)) <;> (try simp only [decide_eq_true_eq, decide_eq_false_iff_not, Q5, Q20, Bool.and_eq_false_iff, Bool.or_eq_false_iff, Bool.not_eq_true', Bool.not_eq_false', beq_iff_eq, bne_iff_ne, ne_eq, beq_eq_false_iff_ne, bne_eq_false_iff_eq, Bool.not_eq_true, Bool.not_eq_false] at hc) <;> (try (exfalso; omega)) <;> (conv => whnf))))
  all_goals refine .of_eq ?_
  · simp [Ans.S, fP, m6, hc]
  · have h9 : n ≤ aJ T tau tat now ∧ 0 < n := by omega
    simp [Ans.S, fP, m6, h9, e]
  · have h9 : ¬ (n ≤ aJ T tau tat now ∧ 0 < n) := by omega
    have h8 : n ≤ aJ T tau tat now := by omega
    simp only [Ans.S, fP, m6, if_neg h9, if_pos h8]
def g9 (T tau : Int) (xs : List Int) : Int := if xs.all bk then sQ T tau else 1
theorem ix (T tau : Int) (xs : List Int) : Pure TC 71 [.agg [.i .i64 T, .i .i64 tau], .d (ak 1 (ar .i64) xs)] (.i .i64 (g9 T tau xs)) := by
  refine Pure.lens (.mk Tryz.func71 rfl rfl) fun hlen => ?_
  have hlen := hlen xs.length (by simp [cy, ak])
  refine Pure.mk' Tryz.func71 rfl rfl (zzb rfl) ?_
  (repeat' (first
    | with_reducible refine Wp.seq ?_
    | with_reducible refine Wp.block ?_
    | ((with_reducible first | refine Wp.region ?_ | refine Wp.drawL ac ?_ | refine Wp.cond ?_ | refine Wp.ret ?_ | refine Wp.skip ?_ | refine Wp.exit ?_ | refine Go.mk ?_ | apply ao.of); conv => whnf)
    | with_reducible exact rfl
    | ((with_reducible refine Ov.ok zO ?_); conv => whnf)
    | (with_reducible refine Ov.sh1 (by with_unfolding_all exact rfl) ?_)
    | ((with_reducible refine Ov.quo (by omega) (by omega) (by omega) (fun _ _ => ?_)); conv => whnf)
    | ((with_reducible refine And.intro (show ah _ _ _ _ = true by kernel_rfl) ?_); conv => whnf)
    | ((with_reducible refine And.intro zC ?_); conv => whnf)
    | ((with_reducible refine And.intro ?hb ?_); (case hb => exact ae (zzb rfl) (by omega)); (conv => whnf))
    | ((refine af.a rfl rfl rfl rfl rfl rfl ?hb ?_); (case hb => exact zB); (conv => whnf))
    | ((refine af.b rfl rfl rfl rfl rfl rfl rfl rfl ?hb ?ho ?_); (case hb => exact zB); (case ho => omega); (conv => whnf))
    | ((refine af.c rfl rfl rfl rfl rfl ?hb ?_); (case hb => exact zB); (conv => whnf))
    | ((refine af.d rfl rfl rfl rfl rfl rfl ?hb ?ho ?_); (case hb => exact zB); (case ho => omega); (conv => whnf))
    | (with_reducible refine Or.inl ?_)
    | ((with_reducible refine IxA.ptr ?_); conv => whnf)
    | ((with_reducible refine nil_no (by omega) ?_); (conv => whnf))
    | ((with_reducible refine ag ?_ (fun hn0 => ?_)) <;> (conv => whnf))
    
    | ((refine ap (fun hc => ?_) (fun hc => ?_)) <;> (try simp only [decide_eq_true_eq, decide_eq_false_iff_not, Q5, Q20, Bool.and_eq_false_iff, Bool.or_eq_false_iff, Bool.not_eq_true', Bool.not_eq_false', beq_iff_eq, bne_iff_ne, ne_eq, beq_eq_false_iff_ne, bne_eq_false_iff_eq, Bool.not_eq_true, Bool.not_eq_false] at hc) <;> (try (exfalso; omega)) <;> (conv => whnf))))
  refine Wp.loopP (fun k => k ≤ xs.length ∧ (xs.take k).all bk = true) (fun k => ⟨⟨Tryz.f71.ntmps, 0⟩, 1, [(2, .ptr 0 0), (7, .d (ak 1 (ar .i64) xs)), (8, .i .i64 xs.length), (9, .i .i64 k)], [(0, some (.cells [.i .i64 T, .i .i64 tau]))]⟩) (fun k => xs.length - k) 0 ⟨by simp, by simp⟩ ?_ ?_
  · (refine Le.by [0] rfl rfl rfl rfl ?_ ?_ <;> (conv => whnf) <;> (repeat' (first | exact trivial | exact aa.rfl rfl | exact aa.ptr rfl | exact aa.sl rfl | ((with_reducible refine aa.fn ?_); (conv => whnf)) | ((refine aa.iref ?_); (conv => whnf)) | exact ⟨rfl, rfl, rfl⟩ | exact fun i hi => rfl | ((with_reducible refine And.intro ?_ ?_) <;> (conv => whnf)))))
  · rintro k ⟨hk, hall⟩
    (repeat' (first
    | with_reducible refine Wp.seq ?_
    | with_reducible refine Wp.block ?_
    | ((with_reducible first | refine Wp.region ?_ | refine Wp.drawL ac ?_ | refine Wp.cond ?_ | refine Wp.ret ?_ | refine Wp.skip ?_ | refine Wp.exit ?_ | refine Go.mk ?_ | apply ao.of); conv => whnf)
    | with_reducible exact rfl
    | ((with_reducible refine Ov.ok zO ?_); conv => whnf)
    | (with_reducible refine Ov.sh1 (by with_unfolding_all exact rfl) ?_)
    | ((with_reducible refine Ov.quo (by omega) (by omega) (by omega) (fun _ _ => ?_)); conv => whnf)
    | ((with_reducible refine And.intro (show ah _ _ _ _ = true by kernel_rfl) ?_); conv => whnf)
    | ((with_reducible refine And.intro zC ?_); conv => whnf)
    | ((with_reducible refine And.intro ?hb ?_); (case hb => exact ae (zzb rfl) (by omega)); (conv => whnf))
    | ((refine af.a rfl rfl rfl rfl rfl rfl ?hb ?_); (case hb => exact zB); (conv => whnf))
    | ((refine af.b rfl rfl rfl rfl rfl rfl rfl rfl ?hb ?ho ?_); (case hb => exact zB); (case ho => omega); (conv => whnf))
    | ((refine af.c rfl rfl rfl rfl rfl ?hb ?_); (case hb => exact zB); (conv => whnf))
    | ((refine af.d rfl rfl rfl rfl rfl rfl ?hb ?ho ?_); (case hb => exact zB); (case ho => omega); (conv => whnf))
    | (with_reducible refine Or.inl ?_)
    | ((with_reducible refine IxA.ptr ?_); conv => whnf)
    | ((with_reducible refine nil_no (by omega) ?_); (conv => whnf))
    | ((with_reducible refine ag ?_ (fun hn0 => ?_)) <;> (conv => whnf))
    | ((with_reducible refine ab.pure (a9 _) rfl rfl ?_); conv => whnf) | ((with_reducible refine ai.pure (a9 _) rfl rfl ?_); conv => whnf)
    | ((with_reducible refine ab.pure (dr _ _) rfl rfl ?_); conv => whnf) | ((with_reducible refine ai.pure (dr _ _) rfl rfl ?_); conv => whnf)
    | ((refine ap (fun hc => ?_) (fun hc => ?_)) <;> (try simp only [decide_eq_true_eq, decide_eq_false_iff_not, Q5, Q20, Bool.and_eq_false_iff, Bool.or_eq_false_iff, Bool.not_eq_true', Bool.not_eq_false', beq_iff_eq, bne_iff_ne, ne_eq, beq_eq_false_iff_ne, bne_eq_false_iff_eq, Bool.not_eq_true, Bool.not_eq_false] at hc) <;> (try (exfalso; omega)) <;> (conv => whnf))))
    · exact .i (by rw [g9, lj (k := k) (by omega) (by simpa using hc)]; rfl)
    · refine ⟨k + 1, ⟨by omega, cV (by omega) hall (by simpa using hc)⟩, by dsimp only; omega, ?_⟩
      (refine Le.by [0] rfl rfl rfl rfl ?_ ?_ <;> (conv => whnf) <;> (repeat' (first | exact trivial | exact aa.rfl rfl | exact aa.ptr rfl | exact aa.sl rfl | ((with_reducible refine aa.fn ?_); (conv => whnf)) | ((refine aa.iref ?_); (conv => whnf)) | exact ⟨rfl, rfl, rfl⟩ | exact fun i hi => rfl | ((with_reducible refine And.intro ?_ ?_) <;> (conv => whnf)))))
    · rw [Q21 (by omega)] at hall
      exact .i (by rw [g9, hall]; rfl)
theorem ey (T tau a b c : Int) : g9 T tau [a, b, c] = 0 ↔ ((1 ≤ T ∧ T ≤ 4611686018427387903) ∧ 0 ≤ tau ∧ tau ≤ 4611686018427387903) ∧ (0 ≤ a ∧ a ≤ 4611686018427387903) ∧ (0 ≤ b ∧ b ≤ 4611686018427387903) ∧ 0 ≤ c ∧ c ≤ 4611686018427387903 := by
  rw [← mj]; unfold g9
  simp only [List.all_cons, List.all_nil, Bool.and_true, Q5, bp]
  split <;> omega
theorem iF (T tau a b : Int) : g9 T tau [a, b] = 0 ↔ ((1 ≤ T ∧ T ≤ 4611686018427387903) ∧ 0 ≤ tau ∧ tau ≤ 4611686018427387903) ∧ (0 ≤ a ∧ a ≤ 4611686018427387903) ∧ 0 ≤ b ∧ b ≤ 4611686018427387903 := by
  rw [← mj]; unfold g9
  simp only [List.all_cons, List.all_nil, Bool.and_true, Q5, bp]
  split <;> omega
def fa (T tau tat now n : Int) : Ans := if g9 T tau [tat, now, n] = 0 then fP T tau tat now n else ⟨false, 0, 0, 0⟩
theorem gy (T tau tat now n : Int) : Pure TC 62 [.agg [.i .i64 T, .i .i64 tau], .i .i64 tat, .i .i64 now, .i .i64 n] (.tup [(fa T tau tat now n).S, .i .i64 (g9 T tau [tat, now, n])]) := by
  refine Pure.mk' Tryz.func62 rfl rfl (zzb rfl) ?_
  (repeat' (first
    | with_reducible refine Wp.seq ?_
    | with_reducible refine Wp.block ?_
    | ((with_reducible first | refine Wp.region ?_ | refine Wp.drawL ac ?_ | refine Wp.cond ?_ | refine Wp.ret ?_ | refine Wp.skip ?_ | refine Wp.exit ?_ | refine Go.mk ?_ | apply ao.of); conv => whnf)
    | with_reducible exact rfl
    | ((with_reducible refine Ov.ok zO ?_); conv => whnf)
    | (with_reducible refine Ov.sh1 (by with_unfolding_all exact rfl) ?_)
    | ((with_reducible refine Ov.quo (by omega) (by omega) (by omega) (fun _ _ => ?_)); conv => whnf)
    | ((with_reducible refine And.intro (show ah _ _ _ _ = true by kernel_rfl) ?_); conv => whnf)
    | ((with_reducible refine And.intro zC ?_); conv => whnf)
    | ((with_reducible refine And.intro ?hb ?_); (case hb => exact ae (zzb rfl) (by omega)); (conv => whnf))
    | ((refine af.a rfl rfl rfl rfl rfl rfl ?hb ?_); (case hb => exact zB); (conv => whnf))
    | ((refine af.b rfl rfl rfl rfl rfl rfl rfl rfl ?hb ?ho ?_); (case hb => exact zB); (case ho => omega); (conv => whnf))
    | ((refine af.c rfl rfl rfl rfl rfl ?hb ?_); (case hb => exact zB); (conv => whnf))
    | ((refine af.d rfl rfl rfl rfl rfl rfl ?hb ?ho ?_); (case hb => exact zB); (case ho => omega); (conv => whnf))
    | (with_reducible refine Or.inl ?_)
    | ((with_reducible refine IxA.ptr ?_); conv => whnf)
    | ((with_reducible refine nil_no (by omega) ?_); (conv => whnf))
    | ((with_reducible refine ag ?_ (fun hn0 => ?_)) <;> (conv => whnf))
    | ((with_reducible refine ab.pureI (ix T tau [tat, now, n]) rfl ?_); (conv => whnf); (repeat' ((with_reducible refine And.intro (by omega) ?_); (conv => whnf))); (refine And.intro (by (repeat' (first | exact Les.nil | with_reducible refine Les.cons ?_ ?_ | exact SV.Le.rfl _ | exact SV.Le.nil | exact SV.Le.sl (fun i hi => by (rcases i with _ | _ | _ | _ | i) <;> first | rfl | (exfalso; omega)) | exact SV.Le.sl (fun i hi => by simp [bR, ak, *])))) ?_); (conv => whnf))
    | ((with_reducible refine ab.pure (gx T tau tat now n (by omega) (by omega) (by omega) (by omega) (by omega) (by omega) (by omega) (by omega) (by omega) (by omega)) rfl rfl ?_); conv => whnf) | ((with_reducible refine ai.pure (gx T tau tat now n (by omega) (by omega) (by omega) (by omega) (by omega) (by omega) (by omega) (by omega) (by omega) (by omega)) rfl rfl ?_); conv => whnf)
    | ((refine ap (fun hc => ?_) (fun hc => ?_)) <;> (try simp only [decide_eq_true_eq, decide_eq_false_iff_not, Q5, Q20, Bool.and_eq_false_iff, Bool.or_eq_false_iff, Bool.not_eq_true', Bool.not_eq_false', beq_iff_eq, bne_iff_ne, ne_eq, beq_eq_false_iff_ne, bne_eq_false_iff_eq, Bool.not_eq_true, Bool.not_eq_false, ey] at hc) <;> (try (exfalso; omega)) <;> (conv => whnf))))
  · exact .of_eq (by rw [fa, if_neg (by rw [ey]; exact hc)]; rfl)
  · exact .of_eq (by rw [fa, if_pos (by rw [ey]; exact hc), (ey ..).2 hc]; rfl)
theorem kz (T tau tat now : Int) : Pure TC 60 [.agg [.i .i64 T, .i .i64 tau], .i .i64 tat, .i .i64 now] (.tup [.i .i64 (if g9 T tau [tat, now] = 0 then aJ T tau tat now else 0), .i .i64 (g9 T tau [tat, now])]) := by
  refine Pure.mk' Tryz.func60 rfl rfl (zzb rfl) ?_
  (repeat' (first
    | with_reducible refine Wp.seq ?_
    | with_reducible refine Wp.block ?_
    | ((with_reducible first | refine Wp.region ?_ | refine Wp.drawL ac ?_ | refine Wp.cond ?_ | refine Wp.ret ?_ | refine Wp.skip ?_ | refine Wp.exit ?_ | refine Go.mk ?_ | apply ao.of); conv => whnf)
    | with_reducible exact rfl
    | ((with_reducible refine Ov.ok zO ?_); conv => whnf)
    | (with_reducible refine Ov.sh1 (by with_unfolding_all exact rfl) ?_)
    | ((with_reducible refine Ov.quo (by omega) (by omega) (by omega) (fun _ _ => ?_)); conv => whnf)
    | ((with_reducible refine And.intro (show ah _ _ _ _ = true by kernel_rfl) ?_); conv => whnf)
    | ((with_reducible refine And.intro zC ?_); conv => whnf)
    | ((with_reducible refine And.intro ?hb ?_); (case hb => exact ae (zzb rfl) (by omega)); (conv => whnf))
    | ((refine af.a rfl rfl rfl rfl rfl rfl ?hb ?_); (case hb => exact zB); (conv => whnf))
    | ((refine af.b rfl rfl rfl rfl rfl rfl rfl rfl ?hb ?ho ?_); (case hb => exact zB); (case ho => omega); (conv => whnf))
    | ((refine af.c rfl rfl rfl rfl rfl ?hb ?_); (case hb => exact zB); (conv => whnf))
    | ((refine af.d rfl rfl rfl rfl rfl rfl ?hb ?ho ?_); (case hb => exact zB); (case ho => omega); (conv => whnf))
    | (with_reducible refine Or.inl ?_)
    | ((with_reducible refine IxA.ptr ?_); conv => whnf)
    | ((with_reducible refine nil_no (by omega) ?_); (conv => whnf))
    | ((with_reducible refine ag ?_ (fun hn0 => ?_)) <;> (conv => whnf))
    | ((with_reducible refine ab.pureI (ix T tau [tat, now]) rfl ?_); (conv => whnf); (repeat' ((with_reducible refine And.intro (by omega) ?_); (conv => whnf))); (refine And.intro (by (repeat' (first | exact Les.nil | with_reducible refine Les.cons ?_ ?_ | exact SV.Le.rfl _ | exact SV.Le.nil | exact SV.Le.sl (fun i hi => by (rcases i with _ | _ | _ | _ | i) <;> first | rfl | (exfalso; omega)) | exact SV.Le.sl (fun i hi => by simp [bR, ak, *])))) ?_); (conv => whnf))
    | ((with_reducible refine ab.pure (ec T tau tat now (by omega) (by omega) (by omega) (by omega) (by omega) (by omega) (by omega) (by omega)) rfl rfl ?_); conv => whnf) | ((with_reducible refine ai.pure (ec T tau tat now (by omega) (by omega) (by omega) (by omega) (by omega) (by omega) (by omega) (by omega)) rfl rfl ?_); conv => whnf)
    | ((refine ap (fun hc => ?_) (fun hc => ?_)) <;> (try simp only [decide_eq_true_eq, decide_eq_false_iff_not, Q5, Q20, Bool.and_eq_false_iff, Bool.or_eq_false_iff, Bool.not_eq_true', Bool.not_eq_false', beq_iff_eq, bne_iff_ne, ne_eq, beq_eq_false_iff_ne, bne_eq_false_iff_eq, Bool.not_eq_true, Bool.not_eq_false, iF] at hc) <;> (try (exfalso; omega)) <;> (conv => whnf))))
  · exact .of_eq (by rw [if_neg (by rw [iF]; exact hc)])
  · exact .of_eq (by rw [if_pos (by rw [iF]; exact hc), (iF ..).2 hc])
end Go.Proofs.YtlplngmpggkloaaGreat
