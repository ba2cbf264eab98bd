/- Parts of the proof, one behind the other: Ty, Sx20, Bk1, Br1, Br2, Br3a, Sx39, Sx45, Sx47, Sx48, Sx49, Sx50, Sx51, Sx23, Sx29, Sx31, Sx32, Ca1, Ca2. Lemmas and contracts of functions; no condition of its own. -/
import Derived.Test.YtfjiegpnkmomoaaDoorMN4
import Derived.IntWalk
import Derived.Test.YtfjiegpnkmomoaaDoorRows
import Derived.Deep.Slices
import Derived.ReadAgain
import Derived.ChangeSame
import Derived.ProofKit
import Derived.OpenShut
import Derived.JoinedCond
import Derived.WideWitness
import Derived.Defers
import Derived.Recover
set_option linter.unusedVariables false
set_option linter.unusedSimpArgs false
set_option maxHeartbeats 1000000
namespace Go.Proofs.YtfjiegpnkmomoaaDoor
open Go.RowKit
abbrev zP := TIok Tryd.prog
theorem zT {P : Program} {t : Nat} {i : TI} (h : TIok P t i := by exact ⟨by kernel_rfl, by kernel_rfl, fun h => by cases h⟩) : TIok P t i := h
def ti1 : TI := ⟨.func, 1, 8, [.nilFunc], false⟩
theorem ti1_ok : zP 1 ti1 := zT
def ti2 : TI := ⟨.int .i64, 1, 8, [.int .i64 0], false⟩
theorem ti2_ok : zP 2 ti2 := zT
def ti3 : TI := ⟨.int .i64, 1, 8, [.int .i64 0], false⟩
theorem ti3_ok : zP 3 ti3 := zT
def ti4 : TI := ⟨.bool, 1, 1, [.bool false], false⟩
theorem ti4_ok : zP 4 ti4 := zT
def ti5 : TI := ⟨.int .u8, 1, 1, [.int .u8 0], false⟩
theorem ti5_ok : zP 5 ti5 := zT
def ti6 : TI := ⟨.int .u8, 1, 1, [.int .u8 0], false⟩
theorem ti6_ok : zP 6 ti6 := zT
def ti7 : TI := ⟨.struct [(0, 2), (1, 3), (2, 4), (3, 6)], 4, 24, [.int .i64 0, .int .i64 0, .bool false, .int .u8 0], false⟩
theorem ti7_ok : zP 7 ti7 := zT
def ti8 : TI := ⟨.struct [(0, 2), (1, 3), (2, 4), (3, 6)], 4, 24, [.int .i64 0, .int .i64 0, .bool false, .int .u8 0], false⟩
theorem ti8_ok : zP 8 ti8 := zT
def ti9 : TI := ⟨.str, 1, 16, [.string ⟨#[]⟩], false⟩
theorem ti9_ok : zP 9 ti9 := zT
def ti10 : TI := ⟨.str, 1, 16, [.string ⟨#[]⟩], false⟩
theorem ti10_ok : zP 10 ti10 := zT
def ti11 : TI := ⟨.str, 1, 16, [.string ⟨#[]⟩], false⟩
theorem ti11_ok : zP 11 ti11 := zT
def ti12 : TI := ⟨.int .u64, 1, 8, [.int .u64 0], false⟩
theorem ti12_ok : zP 12 ti12 := zT
def ti13 : TI := ⟨.struct [(0, 9), (1, 12)], 2, 24, [.string ⟨#[]⟩, .int .u64 0], false⟩
theorem ti13_ok : zP 13 ti13 := zT
def ti14 : TI := ⟨.struct [(0, 9), (1, 12)], 2, 24, [.string ⟨#[]⟩, .int .u64 0], false⟩
theorem ti14_ok : zP 14 ti14 := zT
def ti15 : TI := ⟨.ptr 135, 1, 8, [.pointer none], false⟩
theorem ti15_ok : zP 15 ti15 := zT
def ti16 : TI := ⟨.ptr 138, 1, 8, [.pointer none], false⟩
theorem ti16_ok : zP 16 ti16 := zT
def ti17 : TI := ⟨.ptr 146, 1, 8, [.pointer none], false⟩
theorem ti17_ok : zP 17 ti17 := zT
def ti20 : TI := ⟨.other, 1, 16, [.nilIface], false⟩
theorem ti20_ok : zP 20 ti20 := zT
def ti22 : TI := ⟨.func, 1, 8, [.nilFunc], false⟩
theorem ti22_ok : zP 22 ti22 := zT
def ti23 : TI := ⟨.slice 26, 1, 24, [.slice none 0 0], false⟩
theorem ti23_ok : zP 23 ti23 := zT
def ti24 : TI := ⟨.struct [(0, 5), (1, 3)], 2, 16, [.int .u8 0, .int .i64 0], true⟩
theorem ti24_ok : zP 24 ti24 := ⟨by kernel_rfl, by kernel_rfl, fun _ => ⟨by kernel_rfl, by kernel_rfl, by kernel_rfl⟩⟩
def ti25 : TI := ⟨.struct [(0, 5), (1, 3)], 2, 16, [.int .u8 0, .int .i64 0], true⟩
theorem ti25_ok : zP 25 ti25 := ⟨by kernel_rfl, by kernel_rfl, fun _ => ⟨by kernel_rfl, by kernel_rfl, by kernel_rfl⟩⟩
def ti26 : TI := ⟨.slice 25, 1, 24, [.slice none 0 0], false⟩
theorem ti26_ok : zP 26 ti26 := zT
def ti27 : TI := ⟨.slice 34, 1, 24, [.slice none 0 0], false⟩
theorem ti27_ok : zP 27 ti27 := zT
def ti29 : TI := ⟨.struct [(0, 5), (1, 3)], 2, 16, [.int .u8 0, .int .i64 0], true⟩
theorem ti29_ok : zP 29 ti29 := ⟨by kernel_rfl, by kernel_rfl, fun _ => ⟨by kernel_rfl, by kernel_rfl, by kernel_rfl⟩⟩
def ti30 : TI := ⟨.int .i64, 1, 8, [.int .i64 0], false⟩
theorem ti30_ok : zP 30 ti30 := zT
def ti32 : TI := ⟨.func, 1, 8, [.nilFunc], false⟩
theorem ti32_ok : zP 32 ti32 := zT
def ti34 : TI := ⟨.struct [(0, 5), (1, 5), (2, 3)], 3, 16, [.int .u8 0, .int .u8 0, .int .i64 0], true⟩
theorem ti34_ok : zP 34 ti34 := ⟨by kernel_rfl, by kernel_rfl, fun _ => ⟨by kernel_rfl, by kernel_rfl, by kernel_rfl⟩⟩
def ti35 : TI := ⟨.func, 1, 8, [.nilFunc], false⟩
theorem ti35_ok : zP 35 ti35 := zT
def ti36 : TI := ⟨.func, 1, 8, [.nilFunc], false⟩
theorem ti36_ok : zP 36 ti36 := zT
def ti37 : TI := ⟨.struct [(0, 5), (1, 5), (2, 3)], 3, 16, [.int .u8 0, .int .u8 0, .int .i64 0], true⟩
theorem ti37_ok : zP 37 ti37 := ⟨by kernel_rfl, by kernel_rfl, fun _ => ⟨by kernel_rfl, by kernel_rfl, by kernel_rfl⟩⟩
def ti38 : TI := ⟨.slice 37, 1, 24, [.slice none 0 0], false⟩
theorem ti38_ok : zP 38 ti38 := zT
def ti39 : TI := ⟨.func, 1, 8, [.nilFunc], false⟩
theorem ti39_ok : zP 39 ti39 := zT
def ti40 : TI := ⟨.ptr 42, 1, 8, [.pointer none], false⟩
theorem ti40_ok : zP 40 ti40 := zT
def ti41 : TI := ⟨.struct [(0, 23), (1, 3), (2, 27)], 3, 56, [.slice none 0 0, .int .i64 0, .slice none 0 0], false⟩
theorem ti41_ok : zP 41 ti41 := zT
def ti42 : TI := ⟨.struct [(0, 23), (1, 3), (2, 27)], 3, 56, [.slice none 0 0, .int .i64 0, .slice none 0 0], false⟩
theorem ti42_ok : zP 42 ti42 := zT
def ti43 : TI := ⟨.func, 1, 8, [.nilFunc], false⟩
theorem ti43_ok : zP 43 ti43 := zT
def ti44 : TI := ⟨.func, 1, 8, [.nilFunc], false⟩
theorem ti44_ok : zP 44 ti44 := zT
def ti45 : TI := ⟨.func, 1, 8, [.nilFunc], false⟩
theorem ti45_ok : zP 45 ti45 := zT
def ti46 : TI := ⟨.int .i64, 1, 8, [.int .i64 0], false⟩
theorem ti46_ok : zP 46 ti46 := zT
def ti48 : TI := ⟨.other, 1, 16, [.nilIface], false⟩
theorem ti48_ok : zP 48 ti48 := zT
def ti50 : TI := ⟨.func, 1, 8, [.nilFunc], false⟩
theorem ti50_ok : zP 50 ti50 := zT
def ti51 : TI := ⟨.func, 1, 8, [.nilFunc], false⟩
theorem ti51_ok : zP 51 ti51 := zT
def ti52 : TI := ⟨.ptr 46, 1, 8, [.pointer none], false⟩
theorem ti52_ok : zP 52 ti52 := zT
def ti53 : TI := ⟨.func, 1, 8, [.nilFunc], false⟩
theorem ti53_ok : zP 53 ti53 := zT
def ti54 : TI := ⟨.func, 1, 8, [.nilFunc], false⟩
theorem ti54_ok : zP 54 ti54 := zT
def ti55 : TI := ⟨.func, 1, 8, [.nilFunc], false⟩
theorem ti55_ok : zP 55 ti55 := zT
def ti56 : TI := ⟨.func, 1, 8, [.nilFunc], false⟩
theorem ti56_ok : zP 56 ti56 := zT
def ti58 : TI := ⟨.int .u64, 1, 8, [.int .u64 0], false⟩
theorem ti58_ok : zP 58 ti58 := zT
def ti59 : TI := ⟨.struct [(0, 17), (1, 57), (2, 58)], 3, 24, [.pointer none, .pointer none, .int .u64 0], false⟩
theorem ti59_ok : zP 59 ti59 := zT
def ti60 : TI := ⟨.struct [(0, 17), (1, 57), (2, 58)], 3, 24, [.pointer none, .pointer none, .int .u64 0], false⟩
theorem ti60_ok : zP 60 ti60 := zT
def ti62 : TI := ⟨.other, 1, 16, [.nilIface], false⟩
theorem ti62_ok : zP 62 ti62 := zT
def ti63 : TI := ⟨.other, 1, 16, [.nilIface], false⟩
theorem ti63_ok : zP 63 ti63 := zT
def ti64 : TI := ⟨.func, 1, 8, [.nilFunc], false⟩
theorem ti64_ok : zP 64 ti64 := zT
def ti65 : TI := ⟨.int .u8, 1, 1, [.int .u8 0], false⟩
theorem ti65_ok : zP 65 ti65 := zT
def ti66 : TI := ⟨.func, 1, 8, [.nilFunc], false⟩
theorem ti66_ok : zP 66 ti66 := zT
def ti67 : TI := ⟨.func, 1, 8, [.nilFunc], false⟩
theorem ti67_ok : zP 67 ti67 := zT
def ti68 : TI := ⟨.func, 1, 8, [.nilFunc], false⟩
theorem ti68_ok : zP 68 ti68 := zT
def ti69 : TI := ⟨.struct [(0, 9), (1, 5)], 2, 24, [.string ⟨#[]⟩, .int .u8 0], true⟩
theorem ti69_ok : zP 69 ti69 := ⟨by kernel_rfl, by kernel_rfl, fun _ => ⟨by kernel_rfl, by kernel_rfl, by kernel_rfl⟩⟩
def ti70 : TI := ⟨.slice 69, 1, 24, [.slice none 0 0], false⟩
theorem ti70_ok : zP 70 ti70 := zT
def ti71 : TI := ⟨.func, 1, 8, [.nilFunc], false⟩
theorem ti71_ok : zP 71 ti71 := zT
def ti72 : TI := ⟨.func, 1, 8, [.nilFunc], false⟩
theorem ti72_ok : zP 72 ti72 := zT
def ti73 : TI := ⟨.func, 1, 8, [.nilFunc], false⟩
theorem ti73_ok : zP 73 ti73 := zT
def ti77 : TI := ⟨.func, 1, 8, [.nilFunc], false⟩
theorem ti77_ok : zP 77 ti77 := zT
def ti92 : TI := ⟨.other, 1, 16, [.nilIface], false⟩
theorem ti92_ok : zP 92 ti92 := zT
def ti93 : TI := ⟨.slice 48, 1, 24, [.slice none 0 0], false⟩
theorem ti93_ok : zP 93 ti93 := zT
def ti94 : TI := ⟨.func, 1, 8, [.nilFunc], false⟩
theorem ti94_ok : zP 94 ti94 := zT
def ti96 : TI := ⟨.slice 3, 1, 24, [.slice none 0 0], false⟩
theorem ti96_ok : zP 96 ti96 := zT
def ti97 : TI := ⟨.other, 1, 8, [.map none], false⟩
theorem ti97_ok : zP 97 ti97 := zT
def ti98 : TI := ⟨.ptr 3, 1, 8, [.pointer none], false⟩
theorem ti98_ok : zP 98 ti98 := zT
def ti99 : TI := ⟨.other, 1, 8, [.chan none], false⟩
theorem ti99_ok : zP 99 ti99 := zT
def ti101 : TI := ⟨.int .u64, 1, 8, [.int .u64 0], false⟩
theorem ti101_ok : zP 101 ti101 := zT
def ti103 : TI := ⟨.func, 1, 8, [.nilFunc], false⟩
theorem ti103_ok : zP 103 ti103 := zT
def ti104 : TI := ⟨.int .u64, 1, 8, [.int .u64 0], false⟩
theorem ti104_ok : zP 104 ti104 := zT
def ti105 : TI := ⟨.func, 1, 8, [.nilFunc], false⟩
theorem ti105_ok : zP 105 ti105 := zT
def ti108 : TI := ⟨.func, 1, 8, [.nilFunc], false⟩
theorem ti108_ok : zP 108 ti108 := zT
def ti109 : TI := ⟨.func, 1, 8, [.nilFunc], false⟩
theorem ti109_ok : zP 109 ti109 := zT
def ti110 : TI := ⟨.func, 1, 8, [.nilFunc], false⟩
theorem ti110_ok : zP 110 ti110 := zT
def ti111 : TI := ⟨.func, 1, 8, [.nilFunc], false⟩
theorem ti111_ok : zP 111 ti111 := zT
def ti112 : TI := ⟨.ptr 5, 1, 8, [.pointer none], false⟩
theorem ti112_ok : zP 112 ti112 := zT
def ti113 : TI := ⟨.ptr 115, 1, 8, [.pointer none], false⟩
theorem ti113_ok : zP 113 ti113 := zT
def ti114 : TI := ⟨.struct [(0, 9)], 1, 16, [.string ⟨#[]⟩], true⟩
theorem ti114_ok : zP 114 ti114 := ⟨by kernel_rfl, by kernel_rfl, fun _ => ⟨by kernel_rfl, by kernel_rfl, by kernel_rfl⟩⟩
def ti115 : TI := ⟨.struct [(0, 9)], 1, 16, [.string ⟨#[]⟩], true⟩
theorem ti115_ok : zP 115 ti115 := ⟨by kernel_rfl, by kernel_rfl, fun _ => ⟨by kernel_rfl, by kernel_rfl, by kernel_rfl⟩⟩
def ti116 : TI := ⟨.func, 1, 8, [.nilFunc], false⟩
theorem ti116_ok : zP 116 ti116 := zT
def ti117 : TI := ⟨.func, 1, 8, [.nilFunc], false⟩
theorem ti117_ok : zP 117 ti117 := zT
def ti118 : TI := ⟨.array 24 5, 24, 24, [.int .u8 0, .int .u8 0, .int .u8 0, .int .u8 0, .int .u8 0, .int .u8 0, .int .u8 0, .int .u8 0, .int .u8 0, .int .u8 0, .int .u8 0, .int .u8 0, .int .u8 0, .int .u8 0, .int .u8 0, .int .u8 0, .int .u8 0, .int .u8 0, .int .u8 0, .int .u8 0, .int .u8 0, .int .u8 0, .int .u8 0, .int .u8 0], false⟩
theorem ti118_ok : zP 118 ti118 := zT
def ti119 : TI := ⟨.func, 1, 8, [.nilFunc], false⟩
theorem ti119_ok : zP 119 ti119 := zT
def ti120 : TI := ⟨.func, 1, 8, [.nilFunc], false⟩
theorem ti120_ok : zP 120 ti120 := zT
def ti122 : TI := ⟨.func, 1, 8, [.nilFunc], false⟩
theorem ti122_ok : zP 122 ti122 := zT
def ti123 : TI := ⟨.int .u32, 1, 4, [.int .u32 0], false⟩
theorem ti123_ok : zP 123 ti123 := zT
def ti125 : TI := ⟨.func, 1, 8, [.nilFunc], false⟩
theorem ti125_ok : zP 125 ti125 := zT
def ti126 : TI := ⟨.func, 1, 8, [.nilFunc], false⟩
theorem ti126_ok : zP 126 ti126 := zT
def ti127 : TI := ⟨.array 20 101, 20, 160, [.int .u64 0, .int .u64 0, .int .u64 0, .int .u64 0, .int .u64 0, .int .u64 0, .int .u64 0, .int .u64 0, .int .u64 0, .int .u64 0, .int .u64 0, .int .u64 0, .int .u64 0, .int .u64 0, .int .u64 0, .int .u64 0, .int .u64 0, .int .u64 0, .int .u64 0, .int .u64 0], false⟩
theorem ti127_ok : zP 127 ti127 := zT
def ti129 : TI := ⟨.func, 1, 8, [.nilFunc], false⟩
theorem ti129_ok : zP 129 ti129 := zT
def ti131 : TI := ⟨.func, 1, 8, [.nilFunc], false⟩
theorem ti131_ok : zP 131 ti131 := zT
def ti134 : TI := ⟨.struct [(0, 17), (1, 17), (2, 17), (3, 9)], 4, 40, [.pointer none, .pointer none, .pointer none, .string ⟨#[]⟩], false⟩
theorem ti134_ok : zP 134 ti134 := zT
def ti135 : TI := ⟨.struct [(0, 17), (1, 17), (2, 17), (3, 9)], 4, 40, [.pointer none, .pointer none, .pointer none, .string ⟨#[]⟩], false⟩
theorem ti135_ok : zP 135 ti135 := zT
def ti136 : TI := ⟨.array 0 16, 0, 0, [], false⟩
theorem ti136_ok : zP 136 ti136 := zT
def ti137 : TI := ⟨.struct [(0, 136)], 0, 0, [], false⟩
theorem ti137_ok : zP 137 ti137 := zT
def ti138 : TI := ⟨.struct [(0, 136)], 0, 0, [], false⟩
theorem ti138_ok : zP 138 ti138 := zT
def ti139 : TI := ⟨.func, 1, 8, [.nilFunc], false⟩
theorem ti139_ok : zP 139 ti139 := zT
def ti140 : TI := ⟨.func, 1, 8, [.nilFunc], false⟩
theorem ti140_ok : zP 140 ti140 := zT
def ti141 : TI := ⟨.int .u8, 1, 1, [.int .u8 0], false⟩
theorem ti141_ok : zP 141 ti141 := zT
def ti142 : TI := ⟨.func, 1, 8, [.nilFunc], false⟩
theorem ti142_ok : zP 142 ti142 := zT
def ti143 : TI := ⟨.int .i32, 1, 4, [.int .i32 0], false⟩
theorem ti143_ok : zP 143 ti143 := zT
def ti144 : TI := ⟨.int .i32, 1, 4, [.int .i32 0], false⟩
theorem ti144_ok : zP 144 ti144 := zT
def ti145 : TI := ⟨.struct [(0, 12), (1, 12), (2, 123), (3, 141), (4, 5), (5, 5), (6, 65), (7, 142), (8, 112), (9, 143), (10, 144)], 11, 48, [.int .u64 0, .int .u64 0, .int .u32 0, .int .u8 0, .int .u8 0, .int .u8 0, .int .u8 0, .nilFunc, .pointer none, .int .i32 0, .int .i32 0], false⟩
theorem ti145_ok : zP 145 ti145 := zT
def ti146 : TI := ⟨.struct [(0, 12), (1, 12), (2, 123), (3, 141), (4, 5), (5, 5), (6, 65), (7, 142), (8, 112), (9, 143), (10, 144)], 11, 48, [.int .u64 0, .int .u64 0, .int .u32 0, .int .u8 0, .int .u8 0, .int .u8 0, .int .u8 0, .nilFunc, .pointer none, .int .i32 0, .int .i32 0], false⟩
theorem ti146_ok : zP 146 ti146 := zT
def ti148 : TI := ⟨.func, 1, 8, [.nilFunc], false⟩
theorem ti148_ok : zP 148 ti148 := zT
def ti149 : TI := ⟨.func, 1, 8, [.nilFunc], false⟩
theorem ti149_ok : zP 149 ti149 := zT
def ti158 : TI := ⟨.struct [(0, 5), (1, 5)], 2, 2, [.int .u8 0, .int .u8 0], true⟩
theorem ti158_ok : zP 158 ti158 := ⟨by kernel_rfl, by kernel_rfl, fun _ => ⟨by kernel_rfl, by kernel_rfl, by kernel_rfl⟩⟩
def ti159 : TI := ⟨.array 16 158, 32, 32, [.int .u8 0, .int .u8 0, .int .u8 0, .int .u8 0, .int .u8 0, .int .u8 0, .int .u8 0, .int .u8 0, .int .u8 0, .int .u8 0, .int .u8 0, .int .u8 0, .int .u8 0, .int .u8 0, .int .u8 0, .int .u8 0, .int .u8 0, .int .u8 0, .int .u8 0, .int .u8 0, .int .u8 0, .int .u8 0, .int .u8 0, .int .u8 0, .int .u8 0, .int .u8 0, .int .u8 0, .int .u8 0, .int .u8 0, .int .u8 0, .int .u8 0, .int .u8 0], false⟩
theorem ti159_ok : zP 159 ti159 := zT
def ti160 : TI := ⟨.int .u16, 1, 2, [.int .u16 0], false⟩
theorem ti160_ok : zP 160 ti160 := zT
def ti163 : TI := ⟨.func, 1, 8, [.nilFunc], false⟩
theorem ti163_ok : zP 163 ti163 := zT
def ti164 : TI := ⟨.slice 123, 1, 24, [.slice none 0 0], false⟩
theorem ti164_ok : zP 164 ti164 := zT
def ti165 : TI := ⟨.func, 1, 8, [.nilFunc], false⟩
theorem ti165_ok : zP 165 ti165 := zT
def ti167 : TI := ⟨.struct [(0, 9), (1, 65)], 2, 24, [.string ⟨#[]⟩, .int .u8 0], false⟩
theorem ti167_ok : zP 167 ti167 := zT
def ti168 : TI := ⟨.ptr 171, 1, 8, [.pointer none], false⟩
theorem ti168_ok : zP 168 ti168 := zT
def ti171 : TI := ⟨.struct [(0, 143), (1, 160), (2, 160), (3, 123), (4, 123)], 5, 16, [.int .i32 0, .int .u16 0, .int .u16 0, .int .u32 0, .int .u32 0], false⟩
theorem ti171_ok : zP 171 ti171 := zT
def ti173 : TI := ⟨.int .i32, 1, 4, [.int .i32 0], false⟩
theorem ti173_ok : zP 173 ti173 := zT
def ti175 : TI := ⟨.struct [(0, 143), (1, 144), (2, 173), (3, 173)], 4, 16, [.int .i32 0, .int .i32 0, .int .i32 0, .int .i32 0], false⟩
theorem ti175_ok : zP 175 ti175 := zT
def tyTree : TyTree := .node (.node (.node (.node (.node (.node (.node (.leaf) 1 ti1 (.leaf)) 2 ti2 (.node (.leaf) 3 ti3 (.leaf))) 4 ti4 (.node (.node (.leaf) 5 ti5 (.leaf)) 6 ti6 (.node (.leaf) 7 ti7 (.leaf)))) 8 ti8 (.node (.node (.node (.leaf) 9 ti9 (.leaf)) 10 ti10 (.node (.leaf) 11 ti11 (.leaf))) 12 ti12 (.node (.node (.leaf) 13 ti13 (.leaf)) 14 ti14 (.node (.leaf) 15 ti15 (.leaf))))) 16 ti16 (.node (.node (.node (.node (.leaf) 17 ti17 (.leaf)) 20 ti20 (.node (.leaf) 22 ti22 (.leaf))) 23 ti23 (.node (.node (.leaf) 24 ti24 (.leaf)) 25 ti25 (.node (.leaf) 26 ti26 (.leaf)))) 27 ti27 (.node (.node (.node (.leaf) 29 ti29 (.leaf)) 30 ti30 (.node (.leaf) 32 ti32 (.leaf))) 34 ti34 (.node (.node (.leaf) 35 ti35 (.leaf)) 36 ti36 (.leaf))))) 37 ti37 (.node (.node (.node (.node (.node (.leaf) 38 ti38 (.leaf)) 39 ti39 (.node (.leaf) 40 ti40 (.leaf))) 41 ti41 (.node (.node (.leaf) 42 ti42 (.leaf)) 43 ti43 (.node (.leaf) 44 ti44 (.leaf)))) 45 ti45 (.node (.node (.node (.leaf) 46 ti46 (.leaf)) 48 ti48 (.node (.leaf) 50 ti50 (.leaf))) 51 ti51 (.node (.node (.leaf) 52 ti52 (.leaf)) 53 ti53 (.leaf)))) 54 ti54 (.node (.node (.node (.node (.leaf) 55 ti55 (.leaf)) 56 ti56 (.node (.leaf) 58 ti58 (.leaf))) 59 ti59 (.node (.node (.leaf) 60 ti60 (.leaf)) 62 ti62 (.node (.leaf) 63 ti63 (.leaf)))) 64 ti64 (.node (.node (.node (.leaf) 65 ti65 (.leaf)) 66 ti66 (.node (.leaf) 67 ti67 (.leaf))) 68 ti68 (.node (.node (.leaf) 69 ti69 (.leaf)) 70 ti70 (.leaf)))))) 71 ti71 (.node (.node (.node (.node (.node (.node (.leaf) 72 ti72 (.leaf)) 73 ti73 (.node (.leaf) 77 ti77 (.leaf))) 92 ti92 (.node (.node (.leaf) 93 ti93 (.leaf)) 94 ti94 (.node (.leaf) 96 ti96 (.leaf)))) 97 ti97 (.node (.node (.node (.leaf) 98 ti98 (.leaf)) 99 ti99 (.node (.leaf) 101 ti101 (.leaf))) 103 ti103 (.node (.node (.leaf) 104 ti104 (.leaf)) 105 ti105 (.node (.leaf) 108 ti108 (.leaf))))) 109 ti109 (.node (.node (.node (.node (.leaf) 110 ti110 (.leaf)) 111 ti111 (.node (.leaf) 112 ti112 (.leaf))) 113 ti113 (.node (.node (.leaf) 114 ti114 (.leaf)) 115 ti115 (.node (.leaf) 116 ti116 (.leaf)))) 117 ti117 (.node (.node (.node (.leaf) 118 ti118 (.leaf)) 119 ti119 (.node (.leaf) 120 ti120 (.leaf))) 122 ti122 (.node (.node (.leaf) 123 ti123 (.leaf)) 125 ti125 (.leaf))))) 126 ti126 (.node (.node (.node (.node (.node (.leaf) 127 ti127 (.leaf)) 129 ti129 (.node (.leaf) 131 ti131 (.leaf))) 134 ti134 (.node (.node (.leaf) 135 ti135 (.leaf)) 136 ti136 (.node (.leaf) 137 ti137 (.leaf)))) 138 ti138 (.node (.node (.node (.leaf) 139 ti139 (.leaf)) 140 ti140 (.node (.leaf) 141 ti141 (.leaf))) 142 ti142 (.node (.node (.leaf) 143 ti143 (.leaf)) 144 ti144 (.leaf)))) 145 ti145 (.node (.node (.node (.node (.leaf) 146 ti146 (.leaf)) 148 ti148 (.node (.leaf) 149 ti149 (.leaf))) 158 ti158 (.node (.node (.leaf) 159 ti159 (.leaf)) 160 ti160 (.node (.leaf) 163 ti163 (.leaf)))) 164 ti164 (.node (.node (.node (.leaf) 165 ti165 (.leaf)) 167 ti167 (.node (.leaf) 168 ti168 (.leaf))) 171 ti171 (.node (.node (.leaf) 173 ti173 (.leaf)) 175 ti175 (.leaf))))))
theorem tyTree_ok : tyTree.allP (TIok Tryd.prog) := ⟨⟨⟨⟨⟨⟨⟨trivial, ti1_ok, trivial⟩, ti2_ok, ⟨trivial, ti3_ok, trivial⟩⟩, ti4_ok, ⟨⟨trivial, ti5_ok, trivial⟩, ti6_ok, ⟨trivial, ti7_ok, trivial⟩⟩⟩, ti8_ok, ⟨⟨⟨trivial, ti9_ok, trivial⟩, ti10_ok, ⟨trivial, ti11_ok, trivial⟩⟩, ti12_ok, ⟨⟨trivial, ti13_ok, trivial⟩, ti14_ok, ⟨trivial, ti15_ok, trivial⟩⟩⟩⟩, ti16_ok, ⟨⟨⟨⟨trivial, ti17_ok, trivial⟩, ti20_ok, ⟨trivial, ti22_ok, trivial⟩⟩, ti23_ok, ⟨⟨trivial, ti24_ok, trivial⟩, ti25_ok, ⟨trivial, ti26_ok, trivial⟩⟩⟩, ti27_ok, ⟨⟨⟨trivial, ti29_ok, trivial⟩, ti30_ok, ⟨trivial, ti32_ok, trivial⟩⟩, ti34_ok, ⟨⟨trivial, ti35_ok, trivial⟩, ti36_ok, trivial⟩⟩⟩⟩, ti37_ok, ⟨⟨⟨⟨⟨trivial, ti38_ok, trivial⟩, ti39_ok, ⟨trivial, ti40_ok, trivial⟩⟩, ti41_ok, ⟨⟨trivial, ti42_ok, trivial⟩, ti43_ok, ⟨trivial, ti44_ok, trivial⟩⟩⟩, ti45_ok, ⟨⟨⟨trivial, ti46_ok, trivial⟩, ti48_ok, ⟨trivial, ti50_ok, trivial⟩⟩, ti51_ok, ⟨⟨trivial, ti52_ok, trivial⟩, ti53_ok, trivial⟩⟩⟩, ti54_ok, ⟨⟨⟨⟨trivial, ti55_ok, trivial⟩, ti56_ok, ⟨trivial, ti58_ok, trivial⟩⟩, ti59_ok, ⟨⟨trivial, ti60_ok, trivial⟩, ti62_ok, ⟨trivial, ti63_ok, trivial⟩⟩⟩, ti64_ok, ⟨⟨⟨trivial, ti65_ok, trivial⟩, ti66_ok, ⟨trivial, ti67_ok, trivial⟩⟩, ti68_ok, ⟨⟨trivial, ti69_ok, trivial⟩, ti70_ok, trivial⟩⟩⟩⟩⟩, ti71_ok, ⟨⟨⟨⟨⟨⟨trivial, ti72_ok, trivial⟩, ti73_ok, ⟨trivial, ti77_ok, trivial⟩⟩, ti92_ok, ⟨⟨trivial, ti93_ok, trivial⟩, ti94_ok, ⟨trivial, ti96_ok, trivial⟩⟩⟩, ti97_ok, ⟨⟨⟨trivial, ti98_ok, trivial⟩, ti99_ok, ⟨trivial, ti101_ok, trivial⟩⟩, ti103_ok, ⟨⟨trivial, ti104_ok, trivial⟩, ti105_ok, ⟨trivial, ti108_ok, trivial⟩⟩⟩⟩, ti109_ok, ⟨⟨⟨⟨trivial, ti110_ok, trivial⟩, ti111_ok, ⟨trivial, ti112_ok, trivial⟩⟩, ti113_ok, ⟨⟨trivial, ti114_ok, trivial⟩, ti115_ok, ⟨trivial, ti116_ok, trivial⟩⟩⟩, ti117_ok, ⟨⟨⟨trivial, ti118_ok, trivial⟩, ti119_ok, ⟨trivial, ti120_ok, trivial⟩⟩, ti122_ok, ⟨⟨trivial, ti123_ok, trivial⟩, ti125_ok, trivial⟩⟩⟩⟩, ti126_ok, ⟨⟨⟨⟨⟨trivial, ti127_ok, trivial⟩, ti129_ok, ⟨trivial, ti131_ok, trivial⟩⟩, ti134_ok, ⟨⟨trivial, ti135_ok, trivial⟩, ti136_ok, ⟨trivial, ti137_ok, trivial⟩⟩⟩, ti138_ok, ⟨⟨⟨trivial, ti139_ok, trivial⟩, ti140_ok, ⟨trivial, ti141_ok, trivial⟩⟩, ti142_ok, ⟨⟨trivial, ti143_ok, trivial⟩, ti144_ok, trivial⟩⟩⟩, ti145_ok, ⟨⟨⟨⟨trivial, ti146_ok, trivial⟩, ti148_ok, ⟨trivial, ti149_ok, trivial⟩⟩, ti158_ok, ⟨⟨trivial, ti159_ok, trivial⟩, ti160_ok, ⟨trivial, ti163_ok, trivial⟩⟩⟩, ti164_ok, ⟨⟨⟨trivial, ti165_ok, trivial⟩, ti167_ok, ⟨trivial, ti168_ok, trivial⟩⟩, ti171_ok, ⟨⟨trivial, ti173_ok, trivial⟩, ti175_ok, trivial⟩⟩⟩⟩⟩⟩
noncomputable def TC : Cx := ⟨Tryd.prog, tyTree.look, TyTree.look_ok tyTree_ok⟩
theorem TC_mixed : TC.P.follows .mixedOrders = true := by kernel_rfl
end Go.Proofs.YtfjiegpnkmomoaaDoor

namespace Go.Proofs.YtfjiegpnkmomoaaDoor
open Go.RowKit
theorem Pure.val {C : Cx} {g : Nat} {xs : List Value} {r : Value} (ent : Enters C.P g) (hr : r.oneCell' = true) (h : ∀ w, Calls C.P g xs.toArray w fun e w' => e = .returned r ∧ w' = w) : Pure C g (xs.map fun v => .d (.val v)) (.d (.val r)) := by
  refine ⟨ent, fun E w vs hIm hsz hargs => ?_⟩
  have : vs = xs.toArray := by
    apply Array.ext (by simpa using hsz)
    intro i h1 h2
    have h3 := hargs i (by simpa using h2)
    rw [List.getElem_map] at h3
    have := h3.val_inv
    simpa [Array.getD, h1] using this
  subst this
  refine (h w).mono ?_
  rintro e w' ⟨rfl, rfl⟩
  exact ⟨r, rfl, Kp.refl _, .d _ _ (.val _ hr)⟩
end Go.Proofs.YtfjiegpnkmomoaaDoor

namespace Go.Proofs.YtfjiegpnkmomoaaDoor
open Go.RowKit
def slOf {α : Type} [Inhabited α] (esz : Nat) (enc : α → List D) (xs : List α) : D := .sl esz xs.length fun i => enc (xs.getD i default)
structure Pol where
  kind : Int
  T : Int
  tau : Int
  permits : Int
  deriving Inhabited
def Pol.D (p : Pol) : List D := [.val (.int .u8 p.kind), .val (.int .i64 p.T), .val (.int .i64 p.tau), .val (.int .i64 p.permits)]
def bsF (lt : Nat → Bool) : Nat → Nat → Nat → Nat
  | 0, i, _ => i
  | n + 1, i, j => if i < j then (if lt ((i + j) / 2) then bsF lt n ((i + j) / 2 + 1) j else bsF lt n i ((i + j) / 2)) else i
def bs (lt : Nat → Bool) (n : Nat) : Nat := bsF lt (n + 1) 0 n
end Go.Proofs.YtfjiegpnkmomoaaDoor

namespace Go.Proofs.YtfjiegpnkmomoaaDoor
open Go.RowKit
inductive Sh where
  | int (k : IntKind)
  | bool
  | str
  | sl (z : Nat) (es : List Sh)
mutual
inductive FitD : Sh → D → Prop
  | int {k : IntKind} {n : Int} (h : (Lit.int k n).wf = true) : FitD (.int k) (.val (.int k n))
  | bool (b : Bool) : FitD .bool (.val (.bool b))
  | str (s : ByteArray) (h : s.size ≤ maxLen) : FitD .str (.val (.string s))
  | sl {z : Nat} {es : List Sh} {n : Nat} {f : Nat → List D} (hn : n ≤ maxLen) (h : ∀ i, i < n → FitL es (f i)) : FitD (.sl z es) (.sl z n f)
inductive FitL : List Sh → List D → Prop
  | nil : FitL [] []
  | cons {s : Sh} {d : D} {ss : List Sh} {ds : List D} (h : FitD s d) (t : FitL ss ds) : FitL (s :: ss) (d :: ds)
end
structure RLs (w : World) (ds : List D) (cs : List Value) : Prop where
  len : ds.length = cs.length
  out : ∀ (j : Nat) (d : D) (c : Value), ds[j]? = some d → cs[j]? = some c → RD w (fun b => b < w.heap.size) d c
theorem RLs.nil (w : World) : RLs w [] [] := ⟨rfl, fun j d c h => by simp at h⟩
section
variable {H : Type} {enc : TypeId × Value → H} {P : Program} {w : World} {spare : Nat → Bool}
end
end Go.Proofs.YtfjiegpnkmomoaaDoor

namespace Go.Proofs.YtfjiegpnkmomoaaDoor
open Go.ChangeShapes Go.WideShapes Go.ChangeAt Go.RowKit
section
variable {H : Type} {enc : TypeId × Value → H} {P : Program}
theorem all_carry {w w' : World} {base : Nat} {sp : Nat → Bool} {hd : Bool} : ∀ {ts : List TypeId} {vs : List Value} {ds : List (DataW H)} {ps : List MemPlace}, DataW.TrodAll enc P w base sp hd ts vs ds ps → (∀ p ∈ ps, w.sameAt w' p) → DataW.TrodAll enc P w' base sp hd ts vs ds ps
  | [], [], [], _, h, _ => h
  | t :: ts, v :: vs, d :: ds, ps, ⟨p, q, ⟨n, h1⟩, h2, e⟩, hs => ⟨p, q, ⟨n, DataW.trod_carry n _ _ _ h1 fun x hx => hs x (by rw [e]; exact List.mem_append_left _ hx)⟩, all_carry h2 fun x hx => hs x (by rw [e]; exact List.mem_append_right _ hx), e⟩
theorem kept_of {w w' : World} (h : Kp w w') (may : MemPlace → Prop) : w.keptBut w' may := by
  refine ⟨h.os, h.output, fun i hi => ?_⟩
  have hb := h.block i hi
  rw [hb]
  rcases hq : w.heap[i]? with _ | o
  · simp
  · cases o <;> simp
theorem law_post {T : TypeId → Prop} (K : Kids P T) (hz : ∀ t e, T t → P.underlying t = some (.slice e) → 0 < P.cellsOf e) {f : Func} {s : ChangeSpec} {W W' : World} {args : Array Value} {ds gs : List (DataW H)} {before : List MemPlace} {tb : TypeId}
    (hT : ∀ t ∈ f.params.toList, T t) (hvars : s.vars = []) (hr : f.resultTypes = #[tb]) (hb : P.underlying tb = some .bool)
    (hfn : gs = [] → (s.fn H (ds ++ gs)).results = [.lit (.bool true)] ∧ (s.fn H (ds ++ gs)).args = ds ∧ (s.fn H (ds ++ gs)).vars = [])
    (hW : DataW.Whole enc P f.params.toList s.vars false W args.toList ds gs before) (hk : Kp W W') : s.post enc P f false true false false W args (.bool true) W' := by
  have hW0 := hW
  obtain ⟨p, q, hA, hV, rfl, hfz, _⟩ := hW
  rw [hvars] at hV
  have hgs : gs = [] ∧ q = [] := by
    cases gs with
    | nil => exact ⟨rfl, hV⟩
    | cons x r => exact hV.elim
  obtain ⟨rfl, rfl⟩ := hgs
  obtain ⟨h1, h2, h3⟩ := hfn rfl
  have hlt := hW0.lt
  have hsame : ∀ x ∈ p, W.sameAt W' x := fun x hx => by
    have hb := hk.block x.block (hlt x (by simpa using hx))
    cases x with
    | cell b o => exact World.cell?_of_block hb
    | map b => exact hb
  have hA' := all_carry hA hsame
  refine ⟨ds, [], p ++ [], [], p, [], hW0, ?_, ?_, ?_, kept_of hk _, fun h => by cases h⟩
  · rw [h1, hr]
    exact ⟨[], [], shut_bool hb true, rfl, rfl⟩
  · rw [h2]
    exact DataW.TrodAll.respare K hz hT hA' fun x hx => by simpa using hlt x (by simpa using hx)
  · rw [h3, hvars]; rfl
end
end Go.Proofs.YtfjiegpnkmomoaaDoor

namespace Go.Proofs.YtfjiegpnkmomoaaDoor
open Go.ChangeShapes Go.WideShapes Go.ChangeAt Go.RowKit
theorem own : ownKnob Tryd.prog.godebug = none := by kernel_rfl
theorem kids : Kids Tryd.prog (· < Tryd.prog.types.size) := kids_rows (by kernel_rfl) (by kernel_rfl)
theorem full : ∀ t e, t < Tryd.prog.types.size → Tryd.prog.underlying t = some (.slice e) → 0 < Tryd.prog.cellsOf e := slices_full_of Tryd.prog (by kernel_rfl)
def shI (k : IntKind) (n : Int) : Prop := (Lit.int k n).wf = true
theorem wf_u8 {n : Int} (h : shI .u8 n) : 0 ≤ n ∧ n ≤ 255 := by simpa [shI, Lit.wf, IntKind.min, IntKind.max, IntKind.signed, IntKind.bits] using h
theorem wf_i64 {n : Int} (h : shI .i64 n) : -9223372036854775808 ≤ n ∧ n ≤ 9223372036854775807 := by simpa [shI, Lit.wf, IntKind.min, IntKind.max, IntKind.signed, IntKind.bits] using h
structure TLe (d d' : D) : Prop where
  out : ∀ w Im v, RD w Im d v → RD w Im d' v
theorem TLe.rfl (d : D) : TLe d d := ⟨fun _ _ _ h => h⟩
theorem TLe.sv {d d' : D} (h : TLe d d') : SV.Le (.d d) (.d d') := ⟨fun E nx w v hv => by cases hv with | d _ _ hv => exact .d _ _ (h.out _ _ _ hv)⟩
structure LsLe (ds ds' : List D) : Prop where
  len : ds.length = ds'.length
  out : ∀ (j : Nat) (d d' : D), ds[j]? = some d → ds'[j]? = some d' → TLe d d'
theorem LsLe.nil : LsLe [] [] := ⟨_root_.rfl, fun j d d' h => by simp at h⟩
theorem LsLe.cons {d d' : D} {ds ds' : List D} (h : TLe d d') (t : LsLe ds ds') : LsLe (d :: ds) (d' :: ds') :=
  ⟨by simp [t.len], fun j x y hx hy => by
    cases j with
    | zero => simp at hx hy; subst hx hy; exact h
    | succ j => simp at hx hy; exact t.out j x y hx hy⟩
theorem TLe.sl {z n : Nat} {f g : Nat → List D} (h : ∀ i, i < n → LsLe (f i) (g i)) : TLe (.sl z n f) (.sl z n g) := by
  refine ⟨fun w Im v hv => ?_⟩
  cases hv with
  | sl _ _ _ a cap gv hc hm hl ha hg =>
    refine .sl z n g a cap gv hc hm (fun i hi => by rw [← (h i hi).len]; exact hl i hi) ha fun i j hi hj => ?_
    have hj' : j < (f i).length := by rw [(h i hi).len]; exact hj
    exact ((h i hi).out j _ _ (List.getElem?_eq_getElem hj') (List.getElem?_eq_getElem hj)).out _ _ _ (hg i j hi hj')
end Go.Proofs.YtfjiegpnkmomoaaDoor

namespace Go.Proofs.YtfjiegpnkmomoaaDoor
open Go.RowKit
end Go.Proofs.YtfjiegpnkmomoaaDoor

namespace Go.Proofs.YtfjiegpnkmomoaaDoor
open Go.RowKit
inductive Out where
  | ret (r : SV)
  | pan (ch : List PanicEntry)
def Out.post (E : Env) (nx : Nat) (w : World) : Out → Ending → Prop
  | .ret r, .returned v => RS E nx w r v
  | .pan ch, .panicked c => c = ch
  | _, _ => False
def PostH (E : Env) (m : Nat) (H : List (Nat × Option Blk)) (w : World) (m' : Nat) (H' : List (Nat × Option Blk)) (w' : World) (E' : Env) : Prop :=
  Kq (HB E H) w w' ∧ (∀ l, l < m → E'.ρ l = E.ρ l ∧ E'.κ l = E.κ l) ∧ HSat E' m' H' w' ∧ (∀ b, HB E' H' b → HB E H b ∨ w.heap.size ≤ b) ∧
    (∀ b, E'.Im b → E.Im b ∨ HB E H b ∨ w.heap.size ≤ b) ∧ (∀ b, E.Im b → E'.Im b)
structure FunO (C : Cx) (g m : Nat) (args : List SV) (H : List (Nat × Option Blk)) (m' : Nat) (o : Out) (H' : List (Nat × Option Blk)) : Prop where
  ent : Enters C.P g
  le : m ≤ m'
  out : ∀ (E : Env) (w : World) (vs : Array Value), HSat E m H w → vs.size = args.length → (∀ j (hj : j < args.length), RS E m w args[j] (vs.getD j undef)) →
    Calls C.P g vs w fun e w' => ∃ E', PostH E m H w m' H' w' E' ∧ o.post E' m' w' e
theorem FunO.fun {C : Cx} {g m m' : Nat} {args : List SV} {H H' : List (Nat × Option Blk)} {r : SV} (h : FunO C g m args H m' (.ret r) H') : Fun C g m args H m' r H' :=
  ⟨h.ent, h.le, fun E w vs hS hsz hargs => (h.out E w vs hS hsz hargs).mono fun e w' ⟨E', ⟨h1, h2, h3, h4, h5, h6⟩, ho⟩ => by
    cases e with
    | returned v => exact ⟨v, E', rfl, h1, h2, h3, h4, h5, h6, ho⟩
    | panicked c => exact ho.elim
    | outgrown => exact ho.elim⟩
structure PanStop (C : Cx) (S : St) (g : Nat) (args : List SV) (k : List PanicEntry → St → Prop) : Prop where
  ent : Enters C.P g
  out : ∀ O E a w (vs : Array Value), Sat O E S a w → vs.size = args.length → (∀ j (hj : j < args.length), RS E S.nx w args[j] (vs.getD j undef)) →
    Calls C.P g vs w fun e w' => ∃ ch E' S', e = .panicked ch ∧ k ch S' ∧ Sat O E' S' a w'
def panK (C : Cx) (S : St) (f : SV) (args : List SV) (k : List PanicEntry → St → Prop) : Prop :=
  match f with
  | .d (.fn (.func g) []) => stK S fun S => PanStop C S g args k
  | .d (.fn (.func g) caps) => stK S fun S => PanStop C S g (args ++ caps.map .d) k
  | .fn (.func g) caps => stK S fun S => PanStop C S g (args ++ caps) k
  | _ => False
def panOp (C : Cx) (S : St) (op : Op) (k : List PanicEntry → St → Prop) : Prop :=
  match op with
  | .call c => match c.callee with
    | .value f => evL S c.args.toList fun args => panK C S (ev S f) args k
    | _ => False
  | .panic x => match ev S x with
    | .d (.val (.iface t v)) => k [{ v := .iface t v, recovered := false }] S
    | _ => False
  | _ => False
theorem panOp_ok {C : Cx} {O : Org} {E : Env} {S : St} {a : Act} {w : World} (hs : Sat O E S a w) {o : Oper} {k : List PanicEntry → St → Prop} (h : panOp C S o.op k) {next : Act → World → Prop} {Q : Exit → Act → World → Prop}
    (hk : ∀ ch S' E' w', k ch S' → Sat O E' S' a w' → Q (.panic ch) a w') : o.wp C.P a w next Q := by
  unfold panOp at h
  split at h
  · rename_i c ho
    split at h
    · rename_i f hc
      obtain ⟨vs, h1, h2, h3⟩ := evL_ok hs _ _ h
      have hargs : ∀ (j : Nat) (hj : j < vs.length), RS E S.nx w vs[j] ((c.args.map a.eval).getD j undef) := fun j hj => by
        have hj' : j < c.args.size := by simpa [h2] using hj
        have := h3 j c.args[j] vs[j] (by simp [hj']) (by simp [hj])
        simpa [Array.getD, hj'] using this
      have hsz : (c.args.map a.eval).size = vs.length := by simp [h2]
      have hf := ev_ok hs f
      have fin : ∀ (g : Nat) (caps : Array Value) (cs : List SV), a.eval f = .func (.func g) #[] caps → caps.size = cs.length → (∀ (j : Nat) (hj : j < cs.length), RS E S.nx w cs[j] (caps.getD j undef)) → PanStop C S g (vs ++ cs) k → o.wp C.P a w next Q := by
        intro g caps cs e1 e2 e3 hcs
        unfold Oper.wp
        have hrun : (execOp a.eval o).run C.P w = .ok (.enter g (c.args.map a.eval ++ caps)) w := by
          simp [execOp, ho, resolve, hc, e1, Deferred.ofValue, invoke]
          exact hcs.ent _ _
        rw [hrun]
        have hsz2 : (c.args.map a.eval ++ caps).size = (vs ++ cs).length := by simp [h2, e2]
        refine (hcs.out O E a w _ hs hsz2 (fun j hj => ?_)).mono ?_
        · by_cases hlt : j < vs.length
          · rw [List.getElem_append_left hlt]
            have : (c.args.map a.eval ++ caps).getD j undef = (c.args.map a.eval).getD j undef := by
              simp only [Array.getD_eq_getD_getElem?]; rw [Array.getElem?_append_left (by omega)]
            rw [this]; exact hargs j hlt
          · rw [List.getElem_append_right (by omega)]
            have : (c.args.map a.eval ++ caps).getD j undef = caps.getD (j - vs.length) undef := by
              simp only [Array.getD_eq_getD_getElem?]; rw [Array.getElem?_append_right (by omega), hsz]
            rw [this]; exact e3 _ _
        · rintro e w' ⟨ch, E', S', rfl, g1, g2⟩
          exact hk ch S' E' w' g1 g2
      unfold panK at h1
      split at h1
      · rename_i g e
        rw [e] at hf
        cases hv : a.eval f <;> rw [hv] at hf <;> cases hf <;> rename_i hr <;> cases hr
        rename_i hs0 _
        exact fin g _ [] hv (by simpa using hs0) (fun j hj => by simp at hj) (by rw [List.append_nil]; exact h1)
      · rename_i g caps _ e
        rw [e] at hf
        cases hv : a.eval f <;> rw [hv] at hf <;> cases hf <;> rename_i hr <;> cases hr
        rename_i hs0 hg
        exact fin g _ (caps.map .d) hv (by simpa using hs0) (fun j hj => by
          have hj' : j < caps.length := by simpa using hj
          rw [List.getElem_map]; exact .d _ _ (hg j hj')) h1
      · rename_i g caps e
        rw [e] at hf
        cases hv : a.eval f <;> rw [hv] at hf <;> cases hf
        rename_i hs0 hg
        exact fin g _ caps hv hs0 hg h1
      · exact h1.elim
    · exact h.elim
  · rename_i x ho
    split at h
    · rename_i t v e
      have hx := ev_ok hs x
      rw [e] at hx
      have hx := hx.val_inv
      unfold Oper.wp
      rw [show (execOp a.eval o).run C.P w = .halt (.panic (.iface t v)) w by simp [execOp, ho, hx, Instr.panic, goPanic]]
      exact hk _ S E w h hs
    · exact h.elim
  · exact h.elim
def execP (C : Cx) (ops : List Oper) : List Oper → St → (List PanicEntry → St → Prop) → Prop
  | [], _, _ => False
  | o :: r, S, k => match o.op with
    | .panic x => o.guard = none ∧ panOp C S (.panic x) k
    | .call c => (o.guard = none ∧ panOp C S (.call c) k) ∨ execG C ops S o fun S' => execP C ops r S' k
    | _ => execG C ops S o fun S' => execP C ops r S' k
theorem execG_ok {C : Cx} {O : Org} {ops : List Oper} {Q : Exit → Act → World → Prop} {o : Oper} {r : List Oper} {E : Env} {S : St} {a : Act} {w : World} {k : St → Prop} (h : execG C ops S o k) (hs : Sat O E S a w)
    (hk : ∀ S' E' a' w', k S' → Sat O E' S' a' w' → wpList C.P ops.toArray Q r a' w') : wpList C.P ops.toArray Q (o :: r) a w := by
  unfold execG at h
  split at h
  · rename_i hg
    unfold wpList
    rw [if_pos (by simp [Region.wanted, hg])]
    refine Or.inl (val1_ok hs h _ _ fun v E' S' w' x h1 h2 h3 => ?_)
    obtain ⟨S'', g1, g2⟩ := putK_ok h2 h3 h1
    exact hk _ _ _ _ g1 g2
  · rename_i j want hg
    split at h
    · rename_i t ht
      split at h
      · rename_i b hb
        have hv := hs.fr t
        rw [hb] at hv
        have hv := hv.val_inv
        have hy : yielded ops.toArray a.tmps j = some b := by
          unfold yielded
          have h1 : (ops.toArray[j]?).bind (·.dst) = some t := by simpa using ht
          have h2 : a.tmps[t]? = some (.bool b) := by
            rw [Array.getD_eq_getD_getElem?] at hv
            cases hq : a.tmps[t]? with
            | none => rw [hq] at hv; simp [undef] at hv
            | some y => rw [hq] at hv; simp at hv; rw [hv]
          rw [h1]
          simp [h2]
        have hs' := hs.setSlot hv
        have run : b = want → runK C (setSlot S t b) o k → wpList C.P ops.toArray Q (o :: r) a w := fun hbw h => by
          unfold wpList
          rw [if_pos (by simp [Region.wanted, hg, hy, hbw])]
          refine Or.inl (val1_ok hs' h _ _ fun v E' S' w' x h1 h2 h3 => ?_)
          obtain ⟨S'', g1, g2⟩ := putK_ok h2 h3 h1
          exact hk _ _ _ _ g1 g2
        have skip : b ≠ want → putK (setSlot S t b) o.dst (.tup []) k → wpList C.P ops.toArray Q (o :: r) a w := fun hbw h => by
          unfold wpList
          rw [if_neg (by simp [Region.wanted, hg, hy, hbw])]
          obtain ⟨S'', g1, g2⟩ := putK_ok hs' (RS.skip _ _ _) h
          exact hk _ _ _ _ g1 g2
        cases want <;> cases b
        · exact run rfl h
        · exact skip (by simp) h
        · exact skip (by simp) h
        · exact run rfl h
      · rename_i hb
        have hv := hs.fr t
        rw [hb] at hv
        have hv := hv.skip_inv
        have hy : yielded ops.toArray a.tmps j = none := by
          unfold yielded
          have h1 : (ops.toArray[j]?).bind (·.dst) = some t := by simpa using ht
          rw [h1]
          rw [Array.getD_eq_getD_getElem?] at hv
          cases hq : a.tmps[t]? with
          | none => simp [hq]
          | some y => rw [hq] at hv; simp at hv; subst hv; simp [hq, undef]
        unfold wpList
        rw [if_neg (by simp [Region.wanted, hg, hy])]
        obtain ⟨S'', g1, g2⟩ := putK_ok hs (RS.skip _ _ _) h
        exact hk _ _ _ _ g1 g2
      · exact h.elim
    · exact h.elim
theorem execP_ok {C : Cx} {O : Org} {ops : List Oper} {Q : Exit → Act → World → Prop} : ∀ (l : List Oper) {E : Env} {S : St} {a : Act} {w : World} {k : List PanicEntry → St → Prop}, execP C ops l S k → Sat O E S a w →
    (∀ ch S' E' a' w', k ch S' → Sat O E' S' a' w' → Q (.panic ch) a' w') → wpList C.P ops.toArray Q l a w
  | [], E, S, a, w, k, h, hs, hk => h.elim
  | o :: r, E, S, a, w, k, h, hs, hk => by
    unfold execP at h
    split at h
    · rename_i x ho
      obtain ⟨hg, h⟩ := h
      unfold wpList
      rw [if_pos (by simp [Region.wanted, hg])]
      exact Or.inl (panOp_ok hs (by rw [ho]; exact h) fun ch S' E' w' h1 h2 => hk ch S' E' a w' h1 h2)
    · rename_i c ho
      rcases h with ⟨hg, h⟩ | h
      · unfold wpList
        rw [if_pos (by simp [Region.wanted, hg])]
        exact Or.inl (panOp_ok hs (by rw [ho]; exact h) fun ch S' E' w' h1 h2 => hk ch S' E' a w' h1 h2)
      · exact execG_ok h hs fun S' E' a' w' h1 h2 => execP_ok r h1 h2 hk
    · exact execG_ok h hs fun S' E' a' w' h1 h2 => execP_ok r h1 h2 hk
theorem Wp.regionP (id : Nat) {C : Cx} {l : List Oper} {S : St} {Q : Exit → St → Prop} (h : execP C l l S fun ch S' => Q (.panic ch) S') : Wp C (.region id l.toArray false) S Q :=
  ⟨fun _ _ _ _ hs => wp_region_lit (execP_ok l h hs fun ch S' E' _ _ h1 h2 => ⟨S', E', h1, h2⟩)⟩
theorem Fresh.ge {S : St} {nx' : Nat} (h : S.nx ≤ nx') (hx : ∀ m b, lkh S.hp m = some b → m < S.nx) : Fresh S (fun l => S.nx ≤ l) nx' :=
  ⟨h, fun E E' w h1 h2 n v hv => RS.mono (E := E) (fun m hm => h1 m (by omega)) (Nat.le_refl _) (fun b hb => by rw [h2]; exact hb) (fun _ _ => rfl) hv,
    fun m b hb => ⟨by have := hx m b hb; omega, fun E E' w h1 h2 hbs => BS.mono (E := E) (hx m b hb) (fun m hm => h1 m (by omega)) (Nat.le_refl _) (fun b hb => by rw [h2]; exact hb) (fun _ _ => rfl) (fun _ => rfl) hbs⟩⟩
theorem PanStop.fn {C : Cx} {nt : NT} {nx : Nat} {fr : List (Nat × SV)} {hp : List (Nat × Option Blk)} {g : Nat} {args : List SV} {k : List PanicEntry → St → Prop} {m m' : Nat} {args0 : List SV} {H H' : List (Nat × Option Blk)} {ch : List PanicEntry} (h : FunO C g m args0 H m' (.pan ch) H') (L : List Nat) (hlen : L.length = m) (hd : noDup L = true) (hlive : liveK H m = true) (hkeys : keysK H' m = true) (hlt : keysLt H' m' = true)
    (ha : ArgLes L args args0) (hh : HeapLe hp L H) (hk : k ch ⟨nt, nx + (m' - m), fr, postH (πf L nx) hp H'⟩) : PanStop C ⟨nt, nx, fr, hp⟩ g args k := by
  subst hlen
  have hle := h.le
  refine ⟨h.ent, fun O E a w vs hs hsz hargs => ?_⟩
  have hLlt : ∀ i, i < L.length → L.getD i 0 < nx := fun i hi => by
    have := hlive
    unfold liveK at this
    rw [List.all_eq_true] at this
    obtain ⟨b, hb⟩ := Option.isSome_iff_exists.1 (this i (by simpa using hi))
    obtain ⟨_, h2⟩ := hh.out i b hb
    unfold BlkLe at h2
    split at h2
    · rename_i hl; exact hs.nx _ _ hl
    · rename_i hl; exact hs.nx _ _ hl
    · obtain ⟨⟨b0, q1, _⟩, _⟩ := h2.bs (E := E) (nx := nx) (w := w) rfl fun x hx => hs.hp _ x hx
      exact hs.nx _ _ q1
    · exact h2.elim
  have hπ1 : ∀ i, i < L.length → πf L nx i = L.getD i 0 := fun i hi => by
    show (bif Nat.blt i L.length then L.getD i 0 else nx + (i - L.length)) = _
    have hb : Nat.blt i L.length = true := by simpa using hi
    rw [hb]; rfl
  have hπ2 : ∀ i, L.length ≤ i → πf L nx i = nx + (i - L.length) := fun i hi => by
    show (bif Nat.blt i L.length then L.getD i 0 else nx + (i - L.length)) = _
    cases hb : Nat.blt i L.length with
    | true => have : i < L.length := by simpa using hb
              omega
    | false => rfl
  have := callP hs L (Pm := fun p => Calls C.P g vs w fun e w' => e = .panicked ch ∧ p undef w') (m' := m') (H' := H') (r := .any) (args := args) (args0 := args0) (fun p q hpq hc => hc.mono fun e w' ⟨h1, h2⟩ => ⟨h1, hpq _ w' h2⟩) vs h.le
    (fun Ec hS hr => (h.out Ec w vs hS (by rw [hsz]; exact ha.out.1) hr).mono fun e w' ⟨E', ⟨h1, h2, h3, h4, h5, h6⟩, ho⟩ => by
      cases e with
      | returned v => exact ho.elim
      | panicked c => exact ⟨by have : c = ch := ho; rw [this], E', h1, h2, h3, h4, h5, h6, .any _⟩
      | outgrown => exact ho.elim)
    hd hlive hkeys hlt ha hh (F := fun l => nx ≤ l) (nx' := nx + (m' - L.length)) (Fresh.ge (by show nx ≤ _; omega) hs.nx) (fun l hl => Nat.le_trans hs.nl hl) (πf L nx) hπ1 (fun i h1 h2 => ⟨by rw [hπ2 i h1]; omega, by rw [hπ2 i h1]; omega⟩)
    (fun i j hi hj hij => by
      by_cases h1 : i < L.length <;> by_cases h2 : j < L.length
      · rw [hπ1 i h1, hπ1 j h2] at hij
        exact Classical.byContradiction fun hne => noDup_ne hd h1 h2 hne hij
      · rw [hπ1 i h1, hπ2 j (by omega)] at hij; have := hLlt i h1; omega
      · rw [hπ1 j h2, hπ2 i (by omega)] at hij; have := hLlt j h2; omega
      · rw [hπ2 i (by omega), hπ2 j (by omega)] at hij; omega) hsz hargs
  exact this.mono fun e w' ⟨h1, E', h2, _⟩ => ⟨ch, E', _, h1, hk, h2⟩
def finO (C : Cx) (rs : List ResultVar) (m m' : Nat) (o : Out) (H' : List (Nat × Option Blk)) : Exit → St → Prop
  | .normal, S => match o with
    | .ret r => resK C S rs fun vs => tupK vs fun x => FinLe m S x m' r H'
    | .pan _ => False
  | .ret, S => match o with
    | .ret r => resK C S rs fun vs => tupK vs fun x => FinLe m S x m' r H'
    | .pan _ => False
  | .panic ch, S => o = .pan ch ∧ FinLe m S .any m' .any H'
  | _, _ => False
end Go.Proofs.YtfjiegpnkmomoaaDoor

namespace Go.Proofs.YtfjiegpnkmomoaaDoor
open Go.RowKit
def fxB : SV → Bool
  | .any => true
  | .d (.val _) => true
  | .ptr _ _ => true
  | _ => false
def Fx (O : Org) (x : SV) (v : Value) : Prop := ∀ (E : Env) (nx : Nat) (w : World), (∀ l, l < O.nl → E.ρ l = O.ρ0 l ∧ E.κ l = O.κ0 l) → O.nl ≤ nx → RS E nx w x v
structure DT where
  g : Nat
  caps : List SV
  args : List SV
def DfOK1 (O : Org) (t : DT) (d : Deferred) : Prop := ∃ cap : Array Value, d.target = .fn (.func t.g) cap ∧ cap.size = t.caps.length ∧ d.args.size = t.args.length ∧
  (∀ j (hj : j < t.args.length), Fx O t.args[j] (d.args.getD j undef)) ∧ (∀ j (hj : j < t.caps.length), Fx O t.caps[j] (cap.getD j undef))
def DfOK (O : Org) : List DT → List Deferred → Prop
  | [], [] => True
  | t :: ts, d :: ds => DfOK1 O t d ∧ DfOK O ts ds
  | _, _ => False
structure Grow (O : Org) (ds : List DT) (O' : Org) : Prop where
  w0 : O'.w0 = O.w0
  M : O'.M = O.M
  Im0 : O'.Im0 = O.Im0
  nl : O.nl ≤ O'.nl
  lab : ∀ l, l < O.nl → O'.ρ0 l = O.ρ0 l ∧ O'.κ0 l = O.κ0 l
  df : ∃ dl, O'.df = dl ++ O.df ∧ DfOK O' ds dl
theorem Grow.refl (O : Org) : Grow O [] O := ⟨rfl, rfl, rfl, Nat.le_refl _, fun _ _ => ⟨rfl, rfl⟩, [], rfl, trivial⟩
theorem Fx.up {O O' : Org} {x : SV} {v : Value} (hn : O.nl ≤ O'.nl) (hl : ∀ l, l < O.nl → O'.ρ0 l = O.ρ0 l ∧ O'.κ0 l = O.κ0 l) (h : Fx O x v) : Fx O' x v :=
  fun E nx w h1 h2 => h E nx w (fun l q => ⟨(h1 l (by omega)).1.trans (hl l q).1, (h1 l (by omega)).2.trans (hl l q).2⟩) (by omega)
theorem DfOK.up {O O' : Org} (hn : O.nl ≤ O'.nl) (hl : ∀ l, l < O.nl → O'.ρ0 l = O.ρ0 l ∧ O'.κ0 l = O.κ0 l) : ∀ {ts : List DT} {ds : List Deferred}, DfOK O ts ds → DfOK O' ts ds
  | [], [], _ => trivial
  | _ :: _, _ :: _, ⟨⟨cap, h1, h2, h3, h4, h5⟩, h⟩ => ⟨⟨cap, h1, h2, h3, fun j hj => (h4 j hj).up hn hl, fun j hj => (h5 j hj).up hn hl⟩, h.up hn hl⟩
  | [], _ :: _, h => h.elim
  | _ :: _, [], h => h.elim
theorem DfOK.app {O : Org} : ∀ {ts us : List DT} {ds es : List Deferred}, DfOK O ts ds → DfOK O us es → DfOK O (ts ++ us) (ds ++ es)
  | [], _, [], _, _, h => h
  | _ :: _, _, _ :: _, _, ⟨h1, h2⟩, h => ⟨h1, h2.app h⟩
  | [], _, _ :: _, _, h, _ => h.elim
  | _ :: _, _, [], _, h, _ => h.elim
theorem Grow.trans {O O' O2 : Org} {ds es : List DT} (h : Grow O ds O') (h' : Grow O' es O2) : Grow O (es ++ ds) O2 := by
  obtain ⟨dl, e1, e2⟩ := h.df
  obtain ⟨el, e3, e4⟩ := h'.df
  refine ⟨h'.w0.trans h.w0, h'.M.trans h.M, h'.Im0.trans h.Im0, Nat.le_trans h.nl h'.nl, fun l hl => ?_, el ++ dl, by rw [e3, e1, List.append_assoc], e4.app (e2.up h'.nl h'.lab)⟩
  have := h.nl
  exact ⟨(h'.lab l (by omega)).1.trans (h.lab l hl).1, (h'.lab l (by omega)).2.trans (h.lab l hl).2⟩
structure WpX (C : Cx) (c : Code) (S : St) (Q : Exit → List DT → St → Prop) : Prop where
  out : ∀ O E a w, Sat O E S a w → c.wp C.P (fun e a' w' => ∃ O' E' S' ds, Grow O ds O' ∧ Q e ds S' ∧ Sat O' E' S' a' w') a w
theorem WpX.of {C : Cx} {c : Code} {S : St} {Q : Exit → List DT → St → Prop} (h : Wp C c S fun e S' => Q e [] S') : WpX C c S Q :=
  ⟨fun O E a w hs => wp_mono (h.out O E a w hs) fun e a' w' ⟨S', E', h1, h2⟩ => ⟨O, E', S', [], .refl O, h1, h2⟩⟩
def thenX (k : List DT → St → Prop) (Q : Exit → List DT → St → Prop) : Exit → List DT → St → Prop
  | .normal, ds, S => k ds S
  | e, ds, S => Q e ds S
theorem WpX.seq {C : Cx} {x y : Code} {S : St} {Q : Exit → List DT → St → Prop} (h : WpX C x S (thenX (fun ds S' => WpX C y S' fun e es S2 => Q e (es ++ ds) S2) Q)) : WpX C (.seq x y) S Q := by
  refine ⟨fun O E a w hs => wp_seq (wp_mono (h.out O E a w hs) fun e a' w' ⟨O', E', S', ds, g, h1, h2⟩ => ?_)⟩
  cases e with
  | normal =>
    have h1 : WpX C y S' fun e es S2 => Q e (es ++ ds) S2 := h1
    exact wp_mono (h1.out O' E' a' w' h2) fun e a2 w2 ⟨O2, E2, S2, es, g2, q1, q2⟩ => ⟨O2, E2, S2, es ++ ds, g.trans g2, q1, q2⟩
  | exit id => exact ⟨O', E', S', ds, g, h1, h2⟩
  | goto l => exact ⟨O', E', S', ds, g, h1, h2⟩
  | ret => exact ⟨O', E', S', ds, g, h1, h2⟩
  | panic ch => exact ⟨O', E', S', ds, g, h1, h2⟩
  | outgrown => exact ⟨O', E', S', ds, g, h1, h2⟩
def blockX (id : Nat) (Q : Exit → List DT → St → Prop) : Exit → List DT → St → Prop
  | .exit id', ds, S => bif Nat.beq id' id then Q .normal ds S else Q (.exit id') ds S
  | e, ds, S => Q e ds S
theorem WpX.block {C : Cx} {id : Nat} {c : Code} {S : St} {Q : Exit → List DT → St → Prop} (h : WpX C c S (blockX id Q)) : WpX C (.block id c) S Q := by
  refine ⟨fun O E a w hs => wp_block (wp_mono (h.out O E a w hs) fun e a' w' ⟨O', E', S', ds, g, h1, h2⟩ => ?_)⟩
  cases e with
  | exit id' =>
    show if id' = id then _ else _
    have h1 : bif Nat.beq id' id then Q .normal ds S' else Q (.exit id') ds S' := h1
    by_cases e : id' = id
    · subst e; rw [if_pos rfl]; rw [Nat.beq_refl] at h1; exact ⟨O', E', S', ds, g, h1, h2⟩
    · have e2 : Nat.beq id' id = false := by cases hq : Nat.beq id' id with | true => exact absurd (Nat.eq_of_beq_eq_true hq) e | false => rfl
      rw [if_neg e]; rw [e2] at h1; exact ⟨O', E', S', ds, g, h1, h2⟩
  | normal => exact ⟨O', E', S', ds, g, h1, h2⟩
  | goto l => exact ⟨O', E', S', ds, g, h1, h2⟩
  | ret => exact ⟨O', E', S', ds, g, h1, h2⟩
  | panic ch => exact ⟨O', E', S', ds, g, h1, h2⟩
  | outgrown => exact ⟨O', E', S', ds, g, h1, h2⟩
def WpXN (C : Cx) (c : Code) (Q : Exit → List DT → St → Prop) : Nat → List DT → St → Prop
  | 0, _, _ => False
  | n + 1, ds, S => WpX C c S (thenX (fun es S' => WpXN C c Q n (es ++ ds) S') fun e es S' => Q e (es ++ ds) S')
theorem WpXN_rounds {C : Cx} {c : Code} {Q : Exit → List DT → St → Prop} {O0 : Org} : ∀ (n : Nat) (ds : List DT) (S : St) (O : Org) (E : Env) (a : Act) (w : World), Grow O0 ds O → WpXN C c Q n ds S → Sat O E S a w →
    Code.rounds C.P c (fun e a' w' => ∃ O' E' S' ds, Grow O0 ds O' ∧ Q e ds S' ∧ Sat O' E' S' a' w') n a w
  | 0, _, _, _, _, _, _, _, h, _ => h.elim
  | n + 1, ds, S, O, E, a, w, hg, h, hs => by
    have h : WpX C c S (thenX (fun es S' => WpXN C c Q n (es ++ ds) S') fun e es S' => Q e (es ++ ds) S') := h
    refine wp_mono (h.out O E a w hs) fun e a' w' ⟨O', E', S', es, g, h1, h2⟩ => ?_
    cases e with
    | normal => exact WpXN_rounds n _ S' O' E' a' w' (hg.trans g) h1 h2
    | exit id => exact ⟨O', E', S', _, hg.trans g, h1, h2⟩
    | goto l => exact ⟨O', E', S', _, hg.trans g, h1, h2⟩
    | ret => exact ⟨O', E', S', _, hg.trans g, h1, h2⟩
    | panic ch => exact ⟨O', E', S', _, hg.trans g, h1, h2⟩
    | outgrown => exact ⟨O', E', S', _, hg.trans g, h1, h2⟩
theorem WpX.loopN {C : Cx} {c : Code} {S : St} {Q : Exit → List DT → St → Prop} (n : Nat) (h : WpXN C c Q n [] S) : WpX C (.loop c) S Q :=
  ⟨fun O E a w hs => wp_loop_rounds n (WpXN_rounds n [] S O E a w (.refl O) h hs)⟩
theorem WpX.le {C : Cx} {c : Code} {S S' : St} {Q : Exit → List DT → St → Prop} (hl : Le S S') (h : WpX C c S' Q) : WpX C c S Q :=
  ⟨fun O E a w hs => let ⟨E', hs'⟩ := hl.out O E a w hs; h.out O E' a w hs'⟩
theorem Sat.putOff {O : Org} {E : Env} {S : St} {a : Act} {w : World} (h : Sat O E S a w) (d : Deferred) :
    Sat ⟨O.w0, O.M, O.Im0, S.nx, E.ρ, E.κ, d :: O.df⟩ E ⟨⟨S.nt.n, S.nx⟩, S.nx, S.fr, S.hp⟩ { a with defers := d :: a.defers } w :=
  ⟨h.fr, ⟨h.nt.1, rfl⟩, by show d :: a.defers = d :: O.df; rw [h.df], h.hp, h.nx, h.inj, h.im, h.own, h.kq, fun l _ => ⟨rfl, rfl⟩, Nat.le_refl _, h.imo⟩
theorem fx_of {E : Env} {nx : Nat} {w : World} {x : SV} {v : Value} (hx : fxB x = true) (h : RS E nx w x v) {O : Org} (hn : O.nl = nx) (hρ : O.ρ0 = E.ρ) : Fx O x v := by
  intro E' nx' w' h1 h2
  cases h with
  | any => exact .any _
  | d x v h =>
    cases h with
    | val u hu => exact .d _ _ (.val _ hu)
    | _ => exact absurd hx (by simp [fxB])
  | ptr l o hl =>
    have := (h1 l (by omega)).1
    rw [hρ] at this
    rw [← this]; exact .ptr _ _ (by omega)
  | _ => exact absurd hx (by simp [fxB])
def deferK (S : St) (c : Call) (k : DT → Prop) : Prop :=
  match c.callee with
  | .value f => evL S c.args.toList fun args => match ev S f with
    | .fn (.func g) caps => (args.all fxB = true ∧ caps.all fxB = true) ∧ k ⟨g, caps, args⟩
    | .d (.fn (.func g) []) => args.all fxB = true ∧ k ⟨g, [], args⟩
    | _ => False
  | _ => False
def execX (C : Cx) (ops : List Oper) : List Oper → St → List DT → (List DT → St → Prop) → Prop
  | [], S, ds, k => k ds S
  | o :: r, S, ds, k => match o.op with
    | .defer c => (o.guard = none ∧ o.dst = none) ∧ deferK S c fun d => execX C ops r ⟨⟨S.nt.n, S.nx⟩, S.nx, S.fr, S.hp⟩ (d :: ds) k
    | _ => execG C ops S o fun S' => execX C ops r S' ds k
theorem deferK_ok {O : Org} {E : Env} {S : St} {a : Act} {w : World} (hs : Sat O E S a w) {P : Program} {o : Oper} {c : Call} (ho : o.op = .defer c) {k : DT → Prop} (h : deferK S c k) :
    ∃ t d, k t ∧ (execOp a.eval o).run P w = .ok (.defer d) w ∧ DfOK1 ⟨O.w0, O.M, O.Im0, S.nx, E.ρ, E.κ, d :: O.df⟩ t d := by
  unfold deferK at h
  split at h
  · rename_i f hc
    obtain ⟨vs, h1, h2, h3⟩ := evL_ok hs _ _ h
    have hargs : ∀ (j : Nat) (hj : j < vs.length), RS E S.nx w vs[j] ((c.args.map a.eval).getD j undef) := fun j hj => by
      have hj' : j < c.args.size := by simpa [h2] using hj
      have := h3 j c.args[j] vs[j] (by simp [hj']) (by simp [hj])
      simpa [Array.getD, hj'] using this
    have hsz : (c.args.map a.eval).size = vs.length := by simp [h2]
    have hf := ev_ok hs f
    split at h1
    · rename_i g caps e
      obtain ⟨⟨p1, p2⟩, hk⟩ := h1
      rw [e] at hf
      cases hv : a.eval f <;> rw [hv] at hf <;> cases hf
      rename_i cap hs0 hg
      refine ⟨_, ⟨.fn (.func g) cap, c.args.map a.eval⟩, hk, by simp [execOp, ho, resolve, hc, hv, Deferred.ofValue], cap, rfl, hs0, hsz, fun j hj => fx_of ?_ (hargs j hj) rfl rfl, fun j hj => fx_of ?_ (hg j hj) rfl rfl⟩
      · exact List.all_eq_true.1 p1 _ (List.getElem_mem hj)
      · exact List.all_eq_true.1 p2 _ (List.getElem_mem hj)
    · rename_i g e
      obtain ⟨p1, hk⟩ := h1
      rw [e] at hf
      cases hv : a.eval f <;> rw [hv] at hf <;> cases hf <;> rename_i hr <;> cases hr
      rename_i cap hs0 _
      refine ⟨_, ⟨.fn (.func g) cap, c.args.map a.eval⟩, hk, by simp [execOp, ho, resolve, hc, hv, Deferred.ofValue], cap, rfl, by simpa using hs0, hsz, fun j hj => fx_of ?_ (hargs j hj) rfl rfl, fun j hj => absurd hj (by simp)⟩
      exact List.all_eq_true.1 p1 _ (List.getElem_mem hj)
    · exact h1.elim
  · exact h.elim
theorem execX_ok {C : Cx} {O0 : Org} {ops : List Oper} {Q : Exit → Act → World → Prop} : ∀ (l : List Oper) {O : Org} {E : Env} {S : St} {a : Act} {w : World} {ds : List DT} {k : List DT → St → Prop}, Grow O0 ds O → execX C ops l S ds k → Sat O E S a w →
    (∀ O' ds' S' E' a' w', Grow O0 ds' O' → k ds' S' → Sat O' E' S' a' w' → Q .normal a' w') → wpList C.P ops.toArray Q l a w
  | [], O, E, S, a, w, ds, k, hg, h, hs, hk => hk O ds S E a w hg h hs
  | o :: r, O, E, S, a, w, ds, k, hg, h, hs, hk => by
    unfold execX at h
    split at h
    · rename_i c ho
      obtain ⟨⟨h1, h2⟩, h3⟩ := h
      obtain ⟨t, d, q1, q2, q3⟩ := deferK_ok (P := C.P) hs ho h3
      unfold wpList
      rw [if_pos (by simp [Region.wanted, h1])]
      refine Or.inl ?_
      unfold Oper.wp
      rw [q2, Oper.upon_defer, h2]
      have hg1 : Grow O [t] ⟨O.w0, O.M, O.Im0, S.nx, E.ρ, E.κ, d :: O.df⟩ := ⟨rfl, rfl, rfl, hs.nl, fun l hl => hs.lab l hl, [d], rfl, q3, trivial⟩
      exact execX_ok r (hg.trans hg1) q1 (hs.putOff d) hk
    · exact execG_ok h hs fun S' E' a' w' h1 h2 => execX_ok r hg h1 h2 hk
theorem WpX.region {C : Cx} {id : Nat} {l : List Oper} {S : St} {Q : Exit → List DT → St → Prop} (h : execX C l l S [] fun ds S' => Q .normal ds S') : WpX C (.region id l.toArray false) S Q :=
  ⟨fun O _ _ _ hs => wp_region_lit (execX_ok l (.refl O) h hs fun O' ds S' E' _ _ h1 h2 h3 => ⟨O', E', S', ds, h1, h2, h3⟩)⟩
def condX (C : Cx) (x : SV) (S : St) (c d : Code) (Q : Exit → List DT → St → Prop) : Prop :=
  match x with
  | .d (.val (.bool b)) => bif b then WpX C c S Q else WpX C d S Q
  | _ => False
theorem WpX.cond {C : Cx} {x : Operand} {c d : Code} {S : St} {Q : Exit → List DT → St → Prop} (h : condX C (ev S x) S c d Q) : WpX C (.cond x c d) S Q :=
  ⟨fun O E a w hs => by
    have hx := ev_ok hs x
    unfold condX at h
    split at h
    · rename_i b e
      rw [e] at hx
      refine wp_cond hx.val_inv ?_
      cases b
      · exact h.out O E a w hs
      · exact h.out O E a w hs
    · exact h.elim⟩
end Go.Proofs.YtfjiegpnkmomoaaDoor

namespace Go.Proofs.YtfjiegpnkmomoaaDoor
open Go.RowKit
structure FunD (C : Cx) (g m : Nat) (args : List SV) (H : List (Nat × Option Blk)) (u : FrameMode) (m' : Nat) (o : Out) (u' : FrameMode) (H' : List (Nat × Option Blk)) : Prop where
  ent : Enters C.P g
  le : m ≤ m'
  out : ∀ (E : Env) (w : World) (vs : Array Value), HSat E m H w → vs.size = args.length → (∀ j (hj : j < args.length), RS E m w args[j] (vs.getD j undef)) →
    CallsD C.P g vs u w fun e u1 w' => u1 = u' ∧ ∃ E', PostH E m H w m' H' w' E' ∧ o.post E' m' w' e
theorem fin_ok {E : Env} {m : Nat} {H : List (Nat × Option Blk)} {w : World} {O : Org} {E' : Env} {S' : St} {a' : Act} {w' : World} (hs' : Sat O E' S' a' w') (h0 : O.w0 = w) (hM : O.M = HB E H) (hI : O.Im0 = E.Im) (hn : O.nl = m) (hl : ∀ l, l < m → O.ρ0 l = E.ρ l ∧ O.κ0 l = E.κ l)
    {x r : SV} {v : Value} {m' : Nat} {H' : List (Nat × Option Blk)} (g1 : FinLe m S' x m' r H') (g2 : RS E' S'.nx w' x v) : ∃ E2, PostH E m H w m' H' w' E2 ∧ RS E2 m' w' r v := by
  obtain ⟨E2, k1, k2, k3, k4, k5, k6⟩ := g1.out O E' a' w' _ hn hs' g2
  have hown : ∀ b, HB E' S'.hp b → HB E H b ∨ w.heap.size ≤ b := by
    rintro b ⟨l, x, hl, hr, rfl⟩
    have := hs'.own l x hl hr
    rwa [hM, h0] at this
  refine ⟨E2, ⟨?_, fun l hl' => ?_, k1, fun b hb => hown b (k3 b hb), fun b hb => ?_, fun b hb => ?_⟩, k6⟩
  · have := hs'.kq; rwa [hM, h0] at this
  · obtain ⟨p1, p2⟩ := hs'.lab l (by omega)
    obtain ⟨p3, p4⟩ := k2 l hl'
    obtain ⟨p5, p6⟩ := hl l hl'
    exact ⟨p3.trans (p1.trans p5), p4.trans (p2.trans p6)⟩
  · rcases k4 b hb with hb | hb
    · obtain ⟨q1, q2, -⟩ := hs'.im b hb
      rw [h0, hI, hM] at q2
      rcases q2 with q2 | q2 | q2
      · exact Or.inr (Or.inr q2)
      · exact Or.inl q2
      · exact Or.inr (Or.inl q2)
    · exact Or.inr (hown b hb)
  · exact k5 b (hs'.imo b (by rw [hI]; exact hb))
def lowS (m : Nat) (S : St) : St := ⟨⟨S.nt.n, m⟩, S.nx, S.fr, S.hp⟩
theorem Sat.lower {O : Org} {E : Env} {S : St} {a : Act} {w : World} (h : Sat O E S a w) {m : Nat} (hm : m ≤ O.nl) : Sat ⟨O.w0, O.M, O.Im0, m, O.ρ0, O.κ0, O.df⟩ E (lowS m S) a w :=
  ⟨h.fr, ⟨h.nt.1, rfl⟩, h.df, h.hp, h.nx, h.inj, h.im, h.own, h.kq, fun l hl => h.lab l (by have hl : l < m := hl; omega), Nat.le_trans hm h.nl, h.imo⟩
def Out.like : Out → Ending → Prop
  | .ret _, .returned _ => True
  | .pan c, .panicked c' => c' = c
  | _, _ => False
structure LeaveStop (C : Cx) (S : St) (d : DT) (u : FrameMode) (k : Out → FrameMode → St → Prop) : Prop where
  ent : Enters C.P d.g
  out : ∀ O E a w (vs : Array Value), Sat O E S a w → vs.size = (d.args ++ d.caps).length → (∀ j (hj : j < (d.args ++ d.caps).length), RS E S.nx w (d.args ++ d.caps)[j] (vs.getD j undef)) →
    CallsD C.P d.g vs u w fun e u' w' => ∃ o E' S', k o u' S' ∧ Sat O E' S' a w' ∧ o.like e
def nextU : Out → FrameMode → FrameMode
  | .ret _, u => settle u
  | .pan ch, u => raised u ch
def LeaveK (C : Cx) (rs : List ResultVar) (m m' : Nat) (o : Out) (H' : List (Nat × Option Blk)) : List DT → FrameMode → St → Prop
  | [], .returning, S => match o with
    | .ret r => resK C S rs fun vs => tupK vs fun x => FinLe m (lowS m S) x m' r H'
    | .pan _ => False
  | [], .panicking ch, S => o = .pan ch ∧ FinLe m (lowS m S) .any m' .any H'
  | [], .run, _ => False
  | d :: ds, u, S => u ≠ .run ∧ LeaveStop C S d u fun o' u' S' => LeaveK C rs m m' o H' ds (nextU o' u') S'
theorem leaves_of {C : Cx} {fn : Func} {E0 : Env} {m m' : Nat} {H H' : List (Nat × Option Blk)} {w0 : World} {o : Out} {O : Org} (h0 : O.w0 = w0) (hM : O.M = HB E0 H) (hI : O.Im0 = E0.Im) (hn : m ≤ O.nl) (hl : ∀ l, l < m → O.ρ0 l = E0.ρ l ∧ O.κ0 l = E0.κ l) :
    ∀ (ds : List DT) (dl : List Deferred) (u : FrameMode) (S : St) (E : Env) (a : Act) (w : World), DfOK O ds dl → LeaveK C fn.results.toList m m' o H' ds u S → Sat O E S a w →
      Leaves C.P fn a.tmps (fun e w' => ∃ E', PostH E0 m H w0 m' H' w' E' ∧ o.post E' m' w' e) dl u w
  | [], [], .returning, S, E, a, w, _, h, hs => by
    unfold LeaveK at h
    split at h
    · rename_i r
      obtain ⟨xs, us, h1, h2, h3, h4⟩ := resK_ok hs _ _ h
      obtain ⟨x, g1, g2⟩ := tupK_ok h3 h4 h1
      obtain ⟨E2, p1, p2⟩ := fin_ok (hs.lower hn) h0 hM hI rfl hl g1 g2
      refine ⟨(if h : us.toArray.size = 1 then us.toArray[0] else .tuple us.toArray), ?_, E2, p1, p2⟩
      rw [results_eq, show fn.results = fn.results.toList.toArray by simp, List.mapM_toArray]
      simp only [Sem.run_bind, Sem.run_map, h2]
      rfl
    · exact h.elim
  | [], [], .panicking ch, S, E, a, w, _, h, hs => by
    unfold LeaveK at h
    obtain ⟨rfl, h⟩ := h
    obtain ⟨E2, p1, _⟩ := fin_ok (hs.lower hn) h0 hM hI rfl hl h (.any undef)
    exact ⟨E2, p1, rfl⟩
  | [], [], .run, S, E, a, w, _, h, hs => by unfold LeaveK at h; exact h.elim
  | t :: ts, d :: dl, u, S, E, a, w, ⟨⟨cap, e1, e2, e3, e4, e5⟩, hd⟩, h, hs => by
    unfold LeaveK at h
    obtain ⟨hu, h⟩ := h
    obtain ⟨dt, da⟩ := d
    simp only at e1 e3 e4
    subst e1
    have hS : ∀ l, l < O.nl → E.ρ l = O.ρ0 l ∧ E.κ l = O.κ0 l := hs.lab
    have hsz : (da ++ cap).size = (t.args ++ t.caps).length := by simp [e2, e3]
    refine leaves_cons hu (args := da ++ cap) (f := t.g) (by simp only [invoke]; exact h.ent _ _) ((h.out O E a w (da ++ cap) hs hsz fun j hj => ?_).mono ?_)
    · by_cases hlt : j < t.args.length
      · rw [List.getElem_append_left hlt]
        have : (da ++ cap).getD j undef = da.getD j undef := by
          simp only [Array.getD_eq_getD_getElem?]; rw [Array.getElem?_append_left (by omega)]
        rw [this]; exact e4 j hlt E S.nx w hS hs.nl
      · rw [List.getElem_append_right (by omega)]
        have : (da ++ cap).getD j undef = cap.getD (j - t.args.length) undef := by
          simp only [Array.getD_eq_getD_getElem?]; rw [Array.getElem?_append_right (by omega), e3]
        rw [this]; exact e5 _ _ E S.nx w hS hs.nl
    · rintro e u' w' ⟨o', E', S', k1, k2, k3⟩
      cases o' with
      | ret r =>
        cases e with
        | returned v => exact leaves_of h0 hM hI hn hl ts dl _ S' E' a w' hd k1 k2
        | panicked c => exact k3.elim
        | outgrown => exact k3.elim
      | pan ch =>
        cases e with
        | returned v => exact k3.elim
        | panicked c => obtain rfl := k3; exact leaves_of h0 hM hI hn hl ts dl _ S' E' a w' hd k1 k2
        | outgrown => exact k3.elim
  | [], _ :: _, _, _, _, _, _, h, _, _ => h.elim
  | _ :: _, [], _, _, _, _, _, h, _, _ => h.elim
def finX (C : Cx) (rs : List ResultVar) (m m' : Nat) (o : Out) (H' : List (Nat × Option Blk)) : Exit → List DT → St → Prop
  | .normal, ds, S => LeaveK C rs m m' o H' ds .returning S
  | .ret, ds, S => LeaveK C rs m m' o H' ds .returning S
  | .panic ch, ds, S => LeaveK C rs m m' o H' ds (.panicking ch) S
  | _, _, _ => False
theorem sat_enter {C : Cx} {E : Env} {w : World} {m n : Nat} {args : List SV} {H : List (Nat × Option Blk)} {vs : Array Value} (hle : args.length ≤ n) (hS : HSat E m H w) (hsz : vs.size = args.length) (hargs : ∀ j (hj : j < args.length), RS E m w args[j] (vs.getD j undef)) :
    Sat ⟨w, HB E H, E.Im, m, E.ρ, E.κ, []⟩ E ⟨⟨n, m⟩, m, slots 0 args, H⟩ { tmps := vs ++ Array.replicate (n - vs.size) undef, defers := [] } w := by
  refine ⟨fun j => ?_, ⟨by simp; omega, rfl⟩, rfl, hS.hp, hS.nx, hS.inj, fun b hb => ⟨(hS.im b hb).1, Or.inr (Or.inl hb), (hS.im b hb).2⟩, fun l b hb hr => Or.inl ⟨l, b, hb, hr, rfl⟩, Kq.refl _ _, fun l hl => ⟨rfl, rfl⟩, Nat.le_refl _, fun b hb => hb⟩
  rw [lk_slots]
  by_cases hlt : j < args.length
  · rw [if_pos (by omega), Nat.sub_zero, List.getElem?_eq_getElem hlt]
    have := hargs j hlt
    have h2 : j < vs.size := by omega
    have h3 : (vs ++ Array.replicate (n - vs.size) undef).getD j undef = vs.getD j undef := by
      simp only [Array.getD_eq_getD_getElem?]; rw [Array.getElem?_append_left h2]
    rw [h3]; exact this
  · rw [if_neg (by omega)]; exact .any _
theorem FunO.mkX {C : Cx} {g m m' : Nat} {args : List SV} {H H' : List (Nat × Option Blk)} {o : Out} {fn : Func} {c : Code} (hf : C.P.funcs[g]? = some fn) (hb : fn.body = some c) (hn : (fn.name == "runtime.NumGoroutine") = false) (hle : args.length ≤ fn.ntmps) (hmm : m ≤ m')
    (h : WpX C c ⟨⟨fn.ntmps, m⟩, m, slots 0 args, H⟩ (finX C fn.results.toList m m' o H')) : FunO C g m args H m' o H' := by
  refine ⟨.mk hf hn (by simp [hb]), hmm, fun E w vs hS hsz hargs => calls_of_wp_defers hf hb ?_⟩
  refine wp_mono (h.out _ E _ w (sat_enter (C := C) hle hS hsz hargs)) fun e a' w' ⟨O', E', S', ds, hg, hq, hs'⟩ => ?_
  obtain ⟨dl, g1, g2⟩ := hg.df
  have hdl : a'.defers = dl := by rw [hs'.df, g1]; exact List.append_nil _
  have fin : ∀ u, LeaveK C fn.results.toList m m' o H' ds u S' → Leaves C.P fn a'.tmps (fun e w' => ∃ E', PostH E m H w m' H' w' E' ∧ o.post E' m' w' e) a'.defers u w' := fun u hk => by
    rw [hdl]
    exact leaves_of hg.w0 hg.M hg.Im0 hg.nl hg.lab ds dl u S' E' a' w' g2 hk hs'
  cases e with
  | normal => exact fin _ hq
  | ret => exact fin _ hq
  | panic ch => exact fin _ hq
  | exit id => exact hq.elim
  | goto l => exact hq.elim
  | outgrown => exact hq.elim
end Go.Proofs.YtfjiegpnkmomoaaDoor

namespace Go.Proofs.YtfjiegpnkmomoaaDoor
open Go.RowKit
theorem LeaveStop.fn {C : Cx} {nt : NT} {nx : Nat} {fr : List (Nat × SV)} {hp : List (Nat × Option Blk)} {d : DT} {u u' : FrameMode} {k : Out → FrameMode → St → Prop} {m m' : Nat} {args0 : List SV} {H H' : List (Nat × Option Blk)} {o : Out} (h : FunD C d.g m args0 H u m' o u' H') (L : List Nat) (hlen : L.length = m) (hd : noDup L = true) (hlive : liveK H m = true) (hkeys : keysK H' m = true) (hlt : keysLt H' m' = true)
    (ha : ArgLes L (d.args ++ d.caps) args0) (hh : HeapLe hp L H) (hk : k o u' ⟨nt, nx + (m' - m), fr, postH (πf L nx) hp H'⟩) : LeaveStop C ⟨nt, nx, fr, hp⟩ d u k := by
  subst hlen
  have hle := h.le
  refine ⟨h.ent, fun O E a w vs hs hsz hargs => ?_⟩
  have hLlt : ∀ i, i < L.length → L.getD i 0 < nx := fun i hi => by
    have := hlive
    unfold liveK at this
    rw [List.all_eq_true] at this
    obtain ⟨b, hb⟩ := Option.isSome_iff_exists.1 (this i (by simpa using hi))
    obtain ⟨_, h2⟩ := hh.out i b hb
    unfold BlkLe at h2
    split at h2
    · rename_i hl; exact hs.nx _ _ hl
    · rename_i hl; exact hs.nx _ _ hl
    · obtain ⟨⟨b0, q1, _⟩, _⟩ := h2.bs (E := E) (nx := nx) (w := w) rfl fun x hx => hs.hp _ x hx
      exact hs.nx _ _ q1
    · exact h2.elim
  have hπ1 : ∀ i, i < L.length → πf L nx i = L.getD i 0 := fun i hi => by
    show (bif Nat.blt i L.length then L.getD i 0 else nx + (i - L.length)) = _
    have hb : Nat.blt i L.length = true := by simpa using hi
    rw [hb]; rfl
  have hπ2 : ∀ i, L.length ≤ i → πf L nx i = nx + (i - L.length) := fun i hi => by
    show (bif Nat.blt i L.length then L.getD i 0 else nx + (i - L.length)) = _
    cases hb : Nat.blt i L.length with
    | true => have : i < L.length := by simpa using hb
              omega
    | false => rfl
  have := callP hs L (Pm := fun p => CallsD C.P d.g vs u w fun e u1 w' => (u1 = u' ∧ o.like e) ∧ p undef w') (m' := m') (H' := H') (r := .any) (args := d.args ++ d.caps) (args0 := args0) (fun p q hpq hc => hc.mono fun e u1 w' ⟨h1, h2⟩ => ⟨h1, hpq _ w' h2⟩) vs h.le
    (fun Ec hS hr => (h.out Ec w vs hS (by rw [hsz]; exact ha.out.1) hr).mono fun e u1 w' ⟨e1, E', ⟨h1, h2, h3, h4, h5, h6⟩, ho⟩ => by
      refine ⟨⟨e1, ?_⟩, E', h1, h2, h3, h4, h5, h6, .any _⟩
      cases o <;> cases e <;> first | trivial | exact ho | exact ho.elim)
    hd hlive hkeys hlt ha hh (F := fun l => nx ≤ l) (nx' := nx + (m' - L.length)) (Fresh.ge (by show nx ≤ _; omega) hs.nx) (fun l hl => Nat.le_trans hs.nl hl) (πf L nx) hπ1 (fun i h1 h2 => ⟨by rw [hπ2 i h1]; omega, by rw [hπ2 i h1]; omega⟩)
    (fun i j hi hj hij => by
      by_cases h1 : i < L.length <;> by_cases h2 : j < L.length
      · rw [hπ1 i h1, hπ1 j h2] at hij
        exact Classical.byContradiction fun hne => noDup_ne hd h1 h2 hne hij
      · rw [hπ1 i h1, hπ2 j (by omega)] at hij; have := hLlt i h1; omega
      · rw [hπ1 j h2, hπ2 i (by omega)] at hij; have := hLlt j h2; omega
      · rw [hπ2 i (by omega), hπ2 j (by omega)] at hij; omega) hsz hargs
  exact this.mono fun e u1 w' ⟨⟨h1, h1'⟩, E', h2, _⟩ => ⟨o, E', _, by rw [h1]; exact hk, h2, h1'⟩
section
variable {P : Program} {Q Q' : Exit → Act → List Frame → World → Prop} {a : Act} {cs : List Frame} {w : World}
theorem wpS_mono {c : Code} (hq : ∀ e a cs w, Q e a cs w → Q' e a cs w) (h : c.wpS P Q a cs w) : c.wpS P Q' a cs w :=
  fun b k hb hr => let ⟨e, a', cs', w', q, r⟩ := h b k hb hr; ⟨e, a', cs', w', hq _ _ _ _ q, r⟩
def inBlockS (id : Nat) (Q : Exit → Act → List Frame → World → Prop) : Exit → Act → List Frame → World → Prop
  | .exit id', a, cs, w => if id' = id then Q .normal a cs w else Q (.exit id') a cs w
  | e, a, cs, w => Q e a cs w
theorem wpS_block {id : Nat} {c : Code} (h : c.wpS P (inBlockS id Q) a cs w) : (Code.block id c).wpS P Q a cs w := by
  intro b k hb hr
  obtain ⟨e, a₁, cs₁, w₁, hq, harr⟩ := h b (.inBlock id :: k) hb hr
  cases e with
  | normal => exact ⟨.normal, a₁, cs₁, w₁, hq, .head step_block (Steps.trans harr (.one step_inBlock))⟩
  | exit id' =>
    by_cases hid : id' = id
    · simp only [inBlockS, hid, if_true] at hq
      exact ⟨.normal, a₁, cs₁, w₁, hq, .head step_block (harr k (by simp [exitTo, hid]))⟩
    · simp only [inBlockS, hid, if_false] at hq
      refine ⟨.exit id', a₁, cs₁, w₁, hq, fun k' hk => .head step_block (harr k' ?_)⟩
      have : (id == id') = false := by simp; exact fun h => hid h.symm
      simp [exitTo, this, hk]
  | goto l => exact ⟨_, a₁, cs₁, w₁, hq, fun k' hk => .head step_block (harr k' (by simp [gotoIn, hk]))⟩
  | ret => exact ⟨_, a₁, cs₁, w₁, hq, .of_steps (.one step_block) harr⟩
  | panic ch => exact ⟨_, a₁, cs₁, w₁, hq, .of_steps (.one step_block) harr⟩
  | outgrown => exact ⟨_, a₁, cs₁, w₁, hq, .of_steps (b := b) (k := k) (cs := cs₁) (e := .outgrown) (.one step_block) harr⟩
def roundsS (P : Program) (c : Code) (Q : Exit → Act → List Frame → World → Prop) : Nat → Act → List Frame → World → Prop
  | 0, _, _, _ => False
  | n + 1, a, cs, w => c.wpS P (Exit.thenS (roundsS P c Q n) Q) a cs w
theorem wpS_loop_rounds {c : Code} (n : Nat) (h : roundsS P c Q n a cs w) : (Code.loop c).wpS P Q a cs w := by
  intro b k hb hr
  have key : ∀ n a cs w, roundsS P c Q n a cs w →
      ∃ e a' cs' w', Q e a' cs' w' ∧ Arrives P (lone (b.at a (.code c :: .inLoop c :: k)) cs w) b k cs' e a' w' := by
    intro n
    induction n with
    | zero => intro a cs w h; exact h.elim
    | succ n ih =>
      intro a cs w h
      obtain ⟨e, a₁, cs₁, w₁, hq, harr⟩ := h b (.inLoop c :: k) hb hr
      cases e with
      | normal =>
        obtain ⟨e₂, a₂, cs₂, w₂, hq₂, harr₂⟩ := ih a₁ cs₁ w₁ hq
        exact ⟨e₂, a₂, cs₂, w₂, hq₂, .of_steps (Steps.trans harr (.one step_inLoop)) harr₂⟩
      | exit id => exact ⟨_, a₁, cs₁, w₁, hq, .pass (x := .inLoop c) rfl (fun _ _ => .inl (by simp)) harr⟩
      | goto l => exact ⟨_, a₁, cs₁, w₁, hq, .pass (x := .inLoop c) rfl (fun _ _ => .inl (by simp)) harr⟩
      | ret => exact ⟨_, a₁, cs₁, w₁, hq, .pass (x := .inLoop c) rfl (fun _ _ => .inl (by simp)) harr⟩
      | panic ch => exact ⟨_, a₁, cs₁, w₁, hq, .pass (x := .inLoop c) rfl (fun _ _ => .inl (by simp)) harr⟩
      | outgrown => exact ⟨_, a₁, cs₁, w₁, hq, .pass (x := .inLoop c) rfl (fun _ _ => .inl (by simp)) harr⟩
  obtain ⟨e, a', cs', w', hq, harr⟩ := key n a cs w h
  exact ⟨e, a', cs', w', hq, .of_steps (.one step_loop) harr⟩
def wpListS (P : Program) (ops : Array Oper) (Q : Exit → Act → List Frame → World → Prop) : List Oper → Act → List Frame → World → Prop
  | [], a, cs, w => Q .normal a cs w
  | o :: rest, a, cs, w =>
    if Region.wanted o (yielded ops a.tmps) then
      match (execOp a.eval o).run P w with
      | .ok .recover w' =>
        match recoverD cs with
        | some (v, cs') => wpListS P ops Q rest (a.put o.dst v) cs' w'
        | none => wpListS P ops Q rest (a.put o.dst .nilIface) cs w'
      | r => o.upon P a (fun a' w' => wpListS P ops Q rest a' cs w') (fun e a' w' => Q e a' cs w') r
    else wpListS P ops Q rest (a.put o.dst undef) cs w
theorem wpOpsS_eq {ops : Array Oper} (l : List Oper) : ∀ k, (∀ j, l[j]? = ops[k + j]?) → wpOpsS P ops Q (List.range' k l.length) = wpListS P ops Q l := by
  induction l with
  | nil => intro k _; funext a cs w; simp [wpOpsS, wpListS]
  | cons o l ih =>
    intro k h
    have h0 : ops[k]? = some o := by simpa using (h 0).symm
    have ih' := ih (k + 1) (fun j => by have := h (j + 1); simpa [Nat.add_assoc, Nat.add_comm 1 j] using this)
    funext a cs w
    simp only [List.length_cons, List.range'_succ, wpOpsS, h0, wpListS, ih']
    by_cases hw : Region.wanted o (yielded ops a.tmps) = true
    · simp only [hw, if_true]
      cases (execOp a.eval o).run P w with
      | ok n w' =>
        cases n <;> first | rfl | (cases recoverD cs <;> rfl)
      | _ => rfl
    · simp only [hw, if_false, Bool.false_eq_true]
theorem wpS_region_list {id : Nat} {l : List Oper} (h : wpListS P l.toArray Q l a cs w) : (Code.region id l.toArray false).wpS P Q a cs w :=
  wpS_region (by rw [List.range_eq_range', List.size_toArray, wpOpsS_eq l 0 (by simp)]; exact h)
theorem wpListS_op {ops : Array Oper} {o : Oper} {r : List Oper} (hw : Region.wanted o (yielded ops a.tmps) = true) (h : o.wp P a w (fun a' w' => wpListS P ops Q r a' cs w') (fun e a' w' => Q e a' cs w')) : wpListS P ops Q (o :: r) a cs w := by
  unfold wpListS
  rw [if_pos hw]
  unfold Oper.wp at h
  cases hr : (execOp a.eval o).run P w with
  | ok n w' => rw [hr] at h; cases n <;> first | exact h | exact h.elim
  | _ => rw [hr] at h; exact h
end
end Go.Proofs.YtfjiegpnkmomoaaDoor

namespace Go.Proofs.YtfjiegpnkmomoaaDoor
open Go.RowKit
theorem execG_okS {C : Cx} {O : Org} {ops : List Oper} {Q : Exit → Act → List Frame → World → Prop} {cs : List Frame} {o : Oper} {r : List Oper} {E : Env} {S : St} {a : Act} {w : World} {k : St → Prop} (h : execG C ops S o k) (hs : Sat O E S a w)
    (hk : ∀ S' E' a' w', k S' → Sat O E' S' a' w' → wpListS C.P ops.toArray Q r a' cs w') : wpListS C.P ops.toArray Q (o :: r) a cs w := by
  unfold execG at h
  split at h
  · rename_i hg
    refine wpListS_op (by simp [Region.wanted, hg]) (val1_ok hs h _ _ fun v E' S' w' x h1 h2 h3 => ?_)
    obtain ⟨S'', g1, g2⟩ := putK_ok h2 h3 h1
    exact hk _ _ _ _ g1 g2
  · rename_i j want hg
    split at h
    · rename_i t ht
      split at h
      · rename_i b hb
        have hv := hs.fr t
        rw [hb] at hv
        have hv := hv.val_inv
        have hy : yielded ops.toArray a.tmps j = some b := by
          unfold yielded
          have h1 : (ops.toArray[j]?).bind (·.dst) = some t := by simpa using ht
          have h2 : a.tmps[t]? = some (.bool b) := by
            rw [Array.getD_eq_getD_getElem?] at hv
            cases hq : a.tmps[t]? with
            | none => rw [hq] at hv; simp [undef] at hv
            | some y => rw [hq] at hv; simp at hv; rw [hv]
          rw [h1]
          simp [h2]
        have hs' := hs.setSlot hv
        have run : b = want → runK C (setSlot S t b) o k → wpListS C.P ops.toArray Q (o :: r) a cs w := fun hbw h => by
          refine wpListS_op (by simp [Region.wanted, hg, hy, hbw]) (val1_ok hs' h _ _ fun v E' S' w' x h1 h2 h3 => ?_)
          obtain ⟨S'', g1, g2⟩ := putK_ok h2 h3 h1
          exact hk _ _ _ _ g1 g2
        have skip : b ≠ want → putK (setSlot S t b) o.dst (.tup []) k → wpListS C.P ops.toArray Q (o :: r) a cs w := fun hbw h => by
          unfold wpListS
          rw [if_neg (by simp [Region.wanted, hg, hy, hbw])]
          obtain ⟨S'', g1, g2⟩ := putK_ok hs' (RS.skip _ _ _) h
          exact hk _ _ _ _ g1 g2
        cases want <;> cases b
        · exact run rfl h
        · exact skip (by simp) h
        · exact skip (by simp) h
        · exact run rfl h
      · rename_i hb
        have hv := hs.fr t
        rw [hb] at hv
        have hv := hv.skip_inv
        have hy : yielded ops.toArray a.tmps j = none := by
          unfold yielded
          have h1 : (ops.toArray[j]?).bind (·.dst) = some t := by simpa using ht
          rw [h1]
          rw [Array.getD_eq_getD_getElem?] at hv
          cases hq : a.tmps[t]? with
          | none => simp [hq]
          | some y => rw [hq] at hv; simp at hv; subst hv; simp [hq, undef]
        unfold wpListS
        rw [if_neg (by simp [Region.wanted, hg, hy])]
        obtain ⟨S'', g1, g2⟩ := putK_ok hs (RS.skip _ _ _) h
        exact hk _ _ _ _ g1 g2
      · exact h.elim
    · exact h.elim
def recK (u : FrameMode) (k : Value → FrameMode → Prop) : Prop :=
  match u with
  | .panicking ({ v, recovered := false, goexit := false } :: older) => v.oneCell' = true ∧ k v (.panicking ({ v, recovered := true } :: older))
  | .returning => k .nilIface .returning
  | _ => False
def execRc (C : Cx) (ops : List Oper) : List Oper → FrameMode → St → (FrameMode → St → Prop) → Prop
  | [], u, S, k => k u S
  | o :: r, u, S, k => match o.op with
    | .call c => match c.callee with
      | .builtin .recover => o.guard = none ∧ recK u fun v u' => putK S o.dst (.d (.val v)) fun S' => execRc C ops r u' S' k
      | _ => execG C ops S o fun S' => execRc C ops r u S' k
    | _ => execG C ops S o fun S' => execRc C ops r u S' k
theorem execRc_ok {C : Cx} {O : Org} {ops : List Oper} {Q : Exit → Act → List Frame → World → Prop} {c₀ : Frame} {cs : List Frame} : ∀ (l : List Oper) {u : FrameMode} {E : Env} {S : St} {a : Act} {w : World} {k : FrameMode → St → Prop}, execRc C ops l u S k → Sat O E S a w →
    (∀ u' S' E' a' w', k u' S' → Sat O E' S' a' w' → Q .normal a' ({ c₀ with mode := u' } :: cs) w') → wpListS C.P ops.toArray Q l a ({ c₀ with mode := u } :: cs) w
  | [], u, E, S, a, w, k, h, hs, hk => hk u S E a w h hs
  | o :: r, u, E, S, a, w, k, h, hs, hk => by
    unfold execRc at h
    split at h
    · rename_i c ho
      split at h
      · rename_i hc
        obtain ⟨hg, h⟩ := h
        have hr : (execOp a.eval o).run C.P w = .ok .recover w := by simp [execOp, ho, resolve, hc, invoke, builtin]
        unfold wpListS
        rw [if_pos (by simp [Region.wanted, hg]), hr]
        unfold recK at h
        split at h
        · rename_i v older
          obtain ⟨hv, h⟩ := h
          obtain ⟨S', g1, g2⟩ := putK_ok hs (RS.d _ _ (.val v hv)) h
          exact execRc_ok r g1 g2 hk
        · obtain ⟨S', g1, g2⟩ := putK_ok hs (RS.d _ _ (.val .nilIface rfl)) h
          exact execRc_ok r g1 g2 hk
        · exact h.elim
      · exact execG_okS h hs fun S' E' a' w' h1 h2 => execRc_ok r h1 h2 hk
    · exact execG_okS h hs fun S' E' a' w' h1 h2 => execRc_ok r h1 h2 hk
structure WpR (C : Cx) (c : Code) (u : FrameMode) (S : St) (Q : Exit → FrameMode → St → Prop) : Prop where
  out : ∀ O E a w (c₀ : Frame) (cs : List Frame), Sat O E S a w → c.wpS C.P (fun e a' cs' w' => ∃ u' S' E', cs' = { c₀ with mode := u' } :: cs ∧ Q e u' S' ∧ Sat O E' S' a' w') a ({ c₀ with mode := u } :: cs) w
theorem WpR.of {C : Cx} {c : Code} {u : FrameMode} {S : St} {Q : Exit → FrameMode → St → Prop} (h : Wp C c S fun e S' => Q e u S') : WpR C c u S Q :=
  ⟨fun O E a w c₀ cs hs => wpS_of_wp (wp_mono (h.out O E a w hs) fun e a' w' ⟨S', E', h1, h2⟩ => ⟨u, S', E', rfl, h1, h2⟩)⟩
def thenR (C : Cx) (y : Code) (Q : Exit → FrameMode → St → Prop) : Exit → FrameMode → St → Prop
  | .normal, u, S => WpR C y u S Q
  | e, u, S => Q e u S
theorem WpR.seq {C : Cx} {x y : Code} {u : FrameMode} {S : St} {Q : Exit → FrameMode → St → Prop} (h : WpR C x u S (thenR C y Q)) : WpR C (.seq x y) u S Q := by
  refine ⟨fun O E a w c₀ cs hs => wpS_seq (wpS_mono ?_ (h.out O E a w c₀ cs hs))⟩
  rintro e a' cs' w' ⟨u', S', E', rfl, h1, h2⟩
  cases e with
  | normal => exact h1.out O E' a' w' c₀ cs h2
  | _ => exact ⟨u', S', E', rfl, h1, h2⟩
def blockR (id : Nat) (Q : Exit → FrameMode → St → Prop) : Exit → FrameMode → St → Prop
  | .exit id', u, S => bif Nat.beq id' id then Q .normal u S else Q (.exit id') u S
  | e, u, S => Q e u S
theorem WpR.block {C : Cx} {id : Nat} {c : Code} {u : FrameMode} {S : St} {Q : Exit → FrameMode → St → Prop} (h : WpR C c u S (blockR id Q)) : WpR C (.block id c) u S Q := by
  refine ⟨fun O E a w c₀ cs hs => wpS_block (wpS_mono ?_ (h.out O E a w c₀ cs hs))⟩
  rintro e a' cs' w' ⟨u', S', E', rfl, h1, h2⟩
  cases e with
  | exit id' =>
    show if id' = id then _ else _
    have h1 : bif Nat.beq id' id then Q .normal u' S' else Q (.exit id') u' S' := h1
    by_cases e : id' = id
    · subst e; rw [if_pos rfl]; rw [Nat.beq_refl] at h1; exact ⟨u', S', E', rfl, h1, h2⟩
    · have e2 : Nat.beq id' id = false := by cases hq : Nat.beq id' id with | true => exact absurd (Nat.eq_of_beq_eq_true hq) e | false => rfl
      rw [if_neg e]; rw [e2] at h1; exact ⟨u', S', E', rfl, h1, h2⟩
  | _ => exact ⟨u', S', E', rfl, h1, h2⟩
def condR (C : Cx) (x : SV) (u : FrameMode) (S : St) (c d : Code) (Q : Exit → FrameMode → St → Prop) : Prop :=
  match x with
  | .d (.val (.bool b)) => bif b then WpR C c u S Q else WpR C d u S Q
  | _ => False
theorem WpR.cond {C : Cx} {x : Operand} {c d : Code} {u : FrameMode} {S : St} {Q : Exit → FrameMode → St → Prop} (h : condR C (ev S x) u S c d Q) : WpR C (.cond x c d) u S Q :=
  ⟨fun O E a w c₀ cs hs => by
    have hx := ev_ok hs x
    unfold condR at h
    split at h
    · rename_i b e
      rw [e] at hx
      refine wpS_cond hx.val_inv ?_
      cases b
      · exact h.out O E a w c₀ cs hs
      · exact h.out O E a w c₀ cs hs
    · exact h.elim⟩
theorem WpR.region {C : Cx} {id : Nat} {l : List Oper} {u : FrameMode} {S : St} {Q : Exit → FrameMode → St → Prop} (h : execRc C l l u S fun u' S' => Q .normal u' S') : WpR C (.region id l.toArray false) u S Q :=
  ⟨fun O E a w c₀ cs hs => wpS_region_list (execRc_ok l h hs fun u' S' E' a' w' h1 h2 => ⟨u', S', E', rfl, h1, h2⟩)⟩
def WpRN (C : Cx) (c : Code) (Q : Exit → FrameMode → St → Prop) : Nat → FrameMode → St → Prop
  | 0, _, _ => False
  | n + 1, u, S => WpR C c u S fun e u' S' => match e with
    | .normal => WpRN C c Q n u' S'
    | e => Q e u' S'
theorem WpRN_rounds {C : Cx} {c : Code} {Q : Exit → FrameMode → St → Prop} {O : Org} {c₀ : Frame} {cs : List Frame} : ∀ (n : Nat) (u : FrameMode) (S : St) (E : Env) (a : Act) (w : World), WpRN C c Q n u S → Sat O E S a w →
    roundsS C.P c (fun e a' cs' w' => ∃ u' S' E', cs' = { c₀ with mode := u' } :: cs ∧ Q e u' S' ∧ Sat O E' S' a' w') n a ({ c₀ with mode := u } :: cs) w
  | 0, _, _, _, _, _, h, _ => h.elim
  | n + 1, u, S, E, a, w, h, hs => by
    refine wpS_mono ?_ (WpR.out h O E a w c₀ cs hs)
    rintro e a' cs' w' ⟨u', S', E', rfl, h1, h2⟩
    cases e with
    | normal => exact WpRN_rounds n u' S' E' a' w' h1 h2
    | _ => exact ⟨u', S', E', rfl, h1, h2⟩
theorem WpR.loopN {C : Cx} {c : Code} {u : FrameMode} {S : St} {Q : Exit → FrameMode → St → Prop} (n : Nat) (h : WpRN C c Q n u S) : WpR C (.loop c) u S Q :=
  ⟨fun O E a w c₀ cs hs => wpS_loop_rounds n (WpRN_rounds n u S E a w h hs)⟩
def finR (C : Cx) (rs : List ResultVar) (m m' : Nat) (o : Out) (u' : FrameMode) (H' : List (Nat × Option Blk)) : Exit → FrameMode → St → Prop :=
  fun e u1 S => u1 = u' ∧ finO C rs m m' o H' e S
theorem FunD.mkR {C : Cx} {g m m' : Nat} {args : List SV} {H H' : List (Nat × Option Blk)} {u u' : FrameMode} {o : Out} {fn : Func} {c : Code} (hf : C.P.funcs[g]? = some fn) (hb : fn.body = some c) (hn : (fn.name == "runtime.NumGoroutine") = false) (hle : args.length ≤ fn.ntmps) (hmm : m ≤ m')
    (h : WpR C c u ⟨⟨fn.ntmps, m⟩, m, slots 0 args, H⟩ (finR C fn.results.toList m m' o u' H')) : FunD C g m args H u m' o u' H' := by
  refine ⟨.mk hf hn (by simp [hb]), hmm, fun E w vs hS hsz hargs => callsD_of_wpS hf hb fun c₀ cs hu => ?_⟩
  have hc : ({ c₀ with mode := u } : Frame) = c₀ := by subst hu; rfl
  have hh := h.out _ E _ w c₀ cs (sat_enter (C := C) hle hS hsz hargs)
  rw [hc] at hh
  refine wpS_mono ?_ hh
  rintro e a' cs' w' ⟨u1, S', E', rfl, ⟨rfl, hq⟩, hs'⟩
  have fin : ∀ r, o = .ret r → (resK C S' fn.results.toList fun vs => tupK vs fun x => FinLe m S' x m' r H') → bodyPostS C.P fn c₀ cs (fun e u2 w' => u2 = u1 ∧ ∃ E', PostH E m H w m' H' w' E' ∧ o.post E' m' w' e) .normal a' ({ c₀ with mode := u1 } :: cs) w' := by
    rintro r rfl hq
    obtain ⟨xs, us, h1, h2, h3, h4⟩ := resK_ok hs' _ _ hq
    obtain ⟨x, g1, g2⟩ := tupK_ok h3 h4 h1
    obtain ⟨E2, p1, p2⟩ := fin_ok hs' rfl rfl rfl rfl (fun l hl => ⟨rfl, rfl⟩) g1 g2
    refine ⟨hs'.df, u1, rfl, (if h : us.toArray.size = 1 then us.toArray[0] else .tuple us.toArray), ?_, rfl, E2, p1, p2⟩
    rw [results_eq, show fn.results = fn.results.toList.toArray by simp, List.mapM_toArray]
    simp only [Sem.run_bind, Sem.run_map, h2]
    rfl
  cases e with
  | normal =>
    cases o with
    | ret r => exact fin r rfl hq
    | pan ch => exact hq.elim
  | ret =>
    cases o with
    | ret r => exact fin r rfl hq
    | pan ch => exact hq.elim
  | panic ch =>
    obtain ⟨rfl, hq⟩ := hq
    obtain ⟨E2, p1, _⟩ := fin_ok hs' rfl rfl rfl rfl (fun l hl => ⟨rfl, rfl⟩) hq (.any undef)
    exact ⟨hs'.df, u1, rfl, rfl, E2, p1, rfl⟩
  | exit id => exact hq.elim
  | goto l => exact hq.elim
  | outgrown => exact hq.elim
end Go.Proofs.YtfjiegpnkmomoaaDoor

namespace Go.Proofs.YtfjiegpnkmomoaaDoor
open Go.RowKit
def notI : TypeDesc → Bool
  | .interface _ => false
  | _ => true
theorem OpStop.mkI {C : Cx} {S : St} {t : Nat} {x : Operand} {v : Value} {u : TypeDesc} {k : St → SV → Prop} (hx : ev S x = .d (.val v)) (hu : C.P.underlying t = some u) (hni : notI u = true) (h : k S (.d (.val (.iface t v)))) : OpStop C S (.makeInterface t x) k :=
  ⟨fun O E a w o ho hs => by
    have hv := ev_ok hs x
    rw [hx] at hv
    have hv := hv.val_inv
    exact .val (m := Instr.makeInterface t (a.eval x)) ⟨.iface t v, w, E, S, _, by rw [hv]; cases u <;> first | (simp [Instr.makeInterface, run_underlying hu]; done) | exact absurd hni (by simp [notI]), h, hs, .d _ _ (.val _ rfl)⟩ (by simp [execOp, ho])⟩
theorem OpStop.taI {C : Cx} {S : St} {t xt : Nat} {x : Operand} {v : Value} {u : TypeDesc} {k : St → SV → Prop} (hx : ev S x = .d (.val (.iface t v))) (hu : C.P.underlying t = some u) (hni : notI u = true) (h1 : v.oneCell' = true) (h : k S (.tup [.d (.val v), .b true])) : OpStop C S (.typeAssert x xt t true) k :=
  ⟨fun O E a w o ho hs => by
    have hv := ev_ok hs x
    rw [hx] at hv
    have hv := hv.val_inv
    refine .val (m := Instr.typeAssert (a.eval x) xt t true) ⟨.tuple #[v, .bool true], w, E, S, _, by rw [hv]; cases u <;> first | (simp [Instr.typeAssert, run_underlying hu]; done) | exact absurd hni (by simp [notI]), h, hs, ?_⟩ (by simp [execOp, ho])
    refine .tup _ _ rfl fun j hj => ?_
    have : j = 0 ∨ j = 1 := by simp at hj; omega
    rcases this with rfl | rfl
    · exact .d _ _ (.val _ h1)
    · exact .d _ _ (.val _ rfl)⟩
end Go.Proofs.YtfjiegpnkmomoaaDoor

namespace Go.Proofs.YtfjiegpnkmomoaaDoor
open Go.RowKit
end Go.Proofs.YtfjiegpnkmomoaaDoor

namespace Go.Proofs.YtfjiegpnkmomoaaDoor
open Go.RowKit
end Go.Proofs.YtfjiegpnkmomoaaDoor

namespace Go.Proofs.YtfjiegpnkmomoaaDoor
open Go.RowKit
end Go.Proofs.YtfjiegpnkmomoaaDoor

namespace Go.Proofs.YtfjiegpnkmomoaaDoor
open Go.RowKit
end Go.Proofs.YtfjiegpnkmomoaaDoor

namespace Go.Proofs.YtfjiegpnkmomoaaDoor
open Go.RowKit
set_option maxRecDepth 100000
theorem raise_int (n : Int) : FunO TC 15 0 [.agg [.i .u8 11, .i .i64 n]] [] 0 (.pan [{ v := .iface 3 (.int .i64 n), recovered := false }]) [] := by
  refine FunO.mkX Tryd.func15 rfl rfl (Nat.le_of_ble_eq_true rfl) (Nat.le_refl _) (WpX.of ?_)
  have u3 := Tryd.underlying3
  (repeat' (first
    | ((refine Wp.regionP 3 ?_); conv => whnf)
    | with_reducible refine Wp.seq ?_
    | with_reducible refine Wp.block ?_
    | ((with_reducible first | refine Wp.region ?_ | refine Wp.drawL TC_mixed ?_ | refine Wp.cond ?_ | refine Wp.ret ?_ | refine Wp.skip ?_ | refine Wp.exit ?_ | refine Go.mk ?_ | apply Eff1.of); conv => whnf)
    | with_reducible exact rfl
    | ((with_reducible refine Ov.ok zO ?_); conv => whnf)
    | (with_reducible refine Ov.sh1 (by with_unfolding_all exact rfl) ?_)
    | ((with_reducible refine Ov.quo (by omega) (by omega) (by omega) (fun _ _ => ?_)); conv => whnf)
    | ((with_reducible refine And.intro (show drawOK _ _ _ _ = true by kernel_rfl) ?_); conv => whnf)
    | ((with_reducible refine And.intro zC ?_); conv => whnf)
    | ((with_reducible refine And.intro ?hb ?_); (case hb => exact bytes_bd (Nat.le_of_ble_eq_true rfl) (by omega)); (conv => whnf))
    | ((refine DApp.a rfl rfl rfl rfl rfl rfl ?hb ?_); (case hb => exact zB); (conv => whnf))
    | ((refine DApp.b rfl rfl rfl rfl rfl rfl rfl rfl ?hb ?ho ?_); (case hb => exact zB); (case ho => omega); (conv => whnf))
    | ((refine DApp.c rfl rfl rfl rfl rfl ?hb ?_); (case hb => exact zB); (conv => whnf))
    | ((refine DApp.d rfl rfl rfl rfl rfl rfl ?hb ?ho ?_); (case hb => exact zB); (case ho => omega); (conv => whnf))
    | (with_reducible refine Or.inl ?_)
    | ((with_reducible refine IxA.ptr ?_); conv => whnf)
    | ((with_reducible refine nil_no (by omega) ?_); (conv => whnf))
    | ((with_reducible refine nil_any ?_ (fun hn0 => ?_)) <;> (conv => whnf))
    | ((refine OpStop.mkI rfl u3 rfl ?_); conv => whnf)
    | ((refine ways (fun hc => ?_) (fun hc => ?_)) <;> (try simp only [decide_eq_true_eq, decide_eq_false_iff_not, Bool.and_eq_true, Bool.or_eq_true, Bool.and_eq_false_iff, Bool.or_eq_false_iff, Bool.not_eq_true', Bool.not_eq_false', beq_iff_eq, bne_iff_ne, ne_eq, beq_eq_false_iff_ne, bne_eq_false_iff_eq, Bool.not_eq_true, Bool.not_eq_false] at hc) <;> (try (exfalso; omega)) <;> (conv => whnf))))
  exact ⟨rfl, rfl, FinLe.of [] rfl (fun i hi => absurd hi (Nat.not_lt_zero _)) rfl (.rfl _) trivial⟩
theorem told_int (n : Int) : Pure TC 9 [.d (.val (.iface 3 (.int .i64 n)))] (.agg [.i .u8 11, .i .i64 n]) := by
  refine Pure.mk' Tryd.func9 rfl rfl (Nat.le_of_ble_eq_true rfl) ?_
  have u3 := Tryd.underlying3
  (repeat' (first
    | with_reducible refine Wp.seq ?_
    | with_reducible refine Wp.block ?_
    | ((with_reducible first | refine Wp.region ?_ | refine Wp.drawL TC_mixed ?_ | refine Wp.cond ?_ | refine Wp.ret ?_ | refine Wp.skip ?_ | refine Wp.exit ?_ | refine Go.mk ?_ | apply Eff1.of); conv => whnf)
    | with_reducible exact rfl
    | ((with_reducible refine Ov.ok zO ?_); conv => whnf)
    | (with_reducible refine Ov.sh1 (by with_unfolding_all exact rfl) ?_)
    | ((with_reducible refine Ov.quo (by omega) (by omega) (by omega) (fun _ _ => ?_)); conv => whnf)
    | ((with_reducible refine And.intro (show drawOK _ _ _ _ = true by kernel_rfl) ?_); conv => whnf)
    | ((with_reducible refine And.intro zC ?_); conv => whnf)
    | ((with_reducible refine And.intro ?hb ?_); (case hb => exact bytes_bd (Nat.le_of_ble_eq_true rfl) (by omega)); (conv => whnf))
    | ((refine DApp.a rfl rfl rfl rfl rfl rfl ?hb ?_); (case hb => exact zB); (conv => whnf))
    | ((refine DApp.b rfl rfl rfl rfl rfl rfl rfl rfl ?hb ?ho ?_); (case hb => exact zB); (case ho => omega); (conv => whnf))
    | ((refine DApp.c rfl rfl rfl rfl rfl ?hb ?_); (case hb => exact zB); (conv => whnf))
    | ((refine DApp.d rfl rfl rfl rfl rfl rfl ?hb ?ho ?_); (case hb => exact zB); (case ho => omega); (conv => whnf))
    | (with_reducible refine Or.inl ?_)
    | ((with_reducible refine IxA.ptr ?_); conv => whnf)
    | ((with_reducible refine nil_no (by omega) ?_); (conv => whnf))
    | ((with_reducible refine nil_any ?_ (fun hn0 => ?_)) <;> (conv => whnf))
    | ((refine OpStop.taI rfl u3 rfl rfl ?_); conv => whnf)
    | ((refine ways (fun hc => ?_) (fun hc => ?_)) <;> (try simp only [decide_eq_true_eq, decide_eq_false_iff_not, Bool.and_eq_true, Bool.or_eq_true, Bool.and_eq_false_iff, Bool.or_eq_false_iff, Bool.not_eq_true', Bool.not_eq_false', beq_iff_eq, bne_iff_ne, ne_eq, beq_eq_false_iff_ne, bne_eq_false_iff_eq, Bool.not_eq_true, Bool.not_eq_false] at hc) <;> (try (exfalso; omega)) <;> (conv => whnf))))
  exact .rfl _
end Go.Proofs.YtfjiegpnkmomoaaDoor

namespace Go.Proofs.YtfjiegpnkmomoaaDoor
open Go.RowKit
set_option maxRecDepth 100000
set_option maxHeartbeats 4000000
@[reducible] def actD (a : Int × Int) : List D := [.val (.int .u8 a.1), .val (.int .i64 a.2)]
@[reducible] def markD (m : Int × Int × Int) : List D := [.val (.int .u8 m.1), .val (.int .u8 m.2.1), .val (.int .i64 m.2.2)]
@[reducible] def fnD (n : Nat) (f : Nat → Int × Int) : List D := [.sl 2 n fun j => actD (f j)]
def awF (i j : Nat) : Int × Int :=
  match i, j with
  | 0, 0 => (1, 1)
  | 0, 1 => (3, 1)
  | 0, 2 => (11, 7)
  | 0, 3 => (1, 2)
  | 1, 0 => (5, 0)
  | 1, 1 => (1, 3)
  | _, _ => (0, 0)
@[reducible] def awN (i : Nat) : Nat := match i with | 0 => 4 | 1 => 2 | _ => 0
@[reducible] def awP : D := .sl 1 2 fun i => fnD (awN i) (awF i)
@[reducible] def p7 (r : Bool) : List PanicEntry := [{ v := .iface 3 (.int .i64 7), recovered := r }]
theorem aw_frame1 : FunD TC 10 2 [.ptr 0 0, .i .i64 1] [(0, some (.cells [.d awP, .i .i64 4093, .sl 1 3 0 1])), (1, some (.row 34 3 1 fun _ => markD (1, 0, 1)))] (.panicking (p7 false))
    3 (.ret (.tup [])) (.panicking (p7 true)) [(0, some (.cells [.d awP, .i .i64 4091, .sl 2 3 0 3])), (1, none), (2, some (.row 34 3 3 fun i => markD (match i with | 0 => (1, 0, 1) | 1 => (5, 11, 7) | _ => (1, 0, 3))))] := by
  refine FunD.mkR Tryd.func10 rfl rfl (Nat.le_of_ble_eq_true rfl) (by decide) ?_
  have u20 := Tryd.underlying20
  (repeat' (first
    | ((with_reducible refine And.intro (show Oper.guard _ = none from rfl) ?_); conv => whnf)
    | ((with_reducible refine And.intro (show Value.oneCell' _ = true from rfl) ?_); conv => whnf)
    | ((with_reducible refine And.intro (show _ ≤ _ ∧ _ < _ by decide) ?_); conv => whnf)
    | with_reducible refine WpR.seq ?_
    | with_reducible refine WpR.block ?_
    | ((with_reducible refine WpR.region ?_); conv => whnf)
    | ((with_reducible refine WpR.cond ?_); conv => whnf)
    | ((with_reducible refine WpR.loopN 3 ?_); conv => whnf)
    | ((with_reducible refine WpR.of (Wp.drawL TC_mixed ?_)); conv => whnf)
    | ((with_reducible refine WpR.of (Wp.exit ?_)); conv => whnf)
    | ((with_reducible refine WpR.of (Wp.ret ?_)); conv => whnf)
    | ((with_reducible refine WpR.of (Wp.skip ?_)); conv => whnf)
    | with_reducible refine Wp.seq ?_
    | with_reducible refine Wp.block ?_
    | ((with_reducible first | refine Wp.region ?_ | refine Wp.drawL TC_mixed ?_ | refine Wp.cond ?_ | refine Wp.ret ?_ | refine Wp.skip ?_ | refine Wp.exit ?_ | refine Go.mk ?_ | apply Eff1.of); conv => whnf)
    | with_reducible exact rfl
    | ((with_reducible refine Ov.ok zO ?_); conv => whnf)
    | (with_reducible refine Ov.sh1 (by with_unfolding_all exact rfl) ?_)
    | ((with_reducible refine Ov.quo (by omega) (by omega) (by omega) (fun _ _ => ?_)); conv => whnf)
    | ((with_reducible refine And.intro (show drawOK _ _ _ _ = true by kernel_rfl) ?_); conv => whnf)
    | ((with_reducible refine And.intro zC ?_); conv => whnf)
    | ((with_reducible refine And.intro ?hb ?_); (case hb => exact bytes_bd (Nat.le_of_ble_eq_true rfl) (by omega)); (conv => whnf))
    | ((refine DApp.a rfl rfl rfl rfl rfl rfl ?hb ?_); (case hb => exact zB); (conv => whnf))
    | ((refine DApp.b rfl rfl rfl rfl rfl rfl rfl rfl ?hb ?ho ?_); (case hb => exact zB); (case ho => omega); (conv => whnf))
    | ((refine DApp.c rfl rfl rfl rfl rfl ?hb ?_); (case hb => exact zB); (conv => whnf))
    | ((refine DApp.d rfl rfl rfl rfl rfl rfl ?hb ?ho ?_); (case hb => exact zB); (case ho => omega); (conv => whnf))
    | (with_reducible refine Or.inl ?_)
    | ((with_reducible refine IxA.ptr ?_); conv => whnf)
    | ((with_reducible refine nil_no (by omega) ?_); (conv => whnf))
    | ((with_reducible refine nil_any ?_ (fun hn0 => ?_)) <;> (conv => whnf))
    | ((with_reducible refine CallStop.pure (told_int 7) rfl rfl ?_); conv => whnf) | ((with_reducible refine DCall.pure (told_int 7) rfl rfl ?_); conv => whnf)
    | ((refine BinStop.ifNil u20 ?_); conv => whnf)
    | ((refine BinStop.nilNil u20 ?_); conv => whnf)
    | ((refine ways (fun hc => ?_) (fun hc => ?_)) <;> (try simp only [decide_eq_true_eq, decide_eq_false_iff_not, Bool.and_eq_true, Bool.or_eq_true, Bool.and_eq_false_iff, Bool.or_eq_false_iff, Bool.not_eq_true', Bool.not_eq_false', beq_iff_eq, bne_iff_ne, ne_eq, beq_eq_false_iff_ne, bne_eq_false_iff_eq, Bool.not_eq_true, Bool.not_eq_false] at hc) <;> (try (exfalso; omega)) <;> (conv => whnf))))
  refine ⟨rfl, ?_⟩
  conv => whnf
  refine FinLe.of [0, 1, 34] rfl (fun i hi => by have : i = 0 ∨ i = 1 := (by omega); rcases this with h | h <;> subst h <;> rfl) rfl (.rfl _) ?_
  conv => whnf
  refine ⟨?_, ?_, trivial⟩ <;> (conv => whnf)
  · repeat' (first | exact trivial | exact SV.Le.rfl _ | refine And.intro ?_ ?_)
  · exact ⟨⟨rfl, rfl, rfl⟩, fun i hi => by rcases i with _ | _ | _ | i <;> first | rfl | (exfalso; omega)⟩
end Go.Proofs.YtfjiegpnkmomoaaDoor
