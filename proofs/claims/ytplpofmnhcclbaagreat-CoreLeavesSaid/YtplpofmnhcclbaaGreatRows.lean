/-
  No cell of these rows narrows 'for every input' (looked for: loops, veiled, ifaces, maps, wideKeys, modest, calm, conditions, laid).
  DERIVED. THE GIVEN ROWS OF THIS SEAT. 11 by the template 'for every input the law returns true; each argument reads behind the call as it read before'; 0 by the template 'total and deterministic' (their statements: YtplpofmnhcclbaaGreatTotals.lean).
  GIVEN WITH THE SEED: the statements are not yours to turn. If you find one false, say at which input.
  Laid BY PROGRAM, IN A SANDBOX (cutbox-rows.mjs): the forced cells as the released guide's own fill.sh prints them over the translation 502b79d98b52e214… (all of the seat's roots in one cut). By AI agents, Wed Nov 11 2026. No macro, syntax, notation, axiom, sorry.
-/
import Derived.Test.YtplpofmnhcclbaaGreatChecked
import GoSem.Claim
import GoSem.ClaimJoined
import GoSem.ClaimMapViews
import Derived.JoinedTies
import Derived.KernelRfl
namespace Go.Proofs.YtplpofmnhcclbaaGreat
/- THE CELL 'sum', in the pinned program and in every row, IS THE sha256 OF THE DUMP (.gsa) THAT YtplpofmnhcclbaaGreatProg.lean LOADS. Nothing in Lean hashes anything: it is a label: what it is worth is what the hold of that sum in a sandbox is worth. -/
noncomputable def Tryz.pinned : Pinned := { name := "ytplpofmnhcclbaagreat", sum := "502b79d98b52e214cb7841f0c17e131c0dcb174891ebe4d88d72c1d47376e7e2", checked := Tryz.checked }
namespace Rows
def none {H : Type} : Left H := { results := [], args := [] }

/-- 'spigotlaw17.CoreFree': WHATEVER THE INPUT: true; the input reads as it did. -/
def coreFreeSpec : ChangeSpec := { name := "coreFree", fn := fun _ => fun
  | [d1, d2, d3] => { results := [.lit (.bool true)], args := [d1, d2, d3] }
  | _ => none }
def coreFreeRow : OpenClaim := { program := "ytplpofmnhcclbaagreat", sum := "502b79d98b52e214cb7841f0c17e131c0dcb174891ebe4d88d72c1d47376e7e2", func := "spigot/spigotlaw17.CoreFree", spec := "coreFree", inPlace := ["internal/bytealg.Compare", "slices.overlaps[spigot/api.Cell]", "slices.overlaps[int64]"], unfollowed := true, recurses := true, apart := false }
def CoreFreeSaid : Prop := coreFreeRow.holds Tryz.pinned (OpenSpec.ofChange coreFreeSpec)

/-- ITS FALSE NEIGHBOUR: 'it returns false'. Refute it at one input. -/
def coreFreeWrong : ChangeSpec := { name := "coreFree", fn := fun _ => fun
  | [d1, d2, d3] => { results := [.lit (.bool false)], args := [d1, d2, d3] }
  | _ => none }
def CoreFreeWrongFalsely : Prop := coreFreeRow.holds Tryz.pinned (OpenSpec.ofChange coreFreeWrong)

/-- 'spigotlaw17.CoreAlone': WHATEVER THE INPUT: true; the input reads as it did. -/
def coreAloneSpec : ChangeSpec := { name := "coreAlone", fn := fun _ => fun
  | [d1, d2, d3] => { results := [.lit (.bool true)], args := [d1, d2, d3] }
  | _ => none }
def coreAloneRow : OpenClaim := { program := "ytplpofmnhcclbaagreat", sum := "502b79d98b52e214cb7841f0c17e131c0dcb174891ebe4d88d72c1d47376e7e2", func := "spigot/spigotlaw17.CoreAlone", spec := "coreAlone", inPlace := ["internal/bytealg.Compare", "slices.overlaps[spigot/api.Cell]", "slices.overlaps[int64]"], unfollowed := true, recurses := true, apart := false }
def CoreAloneSaid : Prop := coreAloneRow.holds Tryz.pinned (OpenSpec.ofChange coreAloneSpec)

/-- ITS FALSE NEIGHBOUR: 'it returns false'. Refute it at one input. -/
def coreAloneWrong : ChangeSpec := { name := "coreAlone", fn := fun _ => fun
  | [d1, d2, d3] => { results := [.lit (.bool false)], args := [d1, d2, d3] }
  | _ => none }
def CoreAloneWrongFalsely : Prop := coreAloneRow.holds Tryz.pinned (OpenSpec.ofChange coreAloneWrong)

/-- 'spigotlaw17.CoreLevels': WHATEVER THE INPUT: true; the input reads as it did. -/
def coreLevelsSpec : ChangeSpec := { name := "coreLevels", fn := fun _ => fun
  | [d1, d2] => { results := [.lit (.bool true)], args := [d1, d2] }
  | _ => none }
def coreLevelsRow : OpenClaim := { program := "ytplpofmnhcclbaagreat", sum := "502b79d98b52e214cb7841f0c17e131c0dcb174891ebe4d88d72c1d47376e7e2", func := "spigot/spigotlaw17.CoreLevels", spec := "coreLevels", inPlace := ["internal/bytealg.Compare", "slices.overlaps[spigot/api.Cell]", "slices.overlaps[int64]"], unfollowed := true, recurses := true, apart := false }
def CoreLevelsSaid : Prop := coreLevelsRow.holds Tryz.pinned (OpenSpec.ofChange coreLevelsSpec)

/-- ITS FALSE NEIGHBOUR: 'it returns false'. Refute it at one input. -/
def coreLevelsWrong : ChangeSpec := { name := "coreLevels", fn := fun _ => fun
  | [d1, d2] => { results := [.lit (.bool false)], args := [d1, d2] }
  | _ => none }
def CoreLevelsWrongFalsely : Prop := coreLevelsRow.holds Tryz.pinned (OpenSpec.ofChange coreLevelsWrong)

/-- 'spigotlaw17.CoreSerials': WHATEVER THE INPUT: true; the input reads as it did. -/
def coreSerialsSpec : ChangeSpec := { name := "coreSerials", fn := fun _ => fun
  | [d1, d2] => { results := [.lit (.bool true)], args := [d1, d2] }
  | _ => none }
def coreSerialsRow : OpenClaim := { program := "ytplpofmnhcclbaagreat", sum := "502b79d98b52e214cb7841f0c17e131c0dcb174891ebe4d88d72c1d47376e7e2", func := "spigot/spigotlaw17.CoreSerials", spec := "coreSerials", inPlace := ["internal/bytealg.Compare", "slices.overlaps[spigot/api.Cell]", "slices.overlaps[int64]"], unfollowed := true, recurses := true, apart := false }
def CoreSerialsSaid : Prop := coreSerialsRow.holds Tryz.pinned (OpenSpec.ofChange coreSerialsSpec)

/-- ITS FALSE NEIGHBOUR: 'it returns false'. Refute it at one input. -/
def coreSerialsWrong : ChangeSpec := { name := "coreSerials", fn := fun _ => fun
  | [d1, d2] => { results := [.lit (.bool false)], args := [d1, d2] }
  | _ => none }
def CoreSerialsWrongFalsely : Prop := coreSerialsRow.holds Tryz.pinned (OpenSpec.ofChange coreSerialsWrong)

/-- 'spigotlaw17.CoreUnseen': WHATEVER THE INPUT: true; the input reads as it did. -/
def coreUnseenSpec : ChangeSpec := { name := "coreUnseen", fn := fun _ => fun
  | [d] => { results := [.lit (.bool true)], args := [d] }
  | _ => none }
def coreUnseenRow : OpenClaim := { program := "ytplpofmnhcclbaagreat", sum := "502b79d98b52e214cb7841f0c17e131c0dcb174891ebe4d88d72c1d47376e7e2", func := "spigot/spigotlaw17.CoreUnseen", spec := "coreUnseen", inPlace := ["internal/bytealg.Compare", "slices.overlaps[spigot/api.Cell]", "slices.overlaps[int64]"], unfollowed := true, recurses := true, apart := false }
def CoreUnseenSaid : Prop := coreUnseenRow.holds Tryz.pinned (OpenSpec.ofChange coreUnseenSpec)

/-- ITS FALSE NEIGHBOUR: 'it returns false'. Refute it at one input. -/
def coreUnseenWrong : ChangeSpec := { name := "coreUnseen", fn := fun _ => fun
  | [d] => { results := [.lit (.bool false)], args := [d] }
  | _ => none }
def CoreUnseenWrongFalsely : Prop := coreUnseenRow.holds Tryz.pinned (OpenSpec.ofChange coreUnseenWrong)

/-- 'spigotlaw17.CoreCounts': WHATEVER THE INPUT: true; the input reads as it did. -/
def coreCountsSpec : ChangeSpec := { name := "coreCounts", fn := fun _ => fun
  | [d1, d2] => { results := [.lit (.bool true)], args := [d1, d2] }
  | _ => none }
def coreCountsRow : OpenClaim := { program := "ytplpofmnhcclbaagreat", sum := "502b79d98b52e214cb7841f0c17e131c0dcb174891ebe4d88d72c1d47376e7e2", func := "spigot/spigotlaw17.CoreCounts", spec := "coreCounts", inPlace := ["internal/bytealg.Compare", "slices.overlaps[spigot/api.Cell]", "slices.overlaps[int64]"], unfollowed := true, recurses := true, apart := false }
def CoreCountsSaid : Prop := coreCountsRow.holds Tryz.pinned (OpenSpec.ofChange coreCountsSpec)

/-- ITS FALSE NEIGHBOUR: 'it returns false'. Refute it at one input. -/
def coreCountsWrong : ChangeSpec := { name := "coreCounts", fn := fun _ => fun
  | [d1, d2] => { results := [.lit (.bool false)], args := [d1, d2] }
  | _ => none }
def CoreCountsWrongFalsely : Prop := coreCountsRow.holds Tryz.pinned (OpenSpec.ofChange coreCountsWrong)

/-- 'spigotlaw17.CorePermits': WHATEVER THE INPUT: true; the input reads as it did. -/
def corePermitsSpec : ChangeSpec := { name := "corePermits", fn := fun _ => fun
  | [d1, d2] => { results := [.lit (.bool true)], args := [d1, d2] }
  | _ => none }
def corePermitsRow : OpenClaim := { program := "ytplpofmnhcclbaagreat", sum := "502b79d98b52e214cb7841f0c17e131c0dcb174891ebe4d88d72c1d47376e7e2", func := "spigot/spigotlaw17.CorePermits", spec := "corePermits", inPlace := ["internal/bytealg.Compare", "slices.overlaps[spigot/api.Cell]", "slices.overlaps[int64]"], unfollowed := true, recurses := true, apart := false }
def CorePermitsSaid : Prop := corePermitsRow.holds Tryz.pinned (OpenSpec.ofChange corePermitsSpec)

/-- ITS FALSE NEIGHBOUR: 'it returns false'. Refute it at one input. -/
def corePermitsWrong : ChangeSpec := { name := "corePermits", fn := fun _ => fun
  | [d1, d2] => { results := [.lit (.bool false)], args := [d1, d2] }
  | _ => none }
def CorePermitsWrongFalsely : Prop := corePermitsRow.holds Tryz.pinned (OpenSpec.ofChange corePermitsWrong)

/-- 'spigotlaw17.CoreLeaves': WHATEVER THE INPUT: true; the input reads as it did. -/
def coreLeavesSpec : ChangeSpec := { name := "coreLeaves", fn := fun _ => fun
  | [d1, d2] => { results := [.lit (.bool true)], args := [d1, d2] }
  | _ => none }
def coreLeavesRow : OpenClaim := { program := "ytplpofmnhcclbaagreat", sum := "502b79d98b52e214cb7841f0c17e131c0dcb174891ebe4d88d72c1d47376e7e2", func := "spigot/spigotlaw17.CoreLeaves", spec := "coreLeaves", inPlace := ["internal/bytealg.Compare", "slices.overlaps[spigot/api.Cell]", "slices.overlaps[int64]"], unfollowed := true, recurses := true, apart := false }
def CoreLeavesSaid : Prop := coreLeavesRow.holds Tryz.pinned (OpenSpec.ofChange coreLeavesSpec)

/-- ITS FALSE NEIGHBOUR: 'it returns false'. Refute it at one input. -/
def coreLeavesWrong : ChangeSpec := { name := "coreLeaves", fn := fun _ => fun
  | [d1, d2] => { results := [.lit (.bool false)], args := [d1, d2] }
  | _ => none }
def CoreLeavesWrongFalsely : Prop := coreLeavesRow.holds Tryz.pinned (OpenSpec.ofChange coreLeavesWrong)

/-- 'spigotlaw17.CoreRate': WHATEVER THE INPUT: true; the input reads as it did. -/
def coreRateSpec : ChangeSpec := { name := "coreRate", fn := fun _ => fun
  | [d1, d2, d3, d4] => { results := [.lit (.bool true)], args := [d1, d2, d3, d4] }
  | _ => none }
def coreRateRow : OpenClaim := { program := "ytplpofmnhcclbaagreat", sum := "502b79d98b52e214cb7841f0c17e131c0dcb174891ebe4d88d72c1d47376e7e2", func := "spigot/spigotlaw17.CoreRate", spec := "coreRate", inPlace := ["internal/bytealg.Compare", "slices.overlaps[spigot/api.Cell]", "slices.overlaps[int64]"], unfollowed := true, recurses := true, apart := false }
def CoreRateSaid : Prop := coreRateRow.holds Tryz.pinned (OpenSpec.ofChange coreRateSpec)

/-- ITS FALSE NEIGHBOUR: 'it returns false'. Refute it at one input. -/
def coreRateWrong : ChangeSpec := { name := "coreRate", fn := fun _ => fun
  | [d1, d2, d3, d4] => { results := [.lit (.bool false)], args := [d1, d2, d3, d4] }
  | _ => none }
def CoreRateWrongFalsely : Prop := coreRateRow.holds Tryz.pinned (OpenSpec.ofChange coreRateWrong)

/-- 'spigotlaw17.CoreAtOnce': WHATEVER THE INPUT: true; the input reads as it did. -/
def coreAtOnceSpec : ChangeSpec := { name := "coreAtOnce", fn := fun _ => fun
  | [d1, d2] => { results := [.lit (.bool true)], args := [d1, d2] }
  | _ => none }
def coreAtOnceRow : OpenClaim := { program := "ytplpofmnhcclbaagreat", sum := "502b79d98b52e214cb7841f0c17e131c0dcb174891ebe4d88d72c1d47376e7e2", func := "spigot/spigotlaw17.CoreAtOnce", spec := "coreAtOnce", inPlace := ["internal/bytealg.Compare", "slices.overlaps[spigot/api.Cell]", "slices.overlaps[int64]"], unfollowed := true, recurses := true, apart := false }
def CoreAtOnceSaid : Prop := coreAtOnceRow.holds Tryz.pinned (OpenSpec.ofChange coreAtOnceSpec)

/-- ITS FALSE NEIGHBOUR: 'it returns false'. Refute it at one input. -/
def coreAtOnceWrong : ChangeSpec := { name := "coreAtOnce", fn := fun _ => fun
  | [d1, d2] => { results := [.lit (.bool false)], args := [d1, d2] }
  | _ => none }
def CoreAtOnceWrongFalsely : Prop := coreAtOnceRow.holds Tryz.pinned (OpenSpec.ofChange coreAtOnceWrong)

/-- 'spigotlaw17.CorePlays': WHATEVER THE INPUT: true; the input reads as it did. -/
def corePlaysSpec : ChangeSpec := { name := "corePlays", fn := fun _ => fun
  | [d1, d2, d3] => { results := [.lit (.bool true)], args := [d1, d2, d3] }
  | _ => none }
def corePlaysRow : OpenClaim := { program := "ytplpofmnhcclbaagreat", sum := "502b79d98b52e214cb7841f0c17e131c0dcb174891ebe4d88d72c1d47376e7e2", func := "spigot/spigotlaw17.CorePlays", spec := "corePlays", inPlace := ["internal/bytealg.Compare", "slices.overlaps[spigot/api.Cell]", "slices.overlaps[int64]"], unfollowed := true, recurses := true, apart := false }
def CorePlaysSaid : Prop := corePlaysRow.holds Tryz.pinned (OpenSpec.ofChange corePlaysSpec)

/-- ITS FALSE NEIGHBOUR: 'it returns false'. Refute it at one input. -/
def corePlaysWrong : ChangeSpec := { name := "corePlays", fn := fun _ => fun
  | [d1, d2, d3] => { results := [.lit (.bool false)], args := [d1, d2, d3] }
  | _ => none }
def CorePlaysWrongFalsely : Prop := corePlaysRow.holds Tryz.pinned (OpenSpec.ofChange corePlaysWrong)

/- THE SECOND FORM. 'bulk': how many values and letters a reading holds, each counted each time it is reached (what is shared counts as often as it is met; a slice's spare places count too). A statement '..UptoSaid' is the law's where the arguments, and the package variables that the reading takes, are together of bulk at most 1048576: NARROWER than '..Said'. Prove '..Said' where nothing that the law and all that it calls make is longer than what came in: it says more and counts as full. Else prove '..UptoSaid'. A law counts once. -/
mutual
def uptoBulk {H : Type} : DataW H → Nat
  | .lit (.string bytes) => bytes.length + 1
  | .lit _ => 1
  | .nil => 1
  | .ptr d => uptoBulk d + 1
  | .slice elems spare => uptoBulkAll elems + uptoBulkAll spare + 1
  | .agg parts => uptoBulkAll parts + 1
  | .iface _ d => uptoBulk d + 1
  | .map entries => uptoBulkEntries entries + 1
  | .held _ => 1
def uptoBulkAll {H : Type} : List (DataW H) → Nat
  | [] => 0
  | d :: r => uptoBulk d + uptoBulkAll r
def uptoBulkEntries {H : Type} : List (Lit × DataW H) → Nat
  | [] => 0
  | x :: r => uptoBulkEntry x + uptoBulkEntries r
def uptoBulkEntry {H : Type} : Lit × DataW H → Nat
  | (.string bytes, d) => bytes.length + uptoBulk d + 1
  | (_, d) => uptoBulk d + 1
 end
def uptoSmall : (H : Type) → List (DataW H) → Bool := fun _ ds => decide (uptoBulkAll ds ≤ 1048576)
def OpenSpec.upto (s : _root_.Go.ChangeSpec) : _root_.Go.OpenSpec := { _root_.Go.OpenSpec.ofChange s with cond := some uptoSmall }

/-- 'spigotlaw17.CoreFree', WHERE WHAT IT READS IS OF BULK AT MOST 1048576: true; the input reads as it did. -/
def coreFreeUptoRow : OpenClaim := { program := "ytplpofmnhcclbaagreat", sum := "502b79d98b52e214cb7841f0c17e131c0dcb174891ebe4d88d72c1d47376e7e2", func := "spigot/spigotlaw17.CoreFree", spec := "coreFree", inPlace := ["internal/bytealg.Compare", "slices.overlaps[spigot/api.Cell]", "slices.overlaps[int64]"], unfollowed := true, recurses := true, apart := false, narrowed := true }
def CoreFreeUptoSaid : Prop := coreFreeUptoRow.holds Tryz.pinned (OpenSpec.upto coreFreeSpec)

/-- 'spigotlaw17.CoreAlone', WHERE WHAT IT READS IS OF BULK AT MOST 1048576: true; the input reads as it did. -/
def coreAloneUptoRow : OpenClaim := { program := "ytplpofmnhcclbaagreat", sum := "502b79d98b52e214cb7841f0c17e131c0dcb174891ebe4d88d72c1d47376e7e2", func := "spigot/spigotlaw17.CoreAlone", spec := "coreAlone", inPlace := ["internal/bytealg.Compare", "slices.overlaps[spigot/api.Cell]", "slices.overlaps[int64]"], unfollowed := true, recurses := true, apart := false, narrowed := true }
def CoreAloneUptoSaid : Prop := coreAloneUptoRow.holds Tryz.pinned (OpenSpec.upto coreAloneSpec)

/-- 'spigotlaw17.CoreLevels', WHERE WHAT IT READS IS OF BULK AT MOST 1048576: true; the input reads as it did. -/
def coreLevelsUptoRow : OpenClaim := { program := "ytplpofmnhcclbaagreat", sum := "502b79d98b52e214cb7841f0c17e131c0dcb174891ebe4d88d72c1d47376e7e2", func := "spigot/spigotlaw17.CoreLevels", spec := "coreLevels", inPlace := ["internal/bytealg.Compare", "slices.overlaps[spigot/api.Cell]", "slices.overlaps[int64]"], unfollowed := true, recurses := true, apart := false, narrowed := true }
def CoreLevelsUptoSaid : Prop := coreLevelsUptoRow.holds Tryz.pinned (OpenSpec.upto coreLevelsSpec)

/-- 'spigotlaw17.CoreSerials', WHERE WHAT IT READS IS OF BULK AT MOST 1048576: true; the input reads as it did. -/
def coreSerialsUptoRow : OpenClaim := { program := "ytplpofmnhcclbaagreat", sum := "502b79d98b52e214cb7841f0c17e131c0dcb174891ebe4d88d72c1d47376e7e2", func := "spigot/spigotlaw17.CoreSerials", spec := "coreSerials", inPlace := ["internal/bytealg.Compare", "slices.overlaps[spigot/api.Cell]", "slices.overlaps[int64]"], unfollowed := true, recurses := true, apart := false, narrowed := true }
def CoreSerialsUptoSaid : Prop := coreSerialsUptoRow.holds Tryz.pinned (OpenSpec.upto coreSerialsSpec)

/-- 'spigotlaw17.CoreUnseen', WHERE WHAT IT READS IS OF BULK AT MOST 1048576: true; the input reads as it did. -/
def coreUnseenUptoRow : OpenClaim := { program := "ytplpofmnhcclbaagreat", sum := "502b79d98b52e214cb7841f0c17e131c0dcb174891ebe4d88d72c1d47376e7e2", func := "spigot/spigotlaw17.CoreUnseen", spec := "coreUnseen", inPlace := ["internal/bytealg.Compare", "slices.overlaps[spigot/api.Cell]", "slices.overlaps[int64]"], unfollowed := true, recurses := true, apart := false, narrowed := true }
def CoreUnseenUptoSaid : Prop := coreUnseenUptoRow.holds Tryz.pinned (OpenSpec.upto coreUnseenSpec)

/-- 'spigotlaw17.CoreCounts', WHERE WHAT IT READS IS OF BULK AT MOST 1048576: true; the input reads as it did. -/
def coreCountsUptoRow : OpenClaim := { program := "ytplpofmnhcclbaagreat", sum := "502b79d98b52e214cb7841f0c17e131c0dcb174891ebe4d88d72c1d47376e7e2", func := "spigot/spigotlaw17.CoreCounts", spec := "coreCounts", inPlace := ["internal/bytealg.Compare", "slices.overlaps[spigot/api.Cell]", "slices.overlaps[int64]"], unfollowed := true, recurses := true, apart := false, narrowed := true }
def CoreCountsUptoSaid : Prop := coreCountsUptoRow.holds Tryz.pinned (OpenSpec.upto coreCountsSpec)

/-- 'spigotlaw17.CorePermits', WHERE WHAT IT READS IS OF BULK AT MOST 1048576: true; the input reads as it did. -/
def corePermitsUptoRow : OpenClaim := { program := "ytplpofmnhcclbaagreat", sum := "502b79d98b52e214cb7841f0c17e131c0dcb174891ebe4d88d72c1d47376e7e2", func := "spigot/spigotlaw17.CorePermits", spec := "corePermits", inPlace := ["internal/bytealg.Compare", "slices.overlaps[spigot/api.Cell]", "slices.overlaps[int64]"], unfollowed := true, recurses := true, apart := false, narrowed := true }
def CorePermitsUptoSaid : Prop := corePermitsUptoRow.holds Tryz.pinned (OpenSpec.upto corePermitsSpec)

/-- 'spigotlaw17.CoreLeaves', WHERE WHAT IT READS IS OF BULK AT MOST 1048576: true; the input reads as it did. -/
def coreLeavesUptoRow : OpenClaim := { program := "ytplpofmnhcclbaagreat", sum := "502b79d98b52e214cb7841f0c17e131c0dcb174891ebe4d88d72c1d47376e7e2", func := "spigot/spigotlaw17.CoreLeaves", spec := "coreLeaves", inPlace := ["internal/bytealg.Compare", "slices.overlaps[spigot/api.Cell]", "slices.overlaps[int64]"], unfollowed := true, recurses := true, apart := false, narrowed := true }
def CoreLeavesUptoSaid : Prop := coreLeavesUptoRow.holds Tryz.pinned (OpenSpec.upto coreLeavesSpec)

/-- 'spigotlaw17.CoreRate', WHERE WHAT IT READS IS OF BULK AT MOST 1048576: true; the input reads as it did. -/
def coreRateUptoRow : OpenClaim := { program := "ytplpofmnhcclbaagreat", sum := "502b79d98b52e214cb7841f0c17e131c0dcb174891ebe4d88d72c1d47376e7e2", func := "spigot/spigotlaw17.CoreRate", spec := "coreRate", inPlace := ["internal/bytealg.Compare", "slices.overlaps[spigot/api.Cell]", "slices.overlaps[int64]"], unfollowed := true, recurses := true, apart := false, narrowed := true }
def CoreRateUptoSaid : Prop := coreRateUptoRow.holds Tryz.pinned (OpenSpec.upto coreRateSpec)

/-- 'spigotlaw17.CoreAtOnce', WHERE WHAT IT READS IS OF BULK AT MOST 1048576: true; the input reads as it did. -/
def coreAtOnceUptoRow : OpenClaim := { program := "ytplpofmnhcclbaagreat", sum := "502b79d98b52e214cb7841f0c17e131c0dcb174891ebe4d88d72c1d47376e7e2", func := "spigot/spigotlaw17.CoreAtOnce", spec := "coreAtOnce", inPlace := ["internal/bytealg.Compare", "slices.overlaps[spigot/api.Cell]", "slices.overlaps[int64]"], unfollowed := true, recurses := true, apart := false, narrowed := true }
def CoreAtOnceUptoSaid : Prop := coreAtOnceUptoRow.holds Tryz.pinned (OpenSpec.upto coreAtOnceSpec)

/-- 'spigotlaw17.CorePlays', WHERE WHAT IT READS IS OF BULK AT MOST 1048576: true; the input reads as it did. -/
def corePlaysUptoRow : OpenClaim := { program := "ytplpofmnhcclbaagreat", sum := "502b79d98b52e214cb7841f0c17e131c0dcb174891ebe4d88d72c1d47376e7e2", func := "spigot/spigotlaw17.CorePlays", spec := "corePlays", inPlace := ["internal/bytealg.Compare", "slices.overlaps[spigot/api.Cell]", "slices.overlaps[int64]"], unfollowed := true, recurses := true, apart := false, narrowed := true }
def CorePlaysUptoSaid : Prop := corePlaysUptoRow.holds Tryz.pinned (OpenSpec.upto corePlaysSpec)

end Rows
end Go.Proofs.YtplpofmnhcclbaaGreat
