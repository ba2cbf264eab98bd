/-
  No cell of these rows narrows 'for every input' (looked for: loops, veiled, ifaces, maps, wideKeys, modest, calm, conditions, laid).
  DERIVED. THE GIVEN ROWS OF THIS SEAT. 6 by the template 'for every input the law returns true; each argument reads behind the call as it read before'; 0 by the template 'total and deterministic' (their statements: YtpdhdnhkhidmpaaGreatTotals.lean).
  GIVEN WITH THE SEED: the statements are not yours to turn. If you find one false, say at which input.
  Laid BY PROGRAM, IN A SANDBOX (cutbox-rows.mjs): the forced cells as the released guide's own fill.sh prints them over the translation a28f31e989657923… (all of the seat's roots in one cut). By AI agents, Wed Nov 11 2026. No macro, syntax, notation, axiom, sorry.
-/
import Derived.Test.YtpdhdnhkhidmpaaGreatChecked
import GoSem.Claim
import GoSem.ClaimJoined
import GoSem.ClaimMapViews
import Derived.JoinedTies
import Derived.KernelRfl
namespace Go.Proofs.YtpdhdnhkhidmpaaGreat
/- THE CELL 'sum', in the pinned program and in every row, IS THE sha256 OF THE DUMP (.gsa) THAT YtpdhdnhkhidmpaaGreatProg.lean LOADS. Nothing in Lean hashes anything: it is a label: what it is worth is what the hold of that sum in a sandbox is worth. -/
noncomputable def Tryz.pinned : Pinned := { name := "ytpdhdnhkhidmpaagreat", sum := "a28f31e989657923bb307acf309f729cdbe0b1dd11934b3465cecf227a45e637", checked := Tryz.checked }
namespace Rows
def none {H : Type} : Left H := { results := [], args := [] }

/-- 'spigotlaw17.CorePermits': WHATEVER THE INPUT: true; the input reads as it did. -/
def corePermitsSpec : ChangeSpec := { name := "corePermits", fn := fun _ => fun
  | [d1, d2] => { results := [.lit (.bool true)], args := [d1, d2] }
  | _ => none }
def corePermitsRow : OpenClaim := { program := "ytpdhdnhkhidmpaagreat", sum := "a28f31e989657923bb307acf309f729cdbe0b1dd11934b3465cecf227a45e637", func := "spigot/spigotlaw17.CorePermits", spec := "corePermits", inPlace := ["internal/bytealg.Compare", "slices.overlaps[spigot/api.Cell]", "slices.overlaps[int64]"], unfollowed := true, recurses := true, apart := false }
def CorePermitsSaid : Prop := corePermitsRow.holds Tryz.pinned (OpenSpec.ofChange corePermitsSpec)

/-- ITS FALSE NEIGHBOUR: 'it returns false'. Refute it at one input. -/
def corePermitsWrong : ChangeSpec := { name := "corePermits", fn := fun _ => fun
  | [d1, d2] => { results := [.lit (.bool false)], args := [d1, d2] }
  | _ => none }
def CorePermitsWrongFalsely : Prop := corePermitsRow.holds Tryz.pinned (OpenSpec.ofChange corePermitsWrong)

/-- 'spigotlaw19.SimLong': WHATEVER THE INPUT: true; the input reads as it did. -/
def simLongSpec : ChangeSpec := { name := "simLong", fn := fun _ => fun
  | [d1, d2, d3] => { results := [.lit (.bool true)], args := [d1, d2, d3] }
  | _ => none }
def simLongRow : OpenClaim := { program := "ytpdhdnhkhidmpaagreat", sum := "a28f31e989657923bb307acf309f729cdbe0b1dd11934b3465cecf227a45e637", func := "spigot/spigotlaw19.SimLong", spec := "simLong", inPlace := ["internal/bytealg.Compare", "slices.overlaps[spigot/api.Cell]", "slices.overlaps[int64]"], unfollowed := true, recurses := true, apart := false }
def SimLongSaid : Prop := simLongRow.holds Tryz.pinned (OpenSpec.ofChange simLongSpec)

/-- ITS FALSE NEIGHBOUR: 'it returns false'. Refute it at one input. -/
def simLongWrong : ChangeSpec := { name := "simLong", fn := fun _ => fun
  | [d1, d2, d3] => { results := [.lit (.bool false)], args := [d1, d2, d3] }
  | _ => none }
def SimLongWrongFalsely : Prop := simLongRow.holds Tryz.pinned (OpenSpec.ofChange simLongWrong)

/-- 'spigotlaw19.SimCut': WHATEVER THE INPUT: true; the input reads as it did. -/
def simCutSpec : ChangeSpec := { name := "simCut", fn := fun _ => fun
  | [d1, d2] => { results := [.lit (.bool true)], args := [d1, d2] }
  | _ => none }
def simCutRow : OpenClaim := { program := "ytpdhdnhkhidmpaagreat", sum := "a28f31e989657923bb307acf309f729cdbe0b1dd11934b3465cecf227a45e637", func := "spigot/spigotlaw19.SimCut", spec := "simCut", inPlace := ["internal/bytealg.Compare", "slices.overlaps[spigot/api.Cell]", "slices.overlaps[int64]"], unfollowed := true, recurses := true, apart := false }
def SimCutSaid : Prop := simCutRow.holds Tryz.pinned (OpenSpec.ofChange simCutSpec)

/-- ITS FALSE NEIGHBOUR: 'it returns false'. Refute it at one input. -/
def simCutWrong : ChangeSpec := { name := "simCut", fn := fun _ => fun
  | [d1, d2] => { results := [.lit (.bool false)], args := [d1, d2] }
  | _ => none }
def SimCutWrongFalsely : Prop := simCutRow.holds Tryz.pinned (OpenSpec.ofChange simCutWrong)

/-- 'spigotlaw19.SimIdle': WHATEVER THE INPUT: true; the input reads as it did. -/
def simIdleSpec : ChangeSpec := { name := "simIdle", fn := fun _ => fun
  | [d1, d2] => { results := [.lit (.bool true)], args := [d1, d2] }
  | _ => none }
def simIdleRow : OpenClaim := { program := "ytpdhdnhkhidmpaagreat", sum := "a28f31e989657923bb307acf309f729cdbe0b1dd11934b3465cecf227a45e637", func := "spigot/spigotlaw19.SimIdle", spec := "simIdle", inPlace := ["internal/bytealg.Compare", "slices.overlaps[spigot/api.Cell]", "slices.overlaps[int64]"], unfollowed := true, recurses := true, apart := false }
def SimIdleSaid : Prop := simIdleRow.holds Tryz.pinned (OpenSpec.ofChange simIdleSpec)

/-- ITS FALSE NEIGHBOUR: 'it returns false'. Refute it at one input. -/
def simIdleWrong : ChangeSpec := { name := "simIdle", fn := fun _ => fun
  | [d1, d2] => { results := [.lit (.bool false)], args := [d1, d2] }
  | _ => none }
def SimIdleWrongFalsely : Prop := simIdleRow.holds Tryz.pinned (OpenSpec.ofChange simIdleWrong)

/-- 'spigotlaw19.SimEnds': WHATEVER THE INPUT: true; the input reads as it did. -/
def simEndsSpec : ChangeSpec := { name := "simEnds", fn := fun _ => fun
  | [d1, d2, d3] => { results := [.lit (.bool true)], args := [d1, d2, d3] }
  | _ => none }
def simEndsRow : OpenClaim := { program := "ytpdhdnhkhidmpaagreat", sum := "a28f31e989657923bb307acf309f729cdbe0b1dd11934b3465cecf227a45e637", func := "spigot/spigotlaw19.SimEnds", spec := "simEnds", inPlace := ["internal/bytealg.Compare", "slices.overlaps[spigot/api.Cell]", "slices.overlaps[int64]"], unfollowed := true, recurses := true, apart := false }
def SimEndsSaid : Prop := simEndsRow.holds Tryz.pinned (OpenSpec.ofChange simEndsSpec)

/-- ITS FALSE NEIGHBOUR: 'it returns false'. Refute it at one input. -/
def simEndsWrong : ChangeSpec := { name := "simEnds", fn := fun _ => fun
  | [d1, d2, d3] => { results := [.lit (.bool false)], args := [d1, d2, d3] }
  | _ => none }
def SimEndsWrongFalsely : Prop := simEndsRow.holds Tryz.pinned (OpenSpec.ofChange simEndsWrong)

/-- 'spigotlaw19.SimAlone': WHATEVER THE INPUT: true; the input reads as it did. -/
def simAloneSpec : ChangeSpec := { name := "simAlone", fn := fun _ => fun
  | [d] => { results := [.lit (.bool true)], args := [d] }
  | _ => none }
def simAloneRow : OpenClaim := { program := "ytpdhdnhkhidmpaagreat", sum := "a28f31e989657923bb307acf309f729cdbe0b1dd11934b3465cecf227a45e637", func := "spigot/spigotlaw19.SimAlone", spec := "simAlone", inPlace := ["internal/bytealg.Compare", "slices.overlaps[spigot/api.Cell]", "slices.overlaps[int64]"], unfollowed := true, recurses := true, apart := false }
def SimAloneSaid : Prop := simAloneRow.holds Tryz.pinned (OpenSpec.ofChange simAloneSpec)

/-- ITS FALSE NEIGHBOUR: 'it returns false'. Refute it at one input. -/
def simAloneWrong : ChangeSpec := { name := "simAlone", fn := fun _ => fun
  | [d] => { results := [.lit (.bool false)], args := [d] }
  | _ => none }
def SimAloneWrongFalsely : Prop := simAloneRow.holds Tryz.pinned (OpenSpec.ofChange simAloneWrong)

/- THE SECOND FORM. 'bulk': how many values and letters a reading holds, each counted each time it is reached (what is shared counts as often as it is met; a slice's spare places count too). A statement '..UptoSaid' is the law's where the arguments, and the package variables that the reading takes, are together of bulk at most 1048576: NARROWER than '..Said'. Prove '..Said' where nothing that the law and all that it calls make is longer than what came in: it says more and counts as full. Else prove '..UptoSaid'. A law counts once. -/
mutual
def uptoBulk {H : Type} : DataW H → Nat
  | .lit (.string bytes) => bytes.length + 1
  | .lit _ => 1
  | .nil => 1
  | .ptr d => uptoBulk d + 1
  | .slice elems spare => uptoBulkAll elems + uptoBulkAll spare + 1
  | .agg parts => uptoBulkAll parts + 1
  | .iface _ d => uptoBulk d + 1
  | .map entries => uptoBulkEntries entries + 1
  | .held _ => 1
def uptoBulkAll {H : Type} : List (DataW H) → Nat
  | [] => 0
  | d :: r => uptoBulk d + uptoBulkAll r
def uptoBulkEntries {H : Type} : List (Lit × DataW H) → Nat
  | [] => 0
  | x :: r => uptoBulkEntry x + uptoBulkEntries r
def uptoBulkEntry {H : Type} : Lit × DataW H → Nat
  | (.string bytes, d) => bytes.length + uptoBulk d + 1
  | (_, d) => uptoBulk d + 1
 end
def uptoSmall : (H : Type) → List (DataW H) → Bool := fun _ ds => decide (uptoBulkAll ds ≤ 1048576)
def OpenSpec.upto (s : _root_.Go.ChangeSpec) : _root_.Go.OpenSpec := { _root_.Go.OpenSpec.ofChange s with cond := some uptoSmall }

/-- 'spigotlaw17.CorePermits', WHERE WHAT IT READS IS OF BULK AT MOST 1048576: true; the input reads as it did. -/
def corePermitsUptoRow : OpenClaim := { program := "ytpdhdnhkhidmpaagreat", sum := "a28f31e989657923bb307acf309f729cdbe0b1dd11934b3465cecf227a45e637", func := "spigot/spigotlaw17.CorePermits", spec := "corePermits", inPlace := ["internal/bytealg.Compare", "slices.overlaps[spigot/api.Cell]", "slices.overlaps[int64]"], unfollowed := true, recurses := true, apart := false, narrowed := true }
def CorePermitsUptoSaid : Prop := corePermitsUptoRow.holds Tryz.pinned (OpenSpec.upto corePermitsSpec)

/-- 'spigotlaw19.SimLong', WHERE WHAT IT READS IS OF BULK AT MOST 1048576: true; the input reads as it did. -/
def simLongUptoRow : OpenClaim := { program := "ytpdhdnhkhidmpaagreat", sum := "a28f31e989657923bb307acf309f729cdbe0b1dd11934b3465cecf227a45e637", func := "spigot/spigotlaw19.SimLong", spec := "simLong", inPlace := ["internal/bytealg.Compare", "slices.overlaps[spigot/api.Cell]", "slices.overlaps[int64]"], unfollowed := true, recurses := true, apart := false, narrowed := true }
def SimLongUptoSaid : Prop := simLongUptoRow.holds Tryz.pinned (OpenSpec.upto simLongSpec)

/-- 'spigotlaw19.SimCut', WHERE WHAT IT READS IS OF BULK AT MOST 1048576: true; the input reads as it did. -/
def simCutUptoRow : OpenClaim := { program := "ytpdhdnhkhidmpaagreat", sum := "a28f31e989657923bb307acf309f729cdbe0b1dd11934b3465cecf227a45e637", func := "spigot/spigotlaw19.SimCut", spec := "simCut", inPlace := ["internal/bytealg.Compare", "slices.overlaps[spigot/api.Cell]", "slices.overlaps[int64]"], unfollowed := true, recurses := true, apart := false, narrowed := true }
def SimCutUptoSaid : Prop := simCutUptoRow.holds Tryz.pinned (OpenSpec.upto simCutSpec)

/-- 'spigotlaw19.SimIdle', WHERE WHAT IT READS IS OF BULK AT MOST 1048576: true; the input reads as it did. -/
def simIdleUptoRow : OpenClaim := { program := "ytpdhdnhkhidmpaagreat", sum := "a28f31e989657923bb307acf309f729cdbe0b1dd11934b3465cecf227a45e637", func := "spigot/spigotlaw19.SimIdle", spec := "simIdle", inPlace := ["internal/bytealg.Compare", "slices.overlaps[spigot/api.Cell]", "slices.overlaps[int64]"], unfollowed := true, recurses := true, apart := false, narrowed := true }
def SimIdleUptoSaid : Prop := simIdleUptoRow.holds Tryz.pinned (OpenSpec.upto simIdleSpec)

/-- 'spigotlaw19.SimEnds', WHERE WHAT IT READS IS OF BULK AT MOST 1048576: true; the input reads as it did. -/
def simEndsUptoRow : OpenClaim := { program := "ytpdhdnhkhidmpaagreat", sum := "a28f31e989657923bb307acf309f729cdbe0b1dd11934b3465cecf227a45e637", func := "spigot/spigotlaw19.SimEnds", spec := "simEnds", inPlace := ["internal/bytealg.Compare", "slices.overlaps[spigot/api.Cell]", "slices.overlaps[int64]"], unfollowed := true, recurses := true, apart := false, narrowed := true }
def SimEndsUptoSaid : Prop := simEndsUptoRow.holds Tryz.pinned (OpenSpec.upto simEndsSpec)

/-- 'spigotlaw19.SimAlone', WHERE WHAT IT READS IS OF BULK AT MOST 1048576: true; the input reads as it did. -/
def simAloneUptoRow : OpenClaim := { program := "ytpdhdnhkhidmpaagreat", sum := "a28f31e989657923bb307acf309f729cdbe0b1dd11934b3465cecf227a45e637", func := "spigot/spigotlaw19.SimAlone", spec := "simAlone", inPlace := ["internal/bytealg.Compare", "slices.overlaps[spigot/api.Cell]", "slices.overlaps[int64]"], unfollowed := true, recurses := true, apart := false, narrowed := true }
def SimAloneUptoSaid : Prop := simAloneUptoRow.holds Tryz.pinned (OpenSpec.upto simAloneSpec)

end Rows
end Go.Proofs.YtpdhdnhkhidmpaaGreat
