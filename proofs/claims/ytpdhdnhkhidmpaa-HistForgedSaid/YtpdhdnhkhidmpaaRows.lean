/-
  No cell of these rows narrows 'for every input' (looked for: loops, veiled, ifaces, maps, wideKeys, modest, calm, conditions, laid).
  DERIVED. THE GIVEN ROWS OF THIS SEAT. 3 by the template 'for every input the law returns true; each argument reads behind the call as it read before'; 0 by the template 'total and deterministic' (their statements: YtpdhdnhkhidmpaaTotals.lean).
  GIVEN WITH THE SEED: the statements are not yours to turn. If you find one false, say at which input.
  Laid BY PROGRAM, IN A SANDBOX (cutbox-rows.mjs): the forced cells as the released guide's own fill.sh prints them over the translation 8e7b5a8f5b584016… (all of the seat's roots in one cut). By AI agents, Wed Nov 11 2026. No macro, syntax, notation, axiom, sorry.
-/
import Derived.Test.YtpdhdnhkhidmpaaChecked
import GoSem.Claim
import GoSem.ClaimJoined
import GoSem.ClaimMapViews
import Derived.JoinedTies
import Derived.KernelRfl
namespace Go.Proofs.Ytpdhdnhkhidmpaa
/- THE CELL 'sum', in the pinned program and in every row, IS THE sha256 OF THE DUMP (.gsa) THAT YtpdhdnhkhidmpaaProg.lean LOADS. Nothing in Lean hashes anything: it is a label: what it is worth is what the hold of that sum in a sandbox is worth. -/
noncomputable def Try.pinned : Pinned := { name := "ytpdhdnhkhidmpaa", sum := "8e7b5a8f5b5840162677717243ef0f48b50d7f3c9ca5247d0ab177482396f6bf", checked := Try.checked }
namespace Rows
def none {H : Type} : Left H := { results := [], args := [] }

/-- 'spigotlaw18.HistHonest': WHATEVER THE INPUT: true; the input reads as it did. -/
def histHonestSpec : ChangeSpec := { name := "histHonest", fn := fun _ => fun
  | [d1, d2, d3] => { results := [.lit (.bool true)], args := [d1, d2, d3] }
  | _ => none }
def histHonestRow : OpenClaim := { program := "ytpdhdnhkhidmpaa", sum := "8e7b5a8f5b5840162677717243ef0f48b50d7f3c9ca5247d0ab177482396f6bf", func := "spigot/spigotlaw18.HistHonest", spec := "histHonest", inPlace := ["internal/bytealg.Compare", "slices.overlaps[int64]", "slices.overlaps[spigot/api.Cell]"], unfollowed := true, recurses := true, apart := false }
def HistHonestSaid : Prop := histHonestRow.holds Try.pinned (OpenSpec.ofChange histHonestSpec)

/-- ITS FALSE NEIGHBOUR: 'it returns false'. Refute it at one input. -/
def histHonestWrong : ChangeSpec := { name := "histHonest", fn := fun _ => fun
  | [d1, d2, d3] => { results := [.lit (.bool false)], args := [d1, d2, d3] }
  | _ => none }
def HistHonestWrongFalsely : Prop := histHonestRow.holds Try.pinned (OpenSpec.ofChange histHonestWrong)

/-- 'spigotlaw18.HistForged': WHATEVER THE INPUT: true; the input reads as it did. -/
def histForgedSpec : ChangeSpec := { name := "histForged", fn := fun _ => fun
  | [d1, d2, d3] => { results := [.lit (.bool true)], args := [d1, d2, d3] }
  | _ => none }
def histForgedRow : OpenClaim := { program := "ytpdhdnhkhidmpaa", sum := "8e7b5a8f5b5840162677717243ef0f48b50d7f3c9ca5247d0ab177482396f6bf", func := "spigot/spigotlaw18.HistForged", spec := "histForged", inPlace := ["internal/bytealg.Compare", "slices.overlaps[int64]", "slices.overlaps[spigot/api.Cell]"], unfollowed := true, recurses := true, apart := false }
def HistForgedSaid : Prop := histForgedRow.holds Try.pinned (OpenSpec.ofChange histForgedSpec)

/-- ITS FALSE NEIGHBOUR: 'it returns false'. Refute it at one input. -/
def histForgedWrong : ChangeSpec := { name := "histForged", fn := fun _ => fun
  | [d1, d2, d3] => { results := [.lit (.bool false)], args := [d1, d2, d3] }
  | _ => none }
def HistForgedWrongFalsely : Prop := histForgedRow.holds Try.pinned (OpenSpec.ofChange histForgedWrong)

/-- 'spigotlaw18.HistWider': WHATEVER THE INPUT: true; the input reads as it did. -/
def histWiderSpec : ChangeSpec := { name := "histWider", fn := fun _ => fun
  | [d1, d2, d3, d4, d5] => { results := [.lit (.bool true)], args := [d1, d2, d3, d4, d5] }
  | _ => none }
def histWiderRow : OpenClaim := { program := "ytpdhdnhkhidmpaa", sum := "8e7b5a8f5b5840162677717243ef0f48b50d7f3c9ca5247d0ab177482396f6bf", func := "spigot/spigotlaw18.HistWider", spec := "histWider", inPlace := ["internal/bytealg.Compare", "slices.overlaps[int64]", "slices.overlaps[spigot/api.Cell]"], unfollowed := true, recurses := true, apart := false }
def HistWiderSaid : Prop := histWiderRow.holds Try.pinned (OpenSpec.ofChange histWiderSpec)

/-- ITS FALSE NEIGHBOUR: 'it returns false'. Refute it at one input. -/
def histWiderWrong : ChangeSpec := { name := "histWider", fn := fun _ => fun
  | [d1, d2, d3, d4, d5] => { results := [.lit (.bool false)], args := [d1, d2, d3, d4, d5] }
  | _ => none }
def HistWiderWrongFalsely : Prop := histWiderRow.holds Try.pinned (OpenSpec.ofChange histWiderWrong)

/- THE SECOND FORM. 'bulk': how many values and letters a reading holds, each counted each time it is reached (what is shared counts as often as it is met; a slice's spare places count too). A statement '..UptoSaid' is the law's where the arguments, and the package variables that the reading takes, are together of bulk at most 1048576: NARROWER than '..Said'. Prove '..Said' where nothing that the law and all that it calls make is longer than what came in: it says more and counts as full. Else prove '..UptoSaid'. A law counts once. -/
mutual
def uptoBulk {H : Type} : DataW H → Nat
  | .lit (.string bytes) => bytes.length + 1
  | .lit _ => 1
  | .nil => 1
  | .ptr d => uptoBulk d + 1
  | .slice elems spare => uptoBulkAll elems + uptoBulkAll spare + 1
  | .agg parts => uptoBulkAll parts + 1
  | .iface _ d => uptoBulk d + 1
  | .map entries => uptoBulkEntries entries + 1
  | .held _ => 1
def uptoBulkAll {H : Type} : List (DataW H) → Nat
  | [] => 0
  | d :: r => uptoBulk d + uptoBulkAll r
def uptoBulkEntries {H : Type} : List (Lit × DataW H) → Nat
  | [] => 0
  | x :: r => uptoBulkEntry x + uptoBulkEntries r
def uptoBulkEntry {H : Type} : Lit × DataW H → Nat
  | (.string bytes, d) => bytes.length + uptoBulk d + 1
  | (_, d) => uptoBulk d + 1
 end
def uptoSmall : (H : Type) → List (DataW H) → Bool := fun _ ds => decide (uptoBulkAll ds ≤ 1048576)
def OpenSpec.upto (s : _root_.Go.ChangeSpec) : _root_.Go.OpenSpec := { _root_.Go.OpenSpec.ofChange s with cond := some uptoSmall }

/-- 'spigotlaw18.HistHonest', WHERE WHAT IT READS IS OF BULK AT MOST 1048576: true; the input reads as it did. -/
def histHonestUptoRow : OpenClaim := { program := "ytpdhdnhkhidmpaa", sum := "8e7b5a8f5b5840162677717243ef0f48b50d7f3c9ca5247d0ab177482396f6bf", func := "spigot/spigotlaw18.HistHonest", spec := "histHonest", inPlace := ["internal/bytealg.Compare", "slices.overlaps[int64]", "slices.overlaps[spigot/api.Cell]"], unfollowed := true, recurses := true, apart := false, narrowed := true }
def HistHonestUptoSaid : Prop := histHonestUptoRow.holds Try.pinned (OpenSpec.upto histHonestSpec)

/-- 'spigotlaw18.HistForged', WHERE WHAT IT READS IS OF BULK AT MOST 1048576: true; the input reads as it did. -/
def histForgedUptoRow : OpenClaim := { program := "ytpdhdnhkhidmpaa", sum := "8e7b5a8f5b5840162677717243ef0f48b50d7f3c9ca5247d0ab177482396f6bf", func := "spigot/spigotlaw18.HistForged", spec := "histForged", inPlace := ["internal/bytealg.Compare", "slices.overlaps[int64]", "slices.overlaps[spigot/api.Cell]"], unfollowed := true, recurses := true, apart := false, narrowed := true }
def HistForgedUptoSaid : Prop := histForgedUptoRow.holds Try.pinned (OpenSpec.upto histForgedSpec)

/-- 'spigotlaw18.HistWider', WHERE WHAT IT READS IS OF BULK AT MOST 1048576: true; the input reads as it did. -/
def histWiderUptoRow : OpenClaim := { program := "ytpdhdnhkhidmpaa", sum := "8e7b5a8f5b5840162677717243ef0f48b50d7f3c9ca5247d0ab177482396f6bf", func := "spigot/spigotlaw18.HistWider", spec := "histWider", inPlace := ["internal/bytealg.Compare", "slices.overlaps[int64]", "slices.overlaps[spigot/api.Cell]"], unfollowed := true, recurses := true, apart := false, narrowed := true }
def HistWiderUptoSaid : Prop := histWiderUptoRow.holds Try.pinned (OpenSpec.upto histWiderSpec)

end Rows
end Go.Proofs.Ytpdhdnhkhidmpaa
