/-
  No cell of these rows narrows 'for every input' (looked for: loops, veiled, ifaces, maps, wideKeys, modest, calm, conditions, laid).
  DERIVED. THE GIVEN ROWS OF THIS SEAT. 6 by the template 'for every input the law returns true; each argument reads behind the call as it read before'; 0 by the template 'total and deterministic' (their statements: YtbdclkjelhlfbaaGreatTotals.lean).
  GIVEN WITH THE SEED: the statements are not yours to turn. If you find one false, say at which input.
  Laid BY PROGRAM, IN A SANDBOX (cutbox-rows.mjs): the forced cells as the released guide's own fill.sh prints them over the translation c865704da1ef383a… (all of the seat's roots in one cut). By AI agents, Wed Nov 11 2026. No macro, syntax, notation, axiom, sorry.
-/
import Derived.Test.YtbdclkjelhlfbaaGreatChecked
import GoSem.Claim
import GoSem.ClaimJoined
import GoSem.ClaimMapViews
import Derived.JoinedTies
import Derived.KernelRfl
namespace Go.Proofs.YtbdclkjelhlfbaaGreat
/- THE CELL 'sum', in the pinned program and in every row, IS THE sha256 OF THE DUMP (.gsa) THAT YtbdclkjelhlfbaaGreatProg.lean LOADS. Nothing in Lean hashes anything: it is a label: what it is worth is what the hold of that sum in a sandbox is worth. -/
noncomputable def Tryz.pinned : Pinned := { name := "ytbdclkjelhlfbaagreat", sum := "c865704da1ef383a0b5cc2eacc7d1254b075219efe95e8e33cd44e1344f0d517", checked := Tryz.checked }
namespace Rows
def none {H : Type} : Left H := { results := [], args := [] }

/-- 'spigotlaw18.HistChecks': WHATEVER THE INPUT: true; the input reads as it did. -/
def histChecksSpec : ChangeSpec := { name := "histChecks", fn := fun _ => fun
  | [d1, d2] => { results := [.lit (.bool true)], args := [d1, d2] }
  | _ => none }
def histChecksRow : OpenClaim := { program := "ytbdclkjelhlfbaagreat", sum := "c865704da1ef383a0b5cc2eacc7d1254b075219efe95e8e33cd44e1344f0d517", func := "spigot/spigotlaw18.HistChecks", spec := "histChecks", inPlace := ["internal/bytealg.Compare", "slices.overlaps[int64]", "slices.overlaps[spigot/api.Cell]"], unfollowed := true, recurses := true, apart := false }
def HistChecksSaid : Prop := histChecksRow.holds Tryz.pinned (OpenSpec.ofChange histChecksSpec)

/-- ITS FALSE NEIGHBOUR: 'it returns false'. Refute it at one input. -/
def histChecksWrong : ChangeSpec := { name := "histChecks", fn := fun _ => fun
  | [d1, d2] => { results := [.lit (.bool false)], args := [d1, d2] }
  | _ => none }
def HistChecksWrongFalsely : Prop := histChecksRow.holds Tryz.pinned (OpenSpec.ofChange histChecksWrong)

/-- 'spigotlaw15.DirPlays': WHATEVER THE INPUT: true; the input reads as it did. -/
def dirPlaysSpec : ChangeSpec := { name := "dirPlays", fn := fun _ => fun
  | [d] => { results := [.lit (.bool true)], args := [d] }
  | _ => none }
def dirPlaysRow : OpenClaim := { program := "ytbdclkjelhlfbaagreat", sum := "c865704da1ef383a0b5cc2eacc7d1254b075219efe95e8e33cd44e1344f0d517", func := "spigot/spigotlaw15.DirPlays", spec := "dirPlays", inPlace := ["internal/bytealg.Compare", "slices.overlaps[spigot/dir.Entry]"], unfollowed := true, recurses := true, apart := false }
def DirPlaysSaid : Prop := dirPlaysRow.holds Tryz.pinned (OpenSpec.ofChange dirPlaysSpec)

/-- ITS FALSE NEIGHBOUR: 'it returns false'. Refute it at one input. -/
def dirPlaysWrong : ChangeSpec := { name := "dirPlays", fn := fun _ => fun
  | [d] => { results := [.lit (.bool false)], args := [d] }
  | _ => none }
def DirPlaysWrongFalsely : Prop := dirPlaysRow.holds Tryz.pinned (OpenSpec.ofChange dirPlaysWrong)

/-- 'spigotlaw15.DirNil': WHATEVER THE INPUT: true; the input reads as it did. -/
def dirNilSpec : ChangeSpec := { name := "dirNil", fn := fun _ => fun
  | [d] => { results := [.lit (.bool true)], args := [d] }
  | _ => none }
def dirNilRow : OpenClaim := { program := "ytbdclkjelhlfbaagreat", sum := "c865704da1ef383a0b5cc2eacc7d1254b075219efe95e8e33cd44e1344f0d517", func := "spigot/spigotlaw15.DirNil", spec := "dirNil", inPlace := ["internal/bytealg.Compare", "slices.overlaps[spigot/dir.Entry]"], unfollowed := true, recurses := true, apart := false }
def DirNilSaid : Prop := dirNilRow.holds Tryz.pinned (OpenSpec.ofChange dirNilSpec)

/-- ITS FALSE NEIGHBOUR: 'it returns false'. Refute it at one input. -/
def dirNilWrong : ChangeSpec := { name := "dirNil", fn := fun _ => fun
  | [d] => { results := [.lit (.bool false)], args := [d] }
  | _ => none }
def DirNilWrongFalsely : Prop := dirNilRow.holds Tryz.pinned (OpenSpec.ofChange dirNilWrong)

/-- 'spigotlaw15.DirAtOnce': WHATEVER THE INPUT: true; the input reads as it did. -/
def dirAtOnceSpec : ChangeSpec := { name := "dirAtOnce", fn := fun _ => fun
  | [d] => { results := [.lit (.bool true)], args := [d] }
  | _ => none }
def dirAtOnceRow : OpenClaim := { program := "ytbdclkjelhlfbaagreat", sum := "c865704da1ef383a0b5cc2eacc7d1254b075219efe95e8e33cd44e1344f0d517", func := "spigot/spigotlaw15.DirAtOnce", spec := "dirAtOnce", inPlace := ["internal/bytealg.Compare", "slices.overlaps[spigot/dir.Entry]"], unfollowed := true, recurses := true, apart := false }
def DirAtOnceSaid : Prop := dirAtOnceRow.holds Tryz.pinned (OpenSpec.ofChange dirAtOnceSpec)

/-- ITS FALSE NEIGHBOUR: 'it returns false'. Refute it at one input. -/
def dirAtOnceWrong : ChangeSpec := { name := "dirAtOnce", fn := fun _ => fun
  | [d] => { results := [.lit (.bool false)], args := [d] }
  | _ => none }
def DirAtOnceWrongFalsely : Prop := dirAtOnceRow.holds Tryz.pinned (OpenSpec.ofChange dirAtOnceWrong)

/-- 'spigotlaw15.DirAlone': WHATEVER THE INPUT: true; the input reads as it did. -/
def dirAloneSpec : ChangeSpec := { name := "dirAlone", fn := fun _ => fun
  | [d1, d2] => { results := [.lit (.bool true)], args := [d1, d2] }
  | _ => none }
def dirAloneRow : OpenClaim := { program := "ytbdclkjelhlfbaagreat", sum := "c865704da1ef383a0b5cc2eacc7d1254b075219efe95e8e33cd44e1344f0d517", func := "spigot/spigotlaw15.DirAlone", spec := "dirAlone", inPlace := ["internal/bytealg.Compare", "slices.overlaps[spigot/dir.Entry]"], unfollowed := true, recurses := true, apart := false }
def DirAloneSaid : Prop := dirAloneRow.holds Tryz.pinned (OpenSpec.ofChange dirAloneSpec)

/-- ITS FALSE NEIGHBOUR: 'it returns false'. Refute it at one input. -/
def dirAloneWrong : ChangeSpec := { name := "dirAlone", fn := fun _ => fun
  | [d1, d2] => { results := [.lit (.bool false)], args := [d1, d2] }
  | _ => none }
def DirAloneWrongFalsely : Prop := dirAloneRow.holds Tryz.pinned (OpenSpec.ofChange dirAloneWrong)

/-- 'spigotlaw15.DirUnseen': WHATEVER THE INPUT: true; the input reads as it did. -/
def dirUnseenSpec : ChangeSpec := { name := "dirUnseen", fn := fun _ => fun
  | [d1, d2] => { results := [.lit (.bool true)], args := [d1, d2] }
  | _ => none }
def dirUnseenRow : OpenClaim := { program := "ytbdclkjelhlfbaagreat", sum := "c865704da1ef383a0b5cc2eacc7d1254b075219efe95e8e33cd44e1344f0d517", func := "spigot/spigotlaw15.DirUnseen", spec := "dirUnseen", inPlace := ["internal/bytealg.Compare", "slices.overlaps[spigot/dir.Entry]"], unfollowed := true, recurses := true, apart := false }
def DirUnseenSaid : Prop := dirUnseenRow.holds Tryz.pinned (OpenSpec.ofChange dirUnseenSpec)

/-- ITS FALSE NEIGHBOUR: 'it returns false'. Refute it at one input. -/
def dirUnseenWrong : ChangeSpec := { name := "dirUnseen", fn := fun _ => fun
  | [d1, d2] => { results := [.lit (.bool false)], args := [d1, d2] }
  | _ => none }
def DirUnseenWrongFalsely : Prop := dirUnseenRow.holds Tryz.pinned (OpenSpec.ofChange dirUnseenWrong)

/- THE SECOND FORM. 'bulk': how many values and letters a reading holds, each counted each time it is reached (what is shared counts as often as it is met; a slice's spare places count too). A statement '..UptoSaid' is the law's where the arguments, and the package variables that the reading takes, are together of bulk at most 1048576: NARROWER than '..Said'. Prove '..Said' where nothing that the law and all that it calls make is longer than what came in: it says more and counts as full. Else prove '..UptoSaid'. A law counts once. -/
mutual
def uptoBulk {H : Type} : DataW H → Nat
  | .lit (.string bytes) => bytes.length + 1
  | .lit _ => 1
  | .nil => 1
  | .ptr d => uptoBulk d + 1
  | .slice elems spare => uptoBulkAll elems + uptoBulkAll spare + 1
  | .agg parts => uptoBulkAll parts + 1
  | .iface _ d => uptoBulk d + 1
  | .map entries => uptoBulkEntries entries + 1
  | .held _ => 1
def uptoBulkAll {H : Type} : List (DataW H) → Nat
  | [] => 0
  | d :: r => uptoBulk d + uptoBulkAll r
def uptoBulkEntries {H : Type} : List (Lit × DataW H) → Nat
  | [] => 0
  | x :: r => uptoBulkEntry x + uptoBulkEntries r
def uptoBulkEntry {H : Type} : Lit × DataW H → Nat
  | (.string bytes, d) => bytes.length + uptoBulk d + 1
  | (_, d) => uptoBulk d + 1
 end
def uptoSmall : (H : Type) → List (DataW H) → Bool := fun _ ds => decide (uptoBulkAll ds ≤ 1048576)
def OpenSpec.upto (s : _root_.Go.ChangeSpec) : _root_.Go.OpenSpec := { _root_.Go.OpenSpec.ofChange s with cond := some uptoSmall }

/-- 'spigotlaw18.HistChecks', WHERE WHAT IT READS IS OF BULK AT MOST 1048576: true; the input reads as it did. -/
def histChecksUptoRow : OpenClaim := { program := "ytbdclkjelhlfbaagreat", sum := "c865704da1ef383a0b5cc2eacc7d1254b075219efe95e8e33cd44e1344f0d517", func := "spigot/spigotlaw18.HistChecks", spec := "histChecks", inPlace := ["internal/bytealg.Compare", "slices.overlaps[int64]", "slices.overlaps[spigot/api.Cell]"], unfollowed := true, recurses := true, apart := false, narrowed := true }
def HistChecksUptoSaid : Prop := histChecksUptoRow.holds Tryz.pinned (OpenSpec.upto histChecksSpec)

/-- 'spigotlaw15.DirPlays', WHERE WHAT IT READS IS OF BULK AT MOST 1048576: true; the input reads as it did. -/
def dirPlaysUptoRow : OpenClaim := { program := "ytbdclkjelhlfbaagreat", sum := "c865704da1ef383a0b5cc2eacc7d1254b075219efe95e8e33cd44e1344f0d517", func := "spigot/spigotlaw15.DirPlays", spec := "dirPlays", inPlace := ["internal/bytealg.Compare", "slices.overlaps[spigot/dir.Entry]"], unfollowed := true, recurses := true, apart := false, narrowed := true }
def DirPlaysUptoSaid : Prop := dirPlaysUptoRow.holds Tryz.pinned (OpenSpec.upto dirPlaysSpec)

/-- 'spigotlaw15.DirNil', WHERE WHAT IT READS IS OF BULK AT MOST 1048576: true; the input reads as it did. -/
def dirNilUptoRow : OpenClaim := { program := "ytbdclkjelhlfbaagreat", sum := "c865704da1ef383a0b5cc2eacc7d1254b075219efe95e8e33cd44e1344f0d517", func := "spigot/spigotlaw15.DirNil", spec := "dirNil", inPlace := ["internal/bytealg.Compare", "slices.overlaps[spigot/dir.Entry]"], unfollowed := true, recurses := true, apart := false, narrowed := true }
def DirNilUptoSaid : Prop := dirNilUptoRow.holds Tryz.pinned (OpenSpec.upto dirNilSpec)

/-- 'spigotlaw15.DirAtOnce', WHERE WHAT IT READS IS OF BULK AT MOST 1048576: true; the input reads as it did. -/
def dirAtOnceUptoRow : OpenClaim := { program := "ytbdclkjelhlfbaagreat", sum := "c865704da1ef383a0b5cc2eacc7d1254b075219efe95e8e33cd44e1344f0d517", func := "spigot/spigotlaw15.DirAtOnce", spec := "dirAtOnce", inPlace := ["internal/bytealg.Compare", "slices.overlaps[spigot/dir.Entry]"], unfollowed := true, recurses := true, apart := false, narrowed := true }
def DirAtOnceUptoSaid : Prop := dirAtOnceUptoRow.holds Tryz.pinned (OpenSpec.upto dirAtOnceSpec)

/-- 'spigotlaw15.DirAlone', WHERE WHAT IT READS IS OF BULK AT MOST 1048576: true; the input reads as it did. -/
def dirAloneUptoRow : OpenClaim := { program := "ytbdclkjelhlfbaagreat", sum := "c865704da1ef383a0b5cc2eacc7d1254b075219efe95e8e33cd44e1344f0d517", func := "spigot/spigotlaw15.DirAlone", spec := "dirAlone", inPlace := ["internal/bytealg.Compare", "slices.overlaps[spigot/dir.Entry]"], unfollowed := true, recurses := true, apart := false, narrowed := true }
def DirAloneUptoSaid : Prop := dirAloneUptoRow.holds Tryz.pinned (OpenSpec.upto dirAloneSpec)

/-- 'spigotlaw15.DirUnseen', WHERE WHAT IT READS IS OF BULK AT MOST 1048576: true; the input reads as it did. -/
def dirUnseenUptoRow : OpenClaim := { program := "ytbdclkjelhlfbaagreat", sum := "c865704da1ef383a0b5cc2eacc7d1254b075219efe95e8e33cd44e1344f0d517", func := "spigot/spigotlaw15.DirUnseen", spec := "dirUnseen", inPlace := ["internal/bytealg.Compare", "slices.overlaps[spigot/dir.Entry]"], unfollowed := true, recurses := true, apart := false, narrowed := true }
def DirUnseenUptoSaid : Prop := dirUnseenUptoRow.holds Tryz.pinned (OpenSpec.upto dirUnseenSpec)

end Rows
end Go.Proofs.YtbdclkjelhlfbaaGreat
