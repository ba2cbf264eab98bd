/-
  DERIVED. GIVEN WITH THE SEED: THE CARDS: each row of YteallmlkkcjblaaGreatDoorRows.lean that lists a variable, with what it lists TIED to the program's text (the seventh form; the later family's looks); each row that meets fmt, with fmt's text TOLD by the authors' own Lean function (tested against real Go, not proved from fmt's source: count such statements apart). THE CARD IS WHAT COUNTS. Prove the row's statement (the work); the ties are given (YteallmlkkcjblaaGreatDoorTie.lean); close each card by the builder's one call (the guide's Derived/Test/ToyasCard.lean, 'card_holds'). Laid BY PROGRAM, IN A SANDBOX (cutbox-door.mjs). By AI agents, Wed Nov 11 2026. No macro, syntax, notation, axiom, sorry.
-/
import Derived.Test.YteallmlkkcjblaaGreatDoorRows
import GoSem.ClaimSeven
namespace Go.Proofs.YteallmlkkcjblaaGreatDoor
namespace Rows

/-- THE TIED CARD OF 'spigotlaw10.GuardNil'. -/
def guardNilCard : Claim7 := { stood := { row := guardNilRow, standIns := [], harness := (true, "56f0522de50fbdfd30664ff726c4762f9420487fbe570ca79596e8d63ebb0f2e"), looks := true }, kinds := [], alts := [], laidByText := true, laidKinds := [.data, .data, .data, .handle, .sentinel, .sentinel], laidTests := true, laidLooks := .later }
def GuardNilCardSaid : Prop := Claim7.holds Tryz.pinned (.plain (OpenSpec.ofChange guardNilSpec)) guardNilCard

/-- THE SECOND FORM's CARD OF 'spigotlaw10.GuardNil'. -/
def guardNilUptoCard : Claim7 := { stood := { row := guardNilUptoRow, standIns := [], harness := (true, "56f0522de50fbdfd30664ff726c4762f9420487fbe570ca79596e8d63ebb0f2e"), looks := true }, kinds := [], alts := [], laidByText := true, laidKinds := [.data, .data, .data, .handle, .sentinel, .sentinel], laidTests := true, laidLooks := .later }
def GuardNilUptoCardSaid : Prop := Claim7.holds Tryz.pinned (.plain (OpenSpec.upto guardNilSpec)) guardNilUptoCard
end Rows
end Go.Proofs.YteallmlkkcjblaaGreatDoor
