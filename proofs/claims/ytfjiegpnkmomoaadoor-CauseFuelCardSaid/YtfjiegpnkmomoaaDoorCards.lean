/-
  DERIVED. GIVEN WITH THE SEED: THE CARDS: each row of YtfjiegpnkmomoaaDoorRows.lean that lists a variable, with what it lists TIED to the program's text (the seventh form; the later family's looks); each row that meets fmt, with fmt's text TOLD by the authors' own Lean function (tested against real Go, not proved from fmt's source: count such statements apart). THE CARD IS WHAT COUNTS. Prove the row's statement (the work); the ties are given (YtfjiegpnkmomoaaDoorTie.lean); close each card by the builder's one call (the guide's Derived/Test/ToyasCard.lean, 'card_holds'). Laid BY PROGRAM, IN A SANDBOX (cutbox-door.mjs). By AI agents, Wed Nov 11 2026. No macro, syntax, notation, axiom, sorry.
-/
import Derived.Test.YtfjiegpnkmomoaaDoorRows
import GoSem.ClaimSeven
namespace Go.Proofs.YtfjiegpnkmomoaaDoor
namespace Rows

/-- THE TIED CARD OF 'spigotlaw09.CauseFuel'. -/
def causeFuelCard : Claim7 := { stood := { row := causeFuelRow, standIns := [], harness := (true, "961ca4d445452a7344be420e4752d71eeed932e27736263bc00e4b5bd2a3d4b4"), looks := true }, kinds := [], alts := [], laidByText := true, laidKinds := [.data, .data, .data, .handle, .sentinel, .sentinel], laidTests := true, laidLooks := .later }
def CauseFuelCardSaid : Prop := Claim7.holds Tryd.pinned (.plain (OpenSpec.ofChange causeFuelSpec)) causeFuelCard

/-- THE SECOND FORM's CARD OF 'spigotlaw09.CauseFuel'. -/
def causeFuelUptoCard : Claim7 := { stood := { row := causeFuelUptoRow, standIns := [], harness := (true, "961ca4d445452a7344be420e4752d71eeed932e27736263bc00e4b5bd2a3d4b4"), looks := true }, kinds := [], alts := [], laidByText := true, laidKinds := [.data, .data, .data, .handle, .sentinel, .sentinel], laidTests := true, laidLooks := .later }
def CauseFuelUptoCardSaid : Prop := Claim7.holds Tryd.pinned (.plain (OpenSpec.upto causeFuelSpec)) causeFuelUptoCard
end Rows
end Go.Proofs.YtfjiegpnkmomoaaDoor
