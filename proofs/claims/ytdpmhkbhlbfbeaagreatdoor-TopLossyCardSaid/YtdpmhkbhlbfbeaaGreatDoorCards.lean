/-
  DERIVED. GIVEN WITH THE SEED: THE CARDS: each row of YtdpmhkbhlbfbeaaGreatDoorRows.lean that lists a variable, with what it lists TIED to the program's text (the seventh form; the later family's looks); each row that meets fmt, with fmt's text TOLD by the authors' own Lean function (tested against real Go, not proved from fmt's source: count such statements apart). THE CARD IS WHAT COUNTS. Prove the row's statement (the work); the ties are given (YtdpmhkbhlbfbeaaGreatDoorTie.lean); close each card by the builder's one call (the guide's Derived/Test/ToyasCard.lean, 'card_holds'). Laid BY PROGRAM, IN A SANDBOX (cutbox-door.mjs). By AI agents, Wed Nov 11 2026. No macro, syntax, notation, axiom, sorry.
-/
import Derived.Test.YtdpmhkbhlbfbeaaGreatDoorRows
import GoSem.ClaimSeven
namespace Go.Proofs.YtdpmhkbhlbfbeaaGreatDoor
namespace Rows

/-- THE TIED CARD OF 'gemeltop.TopLossy'. -/
def topLossyCard : Claim7 := { stood := { row := topLossyRow, standIns := [], harness := (true, "8cdf79edc810fcbace0122d798bbf02783241286242790712742fb4bebfb4ae7"), looks := true }, kinds := [], alts := [], laidByText := true, laidKinds := [.data, .data, .data, .data, .sentinel, .sentinel, .pinned], laidTests := true, laidLooks := .later }
def TopLossyCardSaid : Prop := Claim7.holds Tryz.pinned (.plain (OpenSpec.ofChange topLossySpec)) topLossyCard

/-- THE SECOND FORM's CARD OF 'gemeltop.TopLossy'. -/
def topLossyUptoCard : Claim7 := { stood := { row := topLossyUptoRow, standIns := [], harness := (true, "8cdf79edc810fcbace0122d798bbf02783241286242790712742fb4bebfb4ae7"), looks := true }, kinds := [], alts := [], laidByText := true, laidKinds := [.data, .data, .data, .data, .sentinel, .sentinel, .pinned], laidTests := true, laidLooks := .later }
def TopLossyUptoCardSaid : Prop := Claim7.holds Tryz.pinned (.plain (OpenSpec.upto topLossySpec)) topLossyUptoCard
end Rows
end Go.Proofs.YtdpmhkbhlbfbeaaGreatDoor
