/-
  DERIVED. GIVEN WITH THE SEED: THE CARDS: each row of YtacenidajlncaaaDoorRows.lean that lists a variable, with what it lists TIED to the program's text (the seventh form; the later family's looks); each row that meets fmt, with fmt's text TOLD by the authors' own Lean function (tested against real Go, not proved from fmt's source: count such statements apart). THE CARD IS WHAT COUNTS. Prove the row's statement (the work); the ties are given (YtacenidajlncaaaDoorTie.lean); close each card by the builder's one call (the guide's Derived/Test/ToyasCard.lean, 'card_holds'). Laid BY PROGRAM, IN A SANDBOX (cutbox-door.mjs). By AI agents, Wed Nov 11 2026. No macro, syntax, notation, axiom, sorry.
-/
import Derived.Test.YtacenidajlncaaaDoorRows
import GoSem.ClaimSeven
namespace Go.Proofs.YtacenidajlncaaaDoor
namespace Rows

/-- THE TIED CARD OF 'gemellaw5.SenseWords'. -/
def senseWordsCard : Claim7 := { stood := { row := senseWordsRow, standIns := [], harness := (true, "ab28e7315645d2ce6914d004f71915dafeab8fc0e7086bb9eeb56ac5f36a4c78"), looks := false }, kinds := [], alts := [], laidByText := true, laidKinds := [.data, .data, .data], laidTests := true, laidLooks := .later }
def SenseWordsCardSaid : Prop := Claim7.holds Tryd.pinned (.plain (OpenSpec.ofChange senseWordsSpec)) senseWordsCard

/-- THE SECOND FORM's CARD OF 'gemellaw5.SenseWords'. -/
def senseWordsUptoCard : Claim7 := { stood := { row := senseWordsUptoRow, standIns := [], harness := (true, "ab28e7315645d2ce6914d004f71915dafeab8fc0e7086bb9eeb56ac5f36a4c78"), looks := false }, kinds := [], alts := [], laidByText := true, laidKinds := [.data, .data, .data], laidTests := true, laidLooks := .later }
def SenseWordsUptoCardSaid : Prop := Claim7.holds Tryd.pinned (.plain (OpenSpec.upto senseWordsSpec)) senseWordsUptoCard
end Rows
end Go.Proofs.YtacenidajlncaaaDoor
