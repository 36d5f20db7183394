/-
  DERIVED. GIVEN WITH THE SEED: THE CARDS: each row of YtnibnbobmfejhaaDoorRows.lean that lists a variable, with what it lists TIED to the program's text (the seventh form; the later family's looks); each row that meets fmt, with fmt's text TOLD by the authors' own Lean function (tested against real Go, not proved from fmt's source: count such statements apart). THE CARD IS WHAT COUNTS. Prove the row's statement (the work); the ties are given (YtnibnbobmfejhaaDoorTie.lean); close each card by the builder's one call (the guide's Derived/Test/ToyasCard.lean, 'card_holds'). Laid BY PROGRAM, IN A SANDBOX (cutbox-door.mjs). By AI agents, Wed Nov 11 2026. No macro, syntax, notation, axiom, sorry.
-/
import Derived.Test.YtnibnbobmfejhaaDoorRows
import GoSem.ClaimSeven
namespace Go.Proofs.YtnibnbobmfejhaaDoor
namespace Rows

/-- THE TIED CARD OF 'gemellaw3.TextNumbers'. -/
def textNumbersCard : Claim7 := { stood := { row := textNumbersRow, standIns := [], harness := (true, "589bec954330564957390e481a7a591c66828e7b2dc73a5a183d0ad86bb64326"), looks := true }, kinds := [], alts := [], laidByText := true, laidKinds := [.data, .data, .data, .sentinel, .sentinel], laidTests := true, laidLooks := .later }
def TextNumbersCardSaid : Prop := Claim7.holds Tryd.pinned (.plain (OpenSpec.ofChange textNumbersSpec)) textNumbersCard

/-- THE TIED CARD OF 'gemellaw3.TextRows'. -/
def textRowsCard : Claim7 := { stood := { row := textRowsRow, standIns := [], harness := (true, "589bec954330564957390e481a7a591c66828e7b2dc73a5a183d0ad86bb64326"), looks := true }, kinds := [], alts := [], laidByText := true, laidKinds := [.data, .data, .data, .sentinel, .sentinel], laidTests := true, laidLooks := .later }
def TextRowsCardSaid : Prop := Claim7.holds Tryd.pinned (.plain (OpenSpec.ofChange textRowsSpec)) textRowsCard

/-- THE TIED CARD OF 'gemellaw3.TextChoices'. -/
def textChoicesCard : Claim7 := { stood := { row := textChoicesRow, standIns := [], harness := (true, "589bec954330564957390e481a7a591c66828e7b2dc73a5a183d0ad86bb64326"), looks := true }, kinds := [], alts := [], laidByText := true, laidKinds := [.data, .data, .data, .data, .sentinel, .sentinel, .pinned], laidTests := true, laidLooks := .later }
def TextChoicesCardSaid : Prop := Claim7.holds Tryd.pinned (.plain (OpenSpec.ofChange textChoicesSpec)) textChoicesCard

/-- THE TIED CARD OF 'gemellaw3.TextSides'. -/
def textSidesCard : Claim7 := { stood := { row := textSidesRow, standIns := [], harness := (true, "589bec954330564957390e481a7a591c66828e7b2dc73a5a183d0ad86bb64326"), looks := true }, kinds := [], alts := [], laidByText := true, laidKinds := [.data, .data, .data, .data, .sentinel, .sentinel, .pinned], laidTests := true, laidLooks := .later }
def TextSidesCardSaid : Prop := Claim7.holds Tryd.pinned (.plain (OpenSpec.ofChange textSidesSpec)) textSidesCard

/-- THE SECOND FORM's CARD OF 'gemellaw3.TextNumbers'. -/
def textNumbersUptoCard : Claim7 := { stood := { row := textNumbersUptoRow, standIns := [], harness := (true, "589bec954330564957390e481a7a591c66828e7b2dc73a5a183d0ad86bb64326"), looks := true }, kinds := [], alts := [], laidByText := true, laidKinds := [.data, .data, .data, .sentinel, .sentinel], laidTests := true, laidLooks := .later }
def TextNumbersUptoCardSaid : Prop := Claim7.holds Tryd.pinned (.plain (OpenSpec.upto textNumbersSpec)) textNumbersUptoCard

/-- THE SECOND FORM's CARD OF 'gemellaw3.TextRows'. -/
def textRowsUptoCard : Claim7 := { stood := { row := textRowsUptoRow, standIns := [], harness := (true, "589bec954330564957390e481a7a591c66828e7b2dc73a5a183d0ad86bb64326"), looks := true }, kinds := [], alts := [], laidByText := true, laidKinds := [.data, .data, .data, .sentinel, .sentinel], laidTests := true, laidLooks := .later }
def TextRowsUptoCardSaid : Prop := Claim7.holds Tryd.pinned (.plain (OpenSpec.upto textRowsSpec)) textRowsUptoCard

/-- THE SECOND FORM's CARD OF 'gemellaw3.TextChoices'. -/
def textChoicesUptoCard : Claim7 := { stood := { row := textChoicesUptoRow, standIns := [], harness := (true, "589bec954330564957390e481a7a591c66828e7b2dc73a5a183d0ad86bb64326"), looks := true }, kinds := [], alts := [], laidByText := true, laidKinds := [.data, .data, .data, .data, .sentinel, .sentinel, .pinned], laidTests := true, laidLooks := .later }
def TextChoicesUptoCardSaid : Prop := Claim7.holds Tryd.pinned (.plain (OpenSpec.upto textChoicesSpec)) textChoicesUptoCard

/-- THE SECOND FORM's CARD OF 'gemellaw3.TextSides'. -/
def textSidesUptoCard : Claim7 := { stood := { row := textSidesUptoRow, standIns := [], harness := (true, "589bec954330564957390e481a7a591c66828e7b2dc73a5a183d0ad86bb64326"), looks := true }, kinds := [], alts := [], laidByText := true, laidKinds := [.data, .data, .data, .data, .sentinel, .sentinel, .pinned], laidTests := true, laidLooks := .later }
def TextSidesUptoCardSaid : Prop := Claim7.holds Tryd.pinned (.plain (OpenSpec.upto textSidesSpec)) textSidesUptoCard
end Rows
end Go.Proofs.YtnibnbobmfejhaaDoor
