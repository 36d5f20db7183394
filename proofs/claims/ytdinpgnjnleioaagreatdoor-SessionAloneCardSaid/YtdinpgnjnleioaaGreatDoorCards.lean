/-
  DERIVED. GIVEN WITH THE SEED: THE CARDS: each row of YtdinpgnjnleioaaGreatDoorRows.lean that lists a variable, with what it lists TIED to the program's text (the seventh form; the later family's looks); each row that meets fmt, with fmt's text TOLD by the authors' own Lean function (tested against real Go, not proved from fmt's source: count such statements apart). THE CARD IS WHAT COUNTS. Prove the row's statement (the work); the ties are given (YtdinpgnjnleioaaGreatDoorTie.lean); close each card by the builder's one call (the guide's Derived/Test/ToyasCard.lean, 'card_holds'). Laid BY PROGRAM, IN A SANDBOX (cutbox-door.mjs). By AI agents, Wed Nov 11 2026. No macro, syntax, notation, axiom, sorry.
-/
import Derived.Test.YtdinpgnjnleioaaGreatDoorRows
import GoSem.ClaimSeven
namespace Go.Proofs.YtdinpgnjnleioaaGreatDoor
namespace Rows

/-- THE TIED CARD OF 'gemellaw20.SessionAlone'. -/
def sessionAloneCard : Claim7 := { stood := { row := sessionAloneRow, standIns := [], harness := (true, "704ed7261e264362c438f6c4d0ba0439693d7db42876e723fa780cd474bc1fdf"), looks := true }, kinds := [], alts := [], laidByText := true, laidKinds := [.data, .data, .data, .data, .sentinel, .sentinel, .pinned], laidTests := true, laidLooks := .later }
def SessionAloneCardSaid : Prop := Claim7.holds Tryz.pinned (.plain (OpenSpec.ofChange sessionAloneSpec)) sessionAloneCard

/-- THE TIED CARD OF 'gemellaw21.ClientWrites'. -/
def clientWritesCard : Claim7 := { stood := { row := clientWritesRow, standIns := [], harness := (true, "704ed7261e264362c438f6c4d0ba0439693d7db42876e723fa780cd474bc1fdf"), looks := true }, kinds := [], alts := [], laidByText := true, laidKinds := [.data, .data, .data, .data, .sentinel, .sentinel, .pinned], laidTests := true, laidLooks := .later }
def ClientWritesCardSaid : Prop := Claim7.holds Tryz.pinned (.plain (OpenSpec.ofChange clientWritesSpec)) clientWritesCard

/-- THE TIED CARD OF 'gemellaw21.ClientKeys'. -/
def clientKeysCard : Claim7 := { stood := { row := clientKeysRow, standIns := [], harness := (true, "704ed7261e264362c438f6c4d0ba0439693d7db42876e723fa780cd474bc1fdf"), looks := true }, kinds := [], alts := [], laidByText := true, laidKinds := [.data, .data, .data, .data, .sentinel, .sentinel, .pinned], laidTests := true, laidLooks := .later }
def ClientKeysCardSaid : Prop := Claim7.holds Tryz.pinned (.plain (OpenSpec.ofChange clientKeysSpec)) clientKeysCard

/-- THE SECOND FORM's CARD OF 'gemellaw20.SessionAlone'. -/
def sessionAloneUptoCard : Claim7 := { stood := { row := sessionAloneUptoRow, standIns := [], harness := (true, "704ed7261e264362c438f6c4d0ba0439693d7db42876e723fa780cd474bc1fdf"), looks := true }, kinds := [], alts := [], laidByText := true, laidKinds := [.data, .data, .data, .data, .sentinel, .sentinel, .pinned], laidTests := true, laidLooks := .later }
def SessionAloneUptoCardSaid : Prop := Claim7.holds Tryz.pinned (.plain (OpenSpec.upto sessionAloneSpec)) sessionAloneUptoCard

/-- THE SECOND FORM's CARD OF 'gemellaw21.ClientWrites'. -/
def clientWritesUptoCard : Claim7 := { stood := { row := clientWritesUptoRow, standIns := [], harness := (true, "704ed7261e264362c438f6c4d0ba0439693d7db42876e723fa780cd474bc1fdf"), looks := true }, kinds := [], alts := [], laidByText := true, laidKinds := [.data, .data, .data, .data, .sentinel, .sentinel, .pinned], laidTests := true, laidLooks := .later }
def ClientWritesUptoCardSaid : Prop := Claim7.holds Tryz.pinned (.plain (OpenSpec.upto clientWritesSpec)) clientWritesUptoCard

/-- THE SECOND FORM's CARD OF 'gemellaw21.ClientKeys'. -/
def clientKeysUptoCard : Claim7 := { stood := { row := clientKeysUptoRow, standIns := [], harness := (true, "704ed7261e264362c438f6c4d0ba0439693d7db42876e723fa780cd474bc1fdf"), looks := true }, kinds := [], alts := [], laidByText := true, laidKinds := [.data, .data, .data, .data, .sentinel, .sentinel, .pinned], laidTests := true, laidLooks := .later }
def ClientKeysUptoCardSaid : Prop := Claim7.holds Tryz.pinned (.plain (OpenSpec.upto clientKeysSpec)) clientKeysUptoCard
end Rows
end Go.Proofs.YtdinpgnjnleioaaGreatDoor
