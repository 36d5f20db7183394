/-
  DERIVED. GIVEN WITH THE SEED: THE CARDS: each row of YtnclgknfccliiaaGreatDoorRows.lean that lists a variable, with what it lists TIED to the program's text (the seventh form; the later family's looks); each row that meets fmt, with fmt's text TOLD by the authors' own Lean function (tested against real Go, not proved from fmt's source: count such statements apart). THE CARD IS WHAT COUNTS. Prove the row's statement (the work); the ties are given (YtnclgknfccliiaaGreatDoorTie.lean); close each card by the builder's one call (the guide's Derived/Test/ToyasCard.lean, 'card_holds'). Laid BY PROGRAM, IN A SANDBOX (cutbox-door.mjs). By AI agents, Wed Nov 11 2026. No macro, syntax, notation, axiom, sorry.
-/
import Derived.Test.YtnclgknfccliiaaGreatDoorRows
import GoSem.ClaimSeven
namespace Go.Proofs.YtnclgknfccliiaaGreatDoor
namespace Rows

/-- THE TIED CARD OF 'gemeltop.TopPaths'. -/
def topPathsCard : Claim7 := { stood := { row := topPathsRow, standIns := [], harness := (true, "0bc310e132b655765d462c2bd447e2bb4e03a74268f5039e3c36506748f5052f"), looks := true }, kinds := [], alts := [], laidByText := true, laidKinds := [.data, .data, .data, .data, .sentinel, .sentinel, .pinned], laidTests := true, laidLooks := .later }
def TopPathsCardSaid : Prop := Claim7.holds Tryz.pinned (.plain (OpenSpec.ofChange topPathsSpec)) topPathsCard

/-- THE TIED CARD OF 'gemeltop.TopMaps'. -/
def topMapsCard : Claim7 := { stood := { row := topMapsRow, standIns := [], harness := (true, "0bc310e132b655765d462c2bd447e2bb4e03a74268f5039e3c36506748f5052f"), looks := true }, kinds := [], alts := [], laidByText := true, laidKinds := [.data, .data, .data, .data, .sentinel, .sentinel, .pinned], laidTests := true, laidLooks := .later }
def TopMapsCardSaid : Prop := Claim7.holds Tryz.pinned (.plain (OpenSpec.ofChange topMapsSpec)) topMapsCard

/-- THE TIED CARD OF 'gemeltop.TopKeys'. -/
def topKeysCard : Claim7 := { stood := { row := topKeysRow, standIns := [], harness := (true, "0bc310e132b655765d462c2bd447e2bb4e03a74268f5039e3c36506748f5052f"), looks := true }, kinds := [], alts := [], laidByText := true, laidKinds := [.data, .data, .data, .data, .sentinel, .sentinel, .pinned], laidTests := true, laidLooks := .later }
def TopKeysCardSaid : Prop := Claim7.holds Tryz.pinned (.plain (OpenSpec.ofChange topKeysSpec)) topKeysCard

/-- THE TIED CARD OF 'gemeltop.TopQueue'. -/
def topQueueCard : Claim7 := { stood := { row := topQueueRow, standIns := [], harness := (true, "0bc310e132b655765d462c2bd447e2bb4e03a74268f5039e3c36506748f5052f"), looks := true }, kinds := [], alts := [], laidByText := true, laidKinds := [.data, .data, .data, .data, .sentinel, .sentinel, .pinned], laidTests := true, laidLooks := .later }
def TopQueueCardSaid : Prop := Claim7.holds Tryz.pinned (.plain (OpenSpec.ofChange topQueueSpec)) topQueueCard

/-- THE SECOND FORM's CARD OF 'gemeltop.TopPaths'. -/
def topPathsUptoCard : Claim7 := { stood := { row := topPathsUptoRow, standIns := [], harness := (true, "0bc310e132b655765d462c2bd447e2bb4e03a74268f5039e3c36506748f5052f"), looks := true }, kinds := [], alts := [], laidByText := true, laidKinds := [.data, .data, .data, .data, .sentinel, .sentinel, .pinned], laidTests := true, laidLooks := .later }
def TopPathsUptoCardSaid : Prop := Claim7.holds Tryz.pinned (.plain (OpenSpec.upto topPathsSpec)) topPathsUptoCard

/-- THE SECOND FORM's CARD OF 'gemeltop.TopMaps'. -/
def topMapsUptoCard : Claim7 := { stood := { row := topMapsUptoRow, standIns := [], harness := (true, "0bc310e132b655765d462c2bd447e2bb4e03a74268f5039e3c36506748f5052f"), looks := true }, kinds := [], alts := [], laidByText := true, laidKinds := [.data, .data, .data, .data, .sentinel, .sentinel, .pinned], laidTests := true, laidLooks := .later }
def TopMapsUptoCardSaid : Prop := Claim7.holds Tryz.pinned (.plain (OpenSpec.upto topMapsSpec)) topMapsUptoCard

/-- THE SECOND FORM's CARD OF 'gemeltop.TopKeys'. -/
def topKeysUptoCard : Claim7 := { stood := { row := topKeysUptoRow, standIns := [], harness := (true, "0bc310e132b655765d462c2bd447e2bb4e03a74268f5039e3c36506748f5052f"), looks := true }, kinds := [], alts := [], laidByText := true, laidKinds := [.data, .data, .data, .data, .sentinel, .sentinel, .pinned], laidTests := true, laidLooks := .later }
def TopKeysUptoCardSaid : Prop := Claim7.holds Tryz.pinned (.plain (OpenSpec.upto topKeysSpec)) topKeysUptoCard

/-- THE SECOND FORM's CARD OF 'gemeltop.TopQueue'. -/
def topQueueUptoCard : Claim7 := { stood := { row := topQueueUptoRow, standIns := [], harness := (true, "0bc310e132b655765d462c2bd447e2bb4e03a74268f5039e3c36506748f5052f"), looks := true }, kinds := [], alts := [], laidByText := true, laidKinds := [.data, .data, .data, .data, .sentinel, .sentinel, .pinned], laidTests := true, laidLooks := .later }
def TopQueueUptoCardSaid : Prop := Claim7.holds Tryz.pinned (.plain (OpenSpec.upto topQueueSpec)) topQueueUptoCard
end Rows
end Go.Proofs.YtnclgknfccliiaaGreatDoor
