/-
  DERIVED. GIVEN WITH THE SEED: THE CARDS: each row of YtghineciiljeoaaGreatDoorRows.lean that lists a variable, with what it lists TIED to the program's text (the seventh form; the later family's looks); each row that meets fmt, with fmt's text TOLD by the authors' own Lean function (tested against real Go, not proved from fmt's source: count such statements apart). THE CARD IS WHAT COUNTS. Prove the row's statement (the work); the ties are given (YtghineciiljeoaaGreatDoorTie.lean); close each card by the builder's one call (the guide's Derived/Test/ToyasCard.lean, 'card_holds'). Laid BY PROGRAM, IN A SANDBOX (cutbox-door.mjs). By AI agents, Wed Nov 11 2026. No macro, syntax, notation, axiom, sorry.
-/
import Derived.Test.YtghineciiljeoaaGreatDoorRows
import GoSem.ClaimSeven
namespace Go.Proofs.YtghineciiljeoaaGreatDoor
namespace Rows

/-- THE TIED CARD OF 'gemeltop.TopLossy'. -/
def topLossyCard : Claim7 := { stood := { row := topLossyRow, standIns := [], harness := (true, "a41e3de2136dceae9a80022f80ced152ae3a74f408d9ca72cd9a496b3344d601"), looks := true }, kinds := [], alts := [], laidByText := true, laidKinds := [.data, .data, .data, .data, .sentinel, .sentinel, .pinned], laidTests := true, laidLooks := .later }
def TopLossyCardSaid : Prop := Claim7.holds Tryz.pinned (.plain (OpenSpec.ofChange topLossySpec)) topLossyCard

/-- THE TIED CARD OF 'gemeltop.TopPaths'. -/
def topPathsCard : Claim7 := { stood := { row := topPathsRow, standIns := [], harness := (true, "a41e3de2136dceae9a80022f80ced152ae3a74f408d9ca72cd9a496b3344d601"), looks := true }, kinds := [], alts := [], laidByText := true, laidKinds := [.data, .data, .data, .data, .sentinel, .sentinel, .pinned], laidTests := true, laidLooks := .later }
def TopPathsCardSaid : Prop := Claim7.holds Tryz.pinned (.plain (OpenSpec.ofChange topPathsSpec)) topPathsCard

/-- THE TIED CARD OF 'gemeltop.TopClock'. -/
def topClockCard : Claim7 := { stood := { row := topClockRow, standIns := [], harness := (true, "a41e3de2136dceae9a80022f80ced152ae3a74f408d9ca72cd9a496b3344d601"), looks := true }, kinds := [], alts := [], laidByText := true, laidKinds := [.data, .data, .data, .data, .sentinel, .sentinel, .pinned], laidTests := true, laidLooks := .later }
def TopClockCardSaid : Prop := Claim7.holds Tryz.pinned (.plain (OpenSpec.ofChange topClockSpec)) topClockCard

/-- THE TIED CARD OF 'gemeltop.TopRegister'. -/
def topRegisterCard : Claim7 := { stood := { row := topRegisterRow, standIns := [], harness := (true, "a41e3de2136dceae9a80022f80ced152ae3a74f408d9ca72cd9a496b3344d601"), looks := true }, kinds := [], alts := [], laidByText := true, laidKinds := [.data, .data, .data, .data, .sentinel, .sentinel, .pinned], laidTests := true, laidLooks := .later }
def TopRegisterCardSaid : Prop := Claim7.holds Tryz.pinned (.plain (OpenSpec.ofChange topRegisterSpec)) topRegisterCard

/-- THE TIED CARD OF 'gemeltop.TopJournal'. -/
def topJournalCard : Claim7 := { stood := { row := topJournalRow, standIns := [], harness := (true, "a41e3de2136dceae9a80022f80ced152ae3a74f408d9ca72cd9a496b3344d601"), looks := true }, kinds := [], alts := [], laidByText := true, laidKinds := [.data, .data, .data, .data, .sentinel, .sentinel, .pinned], laidTests := true, laidLooks := .later }
def TopJournalCardSaid : Prop := Claim7.holds Tryz.pinned (.plain (OpenSpec.ofChange topJournalSpec)) topJournalCard

/-- THE TIED CARD OF 'gemeltop.TopSnapshot'. -/
def topSnapshotCard : Claim7 := { stood := { row := topSnapshotRow, standIns := [], harness := (true, "a41e3de2136dceae9a80022f80ced152ae3a74f408d9ca72cd9a496b3344d601"), looks := true }, kinds := [], alts := [], laidByText := true, laidKinds := [.data, .data, .data, .data, .sentinel, .sentinel, .pinned], laidTests := true, laidLooks := .later }
def TopSnapshotCardSaid : Prop := Claim7.holds Tryz.pinned (.plain (OpenSpec.ofChange topSnapshotSpec)) topSnapshotCard

/-- THE SECOND FORM's CARD OF 'gemeltop.TopLossy'. -/
def topLossyUptoCard : Claim7 := { stood := { row := topLossyUptoRow, standIns := [], harness := (true, "a41e3de2136dceae9a80022f80ced152ae3a74f408d9ca72cd9a496b3344d601"), looks := true }, kinds := [], alts := [], laidByText := true, laidKinds := [.data, .data, .data, .data, .sentinel, .sentinel, .pinned], laidTests := true, laidLooks := .later }
def TopLossyUptoCardSaid : Prop := Claim7.holds Tryz.pinned (.plain (OpenSpec.upto topLossySpec)) topLossyUptoCard

/-- THE SECOND FORM's CARD OF 'gemeltop.TopPaths'. -/
def topPathsUptoCard : Claim7 := { stood := { row := topPathsUptoRow, standIns := [], harness := (true, "a41e3de2136dceae9a80022f80ced152ae3a74f408d9ca72cd9a496b3344d601"), looks := true }, kinds := [], alts := [], laidByText := true, laidKinds := [.data, .data, .data, .data, .sentinel, .sentinel, .pinned], laidTests := true, laidLooks := .later }
def TopPathsUptoCardSaid : Prop := Claim7.holds Tryz.pinned (.plain (OpenSpec.upto topPathsSpec)) topPathsUptoCard

/-- THE SECOND FORM's CARD OF 'gemeltop.TopClock'. -/
def topClockUptoCard : Claim7 := { stood := { row := topClockUptoRow, standIns := [], harness := (true, "a41e3de2136dceae9a80022f80ced152ae3a74f408d9ca72cd9a496b3344d601"), looks := true }, kinds := [], alts := [], laidByText := true, laidKinds := [.data, .data, .data, .data, .sentinel, .sentinel, .pinned], laidTests := true, laidLooks := .later }
def TopClockUptoCardSaid : Prop := Claim7.holds Tryz.pinned (.plain (OpenSpec.upto topClockSpec)) topClockUptoCard

/-- THE SECOND FORM's CARD OF 'gemeltop.TopRegister'. -/
def topRegisterUptoCard : Claim7 := { stood := { row := topRegisterUptoRow, standIns := [], harness := (true, "a41e3de2136dceae9a80022f80ced152ae3a74f408d9ca72cd9a496b3344d601"), looks := true }, kinds := [], alts := [], laidByText := true, laidKinds := [.data, .data, .data, .data, .sentinel, .sentinel, .pinned], laidTests := true, laidLooks := .later }
def TopRegisterUptoCardSaid : Prop := Claim7.holds Tryz.pinned (.plain (OpenSpec.upto topRegisterSpec)) topRegisterUptoCard

/-- THE SECOND FORM's CARD OF 'gemeltop.TopJournal'. -/
def topJournalUptoCard : Claim7 := { stood := { row := topJournalUptoRow, standIns := [], harness := (true, "a41e3de2136dceae9a80022f80ced152ae3a74f408d9ca72cd9a496b3344d601"), looks := true }, kinds := [], alts := [], laidByText := true, laidKinds := [.data, .data, .data, .data, .sentinel, .sentinel, .pinned], laidTests := true, laidLooks := .later }
def TopJournalUptoCardSaid : Prop := Claim7.holds Tryz.pinned (.plain (OpenSpec.upto topJournalSpec)) topJournalUptoCard

/-- THE SECOND FORM's CARD OF 'gemeltop.TopSnapshot'. -/
def topSnapshotUptoCard : Claim7 := { stood := { row := topSnapshotUptoRow, standIns := [], harness := (true, "a41e3de2136dceae9a80022f80ced152ae3a74f408d9ca72cd9a496b3344d601"), looks := true }, kinds := [], alts := [], laidByText := true, laidKinds := [.data, .data, .data, .data, .sentinel, .sentinel, .pinned], laidTests := true, laidLooks := .later }
def TopSnapshotUptoCardSaid : Prop := Claim7.holds Tryz.pinned (.plain (OpenSpec.upto topSnapshotSpec)) topSnapshotUptoCard
end Rows
end Go.Proofs.YtghineciiljeoaaGreatDoor
