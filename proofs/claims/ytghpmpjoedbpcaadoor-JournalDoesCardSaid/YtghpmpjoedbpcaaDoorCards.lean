/-
  DERIVED. GIVEN WITH THE SEED: THE CARDS: each row of YtghpmpjoedbpcaaDoorRows.lean that lists a variable, with what it lists TIED to the program's text (the seventh form; the later family's looks); each row that meets fmt, with fmt's text TOLD by the authors' own Lean function (tested against real Go, not proved from fmt's source: count such statements apart). THE CARD IS WHAT COUNTS. Prove the row's statement (the work); the ties are given (YtghpmpjoedbpcaaDoorTie.lean); close each card by the builder's one call (the guide's Derived/Test/ToyasCard.lean, 'card_holds'). Laid BY PROGRAM, IN A SANDBOX (cutbox-door.mjs). By AI agents, Wed Nov 11 2026. No macro, syntax, notation, axiom, sorry.
-/
import Derived.Test.YtghpmpjoedbpcaaDoorRows
import GoSem.ClaimSeven
namespace Go.Proofs.YtghpmpjoedbpcaaDoor
namespace Rows

/-- THE TIED CARD OF 'malthouselaw18.JournalNotes'. -/
def journalNotesCard : Claim7 := { stood := { row := journalNotesRow, standIns := [], harness := (true, "b05b6b16aa0a1809f215307a8c3ea1b8c622546458a6b2d8f18a7b1e1b2adb12"), looks := false }, kinds := [], alts := [], laidByText := true, laidKinds := [.data, .pinned], laidTests := true, laidLooks := .later }
def JournalNotesCardSaid : Prop := Claim7.holds Tryd.pinned (.plain (OpenSpec.ofChange journalNotesSpec)) journalNotesCard

/-- THE TIED CARD OF 'malthouselaw18.JournalParts'. -/
def journalPartsCard : Claim7 := { stood := { row := journalPartsRow, standIns := [], harness := (true, "b05b6b16aa0a1809f215307a8c3ea1b8c622546458a6b2d8f18a7b1e1b2adb12"), looks := false }, kinds := [], alts := [], laidByText := true, laidKinds := [.data, .pinned], laidTests := true, laidLooks := .later }
def JournalPartsCardSaid : Prop := Claim7.holds Tryd.pinned (.plain (OpenSpec.ofChange journalPartsSpec)) journalPartsCard

/-- THE TIED CARD OF 'malthouselaw18.JournalKeeps'. -/
def journalKeepsCard : Claim7 := { stood := { row := journalKeepsRow, standIns := [], harness := (true, "b05b6b16aa0a1809f215307a8c3ea1b8c622546458a6b2d8f18a7b1e1b2adb12"), looks := false }, kinds := [], alts := [], laidByText := true, laidKinds := [.data, .pinned], laidTests := true, laidLooks := .later }
def JournalKeepsCardSaid : Prop := Claim7.holds Tryd.pinned (.plain (OpenSpec.ofChange journalKeepsSpec)) journalKeepsCard

/-- THE TIED CARD OF 'malthouselaw18.JournalDoes'. -/
def journalDoesCard : Claim7 := { stood := { row := journalDoesRow, standIns := [], harness := (true, "b05b6b16aa0a1809f215307a8c3ea1b8c622546458a6b2d8f18a7b1e1b2adb12"), looks := false }, kinds := [], alts := [], laidByText := true, laidKinds := [.data, .pinned], laidTests := true, laidLooks := .later }
def JournalDoesCardSaid : Prop := Claim7.holds Tryd.pinned (.plain (OpenSpec.ofChange journalDoesSpec)) journalDoesCard

/-- THE TIED CARD OF 'malthouselaw18.JournalReserves'. -/
def journalReservesCard : Claim7 := { stood := { row := journalReservesRow, standIns := [], harness := (true, "b05b6b16aa0a1809f215307a8c3ea1b8c622546458a6b2d8f18a7b1e1b2adb12"), looks := false }, kinds := [], alts := [], laidByText := true, laidKinds := [.data, .pinned], laidTests := true, laidLooks := .later }
def JournalReservesCardSaid : Prop := Claim7.holds Tryd.pinned (.plain (OpenSpec.ofChange journalReservesSpec)) journalReservesCard

/-- THE SECOND FORM's CARD OF 'malthouselaw18.JournalNotes'. -/
def journalNotesUptoCard : Claim7 := { stood := { row := journalNotesUptoRow, standIns := [], harness := (true, "b05b6b16aa0a1809f215307a8c3ea1b8c622546458a6b2d8f18a7b1e1b2adb12"), looks := false }, kinds := [], alts := [], laidByText := true, laidKinds := [.data, .pinned], laidTests := true, laidLooks := .later }
def JournalNotesUptoCardSaid : Prop := Claim7.holds Tryd.pinned (.plain (OpenSpec.upto journalNotesSpec)) journalNotesUptoCard

/-- THE SECOND FORM's CARD OF 'malthouselaw18.JournalParts'. -/
def journalPartsUptoCard : Claim7 := { stood := { row := journalPartsUptoRow, standIns := [], harness := (true, "b05b6b16aa0a1809f215307a8c3ea1b8c622546458a6b2d8f18a7b1e1b2adb12"), looks := false }, kinds := [], alts := [], laidByText := true, laidKinds := [.data, .pinned], laidTests := true, laidLooks := .later }
def JournalPartsUptoCardSaid : Prop := Claim7.holds Tryd.pinned (.plain (OpenSpec.upto journalPartsSpec)) journalPartsUptoCard

/-- THE SECOND FORM's CARD OF 'malthouselaw18.JournalKeeps'. -/
def journalKeepsUptoCard : Claim7 := { stood := { row := journalKeepsUptoRow, standIns := [], harness := (true, "b05b6b16aa0a1809f215307a8c3ea1b8c622546458a6b2d8f18a7b1e1b2adb12"), looks := false }, kinds := [], alts := [], laidByText := true, laidKinds := [.data, .pinned], laidTests := true, laidLooks := .later }
def JournalKeepsUptoCardSaid : Prop := Claim7.holds Tryd.pinned (.plain (OpenSpec.upto journalKeepsSpec)) journalKeepsUptoCard

/-- THE SECOND FORM's CARD OF 'malthouselaw18.JournalDoes'. -/
def journalDoesUptoCard : Claim7 := { stood := { row := journalDoesUptoRow, standIns := [], harness := (true, "b05b6b16aa0a1809f215307a8c3ea1b8c622546458a6b2d8f18a7b1e1b2adb12"), looks := false }, kinds := [], alts := [], laidByText := true, laidKinds := [.data, .pinned], laidTests := true, laidLooks := .later }
def JournalDoesUptoCardSaid : Prop := Claim7.holds Tryd.pinned (.plain (OpenSpec.upto journalDoesSpec)) journalDoesUptoCard

/-- THE SECOND FORM's CARD OF 'malthouselaw18.JournalReserves'. -/
def journalReservesUptoCard : Claim7 := { stood := { row := journalReservesUptoRow, standIns := [], harness := (true, "b05b6b16aa0a1809f215307a8c3ea1b8c622546458a6b2d8f18a7b1e1b2adb12"), looks := false }, kinds := [], alts := [], laidByText := true, laidKinds := [.data, .pinned], laidTests := true, laidLooks := .later }
def JournalReservesUptoCardSaid : Prop := Claim7.holds Tryd.pinned (.plain (OpenSpec.upto journalReservesSpec)) journalReservesUptoCard
end Rows
end Go.Proofs.YtghpmpjoedbpcaaDoor
