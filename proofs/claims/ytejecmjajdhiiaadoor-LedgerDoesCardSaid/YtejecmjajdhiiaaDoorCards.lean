/-
  DERIVED. GIVEN WITH THE SEED: THE CARDS: each row of YtejecmjajdhiiaaDoorRows.lean that lists a variable, with what it lists TIED to the program's text (the seventh form; the later family's looks); each row that meets fmt, with fmt's text TOLD by the authors' own Lean function (tested against real Go, not proved from fmt's source: count such statements apart). THE CARD IS WHAT COUNTS. Prove the row's statement (the work); the ties are given (YtejecmjajdhiiaaDoorTie.lean); close each card by the builder's one call (the guide's Derived/Test/ToyasCard.lean, 'card_holds'). Laid BY PROGRAM, IN A SANDBOX (cutbox-door.mjs). By AI agents, Wed Nov 11 2026. No macro, syntax, notation, axiom, sorry.
-/
import Derived.Test.YtejecmjajdhiiaaDoorRows
import GoSem.ClaimSeven
namespace Go.Proofs.YtejecmjajdhiiaaDoor
namespace Rows

/-- THE TIED CARD OF 'malthouselaw13.LedgerChecks'. -/
def ledgerChecksCard : Claim7 := { stood := { row := ledgerChecksRow, standIns := [], harness := (true, "1e2c74985228763f400c529450084ef6c0ff92b2eeb5cdba4427b354947f12d5"), looks := false }, kinds := [], alts := [], laidByText := true, laidKinds := [.data, .pinned], laidTests := true, laidLooks := .later }
def LedgerChecksCardSaid : Prop := Claim7.holds Tryd.pinned (.plain (OpenSpec.ofChange ledgerChecksSpec)) ledgerChecksCard

/-- THE TIED CARD OF 'malthouselaw13.LedgerOrder'. -/
def ledgerOrderCard : Claim7 := { stood := { row := ledgerOrderRow, standIns := [], harness := (true, "1e2c74985228763f400c529450084ef6c0ff92b2eeb5cdba4427b354947f12d5"), looks := false }, kinds := [], alts := [], laidByText := true, laidKinds := [.data, .pinned], laidTests := true, laidLooks := .later }
def LedgerOrderCardSaid : Prop := Claim7.holds Tryd.pinned (.plain (OpenSpec.ofChange ledgerOrderSpec)) ledgerOrderCard

/-- THE TIED CARD OF 'malthouselaw13.LedgerDoes'. -/
def ledgerDoesCard : Claim7 := { stood := { row := ledgerDoesRow, standIns := [], harness := (true, "1e2c74985228763f400c529450084ef6c0ff92b2eeb5cdba4427b354947f12d5"), looks := false }, kinds := [], alts := [], laidByText := true, laidKinds := [.data, .pinned], laidTests := true, laidLooks := .later }
def LedgerDoesCardSaid : Prop := Claim7.holds Tryd.pinned (.plain (OpenSpec.ofChange ledgerDoesSpec)) ledgerDoesCard

/-- THE TIED CARD OF 'malthouselaw13.LedgerKeeps'. -/
def ledgerKeepsCard : Claim7 := { stood := { row := ledgerKeepsRow, standIns := [], harness := (true, "1e2c74985228763f400c529450084ef6c0ff92b2eeb5cdba4427b354947f12d5"), looks := false }, kinds := [], alts := [], laidByText := true, laidKinds := [.data, .pinned], laidTests := true, laidLooks := .later }
def LedgerKeepsCardSaid : Prop := Claim7.holds Tryd.pinned (.plain (OpenSpec.ofChange ledgerKeepsSpec)) ledgerKeepsCard

/-- THE TIED CARD OF 'malthouselaw13.LedgerLots'. -/
def ledgerLotsCard : Claim7 := { stood := { row := ledgerLotsRow, standIns := [], harness := (true, "1e2c74985228763f400c529450084ef6c0ff92b2eeb5cdba4427b354947f12d5"), looks := false }, kinds := [], alts := [], laidByText := true, laidKinds := [.data, .pinned], laidTests := true, laidLooks := .later }
def LedgerLotsCardSaid : Prop := Claim7.holds Tryd.pinned (.plain (OpenSpec.ofChange ledgerLotsSpec)) ledgerLotsCard

/-- THE TIED CARD OF 'malthouselaw13.LedgerRoom'. -/
def ledgerRoomCard : Claim7 := { stood := { row := ledgerRoomRow, standIns := [], harness := (true, "1e2c74985228763f400c529450084ef6c0ff92b2eeb5cdba4427b354947f12d5"), looks := false }, kinds := [], alts := [], laidByText := true, laidKinds := [.data, .pinned], laidTests := true, laidLooks := .later }
def LedgerRoomCardSaid : Prop := Claim7.holds Tryd.pinned (.plain (OpenSpec.ofChange ledgerRoomSpec)) ledgerRoomCard

/-- THE TIED CARD OF 'malthouselaw13.LedgerMoves'. -/
def ledgerMovesCard : Claim7 := { stood := { row := ledgerMovesRow, standIns := [], harness := (true, "1e2c74985228763f400c529450084ef6c0ff92b2eeb5cdba4427b354947f12d5"), looks := false }, kinds := [], alts := [], laidByText := true, laidKinds := [.data, .pinned], laidTests := true, laidLooks := .later }
def LedgerMovesCardSaid : Prop := Claim7.holds Tryd.pinned (.plain (OpenSpec.ofChange ledgerMovesSpec)) ledgerMovesCard

/-- THE SECOND FORM's CARD OF 'malthouselaw13.LedgerChecks'. -/
def ledgerChecksUptoCard : Claim7 := { stood := { row := ledgerChecksUptoRow, standIns := [], harness := (true, "1e2c74985228763f400c529450084ef6c0ff92b2eeb5cdba4427b354947f12d5"), looks := false }, kinds := [], alts := [], laidByText := true, laidKinds := [.data, .pinned], laidTests := true, laidLooks := .later }
def LedgerChecksUptoCardSaid : Prop := Claim7.holds Tryd.pinned (.plain (OpenSpec.upto ledgerChecksSpec)) ledgerChecksUptoCard

/-- THE SECOND FORM's CARD OF 'malthouselaw13.LedgerOrder'. -/
def ledgerOrderUptoCard : Claim7 := { stood := { row := ledgerOrderUptoRow, standIns := [], harness := (true, "1e2c74985228763f400c529450084ef6c0ff92b2eeb5cdba4427b354947f12d5"), looks := false }, kinds := [], alts := [], laidByText := true, laidKinds := [.data, .pinned], laidTests := true, laidLooks := .later }
def LedgerOrderUptoCardSaid : Prop := Claim7.holds Tryd.pinned (.plain (OpenSpec.upto ledgerOrderSpec)) ledgerOrderUptoCard

/-- THE SECOND FORM's CARD OF 'malthouselaw13.LedgerDoes'. -/
def ledgerDoesUptoCard : Claim7 := { stood := { row := ledgerDoesUptoRow, standIns := [], harness := (true, "1e2c74985228763f400c529450084ef6c0ff92b2eeb5cdba4427b354947f12d5"), looks := false }, kinds := [], alts := [], laidByText := true, laidKinds := [.data, .pinned], laidTests := true, laidLooks := .later }
def LedgerDoesUptoCardSaid : Prop := Claim7.holds Tryd.pinned (.plain (OpenSpec.upto ledgerDoesSpec)) ledgerDoesUptoCard

/-- THE SECOND FORM's CARD OF 'malthouselaw13.LedgerKeeps'. -/
def ledgerKeepsUptoCard : Claim7 := { stood := { row := ledgerKeepsUptoRow, standIns := [], harness := (true, "1e2c74985228763f400c529450084ef6c0ff92b2eeb5cdba4427b354947f12d5"), looks := false }, kinds := [], alts := [], laidByText := true, laidKinds := [.data, .pinned], laidTests := true, laidLooks := .later }
def LedgerKeepsUptoCardSaid : Prop := Claim7.holds Tryd.pinned (.plain (OpenSpec.upto ledgerKeepsSpec)) ledgerKeepsUptoCard

/-- THE SECOND FORM's CARD OF 'malthouselaw13.LedgerLots'. -/
def ledgerLotsUptoCard : Claim7 := { stood := { row := ledgerLotsUptoRow, standIns := [], harness := (true, "1e2c74985228763f400c529450084ef6c0ff92b2eeb5cdba4427b354947f12d5"), looks := false }, kinds := [], alts := [], laidByText := true, laidKinds := [.data, .pinned], laidTests := true, laidLooks := .later }
def LedgerLotsUptoCardSaid : Prop := Claim7.holds Tryd.pinned (.plain (OpenSpec.upto ledgerLotsSpec)) ledgerLotsUptoCard

/-- THE SECOND FORM's CARD OF 'malthouselaw13.LedgerRoom'. -/
def ledgerRoomUptoCard : Claim7 := { stood := { row := ledgerRoomUptoRow, standIns := [], harness := (true, "1e2c74985228763f400c529450084ef6c0ff92b2eeb5cdba4427b354947f12d5"), looks := false }, kinds := [], alts := [], laidByText := true, laidKinds := [.data, .pinned], laidTests := true, laidLooks := .later }
def LedgerRoomUptoCardSaid : Prop := Claim7.holds Tryd.pinned (.plain (OpenSpec.upto ledgerRoomSpec)) ledgerRoomUptoCard

/-- THE SECOND FORM's CARD OF 'malthouselaw13.LedgerMoves'. -/
def ledgerMovesUptoCard : Claim7 := { stood := { row := ledgerMovesUptoRow, standIns := [], harness := (true, "1e2c74985228763f400c529450084ef6c0ff92b2eeb5cdba4427b354947f12d5"), looks := false }, kinds := [], alts := [], laidByText := true, laidKinds := [.data, .pinned], laidTests := true, laidLooks := .later }
def LedgerMovesUptoCardSaid : Prop := Claim7.holds Tryd.pinned (.plain (OpenSpec.upto ledgerMovesSpec)) ledgerMovesUptoCard
end Rows
end Go.Proofs.YtejecmjajdhiiaaDoor
