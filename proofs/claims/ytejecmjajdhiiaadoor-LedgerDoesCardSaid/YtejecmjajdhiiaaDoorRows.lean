/-
  NARROWER THAN 'FOR EVERY INPUT', by the rows' own cells (each row's printed sentence says how): LedgerChecks: laid · LedgerOrder: laid · LedgerDoes: laid · LedgerKeeps: laid · LedgerLots: laid · LedgerRoom: laid · LedgerMoves: laid.
  DERIVED. THE GIVEN ROWS OF THIS SEAT. 7 by the template 'for every input the law returns true; each argument reads behind the call as it read before'; 0 by the template 'total and deterministic' (their statements: YtejecmjajdhiiaaDoorTotals.lean).
  GIVEN WITH THE SEED: the statements are not yours to turn. If you find one false, say at which input.
  Laid BY PROGRAM, IN A SANDBOX (cutbox-rows.mjs): the forced cells as the released guide's own fill.sh prints them over the translation ade00b5f13df64e2… (all of the seat's roots in one cut). By AI agents, Wed Nov 11 2026. No macro, syntax, notation, axiom, sorry.
-/
import Derived.Test.YtejecmjajdhiiaaDoorChecked
import GoSem.PinnedTables
import GoSem.Claim
import GoSem.ClaimJoined
import GoSem.ClaimMapViews
import Derived.JoinedTies
import Derived.KernelRfl
namespace Go.Proofs.YtejecmjajdhiiaaDoor
/- THE CELL 'sum', in the pinned program and in every row, IS THE sha256 OF THE DUMP (.gsa) THAT YtejecmjajdhiiaaDoorProg.lean LOADS. Nothing in Lean hashes anything: it is a label: what it is worth is what the hold of that sum in a sandbox is worth. -/
noncomputable def Tryd.pinned : Pinned := { name := "ytejecmjajdhiiaadoor", sum := "ade00b5f13df64e2b4b75301df0eb0089a27edb0fb3e77fb347e61878c2e1814", checked := Tryd.checked }
namespace Rows
def none {H : Type} : Left H := { results := [], args := [] }

/- WHAT THE LISTED PACKAGE-LEVEL VARIABLES READ AS WHEN THE CALL BEGINS. Each datum BY PROGRAM (the guide's laid-datum.mjs) off the statement by which the dump's own 'gosem.cut.vars' lays the variable. In a bare row this is a premise. The card (YtejecmjajdhiiaaDoorCards.lean) ties it to the program's text. -/
def laid_unicode_utf8_acceptRanges {H : Type} : DataW H := .agg [.agg [.lit (.int .u8 128), .lit (.int .u8 191)], .agg [.lit (.int .u8 160), .lit (.int .u8 191)], .agg [.lit (.int .u8 128), .lit (.int .u8 159)], .agg [.lit (.int .u8 144), .lit (.int .u8 191)], .agg [.lit (.int .u8 128), .lit (.int .u8 143)], .agg [.lit (.int .u8 0), .lit (.int .u8 0)], .agg [.lit (.int .u8 0), .lit (.int .u8 0)], .agg [.lit (.int .u8 0), .lit (.int .u8 0)], .agg [.lit (.int .u8 0), .lit (.int .u8 0)], .agg [.lit (.int .u8 0), .lit (.int .u8 0)], .agg [.lit (.int .u8 0), .lit (.int .u8 0)], .agg [.lit (.int .u8 0), .lit (.int .u8 0)], .agg [.lit (.int .u8 0), .lit (.int .u8 0)], .agg [.lit (.int .u8 0), .lit (.int .u8 0)], .agg [.lit (.int .u8 0), .lit (.int .u8 0)], .agg [.lit (.int .u8 0), .lit (.int .u8 0)]]
/-- One of Go's own tables, pinned by name: the form's constant. -/
def laid_unicode_utf8_first : DataW Unit := Go.Pinned.utf8First

/-- 'malthouselaw13.LedgerChecks': WHATEVER THE INPUT: true; the input reads as it did. -/
def ledgerChecksSpec : ChangeSpec := { name := "ledgerChecks", fn := fun _ => fun
  | [d1, d2] => { results := [.lit (.bool true)], args := [d1, d2] }
  | _ => none }
def ledgerChecksRow : OpenClaim := { program := "ytejecmjajdhiiaadoor", sum := "ade00b5f13df64e2b4b75301df0eb0089a27edb0fb3e77fb347e61878c2e1814", func := "malthouse/malthouselaw13.LedgerChecks", spec := "ledgerChecks", inPlace := ["internal/bytealg.IndexByteString"], unfollowed := true, recurses := true, named := ["unicode/utf8.first", "unicode/utf8.acceptRanges"], apart := false, laid := [("unicode/utf8.acceptRanges", laid_unicode_utf8_acceptRanges), ("unicode/utf8.first", laid_unicode_utf8_first)] }
def LedgerChecksSaid : Prop := ledgerChecksRow.holds Tryd.pinned (OpenSpec.ofChange ledgerChecksSpec)

/-- ITS FALSE NEIGHBOUR: 'it returns false'. Refute it at one input. -/
def ledgerChecksWrong : ChangeSpec := { name := "ledgerChecks", fn := fun _ => fun
  | [d1, d2] => { results := [.lit (.bool false)], args := [d1, d2] }
  | _ => none }
def LedgerChecksWrongFalsely : Prop := ledgerChecksRow.holds Tryd.pinned (OpenSpec.ofChange ledgerChecksWrong)

/-- 'malthouselaw13.LedgerOrder': WHATEVER THE INPUT: true; the input reads as it did. -/
def ledgerOrderSpec : ChangeSpec := { name := "ledgerOrder", fn := fun _ => fun
  | [d1, d2, d3, d4] => { results := [.lit (.bool true)], args := [d1, d2, d3, d4] }
  | _ => none }
def ledgerOrderRow : OpenClaim := { program := "ytejecmjajdhiiaadoor", sum := "ade00b5f13df64e2b4b75301df0eb0089a27edb0fb3e77fb347e61878c2e1814", func := "malthouse/malthouselaw13.LedgerOrder", spec := "ledgerOrder", inPlace := ["internal/bytealg.IndexByteString"], unfollowed := true, recurses := true, named := ["unicode/utf8.first", "unicode/utf8.acceptRanges"], apart := false, laid := [("unicode/utf8.acceptRanges", laid_unicode_utf8_acceptRanges), ("unicode/utf8.first", laid_unicode_utf8_first)] }
def LedgerOrderSaid : Prop := ledgerOrderRow.holds Tryd.pinned (OpenSpec.ofChange ledgerOrderSpec)

/-- ITS FALSE NEIGHBOUR: 'it returns false'. Refute it at one input. -/
def ledgerOrderWrong : ChangeSpec := { name := "ledgerOrder", fn := fun _ => fun
  | [d1, d2, d3, d4] => { results := [.lit (.bool false)], args := [d1, d2, d3, d4] }
  | _ => none }
def LedgerOrderWrongFalsely : Prop := ledgerOrderRow.holds Tryd.pinned (OpenSpec.ofChange ledgerOrderWrong)

/-- 'malthouselaw13.LedgerDoes': WHATEVER THE INPUT: true; the input reads as it did. -/
def ledgerDoesSpec : ChangeSpec := { name := "ledgerDoes", fn := fun _ => fun
  | [d1, d2] => { results := [.lit (.bool true)], args := [d1, d2] }
  | _ => none }
def ledgerDoesRow : OpenClaim := { program := "ytejecmjajdhiiaadoor", sum := "ade00b5f13df64e2b4b75301df0eb0089a27edb0fb3e77fb347e61878c2e1814", func := "malthouse/malthouselaw13.LedgerDoes", spec := "ledgerDoes", inPlace := ["internal/bytealg.IndexByteString"], unfollowed := true, recurses := true, named := ["unicode/utf8.first", "unicode/utf8.acceptRanges"], apart := false, laid := [("unicode/utf8.acceptRanges", laid_unicode_utf8_acceptRanges), ("unicode/utf8.first", laid_unicode_utf8_first)] }
def LedgerDoesSaid : Prop := ledgerDoesRow.holds Tryd.pinned (OpenSpec.ofChange ledgerDoesSpec)

/-- ITS FALSE NEIGHBOUR: 'it returns false'. Refute it at one input. -/
def ledgerDoesWrong : ChangeSpec := { name := "ledgerDoes", fn := fun _ => fun
  | [d1, d2] => { results := [.lit (.bool false)], args := [d1, d2] }
  | _ => none }
def LedgerDoesWrongFalsely : Prop := ledgerDoesRow.holds Tryd.pinned (OpenSpec.ofChange ledgerDoesWrong)

/-- 'malthouselaw13.LedgerKeeps': WHATEVER THE INPUT: true; the input reads as it did. -/
def ledgerKeepsSpec : ChangeSpec := { name := "ledgerKeeps", fn := fun _ => fun
  | [d1, d2] => { results := [.lit (.bool true)], args := [d1, d2] }
  | _ => none }
def ledgerKeepsRow : OpenClaim := { program := "ytejecmjajdhiiaadoor", sum := "ade00b5f13df64e2b4b75301df0eb0089a27edb0fb3e77fb347e61878c2e1814", func := "malthouse/malthouselaw13.LedgerKeeps", spec := "ledgerKeeps", inPlace := ["internal/bytealg.IndexByteString"], unfollowed := true, recurses := true, named := ["unicode/utf8.first", "unicode/utf8.acceptRanges"], apart := false, laid := [("unicode/utf8.acceptRanges", laid_unicode_utf8_acceptRanges), ("unicode/utf8.first", laid_unicode_utf8_first)] }
def LedgerKeepsSaid : Prop := ledgerKeepsRow.holds Tryd.pinned (OpenSpec.ofChange ledgerKeepsSpec)

/-- ITS FALSE NEIGHBOUR: 'it returns false'. Refute it at one input. -/
def ledgerKeepsWrong : ChangeSpec := { name := "ledgerKeeps", fn := fun _ => fun
  | [d1, d2] => { results := [.lit (.bool false)], args := [d1, d2] }
  | _ => none }
def LedgerKeepsWrongFalsely : Prop := ledgerKeepsRow.holds Tryd.pinned (OpenSpec.ofChange ledgerKeepsWrong)

/-- 'malthouselaw13.LedgerLots': WHATEVER THE INPUT: true; the input reads as it did. -/
def ledgerLotsSpec : ChangeSpec := { name := "ledgerLots", fn := fun _ => fun
  | [d1, d2, d3] => { results := [.lit (.bool true)], args := [d1, d2, d3] }
  | _ => none }
def ledgerLotsRow : OpenClaim := { program := "ytejecmjajdhiiaadoor", sum := "ade00b5f13df64e2b4b75301df0eb0089a27edb0fb3e77fb347e61878c2e1814", func := "malthouse/malthouselaw13.LedgerLots", spec := "ledgerLots", inPlace := ["internal/bytealg.IndexByteString"], unfollowed := true, recurses := true, named := ["unicode/utf8.first", "unicode/utf8.acceptRanges"], apart := false, laid := [("unicode/utf8.acceptRanges", laid_unicode_utf8_acceptRanges), ("unicode/utf8.first", laid_unicode_utf8_first)] }
def LedgerLotsSaid : Prop := ledgerLotsRow.holds Tryd.pinned (OpenSpec.ofChange ledgerLotsSpec)

/-- ITS FALSE NEIGHBOUR: 'it returns false'. Refute it at one input. -/
def ledgerLotsWrong : ChangeSpec := { name := "ledgerLots", fn := fun _ => fun
  | [d1, d2, d3] => { results := [.lit (.bool false)], args := [d1, d2, d3] }
  | _ => none }
def LedgerLotsWrongFalsely : Prop := ledgerLotsRow.holds Tryd.pinned (OpenSpec.ofChange ledgerLotsWrong)

/-- 'malthouselaw13.LedgerRoom': WHATEVER THE INPUT: true; the input reads as it did. -/
def ledgerRoomSpec : ChangeSpec := { name := "ledgerRoom", fn := fun _ => fun
  | [d1, d2] => { results := [.lit (.bool true)], args := [d1, d2] }
  | _ => none }
def ledgerRoomRow : OpenClaim := { program := "ytejecmjajdhiiaadoor", sum := "ade00b5f13df64e2b4b75301df0eb0089a27edb0fb3e77fb347e61878c2e1814", func := "malthouse/malthouselaw13.LedgerRoom", spec := "ledgerRoom", inPlace := ["internal/bytealg.IndexByteString"], unfollowed := true, recurses := true, named := ["unicode/utf8.first", "unicode/utf8.acceptRanges"], apart := false, laid := [("unicode/utf8.acceptRanges", laid_unicode_utf8_acceptRanges), ("unicode/utf8.first", laid_unicode_utf8_first)] }
def LedgerRoomSaid : Prop := ledgerRoomRow.holds Tryd.pinned (OpenSpec.ofChange ledgerRoomSpec)

/-- ITS FALSE NEIGHBOUR: 'it returns false'. Refute it at one input. -/
def ledgerRoomWrong : ChangeSpec := { name := "ledgerRoom", fn := fun _ => fun
  | [d1, d2] => { results := [.lit (.bool false)], args := [d1, d2] }
  | _ => none }
def LedgerRoomWrongFalsely : Prop := ledgerRoomRow.holds Tryd.pinned (OpenSpec.ofChange ledgerRoomWrong)

/-- 'malthouselaw13.LedgerMoves': WHATEVER THE INPUT: true; the input reads as it did. -/
def ledgerMovesSpec : ChangeSpec := { name := "ledgerMoves", fn := fun _ => fun
  | [d1, d2, d3, d4] => { results := [.lit (.bool true)], args := [d1, d2, d3, d4] }
  | _ => none }
def ledgerMovesRow : OpenClaim := { program := "ytejecmjajdhiiaadoor", sum := "ade00b5f13df64e2b4b75301df0eb0089a27edb0fb3e77fb347e61878c2e1814", func := "malthouse/malthouselaw13.LedgerMoves", spec := "ledgerMoves", inPlace := ["internal/bytealg.IndexByteString"], unfollowed := true, recurses := true, named := ["unicode/utf8.first", "unicode/utf8.acceptRanges"], apart := false, laid := [("unicode/utf8.acceptRanges", laid_unicode_utf8_acceptRanges), ("unicode/utf8.first", laid_unicode_utf8_first)] }
def LedgerMovesSaid : Prop := ledgerMovesRow.holds Tryd.pinned (OpenSpec.ofChange ledgerMovesSpec)

/-- ITS FALSE NEIGHBOUR: 'it returns false'. Refute it at one input. -/
def ledgerMovesWrong : ChangeSpec := { name := "ledgerMoves", fn := fun _ => fun
  | [d1, d2, d3, d4] => { results := [.lit (.bool false)], args := [d1, d2, d3, d4] }
  | _ => none }
def LedgerMovesWrongFalsely : Prop := ledgerMovesRow.holds Tryd.pinned (OpenSpec.ofChange ledgerMovesWrong)

/- THE SECOND FORM. 'bulk': how many values and letters a reading holds, each counted each time it is reached (what is shared counts as often as it is met; a slice's spare places count too). A statement '..UptoSaid' is the law's where the arguments, and the package variables that the reading takes, are together of bulk at most 1048576: NARROWER than '..Said'. Prove '..Said' where nothing that the law and all that it calls make is longer than what came in: it says more and counts as full. Else prove '..UptoSaid'. A law counts once. -/
mutual
def uptoBulk {H : Type} : DataW H → Nat
  | .lit (.string bytes) => bytes.length + 1
  | .lit _ => 1
  | .nil => 1
  | .ptr d => uptoBulk d + 1
  | .slice elems spare => uptoBulkAll elems + uptoBulkAll spare + 1
  | .agg parts => uptoBulkAll parts + 1
  | .iface _ d => uptoBulk d + 1
  | .map entries => uptoBulkEntries entries + 1
  | .held _ => 1
def uptoBulkAll {H : Type} : List (DataW H) → Nat
  | [] => 0
  | d :: r => uptoBulk d + uptoBulkAll r
def uptoBulkEntries {H : Type} : List (Lit × DataW H) → Nat
  | [] => 0
  | x :: r => uptoBulkEntry x + uptoBulkEntries r
def uptoBulkEntry {H : Type} : Lit × DataW H → Nat
  | (.string bytes, d) => bytes.length + uptoBulk d + 1
  | (_, d) => uptoBulk d + 1
 end
def uptoSmall : (H : Type) → List (DataW H) → Bool := fun _ ds => decide (uptoBulkAll ds ≤ 1048576)
def OpenSpec.upto (s : _root_.Go.ChangeSpec) : _root_.Go.OpenSpec := { _root_.Go.OpenSpec.ofChange s with cond := some uptoSmall }

/-- 'malthouselaw13.LedgerChecks', WHERE WHAT IT READS IS OF BULK AT MOST 1048576: true; the input reads as it did. -/
def ledgerChecksUptoRow : OpenClaim := { program := "ytejecmjajdhiiaadoor", sum := "ade00b5f13df64e2b4b75301df0eb0089a27edb0fb3e77fb347e61878c2e1814", func := "malthouse/malthouselaw13.LedgerChecks", spec := "ledgerChecks", inPlace := ["internal/bytealg.IndexByteString"], unfollowed := true, recurses := true, named := ["unicode/utf8.first", "unicode/utf8.acceptRanges"], apart := false, laid := [("unicode/utf8.acceptRanges", laid_unicode_utf8_acceptRanges), ("unicode/utf8.first", laid_unicode_utf8_first)], narrowed := true }
def LedgerChecksUptoSaid : Prop := ledgerChecksUptoRow.holds Tryd.pinned (OpenSpec.upto ledgerChecksSpec)

/-- 'malthouselaw13.LedgerOrder', WHERE WHAT IT READS IS OF BULK AT MOST 1048576: true; the input reads as it did. -/
def ledgerOrderUptoRow : OpenClaim := { program := "ytejecmjajdhiiaadoor", sum := "ade00b5f13df64e2b4b75301df0eb0089a27edb0fb3e77fb347e61878c2e1814", func := "malthouse/malthouselaw13.LedgerOrder", spec := "ledgerOrder", inPlace := ["internal/bytealg.IndexByteString"], unfollowed := true, recurses := true, named := ["unicode/utf8.first", "unicode/utf8.acceptRanges"], apart := false, laid := [("unicode/utf8.acceptRanges", laid_unicode_utf8_acceptRanges), ("unicode/utf8.first", laid_unicode_utf8_first)], narrowed := true }
def LedgerOrderUptoSaid : Prop := ledgerOrderUptoRow.holds Tryd.pinned (OpenSpec.upto ledgerOrderSpec)

/-- 'malthouselaw13.LedgerDoes', WHERE WHAT IT READS IS OF BULK AT MOST 1048576: true; the input reads as it did. -/
def ledgerDoesUptoRow : OpenClaim := { program := "ytejecmjajdhiiaadoor", sum := "ade00b5f13df64e2b4b75301df0eb0089a27edb0fb3e77fb347e61878c2e1814", func := "malthouse/malthouselaw13.LedgerDoes", spec := "ledgerDoes", inPlace := ["internal/bytealg.IndexByteString"], unfollowed := true, recurses := true, named := ["unicode/utf8.first", "unicode/utf8.acceptRanges"], apart := false, laid := [("unicode/utf8.acceptRanges", laid_unicode_utf8_acceptRanges), ("unicode/utf8.first", laid_unicode_utf8_first)], narrowed := true }
def LedgerDoesUptoSaid : Prop := ledgerDoesUptoRow.holds Tryd.pinned (OpenSpec.upto ledgerDoesSpec)

/-- 'malthouselaw13.LedgerKeeps', WHERE WHAT IT READS IS OF BULK AT MOST 1048576: true; the input reads as it did. -/
def ledgerKeepsUptoRow : OpenClaim := { program := "ytejecmjajdhiiaadoor", sum := "ade00b5f13df64e2b4b75301df0eb0089a27edb0fb3e77fb347e61878c2e1814", func := "malthouse/malthouselaw13.LedgerKeeps", spec := "ledgerKeeps", inPlace := ["internal/bytealg.IndexByteString"], unfollowed := true, recurses := true, named := ["unicode/utf8.first", "unicode/utf8.acceptRanges"], apart := false, laid := [("unicode/utf8.acceptRanges", laid_unicode_utf8_acceptRanges), ("unicode/utf8.first", laid_unicode_utf8_first)], narrowed := true }
def LedgerKeepsUptoSaid : Prop := ledgerKeepsUptoRow.holds Tryd.pinned (OpenSpec.upto ledgerKeepsSpec)

/-- 'malthouselaw13.LedgerLots', WHERE WHAT IT READS IS OF BULK AT MOST 1048576: true; the input reads as it did. -/
def ledgerLotsUptoRow : OpenClaim := { program := "ytejecmjajdhiiaadoor", sum := "ade00b5f13df64e2b4b75301df0eb0089a27edb0fb3e77fb347e61878c2e1814", func := "malthouse/malthouselaw13.LedgerLots", spec := "ledgerLots", inPlace := ["internal/bytealg.IndexByteString"], unfollowed := true, recurses := true, named := ["unicode/utf8.first", "unicode/utf8.acceptRanges"], apart := false, laid := [("unicode/utf8.acceptRanges", laid_unicode_utf8_acceptRanges), ("unicode/utf8.first", laid_unicode_utf8_first)], narrowed := true }
def LedgerLotsUptoSaid : Prop := ledgerLotsUptoRow.holds Tryd.pinned (OpenSpec.upto ledgerLotsSpec)

/-- 'malthouselaw13.LedgerRoom', WHERE WHAT IT READS IS OF BULK AT MOST 1048576: true; the input reads as it did. -/
def ledgerRoomUptoRow : OpenClaim := { program := "ytejecmjajdhiiaadoor", sum := "ade00b5f13df64e2b4b75301df0eb0089a27edb0fb3e77fb347e61878c2e1814", func := "malthouse/malthouselaw13.LedgerRoom", spec := "ledgerRoom", inPlace := ["internal/bytealg.IndexByteString"], unfollowed := true, recurses := true, named := ["unicode/utf8.first", "unicode/utf8.acceptRanges"], apart := false, laid := [("unicode/utf8.acceptRanges", laid_unicode_utf8_acceptRanges), ("unicode/utf8.first", laid_unicode_utf8_first)], narrowed := true }
def LedgerRoomUptoSaid : Prop := ledgerRoomUptoRow.holds Tryd.pinned (OpenSpec.upto ledgerRoomSpec)

/-- 'malthouselaw13.LedgerMoves', WHERE WHAT IT READS IS OF BULK AT MOST 1048576: true; the input reads as it did. -/
def ledgerMovesUptoRow : OpenClaim := { program := "ytejecmjajdhiiaadoor", sum := "ade00b5f13df64e2b4b75301df0eb0089a27edb0fb3e77fb347e61878c2e1814", func := "malthouse/malthouselaw13.LedgerMoves", spec := "ledgerMoves", inPlace := ["internal/bytealg.IndexByteString"], unfollowed := true, recurses := true, named := ["unicode/utf8.first", "unicode/utf8.acceptRanges"], apart := false, laid := [("unicode/utf8.acceptRanges", laid_unicode_utf8_acceptRanges), ("unicode/utf8.first", laid_unicode_utf8_first)], narrowed := true }
def LedgerMovesUptoSaid : Prop := ledgerMovesUptoRow.holds Tryd.pinned (OpenSpec.upto ledgerMovesSpec)

end Rows
end Go.Proofs.YtejecmjajdhiiaaDoor
