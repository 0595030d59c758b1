/-
  NARROWER THAN 'FOR EVERY INPUT', by the rows' own cells (each row's printed sentence says how): JournalNotes: laid · JournalParts: laid · JournalKeeps: laid · JournalDoes: laid · JournalReserves: laid.
  DERIVED. THE GIVEN ROWS OF THIS SEAT. 5 by the template 'for every input the law returns true; each argument reads behind the call as it read before'; 0 by the template 'total and deterministic' (their statements: YtghpmpjoedbpcaaDoorTotals.lean).
  GIVEN WITH THE SEED: the statements are not yours to turn. If you find one false, say at which input.
  Laid BY PROGRAM, IN A SANDBOX (cutbox-rows.mjs): the forced cells as the released guide's own fill.sh prints them over the translation e4216ed82d210c2c… (all of the seat's roots in one cut). By AI agents, Wed Nov 11 2026. No macro, syntax, notation, axiom, sorry.
-/
import Derived.Test.YtghpmpjoedbpcaaDoorChecked
import GoSem.PinnedTables
import GoSem.Claim
import GoSem.ClaimJoined
import GoSem.ClaimMapViews
import Derived.JoinedTies
import Derived.KernelRfl
namespace Go.Proofs.YtghpmpjoedbpcaaDoor
/- THE CELL 'sum', in the pinned program and in every row, IS THE sha256 OF THE DUMP (.gsa) THAT YtghpmpjoedbpcaaDoorProg.lean LOADS. Nothing in Lean hashes anything: it is a label: what it is worth is what the hold of that sum in a sandbox is worth. -/
noncomputable def Tryd.pinned : Pinned := { name := "ytghpmpjoedbpcaadoor", sum := "e4216ed82d210c2cc133f22c1dd2b7f3bb0e9f146c65d67b2cfc9c0ea4081a21", checked := Tryd.checked }
namespace Rows
def none {H : Type} : Left H := { results := [], args := [] }

/- WHAT THE LISTED PACKAGE-LEVEL VARIABLES READ AS WHEN THE CALL BEGINS. Each datum BY PROGRAM (the guide's laid-datum.mjs) off the statement by which the dump's own 'gosem.cut.vars' lays the variable. In a bare row this is a premise. The card (YtghpmpjoedbpcaaDoorCards.lean) ties it to the program's text. -/
def laid_unicode_utf8_acceptRanges {H : Type} : DataW H := .agg [.agg [.lit (.int .u8 128), .lit (.int .u8 191)], .agg [.lit (.int .u8 160), .lit (.int .u8 191)], .agg [.lit (.int .u8 128), .lit (.int .u8 159)], .agg [.lit (.int .u8 144), .lit (.int .u8 191)], .agg [.lit (.int .u8 128), .lit (.int .u8 143)], .agg [.lit (.int .u8 0), .lit (.int .u8 0)], .agg [.lit (.int .u8 0), .lit (.int .u8 0)], .agg [.lit (.int .u8 0), .lit (.int .u8 0)], .agg [.lit (.int .u8 0), .lit (.int .u8 0)], .agg [.lit (.int .u8 0), .lit (.int .u8 0)], .agg [.lit (.int .u8 0), .lit (.int .u8 0)], .agg [.lit (.int .u8 0), .lit (.int .u8 0)], .agg [.lit (.int .u8 0), .lit (.int .u8 0)], .agg [.lit (.int .u8 0), .lit (.int .u8 0)], .agg [.lit (.int .u8 0), .lit (.int .u8 0)], .agg [.lit (.int .u8 0), .lit (.int .u8 0)]]
/-- One of Go's own tables, pinned by name: the form's constant. -/
def laid_unicode_utf8_first : DataW Unit := Go.Pinned.utf8First

/-- 'malthouselaw18.JournalNotes': WHATEVER THE INPUT: true; the input reads as it did. -/
def journalNotesSpec : ChangeSpec := { name := "journalNotes", fn := fun _ => fun
  | [d1, d2] => { results := [.lit (.bool true)], args := [d1, d2] }
  | _ => none }
def journalNotesRow : OpenClaim := { program := "ytghpmpjoedbpcaadoor", sum := "e4216ed82d210c2cc133f22c1dd2b7f3bb0e9f146c65d67b2cfc9c0ea4081a21", func := "malthouse/malthouselaw18.JournalNotes", spec := "journalNotes", inPlace := ["slices.overlaps[malthouse/api.Quota]"], unfollowed := true, recurses := true, named := ["unicode/utf8.first", "unicode/utf8.acceptRanges"], apart := false, laid := [("unicode/utf8.acceptRanges", laid_unicode_utf8_acceptRanges), ("unicode/utf8.first", laid_unicode_utf8_first)] }
def JournalNotesSaid : Prop := journalNotesRow.holds Tryd.pinned (OpenSpec.ofChange journalNotesSpec)

/-- ITS FALSE NEIGHBOUR: 'it returns false'. Refute it at one input. -/
def journalNotesWrong : ChangeSpec := { name := "journalNotes", fn := fun _ => fun
  | [d1, d2] => { results := [.lit (.bool false)], args := [d1, d2] }
  | _ => none }
def JournalNotesWrongFalsely : Prop := journalNotesRow.holds Tryd.pinned (OpenSpec.ofChange journalNotesWrong)

/-- 'malthouselaw18.JournalParts': WHATEVER THE INPUT: true; the input reads as it did. -/
def journalPartsSpec : ChangeSpec := { name := "journalParts", fn := fun _ => fun
  | [d] => { results := [.lit (.bool true)], args := [d] }
  | _ => none }
def journalPartsRow : OpenClaim := { program := "ytghpmpjoedbpcaadoor", sum := "e4216ed82d210c2cc133f22c1dd2b7f3bb0e9f146c65d67b2cfc9c0ea4081a21", func := "malthouse/malthouselaw18.JournalParts", spec := "journalParts", inPlace := ["slices.overlaps[malthouse/api.Quota]"], unfollowed := true, recurses := true, named := ["unicode/utf8.first", "unicode/utf8.acceptRanges"], apart := false, laid := [("unicode/utf8.acceptRanges", laid_unicode_utf8_acceptRanges), ("unicode/utf8.first", laid_unicode_utf8_first)] }
def JournalPartsSaid : Prop := journalPartsRow.holds Tryd.pinned (OpenSpec.ofChange journalPartsSpec)

/-- ITS FALSE NEIGHBOUR: 'it returns false'. Refute it at one input. -/
def journalPartsWrong : ChangeSpec := { name := "journalParts", fn := fun _ => fun
  | [d] => { results := [.lit (.bool false)], args := [d] }
  | _ => none }
def JournalPartsWrongFalsely : Prop := journalPartsRow.holds Tryd.pinned (OpenSpec.ofChange journalPartsWrong)

/-- 'malthouselaw18.JournalKeeps': WHATEVER THE INPUT: true; the input reads as it did. -/
def journalKeepsSpec : ChangeSpec := { name := "journalKeeps", fn := fun _ => fun
  | [d] => { results := [.lit (.bool true)], args := [d] }
  | _ => none }
def journalKeepsRow : OpenClaim := { program := "ytghpmpjoedbpcaadoor", sum := "e4216ed82d210c2cc133f22c1dd2b7f3bb0e9f146c65d67b2cfc9c0ea4081a21", func := "malthouse/malthouselaw18.JournalKeeps", spec := "journalKeeps", inPlace := ["slices.overlaps[malthouse/api.Quota]"], unfollowed := true, recurses := true, named := ["unicode/utf8.first", "unicode/utf8.acceptRanges"], apart := false, laid := [("unicode/utf8.acceptRanges", laid_unicode_utf8_acceptRanges), ("unicode/utf8.first", laid_unicode_utf8_first)] }
def JournalKeepsSaid : Prop := journalKeepsRow.holds Tryd.pinned (OpenSpec.ofChange journalKeepsSpec)

/-- ITS FALSE NEIGHBOUR: 'it returns false'. Refute it at one input. -/
def journalKeepsWrong : ChangeSpec := { name := "journalKeeps", fn := fun _ => fun
  | [d] => { results := [.lit (.bool false)], args := [d] }
  | _ => none }
def JournalKeepsWrongFalsely : Prop := journalKeepsRow.holds Tryd.pinned (OpenSpec.ofChange journalKeepsWrong)

/-- 'malthouselaw18.JournalDoes': WHATEVER THE INPUT: true; the input reads as it did. -/
def journalDoesSpec : ChangeSpec := { name := "journalDoes", fn := fun _ => fun
  | [d1, d2] => { results := [.lit (.bool true)], args := [d1, d2] }
  | _ => none }
def journalDoesRow : OpenClaim := { program := "ytghpmpjoedbpcaadoor", sum := "e4216ed82d210c2cc133f22c1dd2b7f3bb0e9f146c65d67b2cfc9c0ea4081a21", func := "malthouse/malthouselaw18.JournalDoes", spec := "journalDoes", inPlace := ["slices.overlaps[malthouse/api.Quota]"], unfollowed := true, recurses := true, named := ["unicode/utf8.first", "unicode/utf8.acceptRanges"], apart := false, laid := [("unicode/utf8.acceptRanges", laid_unicode_utf8_acceptRanges), ("unicode/utf8.first", laid_unicode_utf8_first)] }
def JournalDoesSaid : Prop := journalDoesRow.holds Tryd.pinned (OpenSpec.ofChange journalDoesSpec)

/-- ITS FALSE NEIGHBOUR: 'it returns false'. Refute it at one input. -/
def journalDoesWrong : ChangeSpec := { name := "journalDoes", fn := fun _ => fun
  | [d1, d2] => { results := [.lit (.bool false)], args := [d1, d2] }
  | _ => none }
def JournalDoesWrongFalsely : Prop := journalDoesRow.holds Tryd.pinned (OpenSpec.ofChange journalDoesWrong)

/-- 'malthouselaw18.JournalReserves': WHATEVER THE INPUT: true; the input reads as it did. -/
def journalReservesSpec : ChangeSpec := { name := "journalReserves", fn := fun _ => fun
  | [d1, d2, d3, d4] => { results := [.lit (.bool true)], args := [d1, d2, d3, d4] }
  | _ => none }
def journalReservesRow : OpenClaim := { program := "ytghpmpjoedbpcaadoor", sum := "e4216ed82d210c2cc133f22c1dd2b7f3bb0e9f146c65d67b2cfc9c0ea4081a21", func := "malthouse/malthouselaw18.JournalReserves", spec := "journalReserves", inPlace := ["slices.overlaps[malthouse/api.Quota]"], unfollowed := true, recurses := true, named := ["unicode/utf8.first", "unicode/utf8.acceptRanges"], apart := false, laid := [("unicode/utf8.acceptRanges", laid_unicode_utf8_acceptRanges), ("unicode/utf8.first", laid_unicode_utf8_first)] }
def JournalReservesSaid : Prop := journalReservesRow.holds Tryd.pinned (OpenSpec.ofChange journalReservesSpec)

/-- ITS FALSE NEIGHBOUR: 'it returns false'. Refute it at one input. -/
def journalReservesWrong : ChangeSpec := { name := "journalReserves", fn := fun _ => fun
  | [d1, d2, d3, d4] => { results := [.lit (.bool false)], args := [d1, d2, d3, d4] }
  | _ => none }
def JournalReservesWrongFalsely : Prop := journalReservesRow.holds Tryd.pinned (OpenSpec.ofChange journalReservesWrong)

/- THE SECOND FORM. 'bulk': how many values and letters a reading holds, each counted each time it is reached (what is shared counts as often as it is met; a slice's spare places count too). A statement '..UptoSaid' is the law's where the arguments, and the package variables that the reading takes, are together of bulk at most 1048576: NARROWER than '..Said'. Prove '..Said' where nothing that the law and all that it calls make is longer than what came in: it says more and counts as full. Else prove '..UptoSaid'. A law counts once. -/
mutual
def uptoBulk {H : Type} : DataW H → Nat
  | .lit (.string bytes) => bytes.length + 1
  | .lit _ => 1
  | .nil => 1
  | .ptr d => uptoBulk d + 1
  | .slice elems spare => uptoBulkAll elems + uptoBulkAll spare + 1
  | .agg parts => uptoBulkAll parts + 1
  | .iface _ d => uptoBulk d + 1
  | .map entries => uptoBulkEntries entries + 1
  | .held _ => 1
def uptoBulkAll {H : Type} : List (DataW H) → Nat
  | [] => 0
  | d :: r => uptoBulk d + uptoBulkAll r
def uptoBulkEntries {H : Type} : List (Lit × DataW H) → Nat
  | [] => 0
  | x :: r => uptoBulkEntry x + uptoBulkEntries r
def uptoBulkEntry {H : Type} : Lit × DataW H → Nat
  | (.string bytes, d) => bytes.length + uptoBulk d + 1
  | (_, d) => uptoBulk d + 1
 end
def uptoSmall : (H : Type) → List (DataW H) → Bool := fun _ ds => decide (uptoBulkAll ds ≤ 1048576)
def OpenSpec.upto (s : _root_.Go.ChangeSpec) : _root_.Go.OpenSpec := { _root_.Go.OpenSpec.ofChange s with cond := some uptoSmall }

/-- 'malthouselaw18.JournalNotes', WHERE WHAT IT READS IS OF BULK AT MOST 1048576: true; the input reads as it did. -/
def journalNotesUptoRow : OpenClaim := { program := "ytghpmpjoedbpcaadoor", sum := "e4216ed82d210c2cc133f22c1dd2b7f3bb0e9f146c65d67b2cfc9c0ea4081a21", func := "malthouse/malthouselaw18.JournalNotes", spec := "journalNotes", inPlace := ["slices.overlaps[malthouse/api.Quota]"], unfollowed := true, recurses := true, named := ["unicode/utf8.first", "unicode/utf8.acceptRanges"], apart := false, laid := [("unicode/utf8.acceptRanges", laid_unicode_utf8_acceptRanges), ("unicode/utf8.first", laid_unicode_utf8_first)], narrowed := true }
def JournalNotesUptoSaid : Prop := journalNotesUptoRow.holds Tryd.pinned (OpenSpec.upto journalNotesSpec)

/-- 'malthouselaw18.JournalParts', WHERE WHAT IT READS IS OF BULK AT MOST 1048576: true; the input reads as it did. -/
def journalPartsUptoRow : OpenClaim := { program := "ytghpmpjoedbpcaadoor", sum := "e4216ed82d210c2cc133f22c1dd2b7f3bb0e9f146c65d67b2cfc9c0ea4081a21", func := "malthouse/malthouselaw18.JournalParts", spec := "journalParts", inPlace := ["slices.overlaps[malthouse/api.Quota]"], unfollowed := true, recurses := true, named := ["unicode/utf8.first", "unicode/utf8.acceptRanges"], apart := false, laid := [("unicode/utf8.acceptRanges", laid_unicode_utf8_acceptRanges), ("unicode/utf8.first", laid_unicode_utf8_first)], narrowed := true }
def JournalPartsUptoSaid : Prop := journalPartsUptoRow.holds Tryd.pinned (OpenSpec.upto journalPartsSpec)

/-- 'malthouselaw18.JournalKeeps', WHERE WHAT IT READS IS OF BULK AT MOST 1048576: true; the input reads as it did. -/
def journalKeepsUptoRow : OpenClaim := { program := "ytghpmpjoedbpcaadoor", sum := "e4216ed82d210c2cc133f22c1dd2b7f3bb0e9f146c65d67b2cfc9c0ea4081a21", func := "malthouse/malthouselaw18.JournalKeeps", spec := "journalKeeps", inPlace := ["slices.overlaps[malthouse/api.Quota]"], unfollowed := true, recurses := true, named := ["unicode/utf8.first", "unicode/utf8.acceptRanges"], apart := false, laid := [("unicode/utf8.acceptRanges", laid_unicode_utf8_acceptRanges), ("unicode/utf8.first", laid_unicode_utf8_first)], narrowed := true }
def JournalKeepsUptoSaid : Prop := journalKeepsUptoRow.holds Tryd.pinned (OpenSpec.upto journalKeepsSpec)

/-- 'malthouselaw18.JournalDoes', WHERE WHAT IT READS IS OF BULK AT MOST 1048576: true; the input reads as it did. -/
def journalDoesUptoRow : OpenClaim := { program := "ytghpmpjoedbpcaadoor", sum := "e4216ed82d210c2cc133f22c1dd2b7f3bb0e9f146c65d67b2cfc9c0ea4081a21", func := "malthouse/malthouselaw18.JournalDoes", spec := "journalDoes", inPlace := ["slices.overlaps[malthouse/api.Quota]"], unfollowed := true, recurses := true, named := ["unicode/utf8.first", "unicode/utf8.acceptRanges"], apart := false, laid := [("unicode/utf8.acceptRanges", laid_unicode_utf8_acceptRanges), ("unicode/utf8.first", laid_unicode_utf8_first)], narrowed := true }
def JournalDoesUptoSaid : Prop := journalDoesUptoRow.holds Tryd.pinned (OpenSpec.upto journalDoesSpec)

/-- 'malthouselaw18.JournalReserves', WHERE WHAT IT READS IS OF BULK AT MOST 1048576: true; the input reads as it did. -/
def journalReservesUptoRow : OpenClaim := { program := "ytghpmpjoedbpcaadoor", sum := "e4216ed82d210c2cc133f22c1dd2b7f3bb0e9f146c65d67b2cfc9c0ea4081a21", func := "malthouse/malthouselaw18.JournalReserves", spec := "journalReserves", inPlace := ["slices.overlaps[malthouse/api.Quota]"], unfollowed := true, recurses := true, named := ["unicode/utf8.first", "unicode/utf8.acceptRanges"], apart := false, laid := [("unicode/utf8.acceptRanges", laid_unicode_utf8_acceptRanges), ("unicode/utf8.first", laid_unicode_utf8_first)], narrowed := true }
def JournalReservesUptoSaid : Prop := journalReservesUptoRow.holds Tryd.pinned (OpenSpec.upto journalReservesSpec)

end Rows
end Go.Proofs.YtghpmpjoedbpcaaDoor
