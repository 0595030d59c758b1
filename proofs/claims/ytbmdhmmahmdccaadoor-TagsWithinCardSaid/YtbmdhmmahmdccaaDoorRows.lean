/-
  NARROWER THAN 'FOR EVERY INPUT', by the rows' own cells (each row's printed sentence says how): TagsChecks: laid · TagsLatches: laid · TagsDrives: laid · TagsWithin: laid · TagsApart: laid · TagsEnv: laid.
  DERIVED. THE GIVEN ROWS OF THIS SEAT. 6 by the template 'for every input the law returns true; each argument reads behind the call as it read before'; 0 by the template 'total and deterministic' (their statements: YtbmdhmmahmdccaaDoorTotals.lean).
  GIVEN WITH THE SEED: the statements are not yours to turn. If you find one false, say at which input.
  Laid BY PROGRAM, IN A SANDBOX (cutbox-rows.mjs): the forced cells as the released guide's own fill.sh prints them over the translation 3b9715b3809a5267… (all of the seat's roots in one cut). By AI agents, Wed Nov 11 2026. No macro, syntax, notation, axiom, sorry.
-/
import Derived.Test.YtbmdhmmahmdccaaDoorChecked
import GoSem.PinnedTables
import GoSem.Claim
import GoSem.ClaimJoined
import GoSem.ClaimMapViews
import Derived.JoinedTies
import Derived.KernelRfl
namespace Go.Proofs.YtbmdhmmahmdccaaDoor
/- THE CELL 'sum', in the pinned program and in every row, IS THE sha256 OF THE DUMP (.gsa) THAT YtbmdhmmahmdccaaDoorProg.lean LOADS. Nothing in Lean hashes anything: it is a label: what it is worth is what the hold of that sum in a sandbox is worth. -/
noncomputable def Tryd.pinned : Pinned := { name := "ytbmdhmmahmdccaadoor", sum := "3b9715b3809a5267fb6480d63f36d2af9eae9022beb13f6e5e953db59e95a601", checked := Tryd.checked }
namespace Rows
def none {H : Type} : Left H := { results := [], args := [] }

/- WHAT THE LISTED PACKAGE-LEVEL VARIABLES READ AS WHEN THE CALL BEGINS. Each datum BY PROGRAM (the guide's laid-datum.mjs) off the statement by which the dump's own 'gosem.cut.vars' lays the variable. In a bare row this is a premise. The card (YtbmdhmmahmdccaaDoorCards.lean) ties it to the program's text. -/
def laid_unicode_utf8_acceptRanges {H : Type} : DataW H := .agg [.agg [.lit (.int .u8 128), .lit (.int .u8 191)], .agg [.lit (.int .u8 160), .lit (.int .u8 191)], .agg [.lit (.int .u8 128), .lit (.int .u8 159)], .agg [.lit (.int .u8 144), .lit (.int .u8 191)], .agg [.lit (.int .u8 128), .lit (.int .u8 143)], .agg [.lit (.int .u8 0), .lit (.int .u8 0)], .agg [.lit (.int .u8 0), .lit (.int .u8 0)], .agg [.lit (.int .u8 0), .lit (.int .u8 0)], .agg [.lit (.int .u8 0), .lit (.int .u8 0)], .agg [.lit (.int .u8 0), .lit (.int .u8 0)], .agg [.lit (.int .u8 0), .lit (.int .u8 0)], .agg [.lit (.int .u8 0), .lit (.int .u8 0)], .agg [.lit (.int .u8 0), .lit (.int .u8 0)], .agg [.lit (.int .u8 0), .lit (.int .u8 0)], .agg [.lit (.int .u8 0), .lit (.int .u8 0)], .agg [.lit (.int .u8 0), .lit (.int .u8 0)]]
/-- One of Go's own tables, pinned by name: the form's constant. -/
def laid_unicode_utf8_first : DataW Unit := Go.Pinned.utf8First

/-- 'malthouselaw08.TagsChecks': WHATEVER THE INPUT: true; the input reads as it did. -/
def tagsChecksSpec : ChangeSpec := { name := "tagsChecks", fn := fun _ => fun
  | [d1, d2] => { results := [.lit (.bool true)], args := [d1, d2] }
  | _ => none }
def tagsChecksRow : OpenClaim := { program := "ytbmdhmmahmdccaadoor", sum := "3b9715b3809a5267fb6480d63f36d2af9eae9022beb13f6e5e953db59e95a601", func := "malthouse/malthouselaw08.TagsChecks", spec := "tagsChecks", inPlace := ["internal/bytealg.IndexByteString"], unfollowed := true, recurses := true, named := ["unicode/utf8.first", "unicode/utf8.acceptRanges"], apart := false, laid := [("unicode/utf8.acceptRanges", laid_unicode_utf8_acceptRanges), ("unicode/utf8.first", laid_unicode_utf8_first)] }
def TagsChecksSaid : Prop := tagsChecksRow.holds Tryd.pinned (OpenSpec.ofChange tagsChecksSpec)

/-- ITS FALSE NEIGHBOUR: 'it returns false'. Refute it at one input. -/
def tagsChecksWrong : ChangeSpec := { name := "tagsChecks", fn := fun _ => fun
  | [d1, d2] => { results := [.lit (.bool false)], args := [d1, d2] }
  | _ => none }
def TagsChecksWrongFalsely : Prop := tagsChecksRow.holds Tryd.pinned (OpenSpec.ofChange tagsChecksWrong)

/-- 'malthouselaw08.TagsLatches': WHATEVER THE INPUT: true; the input reads as it did. -/
def tagsLatchesSpec : ChangeSpec := { name := "tagsLatches", fn := fun _ => fun
  | [d1, d2, d3] => { results := [.lit (.bool true)], args := [d1, d2, d3] }
  | _ => none }
def tagsLatchesRow : OpenClaim := { program := "ytbmdhmmahmdccaadoor", sum := "3b9715b3809a5267fb6480d63f36d2af9eae9022beb13f6e5e953db59e95a601", func := "malthouse/malthouselaw08.TagsLatches", spec := "tagsLatches", inPlace := ["internal/bytealg.IndexByteString"], unfollowed := true, recurses := true, named := ["unicode/utf8.first", "unicode/utf8.acceptRanges"], apart := false, laid := [("unicode/utf8.acceptRanges", laid_unicode_utf8_acceptRanges), ("unicode/utf8.first", laid_unicode_utf8_first)] }
def TagsLatchesSaid : Prop := tagsLatchesRow.holds Tryd.pinned (OpenSpec.ofChange tagsLatchesSpec)

/-- ITS FALSE NEIGHBOUR: 'it returns false'. Refute it at one input. -/
def tagsLatchesWrong : ChangeSpec := { name := "tagsLatches", fn := fun _ => fun
  | [d1, d2, d3] => { results := [.lit (.bool false)], args := [d1, d2, d3] }
  | _ => none }
def TagsLatchesWrongFalsely : Prop := tagsLatchesRow.holds Tryd.pinned (OpenSpec.ofChange tagsLatchesWrong)

/-- 'malthouselaw08.TagsDrives': WHATEVER THE INPUT: true; the input reads as it did. -/
def tagsDrivesSpec : ChangeSpec := { name := "tagsDrives", fn := fun _ => fun
  | [d1, d2, d3] => { results := [.lit (.bool true)], args := [d1, d2, d3] }
  | _ => none }
def tagsDrivesRow : OpenClaim := { program := "ytbmdhmmahmdccaadoor", sum := "3b9715b3809a5267fb6480d63f36d2af9eae9022beb13f6e5e953db59e95a601", func := "malthouse/malthouselaw08.TagsDrives", spec := "tagsDrives", inPlace := ["internal/bytealg.IndexByteString"], unfollowed := true, recurses := true, named := ["unicode/utf8.first", "unicode/utf8.acceptRanges"], apart := false, laid := [("unicode/utf8.acceptRanges", laid_unicode_utf8_acceptRanges), ("unicode/utf8.first", laid_unicode_utf8_first)] }
def TagsDrivesSaid : Prop := tagsDrivesRow.holds Tryd.pinned (OpenSpec.ofChange tagsDrivesSpec)

/-- ITS FALSE NEIGHBOUR: 'it returns false'. Refute it at one input. -/
def tagsDrivesWrong : ChangeSpec := { name := "tagsDrives", fn := fun _ => fun
  | [d1, d2, d3] => { results := [.lit (.bool false)], args := [d1, d2, d3] }
  | _ => none }
def TagsDrivesWrongFalsely : Prop := tagsDrivesRow.holds Tryd.pinned (OpenSpec.ofChange tagsDrivesWrong)

/-- 'malthouselaw08.TagsWithin': WHATEVER THE INPUT: true; the input reads as it did. -/
def tagsWithinSpec : ChangeSpec := { name := "tagsWithin", fn := fun _ => fun
  | [d1, d2] => { results := [.lit (.bool true)], args := [d1, d2] }
  | _ => none }
def tagsWithinRow : OpenClaim := { program := "ytbmdhmmahmdccaadoor", sum := "3b9715b3809a5267fb6480d63f36d2af9eae9022beb13f6e5e953db59e95a601", func := "malthouse/malthouselaw08.TagsWithin", spec := "tagsWithin", inPlace := ["internal/bytealg.IndexByteString"], unfollowed := true, recurses := true, named := ["unicode/utf8.first", "unicode/utf8.acceptRanges"], apart := false, laid := [("unicode/utf8.acceptRanges", laid_unicode_utf8_acceptRanges), ("unicode/utf8.first", laid_unicode_utf8_first)] }
def TagsWithinSaid : Prop := tagsWithinRow.holds Tryd.pinned (OpenSpec.ofChange tagsWithinSpec)

/-- ITS FALSE NEIGHBOUR: 'it returns false'. Refute it at one input. -/
def tagsWithinWrong : ChangeSpec := { name := "tagsWithin", fn := fun _ => fun
  | [d1, d2] => { results := [.lit (.bool false)], args := [d1, d2] }
  | _ => none }
def TagsWithinWrongFalsely : Prop := tagsWithinRow.holds Tryd.pinned (OpenSpec.ofChange tagsWithinWrong)

/-- 'malthouselaw08.TagsApart': WHATEVER THE INPUT: true; the input reads as it did. -/
def tagsApartSpec : ChangeSpec := { name := "tagsApart", fn := fun _ => fun
  | [d1, d2, d3, d4] => { results := [.lit (.bool true)], args := [d1, d2, d3, d4] }
  | _ => none }
def tagsApartRow : OpenClaim := { program := "ytbmdhmmahmdccaadoor", sum := "3b9715b3809a5267fb6480d63f36d2af9eae9022beb13f6e5e953db59e95a601", func := "malthouse/malthouselaw08.TagsApart", spec := "tagsApart", inPlace := ["internal/bytealg.IndexByteString"], unfollowed := true, recurses := true, named := ["unicode/utf8.first", "unicode/utf8.acceptRanges"], apart := false, laid := [("unicode/utf8.acceptRanges", laid_unicode_utf8_acceptRanges), ("unicode/utf8.first", laid_unicode_utf8_first)] }
def TagsApartSaid : Prop := tagsApartRow.holds Tryd.pinned (OpenSpec.ofChange tagsApartSpec)

/-- ITS FALSE NEIGHBOUR: 'it returns false'. Refute it at one input. -/
def tagsApartWrong : ChangeSpec := { name := "tagsApart", fn := fun _ => fun
  | [d1, d2, d3, d4] => { results := [.lit (.bool false)], args := [d1, d2, d3, d4] }
  | _ => none }
def TagsApartWrongFalsely : Prop := tagsApartRow.holds Tryd.pinned (OpenSpec.ofChange tagsApartWrong)

/-- 'malthouselaw08.TagsEnv': WHATEVER THE INPUT: true; the input reads as it did. -/
def tagsEnvSpec : ChangeSpec := { name := "tagsEnv", fn := fun _ => fun
  | [d1, d2] => { results := [.lit (.bool true)], args := [d1, d2] }
  | _ => none }
def tagsEnvRow : OpenClaim := { program := "ytbmdhmmahmdccaadoor", sum := "3b9715b3809a5267fb6480d63f36d2af9eae9022beb13f6e5e953db59e95a601", func := "malthouse/malthouselaw08.TagsEnv", spec := "tagsEnv", inPlace := ["internal/bytealg.IndexByteString"], unfollowed := true, recurses := true, named := ["unicode/utf8.first", "unicode/utf8.acceptRanges"], apart := false, laid := [("unicode/utf8.acceptRanges", laid_unicode_utf8_acceptRanges), ("unicode/utf8.first", laid_unicode_utf8_first)] }
def TagsEnvSaid : Prop := tagsEnvRow.holds Tryd.pinned (OpenSpec.ofChange tagsEnvSpec)

/-- ITS FALSE NEIGHBOUR: 'it returns false'. Refute it at one input. -/
def tagsEnvWrong : ChangeSpec := { name := "tagsEnv", fn := fun _ => fun
  | [d1, d2] => { results := [.lit (.bool false)], args := [d1, d2] }
  | _ => none }
def TagsEnvWrongFalsely : Prop := tagsEnvRow.holds Tryd.pinned (OpenSpec.ofChange tagsEnvWrong)

/- THE SECOND FORM. 'bulk': how many values and letters a reading holds, each counted each time it is reached (what is shared counts as often as it is met; a slice's spare places count too). A statement '..UptoSaid' is the law's where the arguments, and the package variables that the reading takes, are together of bulk at most 1048576: NARROWER than '..Said'. Prove '..Said' where nothing that the law and all that it calls make is longer than what came in: it says more and counts as full. Else prove '..UptoSaid'. A law counts once. -/
mutual
def uptoBulk {H : Type} : DataW H → Nat
  | .lit (.string bytes) => bytes.length + 1
  | .lit _ => 1
  | .nil => 1
  | .ptr d => uptoBulk d + 1
  | .slice elems spare => uptoBulkAll elems + uptoBulkAll spare + 1
  | .agg parts => uptoBulkAll parts + 1
  | .iface _ d => uptoBulk d + 1
  | .map entries => uptoBulkEntries entries + 1
  | .held _ => 1
def uptoBulkAll {H : Type} : List (DataW H) → Nat
  | [] => 0
  | d :: r => uptoBulk d + uptoBulkAll r
def uptoBulkEntries {H : Type} : List (Lit × DataW H) → Nat
  | [] => 0
  | x :: r => uptoBulkEntry x + uptoBulkEntries r
def uptoBulkEntry {H : Type} : Lit × DataW H → Nat
  | (.string bytes, d) => bytes.length + uptoBulk d + 1
  | (_, d) => uptoBulk d + 1
 end
def uptoSmall : (H : Type) → List (DataW H) → Bool := fun _ ds => decide (uptoBulkAll ds ≤ 1048576)
def OpenSpec.upto (s : _root_.Go.ChangeSpec) : _root_.Go.OpenSpec := { _root_.Go.OpenSpec.ofChange s with cond := some uptoSmall }

/-- 'malthouselaw08.TagsChecks', WHERE WHAT IT READS IS OF BULK AT MOST 1048576: true; the input reads as it did. -/
def tagsChecksUptoRow : OpenClaim := { program := "ytbmdhmmahmdccaadoor", sum := "3b9715b3809a5267fb6480d63f36d2af9eae9022beb13f6e5e953db59e95a601", func := "malthouse/malthouselaw08.TagsChecks", spec := "tagsChecks", inPlace := ["internal/bytealg.IndexByteString"], unfollowed := true, recurses := true, named := ["unicode/utf8.first", "unicode/utf8.acceptRanges"], apart := false, laid := [("unicode/utf8.acceptRanges", laid_unicode_utf8_acceptRanges), ("unicode/utf8.first", laid_unicode_utf8_first)], narrowed := true }
def TagsChecksUptoSaid : Prop := tagsChecksUptoRow.holds Tryd.pinned (OpenSpec.upto tagsChecksSpec)

/-- 'malthouselaw08.TagsLatches', WHERE WHAT IT READS IS OF BULK AT MOST 1048576: true; the input reads as it did. -/
def tagsLatchesUptoRow : OpenClaim := { program := "ytbmdhmmahmdccaadoor", sum := "3b9715b3809a5267fb6480d63f36d2af9eae9022beb13f6e5e953db59e95a601", func := "malthouse/malthouselaw08.TagsLatches", spec := "tagsLatches", inPlace := ["internal/bytealg.IndexByteString"], unfollowed := true, recurses := true, named := ["unicode/utf8.first", "unicode/utf8.acceptRanges"], apart := false, laid := [("unicode/utf8.acceptRanges", laid_unicode_utf8_acceptRanges), ("unicode/utf8.first", laid_unicode_utf8_first)], narrowed := true }
def TagsLatchesUptoSaid : Prop := tagsLatchesUptoRow.holds Tryd.pinned (OpenSpec.upto tagsLatchesSpec)

/-- 'malthouselaw08.TagsDrives', WHERE WHAT IT READS IS OF BULK AT MOST 1048576: true; the input reads as it did. -/
def tagsDrivesUptoRow : OpenClaim := { program := "ytbmdhmmahmdccaadoor", sum := "3b9715b3809a5267fb6480d63f36d2af9eae9022beb13f6e5e953db59e95a601", func := "malthouse/malthouselaw08.TagsDrives", spec := "tagsDrives", inPlace := ["internal/bytealg.IndexByteString"], unfollowed := true, recurses := true, named := ["unicode/utf8.first", "unicode/utf8.acceptRanges"], apart := false, laid := [("unicode/utf8.acceptRanges", laid_unicode_utf8_acceptRanges), ("unicode/utf8.first", laid_unicode_utf8_first)], narrowed := true }
def TagsDrivesUptoSaid : Prop := tagsDrivesUptoRow.holds Tryd.pinned (OpenSpec.upto tagsDrivesSpec)

/-- 'malthouselaw08.TagsWithin', WHERE WHAT IT READS IS OF BULK AT MOST 1048576: true; the input reads as it did. -/
def tagsWithinUptoRow : OpenClaim := { program := "ytbmdhmmahmdccaadoor", sum := "3b9715b3809a5267fb6480d63f36d2af9eae9022beb13f6e5e953db59e95a601", func := "malthouse/malthouselaw08.TagsWithin", spec := "tagsWithin", inPlace := ["internal/bytealg.IndexByteString"], unfollowed := true, recurses := true, named := ["unicode/utf8.first", "unicode/utf8.acceptRanges"], apart := false, laid := [("unicode/utf8.acceptRanges", laid_unicode_utf8_acceptRanges), ("unicode/utf8.first", laid_unicode_utf8_first)], narrowed := true }
def TagsWithinUptoSaid : Prop := tagsWithinUptoRow.holds Tryd.pinned (OpenSpec.upto tagsWithinSpec)

/-- 'malthouselaw08.TagsApart', WHERE WHAT IT READS IS OF BULK AT MOST 1048576: true; the input reads as it did. -/
def tagsApartUptoRow : OpenClaim := { program := "ytbmdhmmahmdccaadoor", sum := "3b9715b3809a5267fb6480d63f36d2af9eae9022beb13f6e5e953db59e95a601", func := "malthouse/malthouselaw08.TagsApart", spec := "tagsApart", inPlace := ["internal/bytealg.IndexByteString"], unfollowed := true, recurses := true, named := ["unicode/utf8.first", "unicode/utf8.acceptRanges"], apart := false, laid := [("unicode/utf8.acceptRanges", laid_unicode_utf8_acceptRanges), ("unicode/utf8.first", laid_unicode_utf8_first)], narrowed := true }
def TagsApartUptoSaid : Prop := tagsApartUptoRow.holds Tryd.pinned (OpenSpec.upto tagsApartSpec)

/-- 'malthouselaw08.TagsEnv', WHERE WHAT IT READS IS OF BULK AT MOST 1048576: true; the input reads as it did. -/
def tagsEnvUptoRow : OpenClaim := { program := "ytbmdhmmahmdccaadoor", sum := "3b9715b3809a5267fb6480d63f36d2af9eae9022beb13f6e5e953db59e95a601", func := "malthouse/malthouselaw08.TagsEnv", spec := "tagsEnv", inPlace := ["internal/bytealg.IndexByteString"], unfollowed := true, recurses := true, named := ["unicode/utf8.first", "unicode/utf8.acceptRanges"], apart := false, laid := [("unicode/utf8.acceptRanges", laid_unicode_utf8_acceptRanges), ("unicode/utf8.first", laid_unicode_utf8_first)], narrowed := true }
def TagsEnvUptoSaid : Prop := tagsEnvUptoRow.holds Tryd.pinned (OpenSpec.upto tagsEnvSpec)

end Rows
end Go.Proofs.YtbmdhmmahmdccaaDoor
