/-
  No cell of these rows narrows 'for every input' (looked for: loops, veiled, ifaces, maps, wideKeys, modest, calm, conditions, laid).
  DERIVED. THE GIVEN ROWS OF THIS SEAT. 6 by the template 'for every input the law returns true; each argument reads behind the call as it read before'; 0 by the template 'total and deterministic' (their statements: YthkgpnkbbdpldaaTotals.lean).
  GIVEN WITH THE SEED: the statements are not yours to turn. If you find one false, say at which input.
  Laid BY PROGRAM, IN A SANDBOX (cutbox-rows.mjs): the forced cells as the released guide's own fill.sh prints them over the translation c01101376d6c3344… (all of the seat's roots in one cut). By AI agents, Wed Nov 11 2026. No macro, syntax, notation, axiom, sorry.
-/
import Derived.Test.YthkgpnkbbdpldaaChecked
import GoSem.Claim
import GoSem.ClaimJoined
import GoSem.ClaimMapViews
import Derived.JoinedTies
import Derived.KernelRfl
namespace Go.Proofs.Ythkgpnkbbdpldaa
/- THE CELL 'sum', in the pinned program and in every row, IS THE sha256 OF THE DUMP (.gsa) THAT YthkgpnkbbdpldaaProg.lean LOADS. Nothing in Lean hashes anything: it is a label: what it is worth is what the hold of that sum in a sandbox is worth. -/
noncomputable def Try.pinned : Pinned := { name := "ythkgpnkbbdpldaa", sum := "c01101376d6c3344721f4afa80c6b2a76d7a79af80b1aac5f3a7a4e4c0569002", checked := Try.checked }
namespace Rows
def none {H : Type} : Left H := { results := [], args := [] }

/-- 'malthouselaw06.PageLays': WHATEVER THE INPUT: true; the input reads as it did. -/
def pageLaysSpec : ChangeSpec := { name := "pageLays", fn := fun _ => fun
  | [d] => { results := [.lit (.bool true)], args := [d] }
  | _ => none }
def pageLaysRow : OpenClaim := { program := "ythkgpnkbbdpldaa", sum := "c01101376d6c3344721f4afa80c6b2a76d7a79af80b1aac5f3a7a4e4c0569002", func := "malthouse/malthouselaw06.PageLays", spec := "pageLays", apart := false }
def PageLaysSaid : Prop := pageLaysRow.holds Try.pinned (OpenSpec.ofChange pageLaysSpec)

/-- ITS FALSE NEIGHBOUR: 'it returns false'. Refute it at one input. -/
def pageLaysWrong : ChangeSpec := { name := "pageLays", fn := fun _ => fun
  | [d] => { results := [.lit (.bool false)], args := [d] }
  | _ => none }
def PageLaysWrongFalsely : Prop := pageLaysRow.holds Try.pinned (OpenSpec.ofChange pageLaysWrong)

/-- 'malthouselaw06.PageReads': WHATEVER THE INPUT: true; the input reads as it did. -/
def pageReadsSpec : ChangeSpec := { name := "pageReads", fn := fun _ => fun
  | [d] => { results := [.lit (.bool true)], args := [d] }
  | _ => none }
def pageReadsRow : OpenClaim := { program := "ythkgpnkbbdpldaa", sum := "c01101376d6c3344721f4afa80c6b2a76d7a79af80b1aac5f3a7a4e4c0569002", func := "malthouse/malthouselaw06.PageReads", spec := "pageReads", apart := false }
def PageReadsSaid : Prop := pageReadsRow.holds Try.pinned (OpenSpec.ofChange pageReadsSpec)

/-- ITS FALSE NEIGHBOUR: 'it returns false'. Refute it at one input. -/
def pageReadsWrong : ChangeSpec := { name := "pageReads", fn := fun _ => fun
  | [d] => { results := [.lit (.bool false)], args := [d] }
  | _ => none }
def PageReadsWrongFalsely : Prop := pageReadsRow.holds Try.pinned (OpenSpec.ofChange pageReadsWrong)

/-- 'malthouselaw06.PageSlots': WHATEVER THE INPUT: true; the input reads as it did. -/
def pageSlotsSpec : ChangeSpec := { name := "pageSlots", fn := fun _ => fun
  | [d1, d2] => { results := [.lit (.bool true)], args := [d1, d2] }
  | _ => none }
def pageSlotsRow : OpenClaim := { program := "ythkgpnkbbdpldaa", sum := "c01101376d6c3344721f4afa80c6b2a76d7a79af80b1aac5f3a7a4e4c0569002", func := "malthouse/malthouselaw06.PageSlots", spec := "pageSlots", apart := false }
def PageSlotsSaid : Prop := pageSlotsRow.holds Try.pinned (OpenSpec.ofChange pageSlotsSpec)

/-- ITS FALSE NEIGHBOUR: 'it returns false'. Refute it at one input. -/
def pageSlotsWrong : ChangeSpec := { name := "pageSlots", fn := fun _ => fun
  | [d1, d2] => { results := [.lit (.bool false)], args := [d1, d2] }
  | _ => none }
def PageSlotsWrongFalsely : Prop := pageSlotsRow.holds Try.pinned (OpenSpec.ofChange pageSlotsWrong)

/-- 'malthouselaw06.PageBack': WHATEVER THE INPUT: true; the input reads as it did. -/
def pageBackSpec : ChangeSpec := { name := "pageBack", fn := fun _ => fun
  | [d] => { results := [.lit (.bool true)], args := [d] }
  | _ => none }
def pageBackRow : OpenClaim := { program := "ythkgpnkbbdpldaa", sum := "c01101376d6c3344721f4afa80c6b2a76d7a79af80b1aac5f3a7a4e4c0569002", func := "malthouse/malthouselaw06.PageBack", spec := "pageBack", apart := false }
def PageBackSaid : Prop := pageBackRow.holds Try.pinned (OpenSpec.ofChange pageBackSpec)

/-- ITS FALSE NEIGHBOUR: 'it returns false'. Refute it at one input. -/
def pageBackWrong : ChangeSpec := { name := "pageBack", fn := fun _ => fun
  | [d] => { results := [.lit (.bool false)], args := [d] }
  | _ => none }
def PageBackWrongFalsely : Prop := pageBackRow.holds Try.pinned (OpenSpec.ofChange pageBackWrong)

/-- 'malthouselaw06.PageOne': WHATEVER THE INPUT: true; the input reads as it did. -/
def pageOneSpec : ChangeSpec := { name := "pageOne", fn := fun _ => fun
  | [d] => { results := [.lit (.bool true)], args := [d] }
  | _ => none }
def pageOneRow : OpenClaim := { program := "ythkgpnkbbdpldaa", sum := "c01101376d6c3344721f4afa80c6b2a76d7a79af80b1aac5f3a7a4e4c0569002", func := "malthouse/malthouselaw06.PageOne", spec := "pageOne", apart := false }
def PageOneSaid : Prop := pageOneRow.holds Try.pinned (OpenSpec.ofChange pageOneSpec)

/-- ITS FALSE NEIGHBOUR: 'it returns false'. Refute it at one input. -/
def pageOneWrong : ChangeSpec := { name := "pageOne", fn := fun _ => fun
  | [d] => { results := [.lit (.bool false)], args := [d] }
  | _ => none }
def PageOneWrongFalsely : Prop := pageOneRow.holds Try.pinned (OpenSpec.ofChange pageOneWrong)

/-- 'malthouselaw06.PageFills': WHATEVER THE INPUT: true; the input reads as it did. -/
def pageFillsSpec : ChangeSpec := { name := "pageFills", fn := fun _ => fun
  | [d1, d2, d3] => { results := [.lit (.bool true)], args := [d1, d2, d3] }
  | _ => none }
def pageFillsRow : OpenClaim := { program := "ythkgpnkbbdpldaa", sum := "c01101376d6c3344721f4afa80c6b2a76d7a79af80b1aac5f3a7a4e4c0569002", func := "malthouse/malthouselaw06.PageFills", spec := "pageFills", apart := false }
def PageFillsSaid : Prop := pageFillsRow.holds Try.pinned (OpenSpec.ofChange pageFillsSpec)

/-- ITS FALSE NEIGHBOUR: 'it returns false'. Refute it at one input. -/
def pageFillsWrong : ChangeSpec := { name := "pageFills", fn := fun _ => fun
  | [d1, d2, d3] => { results := [.lit (.bool false)], args := [d1, d2, d3] }
  | _ => none }
def PageFillsWrongFalsely : Prop := pageFillsRow.holds Try.pinned (OpenSpec.ofChange pageFillsWrong)

/- THE SECOND FORM. 'bulk': how many values and letters a reading holds, each counted each time it is reached (what is shared counts as often as it is met; a slice's spare places count too). A statement '..UptoSaid' is the law's where the arguments, and the package variables that the reading takes, are together of bulk at most 1048576: NARROWER than '..Said'. Prove '..Said' where nothing that the law and all that it calls make is longer than what came in: it says more and counts as full. Else prove '..UptoSaid'. A law counts once. -/
mutual
def uptoBulk {H : Type} : DataW H → Nat
  | .lit (.string bytes) => bytes.length + 1
  | .lit _ => 1
  | .nil => 1
  | .ptr d => uptoBulk d + 1
  | .slice elems spare => uptoBulkAll elems + uptoBulkAll spare + 1
  | .agg parts => uptoBulkAll parts + 1
  | .iface _ d => uptoBulk d + 1
  | .map entries => uptoBulkEntries entries + 1
  | .held _ => 1
def uptoBulkAll {H : Type} : List (DataW H) → Nat
  | [] => 0
  | d :: r => uptoBulk d + uptoBulkAll r
def uptoBulkEntries {H : Type} : List (Lit × DataW H) → Nat
  | [] => 0
  | x :: r => uptoBulkEntry x + uptoBulkEntries r
def uptoBulkEntry {H : Type} : Lit × DataW H → Nat
  | (.string bytes, d) => bytes.length + uptoBulk d + 1
  | (_, d) => uptoBulk d + 1
 end
def uptoSmall : (H : Type) → List (DataW H) → Bool := fun _ ds => decide (uptoBulkAll ds ≤ 1048576)
def OpenSpec.upto (s : _root_.Go.ChangeSpec) : _root_.Go.OpenSpec := { _root_.Go.OpenSpec.ofChange s with cond := some uptoSmall }

/-- 'malthouselaw06.PageLays', WHERE WHAT IT READS IS OF BULK AT MOST 1048576: true; the input reads as it did. -/
def pageLaysUptoRow : OpenClaim := { program := "ythkgpnkbbdpldaa", sum := "c01101376d6c3344721f4afa80c6b2a76d7a79af80b1aac5f3a7a4e4c0569002", func := "malthouse/malthouselaw06.PageLays", spec := "pageLays", apart := false, narrowed := true }
def PageLaysUptoSaid : Prop := pageLaysUptoRow.holds Try.pinned (OpenSpec.upto pageLaysSpec)

/-- 'malthouselaw06.PageReads', WHERE WHAT IT READS IS OF BULK AT MOST 1048576: true; the input reads as it did. -/
def pageReadsUptoRow : OpenClaim := { program := "ythkgpnkbbdpldaa", sum := "c01101376d6c3344721f4afa80c6b2a76d7a79af80b1aac5f3a7a4e4c0569002", func := "malthouse/malthouselaw06.PageReads", spec := "pageReads", apart := false, narrowed := true }
def PageReadsUptoSaid : Prop := pageReadsUptoRow.holds Try.pinned (OpenSpec.upto pageReadsSpec)

/-- 'malthouselaw06.PageSlots', WHERE WHAT IT READS IS OF BULK AT MOST 1048576: true; the input reads as it did. -/
def pageSlotsUptoRow : OpenClaim := { program := "ythkgpnkbbdpldaa", sum := "c01101376d6c3344721f4afa80c6b2a76d7a79af80b1aac5f3a7a4e4c0569002", func := "malthouse/malthouselaw06.PageSlots", spec := "pageSlots", apart := false, narrowed := true }
def PageSlotsUptoSaid : Prop := pageSlotsUptoRow.holds Try.pinned (OpenSpec.upto pageSlotsSpec)

/-- 'malthouselaw06.PageBack', WHERE WHAT IT READS IS OF BULK AT MOST 1048576: true; the input reads as it did. -/
def pageBackUptoRow : OpenClaim := { program := "ythkgpnkbbdpldaa", sum := "c01101376d6c3344721f4afa80c6b2a76d7a79af80b1aac5f3a7a4e4c0569002", func := "malthouse/malthouselaw06.PageBack", spec := "pageBack", apart := false, narrowed := true }
def PageBackUptoSaid : Prop := pageBackUptoRow.holds Try.pinned (OpenSpec.upto pageBackSpec)

/-- 'malthouselaw06.PageOne', WHERE WHAT IT READS IS OF BULK AT MOST 1048576: true; the input reads as it did. -/
def pageOneUptoRow : OpenClaim := { program := "ythkgpnkbbdpldaa", sum := "c01101376d6c3344721f4afa80c6b2a76d7a79af80b1aac5f3a7a4e4c0569002", func := "malthouse/malthouselaw06.PageOne", spec := "pageOne", apart := false, narrowed := true }
def PageOneUptoSaid : Prop := pageOneUptoRow.holds Try.pinned (OpenSpec.upto pageOneSpec)

/-- 'malthouselaw06.PageFills', WHERE WHAT IT READS IS OF BULK AT MOST 1048576: true; the input reads as it did. -/
def pageFillsUptoRow : OpenClaim := { program := "ythkgpnkbbdpldaa", sum := "c01101376d6c3344721f4afa80c6b2a76d7a79af80b1aac5f3a7a4e4c0569002", func := "malthouse/malthouselaw06.PageFills", spec := "pageFills", apart := false, narrowed := true }
def PageFillsUptoSaid : Prop := pageFillsUptoRow.holds Try.pinned (OpenSpec.upto pageFillsSpec)

end Rows
end Go.Proofs.Ythkgpnkbbdpldaa
