/-
  No cell of these rows narrows 'for every input' (looked for: loops, veiled, ifaces, maps, wideKeys, modest, calm, conditions, laid).
  DERIVED. THE GIVEN ROWS OF THIS SEAT. 5 by the template 'for every input the law returns true; each argument reads behind the call as it read before'; 0 by the template 'total and deterministic' (their statements: YtlngfelpmebemaaTotals.lean).
  GIVEN WITH THE SEED: the statements are not yours to turn. If you find one false, say at which input.
  Laid BY PROGRAM, IN A SANDBOX (cutbox-rows.mjs): the forced cells as the released guide's own fill.sh prints them over the translation 95e5c01e52df86f0… (all of the seat's roots in one cut). By AI agents, Wed Nov 11 2026. No macro, syntax, notation, axiom, sorry.
-/
import Derived.Test.YtlngfelpmebemaaChecked
import GoSem.Claim
import GoSem.ClaimJoined
import GoSem.ClaimMapViews
import Derived.JoinedTies
import Derived.KernelRfl
namespace Go.Proofs.Ytlngfelpmebemaa
/- THE CELL 'sum', in the pinned program and in every row, IS THE sha256 OF THE DUMP (.gsa) THAT YtlngfelpmebemaaProg.lean LOADS. Nothing in Lean hashes anything: it is a label: what it is worth is what the hold of that sum in a sandbox is worth. -/
noncomputable def Try.pinned : Pinned := { name := "ytlngfelpmebemaa", sum := "95e5c01e52df86f0a6d136d06b4a6b3c5dba2cedbe7791b87f6780fc53088d79", checked := Try.checked }
namespace Rows
def none {H : Type} : Left H := { results := [], args := [] }

/-- 'malthouselaw05.WalRoom': WHATEVER THE INPUT: true; the input reads as it did. -/
def walRoomSpec : ChangeSpec := { name := "walRoom", fn := fun _ => fun
  | [d] => { results := [.lit (.bool true)], args := [d] }
  | _ => none }
def walRoomRow : OpenClaim := { program := "ytlngfelpmebemaa", sum := "95e5c01e52df86f0a6d136d06b4a6b3c5dba2cedbe7791b87f6780fc53088d79", func := "malthouse/malthouselaw05.WalRoom", spec := "walRoom", apart := false }
def WalRoomSaid : Prop := walRoomRow.holds Try.pinned (OpenSpec.ofChange walRoomSpec)

/-- ITS FALSE NEIGHBOUR: 'it returns false'. Refute it at one input. -/
def walRoomWrong : ChangeSpec := { name := "walRoom", fn := fun _ => fun
  | [d] => { results := [.lit (.bool false)], args := [d] }
  | _ => none }
def WalRoomWrongFalsely : Prop := walRoomRow.holds Try.pinned (OpenSpec.ofChange walRoomWrong)

/-- 'malthouselaw05.WalCrash': WHATEVER THE INPUT: true; the input reads as it did. -/
def walCrashSpec : ChangeSpec := { name := "walCrash", fn := fun _ => fun
  | [d1, d2, d3] => { results := [.lit (.bool true)], args := [d1, d2, d3] }
  | _ => none }
def walCrashRow : OpenClaim := { program := "ytlngfelpmebemaa", sum := "95e5c01e52df86f0a6d136d06b4a6b3c5dba2cedbe7791b87f6780fc53088d79", func := "malthouse/malthouselaw05.WalCrash", spec := "walCrash", apart := false }
def WalCrashSaid : Prop := walCrashRow.holds Try.pinned (OpenSpec.ofChange walCrashSpec)

/-- ITS FALSE NEIGHBOUR: 'it returns false'. Refute it at one input. -/
def walCrashWrong : ChangeSpec := { name := "walCrash", fn := fun _ => fun
  | [d1, d2, d3] => { results := [.lit (.bool false)], args := [d1, d2, d3] }
  | _ => none }
def WalCrashWrongFalsely : Prop := walCrashRow.holds Try.pinned (OpenSpec.ofChange walCrashWrong)

/-- 'malthouselaw05.WalClosed': WHATEVER THE INPUT: true; the input reads as it did. -/
def walClosedSpec : ChangeSpec := { name := "walClosed", fn := fun _ => fun
  | [d] => { results := [.lit (.bool true)], args := [d] }
  | _ => none }
def walClosedRow : OpenClaim := { program := "ytlngfelpmebemaa", sum := "95e5c01e52df86f0a6d136d06b4a6b3c5dba2cedbe7791b87f6780fc53088d79", func := "malthouse/malthouselaw05.WalClosed", spec := "walClosed", apart := false }
def WalClosedSaid : Prop := walClosedRow.holds Try.pinned (OpenSpec.ofChange walClosedSpec)

/-- ITS FALSE NEIGHBOUR: 'it returns false'. Refute it at one input. -/
def walClosedWrong : ChangeSpec := { name := "walClosed", fn := fun _ => fun
  | [d] => { results := [.lit (.bool false)], args := [d] }
  | _ => none }
def WalClosedWrongFalsely : Prop := walClosedRow.holds Try.pinned (OpenSpec.ofChange walClosedWrong)

/-- 'malthouselaw05.WalEdges': WHATEVER THE INPUT: true; the input reads as it did. -/
def walEdgesSpec : ChangeSpec := { name := "walEdges", fn := fun _ => fun
  | [d] => { results := [.lit (.bool true)], args := [d] }
  | _ => none }
def walEdgesRow : OpenClaim := { program := "ytlngfelpmebemaa", sum := "95e5c01e52df86f0a6d136d06b4a6b3c5dba2cedbe7791b87f6780fc53088d79", func := "malthouse/malthouselaw05.WalEdges", spec := "walEdges", apart := false }
def WalEdgesSaid : Prop := walEdgesRow.holds Try.pinned (OpenSpec.ofChange walEdgesSpec)

/-- ITS FALSE NEIGHBOUR: 'it returns false'. Refute it at one input. -/
def walEdgesWrong : ChangeSpec := { name := "walEdges", fn := fun _ => fun
  | [d] => { results := [.lit (.bool false)], args := [d] }
  | _ => none }
def WalEdgesWrongFalsely : Prop := walEdgesRow.holds Try.pinned (OpenSpec.ofChange walEdgesWrong)

/-- 'malthouselaw05.WalAgain': WHATEVER THE INPUT: true; the input reads as it did. -/
def walAgainSpec : ChangeSpec := { name := "walAgain", fn := fun _ => fun
  | [d1, d2, d3] => { results := [.lit (.bool true)], args := [d1, d2, d3] }
  | _ => none }
def walAgainRow : OpenClaim := { program := "ytlngfelpmebemaa", sum := "95e5c01e52df86f0a6d136d06b4a6b3c5dba2cedbe7791b87f6780fc53088d79", func := "malthouse/malthouselaw05.WalAgain", spec := "walAgain", apart := false }
def WalAgainSaid : Prop := walAgainRow.holds Try.pinned (OpenSpec.ofChange walAgainSpec)

/-- ITS FALSE NEIGHBOUR: 'it returns false'. Refute it at one input. -/
def walAgainWrong : ChangeSpec := { name := "walAgain", fn := fun _ => fun
  | [d1, d2, d3] => { results := [.lit (.bool false)], args := [d1, d2, d3] }
  | _ => none }
def WalAgainWrongFalsely : Prop := walAgainRow.holds Try.pinned (OpenSpec.ofChange walAgainWrong)

/- THE SECOND FORM. 'bulk': how many values and letters a reading holds, each counted each time it is reached (what is shared counts as often as it is met; a slice's spare places count too). A statement '..UptoSaid' is the law's where the arguments, and the package variables that the reading takes, are together of bulk at most 1048576: NARROWER than '..Said'. Prove '..Said' where nothing that the law and all that it calls make is longer than what came in: it says more and counts as full. Else prove '..UptoSaid'. A law counts once. -/
mutual
def uptoBulk {H : Type} : DataW H → Nat
  | .lit (.string bytes) => bytes.length + 1
  | .lit _ => 1
  | .nil => 1
  | .ptr d => uptoBulk d + 1
  | .slice elems spare => uptoBulkAll elems + uptoBulkAll spare + 1
  | .agg parts => uptoBulkAll parts + 1
  | .iface _ d => uptoBulk d + 1
  | .map entries => uptoBulkEntries entries + 1
  | .held _ => 1
def uptoBulkAll {H : Type} : List (DataW H) → Nat
  | [] => 0
  | d :: r => uptoBulk d + uptoBulkAll r
def uptoBulkEntries {H : Type} : List (Lit × DataW H) → Nat
  | [] => 0
  | x :: r => uptoBulkEntry x + uptoBulkEntries r
def uptoBulkEntry {H : Type} : Lit × DataW H → Nat
  | (.string bytes, d) => bytes.length + uptoBulk d + 1
  | (_, d) => uptoBulk d + 1
 end
def uptoSmall : (H : Type) → List (DataW H) → Bool := fun _ ds => decide (uptoBulkAll ds ≤ 1048576)
def OpenSpec.upto (s : _root_.Go.ChangeSpec) : _root_.Go.OpenSpec := { _root_.Go.OpenSpec.ofChange s with cond := some uptoSmall }

/-- 'malthouselaw05.WalRoom', WHERE WHAT IT READS IS OF BULK AT MOST 1048576: true; the input reads as it did. -/
def walRoomUptoRow : OpenClaim := { program := "ytlngfelpmebemaa", sum := "95e5c01e52df86f0a6d136d06b4a6b3c5dba2cedbe7791b87f6780fc53088d79", func := "malthouse/malthouselaw05.WalRoom", spec := "walRoom", apart := false, narrowed := true }
def WalRoomUptoSaid : Prop := walRoomUptoRow.holds Try.pinned (OpenSpec.upto walRoomSpec)

/-- 'malthouselaw05.WalCrash', WHERE WHAT IT READS IS OF BULK AT MOST 1048576: true; the input reads as it did. -/
def walCrashUptoRow : OpenClaim := { program := "ytlngfelpmebemaa", sum := "95e5c01e52df86f0a6d136d06b4a6b3c5dba2cedbe7791b87f6780fc53088d79", func := "malthouse/malthouselaw05.WalCrash", spec := "walCrash", apart := false, narrowed := true }
def WalCrashUptoSaid : Prop := walCrashUptoRow.holds Try.pinned (OpenSpec.upto walCrashSpec)

/-- 'malthouselaw05.WalClosed', WHERE WHAT IT READS IS OF BULK AT MOST 1048576: true; the input reads as it did. -/
def walClosedUptoRow : OpenClaim := { program := "ytlngfelpmebemaa", sum := "95e5c01e52df86f0a6d136d06b4a6b3c5dba2cedbe7791b87f6780fc53088d79", func := "malthouse/malthouselaw05.WalClosed", spec := "walClosed", apart := false, narrowed := true }
def WalClosedUptoSaid : Prop := walClosedUptoRow.holds Try.pinned (OpenSpec.upto walClosedSpec)

/-- 'malthouselaw05.WalEdges', WHERE WHAT IT READS IS OF BULK AT MOST 1048576: true; the input reads as it did. -/
def walEdgesUptoRow : OpenClaim := { program := "ytlngfelpmebemaa", sum := "95e5c01e52df86f0a6d136d06b4a6b3c5dba2cedbe7791b87f6780fc53088d79", func := "malthouse/malthouselaw05.WalEdges", spec := "walEdges", apart := false, narrowed := true }
def WalEdgesUptoSaid : Prop := walEdgesUptoRow.holds Try.pinned (OpenSpec.upto walEdgesSpec)

/-- 'malthouselaw05.WalAgain', WHERE WHAT IT READS IS OF BULK AT MOST 1048576: true; the input reads as it did. -/
def walAgainUptoRow : OpenClaim := { program := "ytlngfelpmebemaa", sum := "95e5c01e52df86f0a6d136d06b4a6b3c5dba2cedbe7791b87f6780fc53088d79", func := "malthouse/malthouselaw05.WalAgain", spec := "walAgain", apart := false, narrowed := true }
def WalAgainUptoSaid : Prop := walAgainUptoRow.holds Try.pinned (OpenSpec.upto walAgainSpec)

end Rows
end Go.Proofs.Ytlngfelpmebemaa
