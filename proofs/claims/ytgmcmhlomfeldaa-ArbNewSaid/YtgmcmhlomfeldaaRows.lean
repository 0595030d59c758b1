/-
  No cell of these rows narrows 'for every input' (looked for: loops, veiled, ifaces, maps, wideKeys, modest, calm, conditions, laid).
  DERIVED. THE GIVEN ROWS OF THIS SEAT. 6 by the template 'for every input the law returns true; each argument reads behind the call as it read before'; 0 by the template 'total and deterministic' (their statements: YtgmcmhlomfeldaaTotals.lean).
  GIVEN WITH THE SEED: the statements are not yours to turn. If you find one false, say at which input.
  Laid BY PROGRAM, IN A SANDBOX (cutbox-rows.mjs): the forced cells as the released guide's own fill.sh prints them over the translation 7f688b6df6e4412a… (all of the seat's roots in one cut). By AI agents, Wed Nov 11 2026. No macro, syntax, notation, axiom, sorry.
-/
import Derived.Test.YtgmcmhlomfeldaaChecked
import GoSem.Claim
import GoSem.ClaimJoined
import GoSem.ClaimMapViews
import Derived.JoinedTies
import Derived.KernelRfl
namespace Go.Proofs.Ytgmcmhlomfeldaa
/- THE CELL 'sum', in the pinned program and in every row, IS THE sha256 OF THE DUMP (.gsa) THAT YtgmcmhlomfeldaaProg.lean LOADS. Nothing in Lean hashes anything: it is a label: what it is worth is what the hold of that sum in a sandbox is worth. -/
noncomputable def Try.pinned : Pinned := { name := "ytgmcmhlomfeldaa", sum := "7f688b6df6e4412a60d1dee09e21c7c790e88c56e0f1bb7b4b5e1859b102259b", checked := Try.checked }
namespace Rows
def none {H : Type} : Left H := { results := [], args := [] }

/-- 'malthouselaw14.ArbNew': WHATEVER THE INPUT: true; the input reads as it did. -/
def arbNewSpec : ChangeSpec := { name := "arbNew", fn := fun _ => fun
  | [d] => { results := [.lit (.bool true)], args := [d] }
  | _ => none }
def arbNewRow : OpenClaim := { program := "ytgmcmhlomfeldaa", sum := "7f688b6df6e4412a60d1dee09e21c7c790e88c56e0f1bb7b4b5e1859b102259b", func := "malthouse/malthouselaw14.ArbNew", spec := "arbNew", unfollowed := true, recurses := true, apart := false }
def ArbNewSaid : Prop := arbNewRow.holds Try.pinned (OpenSpec.ofChange arbNewSpec)

/-- ITS FALSE NEIGHBOUR: 'it returns false'. Refute it at one input. -/
def arbNewWrong : ChangeSpec := { name := "arbNew", fn := fun _ => fun
  | [d] => { results := [.lit (.bool false)], args := [d] }
  | _ => none }
def ArbNewWrongFalsely : Prop := arbNewRow.holds Try.pinned (OpenSpec.ofChange arbNewWrong)

/-- 'malthouselaw14.ArbFirst': WHATEVER THE INPUT: true; the input reads as it did. -/
def arbFirstSpec : ChangeSpec := { name := "arbFirst", fn := fun _ => fun
  | [d1, d2, d3] => { results := [.lit (.bool true)], args := [d1, d2, d3] }
  | _ => none }
def arbFirstRow : OpenClaim := { program := "ytgmcmhlomfeldaa", sum := "7f688b6df6e4412a60d1dee09e21c7c790e88c56e0f1bb7b4b5e1859b102259b", func := "malthouse/malthouselaw14.ArbFirst", spec := "arbFirst", unfollowed := true, recurses := true, apart := false }
def ArbFirstSaid : Prop := arbFirstRow.holds Try.pinned (OpenSpec.ofChange arbFirstSpec)

/-- ITS FALSE NEIGHBOUR: 'it returns false'. Refute it at one input. -/
def arbFirstWrong : ChangeSpec := { name := "arbFirst", fn := fun _ => fun
  | [d1, d2, d3] => { results := [.lit (.bool false)], args := [d1, d2, d3] }
  | _ => none }
def ArbFirstWrongFalsely : Prop := arbFirstRow.holds Try.pinned (OpenSpec.ofChange arbFirstWrong)

/-- 'malthouselaw14.ArbDoes': WHATEVER THE INPUT: true; the input reads as it did. -/
def arbDoesSpec : ChangeSpec := { name := "arbDoes", fn := fun _ => fun
  | [d1, d2] => { results := [.lit (.bool true)], args := [d1, d2] }
  | _ => none }
def arbDoesRow : OpenClaim := { program := "ytgmcmhlomfeldaa", sum := "7f688b6df6e4412a60d1dee09e21c7c790e88c56e0f1bb7b4b5e1859b102259b", func := "malthouse/malthouselaw14.ArbDoes", spec := "arbDoes", unfollowed := true, recurses := true, apart := false }
def ArbDoesSaid : Prop := arbDoesRow.holds Try.pinned (OpenSpec.ofChange arbDoesSpec)

/-- ITS FALSE NEIGHBOUR: 'it returns false'. Refute it at one input. -/
def arbDoesWrong : ChangeSpec := { name := "arbDoes", fn := fun _ => fun
  | [d1, d2] => { results := [.lit (.bool false)], args := [d1, d2] }
  | _ => none }
def ArbDoesWrongFalsely : Prop := arbDoesRow.holds Try.pinned (OpenSpec.ofChange arbDoesWrong)

/-- 'malthouselaw14.ArbNoRing': WHATEVER THE INPUT: true; the input reads as it did. -/
def arbNoRingSpec : ChangeSpec := { name := "arbNoRing", fn := fun _ => fun
  | [d1, d2] => { results := [.lit (.bool true)], args := [d1, d2] }
  | _ => none }
def arbNoRingRow : OpenClaim := { program := "ytgmcmhlomfeldaa", sum := "7f688b6df6e4412a60d1dee09e21c7c790e88c56e0f1bb7b4b5e1859b102259b", func := "malthouse/malthouselaw14.ArbNoRing", spec := "arbNoRing", unfollowed := true, recurses := true, apart := false }
def ArbNoRingSaid : Prop := arbNoRingRow.holds Try.pinned (OpenSpec.ofChange arbNoRingSpec)

/-- ITS FALSE NEIGHBOUR: 'it returns false'. Refute it at one input. -/
def arbNoRingWrong : ChangeSpec := { name := "arbNoRing", fn := fun _ => fun
  | [d1, d2] => { results := [.lit (.bool false)], args := [d1, d2] }
  | _ => none }
def ArbNoRingWrongFalsely : Prop := arbNoRingRow.holds Try.pinned (OpenSpec.ofChange arbNoRingWrong)

/-- 'malthouselaw14.ArbOne': WHATEVER THE INPUT: true; the input reads as it did. -/
def arbOneSpec : ChangeSpec := { name := "arbOne", fn := fun _ => fun
  | [d1, d2] => { results := [.lit (.bool true)], args := [d1, d2] }
  | _ => none }
def arbOneRow : OpenClaim := { program := "ytgmcmhlomfeldaa", sum := "7f688b6df6e4412a60d1dee09e21c7c790e88c56e0f1bb7b4b5e1859b102259b", func := "malthouse/malthouselaw14.ArbOne", spec := "arbOne", unfollowed := true, recurses := true, apart := false }
def ArbOneSaid : Prop := arbOneRow.holds Try.pinned (OpenSpec.ofChange arbOneSpec)

/-- ITS FALSE NEIGHBOUR: 'it returns false'. Refute it at one input. -/
def arbOneWrong : ChangeSpec := { name := "arbOne", fn := fun _ => fun
  | [d1, d2] => { results := [.lit (.bool false)], args := [d1, d2] }
  | _ => none }
def ArbOneWrongFalsely : Prop := arbOneRow.holds Try.pinned (OpenSpec.ofChange arbOneWrong)

/-- 'malthouselaw14.ArbGoes': WHATEVER THE INPUT: true; the input reads as it did. -/
def arbGoesSpec : ChangeSpec := { name := "arbGoes", fn := fun _ => fun
  | [d1, d2] => { results := [.lit (.bool true)], args := [d1, d2] }
  | _ => none }
def arbGoesRow : OpenClaim := { program := "ytgmcmhlomfeldaa", sum := "7f688b6df6e4412a60d1dee09e21c7c790e88c56e0f1bb7b4b5e1859b102259b", func := "malthouse/malthouselaw14.ArbGoes", spec := "arbGoes", unfollowed := true, recurses := true, apart := false }
def ArbGoesSaid : Prop := arbGoesRow.holds Try.pinned (OpenSpec.ofChange arbGoesSpec)

/-- ITS FALSE NEIGHBOUR: 'it returns false'. Refute it at one input. -/
def arbGoesWrong : ChangeSpec := { name := "arbGoes", fn := fun _ => fun
  | [d1, d2] => { results := [.lit (.bool false)], args := [d1, d2] }
  | _ => none }
def ArbGoesWrongFalsely : Prop := arbGoesRow.holds Try.pinned (OpenSpec.ofChange arbGoesWrong)

/- THE SECOND FORM. 'bulk': how many values and letters a reading holds, each counted each time it is reached (what is shared counts as often as it is met; a slice's spare places count too). A statement '..UptoSaid' is the law's where the arguments, and the package variables that the reading takes, are together of bulk at most 1048576: NARROWER than '..Said'. Prove '..Said' where nothing that the law and all that it calls make is longer than what came in: it says more and counts as full. Else prove '..UptoSaid'. A law counts once. -/
mutual
def uptoBulk {H : Type} : DataW H → Nat
  | .lit (.string bytes) => bytes.length + 1
  | .lit _ => 1
  | .nil => 1
  | .ptr d => uptoBulk d + 1
  | .slice elems spare => uptoBulkAll elems + uptoBulkAll spare + 1
  | .agg parts => uptoBulkAll parts + 1
  | .iface _ d => uptoBulk d + 1
  | .map entries => uptoBulkEntries entries + 1
  | .held _ => 1
def uptoBulkAll {H : Type} : List (DataW H) → Nat
  | [] => 0
  | d :: r => uptoBulk d + uptoBulkAll r
def uptoBulkEntries {H : Type} : List (Lit × DataW H) → Nat
  | [] => 0
  | x :: r => uptoBulkEntry x + uptoBulkEntries r
def uptoBulkEntry {H : Type} : Lit × DataW H → Nat
  | (.string bytes, d) => bytes.length + uptoBulk d + 1
  | (_, d) => uptoBulk d + 1
 end
def uptoSmall : (H : Type) → List (DataW H) → Bool := fun _ ds => decide (uptoBulkAll ds ≤ 1048576)
def OpenSpec.upto (s : _root_.Go.ChangeSpec) : _root_.Go.OpenSpec := { _root_.Go.OpenSpec.ofChange s with cond := some uptoSmall }

/-- 'malthouselaw14.ArbNew', WHERE WHAT IT READS IS OF BULK AT MOST 1048576: true; the input reads as it did. -/
def arbNewUptoRow : OpenClaim := { program := "ytgmcmhlomfeldaa", sum := "7f688b6df6e4412a60d1dee09e21c7c790e88c56e0f1bb7b4b5e1859b102259b", func := "malthouse/malthouselaw14.ArbNew", spec := "arbNew", unfollowed := true, recurses := true, apart := false, narrowed := true }
def ArbNewUptoSaid : Prop := arbNewUptoRow.holds Try.pinned (OpenSpec.upto arbNewSpec)

/-- 'malthouselaw14.ArbFirst', WHERE WHAT IT READS IS OF BULK AT MOST 1048576: true; the input reads as it did. -/
def arbFirstUptoRow : OpenClaim := { program := "ytgmcmhlomfeldaa", sum := "7f688b6df6e4412a60d1dee09e21c7c790e88c56e0f1bb7b4b5e1859b102259b", func := "malthouse/malthouselaw14.ArbFirst", spec := "arbFirst", unfollowed := true, recurses := true, apart := false, narrowed := true }
def ArbFirstUptoSaid : Prop := arbFirstUptoRow.holds Try.pinned (OpenSpec.upto arbFirstSpec)

/-- 'malthouselaw14.ArbDoes', WHERE WHAT IT READS IS OF BULK AT MOST 1048576: true; the input reads as it did. -/
def arbDoesUptoRow : OpenClaim := { program := "ytgmcmhlomfeldaa", sum := "7f688b6df6e4412a60d1dee09e21c7c790e88c56e0f1bb7b4b5e1859b102259b", func := "malthouse/malthouselaw14.ArbDoes", spec := "arbDoes", unfollowed := true, recurses := true, apart := false, narrowed := true }
def ArbDoesUptoSaid : Prop := arbDoesUptoRow.holds Try.pinned (OpenSpec.upto arbDoesSpec)

/-- 'malthouselaw14.ArbNoRing', WHERE WHAT IT READS IS OF BULK AT MOST 1048576: true; the input reads as it did. -/
def arbNoRingUptoRow : OpenClaim := { program := "ytgmcmhlomfeldaa", sum := "7f688b6df6e4412a60d1dee09e21c7c790e88c56e0f1bb7b4b5e1859b102259b", func := "malthouse/malthouselaw14.ArbNoRing", spec := "arbNoRing", unfollowed := true, recurses := true, apart := false, narrowed := true }
def ArbNoRingUptoSaid : Prop := arbNoRingUptoRow.holds Try.pinned (OpenSpec.upto arbNoRingSpec)

/-- 'malthouselaw14.ArbOne', WHERE WHAT IT READS IS OF BULK AT MOST 1048576: true; the input reads as it did. -/
def arbOneUptoRow : OpenClaim := { program := "ytgmcmhlomfeldaa", sum := "7f688b6df6e4412a60d1dee09e21c7c790e88c56e0f1bb7b4b5e1859b102259b", func := "malthouse/malthouselaw14.ArbOne", spec := "arbOne", unfollowed := true, recurses := true, apart := false, narrowed := true }
def ArbOneUptoSaid : Prop := arbOneUptoRow.holds Try.pinned (OpenSpec.upto arbOneSpec)

/-- 'malthouselaw14.ArbGoes', WHERE WHAT IT READS IS OF BULK AT MOST 1048576: true; the input reads as it did. -/
def arbGoesUptoRow : OpenClaim := { program := "ytgmcmhlomfeldaa", sum := "7f688b6df6e4412a60d1dee09e21c7c790e88c56e0f1bb7b4b5e1859b102259b", func := "malthouse/malthouselaw14.ArbGoes", spec := "arbGoes", unfollowed := true, recurses := true, apart := false, narrowed := true }
def ArbGoesUptoSaid : Prop := arbGoesUptoRow.holds Try.pinned (OpenSpec.upto arbGoesSpec)

end Rows
end Go.Proofs.Ytgmcmhlomfeldaa
