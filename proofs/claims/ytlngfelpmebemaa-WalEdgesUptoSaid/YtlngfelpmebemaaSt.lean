/-
  A store in the middle of a region that draws its order. No program in sight.
-/
import Derived.Test.YtlngfelpmebemaaMk
namespace Go.Proofs.Ytlngfelpmebemaa
open Go.RowKit
section
variable {P : Program} {ops : Array Oper} {a : Act} {w : World} {Q : Exit → Act → World → Prop}
theorem ge_store {S : List Nat} {z9 : Nat} {i : Nat} {f : Bool} {oi : Oper} {T : List (Nat × Bool × Bool)} {N : Nat} {env : List (Nat × Value)} {w' : World}
    (hi : ops[i]? = some oi) (hdst : oi.dst = none) (hw : L.wantE ops env oi = some true) (hy : (execOp (L.evE a env) oi).run P w = .ok .skip w') (ho : Only S w w')
    (h : L.GrowE P ops Q S z9 T a N env w') : L.GrowE P ops Q S z9 ((i, f, true) :: T) a N env w := by
  intro hN he
  subst hN
  refine L.growl_alone hi (L.wantE_spec a he hw) ?_
  unfold Oper.wp
  rw [L.puts_eval a env he, hy]
  simp only [Oper.upon]
  refine ⟨.inr ho, ?_⟩
  rw [hdst]
  exact h rfl he
end
end Go.Proofs.Ytlngfelpmebemaa
