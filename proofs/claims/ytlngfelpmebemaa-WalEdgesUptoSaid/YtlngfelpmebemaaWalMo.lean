/-
  How many writes a group takes at most, as the document says.
-/
import Derived.Test.YtlngfelpmebemaaWalNw
namespace Go.Proofs.Ytlngfelpmebemaa
open Go Go.RowKit
set_option linter.unusedSimpArgs false
set_option linter.unusedVariables false
def mostN (n : Nat) : Nat := if n = 0 then 0 else 2 * n + listsN n + 2
set_option maxHeartbeats 4000000 in
theorem most_any (n : Nat) (h : n ≤ 1000000) (w : World) : Calls Try.prog 28 #[.int .i64 n] w fun e w' => e = .returned (.int .i64 (mostN n)) ∧ w' = w := by
  obtain ⟨V, hV⟩ : ∃ V, V = mostN n := ⟨_, rfl⟩
  rw [← hV]
  unfold mostN at hV
  have HV := Lib.hid hV
  clear hV
  go_enter Try.func28, Try.ntmps28
  by_cases h0 : n = 0
  · have hv := HV.out
    rw [if_pos h0] at hv
    have HV1 := Lib.hid hv
    have h0' : ((n : Int) == 0) = true := by rw [h0]; rfl
    clear HV hv h0
    go_wp2
    go_ret
    exact ⟨by rw [HV1.out]; rfl, rfl⟩
  · have hv := HV.out
    rw [if_neg h0] at hv
    have HV1 := Lib.hid hv
    have h0' : ((n : Int) == 0) = false := by rw [beq_eq_false_iff_ne]; omega
    have w1 : IntKind.i64.wrap (2 * (n : Int)) = 2 * n := IntWalk.i64_in _ (by omega)
    have w2 : IntKind.i64.wrap ((n : Int) + 63) = n + 63 := IntWalk.i64_in _ (by omega)
    have w3 : IntKind.i64.wrap (2 * (n : Int) + ((n : Int) + 63) / 64) = 2 * n + ((n : Int) + 63) / 64 := IntWalk.i64_in _ (by omega)
    have w4 : IntKind.i64.wrap (2 * (n : Int) + ((n : Int) + 63) / 64 + 2) = 2 * n + ((n : Int) + 63) / 64 + 2 := IntWalk.i64_in _ (by omega)
    clear HV hv
    go_wp2
    go_ret
    refine ⟨?_, rfl⟩
    have e : (V : Int) = 2 * (n : Int) + ((n : Int) + 63) / 64 + 2 := by rw [HV1.out]; unfold listsN; omega
    rw [e]
    rfl
end Go.Proofs.Ytlngfelpmebemaa
