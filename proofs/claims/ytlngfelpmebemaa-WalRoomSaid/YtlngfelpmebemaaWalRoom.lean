/-
  WalRoom over what came in.
-/
import Derived.Test.YtlngfelpmebemaaWalAk
namespace Go.Proofs.Ytlngfelpmebemaa
open Go Go.RowKit
set_option linter.unusedSimpArgs false
set_option linter.unusedVariables false
set_option maxHeartbeats 8000000 in
set_option maxRecDepth 100000 in
theorem walRoom_walk (a0 : Int) (w : World) (w0 : (Lit.int .i64 a0).wf = true) : Calls Try.prog 3 #[.int .i64 a0] w fun e w' => e = .returned (.bool true) ∧ Only [] w w' := by
  have hw := wf_i64 w0
  have HW := Lib.hid hw
  clear w0 hw
  go_enter Try.func3, Try.ntmps3
  go_wp2_with (go_at_call 8; refine (awake_any w).mono ?_; rintro e w1 ⟨rfl, ho⟩; have HO := Lib.hid ho; clear ho; refine (fun (h : Hid _) => h.out) ?_)
  refine Lib.hid ?_
  by_cases hb : 100000 < a0
  · go_wp2
    go_ret
    exact ⟨rfl, HO.out⟩
  · have hb' : a0 ≤ 100000 := by omega
    clear hb
    obtain ⟨n, hn⟩ : ∃ n : Int, n = (roomN a0.toNat : Int) := ⟨_, rfl⟩
    have HN := Lib.hid hn
    clear hn
    have HR1 := Lib.hid (fun W : World => room_any a0 (by omega) HW.out.1 W)
    have HR2 := Lib.hid (fun W : World => rroom_any a0 (by omega) HW.out.1 W)
    rw [← HN.out] at HR1 HR2
    go_wp2_with (first
      | (go_at_call 9; refine (HR1.out _).mono ?_; rintro e w2 ⟨rfl, rfl⟩)
      | (go_at_call 10; refine (HR2.out _).mono ?_; rintro e w3 ⟨rfl, rfl⟩))
    go_ret
    exact ⟨rfl, HO.out⟩
end Go.Proofs.Ytlngfelpmebemaa
