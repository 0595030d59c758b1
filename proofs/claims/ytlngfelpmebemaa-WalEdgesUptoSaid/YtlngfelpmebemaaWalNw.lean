/-
  A log over a new disk.
-/
import Derived.Test.YtlngfelpmebemaaWalCm
namespace Go.Proofs.Ytlngfelpmebemaa
open Go Go.RowKit
set_option linter.unusedSimpArgs false
set_option linter.unusedVariables false
theorem new_head (n : Nat) (h : 0 < n) : head0 (Dk.new n) = 0 ∧ headN (Dk.new n) = 0 := by
  have e : (Dk.new n).L.getD 0 [] = sec 0 := by
    unfold Dk.new
    rw [List.getD_eq_getElem?_getD, List.getElem?_replicate, if_pos h]
    rfl
  unfold head0 headN
  rw [e]
  exact ⟨by rfl, by rfl⟩
theorem new_len (n : Nat) : (Dk.new n).L.length = n := by simp [Dk.new]
theorem new_open (n : Nat) (h : 4 ≤ n) : openP (Dk.new n) = (0, Dk.new n) := by
  obtain ⟨h0, h1⟩ := new_head n (by omega)
  have hr := (room_fits h).2
  unfold openP
  rw [new_len, h0, h1, if_neg (by omega), if_neg (by simp [Dk.new]), if_neg (by omega), if_pos rfl]
set_option maxHeartbeats 4000000 in
set_option maxRecDepth 100000 in
theorem opened_yes (n : Nat) (h : 4 ≤ n) (h2 : n ≤ 2048) (w : World) :
    Calls Try.prog 12 #[.int .i64 n] w fun e w' => ∃ g s q, e = .returned (.tuple #[.pointer (some ⟨g, 0, none⟩), .pointer (some ⟨q, 0, none⟩), .bool true]) ∧ IsDk w' g s n [] (Dk.new n) ∧ IsLg w' q g (listsN (roomN n)) (roomN n) false ∧ w.heap.size ≤ g ∧ w.heap.size ≤ s ∧ w.heap.size ≤ q ∧ q ≠ g ∧ q ≠ s ∧ Only [] w w' := by
  go_enter Try.func12, Try.ntmps12
  go_wp2_with (first
    | (go_at_call 24; refine (new_yes n (by omega) h2 w).mono ?_; rintro e w1 ⟨g, s, rfl, hd, hg, hs, ho1⟩; have HDK := Lib.hid hd; have HO1 := Lib.hid ho1; clear hd ho1)
    | (go_at_call 23; refine (open_any g s n [] (Dk.new n) w1 (Dk.new_ok n h2) (by simp [Dk.new]) HDK.out).mono ?_; rw [new_open n h, new_len]; rintro e w2 ⟨v, rfl, _, hv, hd2, ho2⟩; obtain ⟨q, rfl, hq, hlg⟩ := hv.out rfl; have HLG := Lib.hid hlg; have HDK2 := Lib.hid hd2; have HO2 := Lib.hid (HO1.out.then ho2 (fun i hi => by right; simp at hi; rcases hi with rfl | rfl; exact hg; exact hs)); have HQ := Lib.hid hq; clear hv hd2 ho2 hlg hq))
  go_ret3
  have h1 := heap_lt HDK.out.hd
  have h3 := heap_lt HDK.out.sec
  have h4 := HQ.out
  have h5 := HO1.out.size
  exact ⟨g, s, q, rfl, HDK2.out, HLG.out, hg, hs, by omega, by omega, by omega, HO2.out⟩
end Go.Proofs.Ytlngfelpmebemaa
