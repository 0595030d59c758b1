/-
  The law PageSlots, walked.
-/
import Derived.Test.YthkgpnkbbdpldaaPgAwake
import Derived.Test.YthkgpnkbbdpldaaPgIn
namespace Go.Proofs.Ythkgpnkbbdpldaa
open Go.RowKit
set_option linter.unusedSimpArgs false
set_option linter.unusedVariables false
set_option maxHeartbeats 4000000 in
set_option maxRecDepth 100000 in
theorem pageSlots_walk (key : ByteArray) (A : Option Addr) (cap : Nat) (xs : List Int) (w : World) (hk : key.size ≤ 140737488351232) (hl : xs.length ≤ cap) (hb : cap * 1 ≤ 140737488351232) (hr : rdRow 1 (rdInt .u8) w A xs) :
    Calls Try.prog 5 #[.string key, .slice A xs.length cap] w fun e w' => e = .returned (.bool true) ∧ Only [] w w' := by
  clear hr
  have hn : xs.length ≤ 140737488351232 := by omega
  generalize xs.length = n at *
  obtain ⟨v, hv⟩ : ∃ v, v = slotsN key.size n := ⟨_, rfl⟩
  have HV := Lib.hid hv
  clear hv
  have hs1 := fun w => slots_any key A n cap w hk hn
  have hs2 := fun w => rslots_any key A n cap w hk hn
  rw [← HV.out] at hs1 hs2
  have H1 := Lib.hid hs1
  have H2 := Lib.hid hs2
  clear hs1 hs2 hb
  go_enter Try.func5, Try.ntmps5
  by_cases h1 : key.size ≤ 10000
  · have h1' : (key.size : Int) ≤ 10000 := by omega
    by_cases h2 : n ≤ 10000
    · have h2' : (n : Int) ≤ 10000 := by omega
      go_wp2_with (go_at_call 9; refine (awake_any w).mono ?_; rintro e w1 ⟨rfl, ho1⟩; have HO1 := Lib.hid ho1; clear ho1)
      have HP := Lib.hid (heap_alloc_new w1 (.cells #[.string key, .slice A n cap] 37))
      have HO2 := Lib.hid (HO1.out.alloc (.cells #[.string key, .slice A n cap] 37))
      refine L.grow_start [] 9 ((0, true, true) :: (1, true, true) :: (2, true, false) :: (4, true, false) :: (3, true, true) :: (5, true, true) :: (6, true, true) :: (7, true, true) :: (8, true, true) :: []) (by kernel_rfl) (([], [5], some 20) :: ([0], [20], some 21) :: ([1], [6, 21], some 22) :: ([2, 1, 1], [22, 21], some 23) :: ([1], [6, 21], some 24) :: ([4, 3, 1], [24, 21], some 25) :: ([3, 5, 1], [23, 25, 21], some 26) :: ([1, 6], [21, 26], some 27) :: ([7, 5, 0, 1, 2, 3, 4, 5, 6, 7], [27], some 4) :: []) (by kernel_rfl) (by kernel_rfl) (n := 9) rfl (by kernel_rfl) (fun _ _ _ _ _ h => h) (fun wg hog => ?_)
      refine L.growe_start (N := 28) (by rfl) ?_
      have e0 : ∀ w', Only [] wg w' → w'.cell? ⟨w1.heap.size, 0, none⟩ = some (.string key) := fun w' h => h.cell ((cell_of_row wg _ 0 _ _ _ (hog.heap HP.out (by simp))).trans rfl) (by simp)
      have e1 : ∀ w', Only [] wg w' → w'.cell? ⟨w1.heap.size, 1, none⟩ = some (.slice A n cap) := fun w' h => h.cell ((cell_of_row wg _ 1 _ _ _ (hog.heap HP.out (by simp))).trans rfl) (by simp)
      have HO3 := Lib.hid (HO2.out.trans hog)
      clear hog
      iterate 4 (first | (refine L.ge_off rfl rfl rfl (by rfl) ?_) | (refine L.ge_move rfl rfl rfl (by rfl) rfl (by simp [L.evE, L.lk, Act.eval]; rfl) ?_) | (refine L.ge_pick rfl rfl rfl (by rfl) rfl (by simp [L.evE, L.lk, Act.eval]; rfl) (by simp [L.evE, L.lk, Act.eval]; rfl) ?_) | (refine L.ge_val rfl rfl rfl (by rfl) (by intro w' hw'; simp [execOp, L.evE, L.lk, Act.eval]; go_simp; rfl) ?_))
      refine L.ge_call rfl rfl rfl (by rfl) rfl (by simp [L.evE, L.lk, Act.eval]; rfl) (by go_simp) ?_
      refine (H1.out wg).mono ?_
      rintro e wh ⟨rfl, ho⟩
      refine ⟨_, rfl, ho, ?_⟩
      refine L.ge_call rfl rfl rfl (by rfl) rfl (by simp [L.evE, L.lk, Act.eval]; rfl) (by go_simp) ?_
      refine (H2.out wh).mono ?_
      rintro e wj ⟨rfl, ho'⟩
      refine ⟨_, rfl, ho', ?_⟩
      have HO4 := Lib.hid (HO3.out.trans (ho.trans ho'))
      clear ho ho' e0 e1
      iterate 3 (first | (refine L.ge_off rfl rfl rfl (by rfl) ?_) | (refine L.ge_move rfl rfl rfl (by rfl) rfl (by simp [L.evE, L.lk, Act.eval]; rfl) ?_) | (refine L.ge_pick rfl rfl rfl (by rfl) rfl (by simp [L.evE, L.lk, Act.eval]; rfl) (by simp [L.evE, L.lk, Act.eval]; rfl) ?_) | (refine L.ge_val rfl rfl rfl (by rfl) (by intro w' hw'; simp [execOp, L.evE, L.lk, Act.eval]; go_simp; rfl) ?_))
      refine L.ge_done ?_
      simp only [L.puts, Act.put, goInt, List.setIfInBounds_toArray, List.set_cons_zero, List.set_cons_succ]
      go_wp2
      go_ret
      exact ⟨rfl, HO4.out⟩
    · have h2' : (10000 : Int) < n := by omega
      go_wp2_with (go_at_call 9; refine (awake_any w).mono ?_; rintro e w1 ⟨rfl, ho1⟩; have HO1 := Lib.hid ho1; clear ho1)
      go_ret
      exact ⟨rfl, HO1.out⟩
  · have h1' : (10000 : Int) < key.size := by omega
    go_wp2_with (go_at_call 9; refine (awake_any w).mono ?_; rintro e w1 ⟨rfl, ho1⟩; have HO1 := Lib.hid ho1; clear ho1)
    go_ret
    exact ⟨rfl, HO1.out⟩
end Go.Proofs.Ythkgpnkbbdpldaa
