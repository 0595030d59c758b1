/-
  The law PageOne, walked.
-/
import Derived.Test.YthkgpnkbbdpldaaPgLays
import Derived.Test.YthkgpnkbbdpldaaOwn8
namespace Go.Proofs.Ythkgpnkbbdpldaa
open Go.RowKit
set_option linter.unusedSimpArgs false
set_option linter.unusedVariables false
theorem lay_n (A : Option Addr) (n cp : Nat) (xs : List Rec) (w : World) (hn : xs.length = n) (hl : n ≤ 1000000) (hF : Fit xs) (hA : PairsAt w A xs) :
    Calls Try.prog 11 #[.slice A n cp] w fun e w' => ∃ Av nv, e = .returned (.tuple #[.slice Av nv nv, .int .i64 (layE xs)]) ∧ (layB xs).length = nv ∧ BytesAt w' Av (layB xs) ∧ Only [] w w' := by
  subst hn
  exact lay_bytes A cp xs w hl hF hA
theorem free_n (A : Option Addr) (n cp : Nat) (xs : List Rec) (w : World) (hn : xs.length = n) (hl : n ≤ 1000000) (hF : Fit xs) (hA : PairsAt w A xs) :
    Calls Try.prog 13 #[.slice A n cp] w fun e w' => e = .returned (.int .i64 (free xs)) ∧ Only [] w w' := by
  subst hn
  exact free_any A cp xs w hl hF hA
theorem readL_good {b : List UInt8} {l : List Rec} (h : readL b = some l) : layE l = 0 ∧ layB l = b ∧ l.length ≤ 7 := by
  unfold readL at h
  split at h
  · have h2 := (Option.filter_eq_some_iff.1 h).2
    simp only [decide_eq_true_eq] at h2
    obtain ⟨h3, _, h4⟩ := layE_zero h2.1
    have := tot_ge l h3
    exact ⟨h2.1, h2.2, by omega⟩
  · cases h
theorem slots_fit {x : Rec} (h : slots x ≠ 0) : x.1.size ≤ 140737488351232 ∧ x.2.length ≤ 140737488351232 := by
  unfold slots slotsN at h
  split at h
  · exact absurd rfl h
  · omega
theorem good_fit {l : List Rec} (h : layE l = 0) : Fit l := by
  intro x hx
  obtain ⟨k, hk, rfl⟩ := List.getElem_of_mem hx
  exact slots_fit (slots_pos (layE_zero h).1 k hk)
theorem rises_at {l : List Rec} (h : rises l = true) (k : Nat) (hk : k + 1 < l.length) : before l[k].1 l[k + 1].1 = true := by
  have h1 : rises (l.take (k + 2)) = true := by
    cases hr : rises (l.take (k + 2)) with
    | true => rfl
    | false => rw [rises_of_take (k + 2) hr] at h; cases h
  rw [rises_take l k hk, Bool.and_eq_true] at h1
  exact h1.2
theorem free_good {l : List Rec} (h : layE l = 0) : tot l + free l = 7 := by
  obtain ⟨h1, _, h3⟩ := layE_zero h
  unfold free
  rw [if_neg (by rw [h1]; simp; omega)]
  omega
theorem tot_small {l : List Rec} (h : layE l = 0) (k : Nat) : tot (l.take k) ≤ 7 := by
  have := tot_of_take l k
  have := (layE_zero h).2.2
  omega
set_option maxHeartbeats 4000000 in
set_option maxRecDepth 100000 in
theorem one_any (A : Option Addr) (n cap : Nat) (b : List UInt8) (w : World) (hn : b.length = n) (hl : n ≤ cap) (hb : cap ≤ 140737488351232) (hA : BytesAt w A b) :
    Calls Try.prog 7 #[.slice A n cap] w fun e w' => e = .returned (.bool true) ∧ Only [] w w' := by
  have HA := Lib.hid hA
  have HN := Lib.hid hn
  clear hA hn
  go_enter Try.func7, Try.ntmps7
  by_cases h3 : n ≤ 3000
  · have h3' : (n : Int) ≤ 3000 := by omega
    go_wp2_with (first
      | (go_at_call 9; refine (awake_any w).mono ?_; rintro e w1 ⟨rfl, ho1⟩; have HO1 := Lib.hid ho1; clear ho1)
      | (go_at_call 15; refine (read_n A n cap b w1 HN.out (by omega) hl (by omega) (HA.out.only HO1.out)).mono ?_; rintro e w3 ⟨v, us, rfl, hr3, ho3⟩; have HR3 := Lib.hid hr3; have HO3 := Lib.hid (HO1.out.trans ho3); clear hr3 ho3; refine (fun (h : Hid _) => h.out) ?_))
    refine Lib.hid ?_
    obtain ⟨Av, cv, rfl, _, _⟩ := ownsRow_slice HR3.out.row
    cases hr : readL b with
    | none =>
      rw [readE_none hr, readR_none hr]
      clear hr HR3
      go_wp2
      go_ret
      exact ⟨rfl, HO3.out⟩
    | some xs =>
      rw [readE_some hr]
      rw [readR_some hr] at HR3 ⊢
      obtain ⟨hE, hB, hx7⟩ := readL_good hr
      have HF := Lib.hid (good_fit hE)
      have HE := Lib.hid hE
      have HB := Lib.hid hB
      have HP3 := Lib.hid HR3.out.pairs
      clear hE hB hr HR3
      go_wp2_with (go_at_call 11; refine (lay_n Av xs.length cv xs w3 rfl (by omega) HF.out HP3.out).mono ?_; rw [HE.out]; rintro e w4 ⟨Aw, nw, rfl, hnw, hbw, ho4⟩; have HNW := Lib.hid hnw; have HBW := Lib.hid hbw; have HO4 := Lib.hid (HO3.out.trans ho4); have HP4 := Lib.hid (HP3.out.only ho4); clear hnw hbw ho4 HP3)
      go_loopw [8, 9] (fun t i wr => ∃ k : Nat, k ≤ xs.length ∧ i = .int .i64 k ∧ t = .int .i64 (tot (xs.take k)) ∧ Hid (Only [] w4 wr)) (fun _ i _ => xs.length - (intOf i).toNat)
      case atStart => exact ⟨0, by omega, rfl, rfl, Only.refl _ _⟩
      case round =>
        obtain ⟨k, hk, rfl, rfl, hO⟩ := hrel
        by_cases hlt : k < xs.length
        · have hlt' : (k : Int) < xs.length := by omega
          obtain ⟨ad, B, cb, rfl, hcs, hcap, hby⟩ := (HP4.out.only hO.out).row k hlt
          have hfit := HF.out.at k hlt
          have hsl : slots xs[k] = slotsN xs[k].1.size xs[k].2.length := rfl
          have htt := tot_take xs k hlt
          have ht7 := tot_small HE.out k
          have hle := slots_le xs[k]
          have HC := Lib.hid hcs
          have hx0 := cellsAt_head hcs rfl
          have HTT := Lib.hid htt
          clear hcs hcap hby htt
          by_cases hk0 : k = 0
          · subst hk0
            generalize xs[0] = x at *
            have HSL := Lib.hid hsl
            clear hsl
            generalize slots x = sx at *
            generalize tot (xs.take 0) = t0 at *
            have hw8 : IntKind.i64.wrap ((t0 : Int) + (sx : Int)) = (t0 : Int) + sx := IntWalk.i64_in _ (by omega)
            go_wp2_with (first
              | (with_reducible refine wpList_load_at rfl 37 (.tmp 47) rfl (ad.add (0 * 2)) rfl _ _ HC.out Try.underlying37 rfl (by kernel_rfl) ?_)
              | (go_at_call 18; refine (slots_any x.1 B x.2.length cb _ hfit.1 hfit.2).mono ?_; rw [← HSL.out]; rintro e w5 ⟨rfl, ho5⟩; have HO5 := Lib.hid (hO.out.trans ho5); have hx0' := ho5.cell hx0 (by simp); clear ho5 hx0; refine (fun (h : Hid _) => h.out) ?_))
            refine Lib.hid ?_
            go_wp2
            refine L.grow_start [] 16 ((0, true, true) :: (1, true, true) :: (2, true, true) :: (3, true, false) :: (4, true, false) :: (5, true, false) :: (6, true, false) :: (7, true, false) :: (8, true, false) :: (9, true, true) :: (10, true, true) :: (11, true, true) :: (12, true, true) :: (13, true, true) :: (14, true, true) :: (15, true, true) :: []) (by kernel_rfl) (([], [9], some 51) :: ([0], [51], some 52) :: ([1], [52], some 53) :: ([2], [4, 53], some 54) :: ([2], [9, 53], some 55) :: ([3, 4, 2], [54, 55, 53], some 56) :: ([5, 2], [56, 53], some 57) :: ([6, 2], [57, 53], some 58) :: ([2], [4, 53], some 59) :: ([2], [9, 53], some 60) :: ([9, 2], [60, 53], some 61) :: ([8, 10, 2], [59, 61, 53], some 62) :: ([11, 2], [62, 53], some 63) :: ([12, 2], [63, 53], some 64) :: ([7, 13, 2], [58, 64, 53], some 65) :: ([2, 14], [53, 65], some 66) :: []) (by kernel_rfl) (by kernel_rfl) (n := 16) rfl (by kernel_rfl) (fun _ _ _ _ _ h => h) (fun wg hog => ?_)
            refine L.growe_start (N := 83) (by rfl) ?_
            have e0 : ∀ w', Only [] wg w' → w'.cell? (ad.add (0 * 2)) = some (.string x.1) := fun w' h => h.cell (hog.cell hx0' (by simp)) (by simp)
            have HO6 := Lib.hid (HO5.out.trans hog)
            clear hog hx0'
            iterate 16 (first | (refine L.ge_off rfl rfl rfl (by rfl) ?_) | (refine L.ge_move rfl rfl rfl (by rfl) rfl (by simp [L.evE, L.lk, Act.eval]; rfl) ?_) | (refine L.ge_pick rfl rfl rfl (by rfl) rfl (by simp [L.evE, L.lk, Act.eval]; rfl) (by simp [L.evE, L.lk, Act.eval]; rfl) ?_) | (refine L.ge_val rfl rfl rfl (by rfl) (by intro w' hw'; simp [execOp, L.evE, L.lk, Act.eval]; go_simp; rfl) ?_))
            refine L.ge_done ?_
            simp only [L.puts, Act.put, goInt, List.setIfInBounds_toArray, List.set_cons_zero, List.set_cons_succ]
            clear e0 hw8
            go_wp2
            go_roundw
            case rel => exact ⟨0 + 1, by omega, by go_num, by rw [HTT.out]; go_num, HO6⟩
            case measure => simp [intOf]; omega
          · obtain ⟨j, rfl⟩ : ∃ j, k = j + 1 := ⟨k - 1, by omega⟩
            obtain ⟨ad', By, cy, had, hyc, _, _⟩ := (HP4.out.only hO.out).row j (by omega)
            obtain rfl : ad = ad' := by simpa using had
            have hy0 := cellsAt_head hyc rfl
            have hbf := rises_at (layE_zero HE.out).2.1 j hlt
            have hnot := before_not xs[j].1 xs[j + 1].1
            rw [hbf] at hnot
            simp only [Bool.not_true] at hnot
            have hn2 := Bool.or_eq_false_iff.1 hnot.symm
            unfold before at hn2
            obtain ⟨bb, hbb⟩ : ∃ bb, bb = (Op.bytesLess xs[j + 1].1.toList xs[j].1.toList || xs[j + 1].1.toList == xs[j].1.toList) := ⟨_, rfl⟩
            have hb0 : bb = false := by rw [hbb, hn2.1, hn2.2]; rfl
            have HBB := Lib.hid hb0
            clear had hyc hbf hnot hk0 hn2 hb0
            generalize xs[j + 1] = x at *
            generalize xs[j] = y at *
            have HSL := Lib.hid hsl
            clear hsl
            generalize slots x = sx at *
            generalize tot (xs.take (j + 1)) = t0 at *
            have hw8 : IntKind.i64.wrap ((t0 : Int) + (sx : Int)) = (t0 : Int) + sx := IntWalk.i64_in _ (by omega)
            have hk9 : (0 : Int) < (j : Int) + 1 := by omega
            have hj8 : (j : Int) < xs.length := by omega
            have hj7 : (0 : Int) ≤ j := by omega
            have hwj : IntKind.i64.wrap (j : Int) = j := IntWalk.i64_in _ (by omega)
            go_wp2_with (first
              | (with_reducible refine wpList_load_at rfl 37 (.tmp 47) rfl (ad.add ((j + 1) * 2)) rfl _ _ HC.out Try.underlying37 rfl (by kernel_rfl) ?_)
              | (go_at_call 18; refine (slots_any x.1 B x.2.length cb _ hfit.1 hfit.2).mono ?_; rw [← HSL.out]; rintro e w5 ⟨rfl, ho5⟩; have HO5 := Lib.hid (hO.out.trans ho5); have hx0' := ho5.cell hx0 (by simp); have hy0' := ho5.cell hy0 (by simp); clear ho5 hx0; refine (fun (h : Hid _) => h.out) ?_))
            refine Lib.hid ?_
            go_wp2
            refine L.grow_start [] 16 ((0, true, true) :: (1, true, true) :: (2, true, true) :: (3, true, false) :: (4, true, false) :: (5, true, false) :: (6, true, false) :: (7, true, false) :: (8, true, false) :: (9, true, true) :: (10, true, true) :: (11, true, true) :: (12, true, true) :: (13, true, true) :: (14, true, true) :: (15, true, true) :: []) (by kernel_rfl) (([], [9], some 51) :: ([0], [51], some 52) :: ([1], [52], some 53) :: ([2], [4, 53], some 54) :: ([2], [9, 53], some 55) :: ([3, 4, 2], [54, 55, 53], some 56) :: ([5, 2], [56, 53], some 57) :: ([6, 2], [57, 53], some 58) :: ([2], [4, 53], some 59) :: ([2], [9, 53], some 60) :: ([9, 2], [60, 53], some 61) :: ([8, 10, 2], [59, 61, 53], some 62) :: ([11, 2], [62, 53], some 63) :: ([12, 2], [63, 53], some 64) :: ([7, 13, 2], [58, 64, 53], some 65) :: ([2, 14], [53, 65], some 66) :: []) (by kernel_rfl) (by kernel_rfl) (n := 16) rfl (by kernel_rfl) (fun _ _ _ _ _ h => h) (fun wg hog => ?_)
            refine L.growe_start (N := 83) (by rfl) ?_
            have e0 : ∀ w', Only [] wg w' → w'.cell? (ad.add ((j + 1) * 2)) = some (.string x.1) := fun w' h => h.cell (hog.cell hx0' (by simp)) (by simp)
            have e1 : ∀ w', Only [] wg w' → w'.cell? (ad.add (j * 2)) = some (.string y.1) := fun w' h => h.cell (hog.cell hy0' (by simp)) (by simp)
            have HO6 := Lib.hid (HO5.out.trans hog)
            clear hog hx0'
            iterate 16 (first | (refine L.ge_off rfl rfl rfl (by rfl) ?_) | (refine L.ge_move rfl rfl rfl (by rfl) rfl (by simp [L.evE, L.lk, Act.eval]; rfl) ?_) | (refine L.ge_pick rfl rfl rfl (by rfl) rfl (by simp [L.evE, L.lk, Act.eval]; rfl) (by simp [L.evE, L.lk, Act.eval]; rfl) ?_) | (refine L.ge_val rfl rfl rfl (by rfl) (by intro w' hw'; simp [execOp, L.evE, L.lk, Act.eval]; go_simp; rfl) ?_))
            refine L.ge_done ?_
            simp only [L.puts, Act.put, goInt, List.setIfInBounds_toArray, List.set_cons_zero, List.set_cons_succ]
            rw [← hbb, HBB.out]
            clear e0 e1 hw8 hwj hj7 hbb
            go_wp2
            go_roundw
            case rel => exact ⟨j + 1 + 1, by omega, by go_num, by rw [HTT.out]; go_num, HO6⟩
            case measure => simp [intOf]; omega
        · obtain rfl : k = xs.length := by omega
          rw [List.take_length]
          have hfg := free_good HE.out
          have HO7 := Lib.hid (HO4.out.trans hO.out)
          have hcp1 := run_bytes_string wr 25 9 5 Try.underlying25 Try.underlying5 Try.underlying9 Aw nw nw (layB xs) HNW.out (HBW.out.only hO.out)
          have hcp2 := run_bytes_string wr 25 9 5 Try.underlying25 Try.underlying5 Try.underlying9 A n cap b HN.out (HA.out.only HO7.out)
          rw [HB.out] at hcp1
          generalize (⟨b.toArray⟩ : ByteArray) = s1 at *
          have hw9 : IntKind.i64.wrap ((tot xs : Int) + (free xs : Int)) = 7 := by rw [IntWalk.i64_in _ (by omega)]; omega
          go_wp2_with (go_at_call 13; refine (free_n Av xs.length cv xs wr rfl (by omega) HF.out (HP4.out.only hO.out)).mono ?_; rintro e w6 ⟨rfl, ho6⟩; have HO8 := Lib.hid (HO7.out.trans ho6); clear ho6)
          go_ret
          exact ⟨rfl, HO8.out⟩
  · have h3' : (3000 : Int) < n := by omega
    go_wp2_with (go_at_call 9; refine (awake_any w).mono ?_; rintro e w1 ⟨rfl, ho1⟩; have HO1 := Lib.hid ho1; clear ho1)
    go_ret
    exact ⟨rfl, HO1.out⟩
theorem pageOne_walk (A : Option Addr) (cap : Nat) (xs : List Int) (w : World) (hl : xs.length ≤ cap) (hb : cap * 1 ≤ 140737488351232) (hr : rdRow 1 (rdInt .u8) w A xs) :
    Calls Try.prog 7 #[.slice A xs.length cap] w fun e w' => e = .returned (.bool true) ∧ Only [] w w' := by
  obtain ⟨b, h1, h2⟩ := bytes_in hr
  exact one_any A xs.length cap b w h1 hl (by omega) h2
end Go.Proofs.Ythkgpnkbbdpldaa
