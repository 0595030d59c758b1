/-
  The log's apply: what a group is to have is copied to its places.
-/
import Derived.Test.YtlngfelpmebemaaWalRm
import Derived.Test.YtlngfelpmebemaaMk
namespace Go.Proofs.Ytlngfelpmebemaa
open Go.RowKit
set_option linter.unusedSimpArgs false
set_option linter.unusedVariables false
/-- What apply answers, and what becomes of the disk: from the i-th target on. -/
def applyP (nm p : Nat) : Nat → List Nat → Dk → Int × Dk
  | _, [], D => D.write 0 (sec 0)
  | i, x :: r, D => if D.off = true then (6, D) else
      if (D.write ((1 + nm + p + x : Nat) : Int) (D.L.getD (1 + nm + i) [])).1 ≠ 0 then D.write ((1 + nm + p + x : Nat) : Int) (D.L.getD (1 + nm + i) [])
      else applyP nm p (i + 1) r (D.write ((1 + nm + p + x : Nat) : Int) (D.L.getD (1 + nm + i) [])).2
theorem write_len' (D : Dk) (i : Int) (b : List UInt8) : (D.write i b).2.L.length = D.L.length := by
  unfold Dk.write
  split
  · rfl
  split
  · rfl
  split
  · rfl
  split
  · rfl
  · simp
theorem write_count (D : Dk) (i : Int) (b : List UInt8) : (D.write i b).2.writes ≤ D.writes + 1 := by
  unfold Dk.write
  split
  · simp only []; omega
  split
  · simp only []; omega
  split
  · simp only []; omega
  split
  · simp only []; omega
  · simp only []; omega
/-- Integers that a slice shows. -/
def IntsAt (w : World) (A : Option Addr) (xs : List Nat) : Prop := ∀ (i x : Nat), xs[i]? = some x → ∃ ad, A = some ad ∧ w.cell? (ad.add i) = some (.int .i64 (x : Int))
set_option maxHeartbeats 8000000 in
set_option maxRecDepth 100000 in
theorem apply_any (q g s cp nm p : Nat) (r : List Value) (dead : Bool) (D : Dk) (A : Option Addr) (ca : Nat) (xs : List Nat) (w : World) (hl : xs.length ≤ p) (hx : ∀ x ∈ xs, x < p) (hp : p ≤ 1000000) (hnm : nm ≤ 1000000)
    (hD : D.Ok) (hwr : D.writes < 900000000) (hroom : 1 + nm + 2 * p ≤ D.L.length) (hd : IsDk w g s cp r D) (hlg : IsLg w q g nm p dead) (hqg : q ≠ g) (hqs : q ≠ s) (hA : IntsAt w A xs)
    (hAg : ∀ ad, A = some ad → ad.block ≠ g ∧ ad.block ≠ s) :
    Calls Try.prog 39 #[.pointer (some ⟨q, 0, none⟩), .slice A xs.length ca] w fun e w' => e = .returned (.int .i64 (applyP nm p 0 xs D).1) ∧ IsDk w' g s cp r (applyP nm p 0 xs D).2 ∧ Only [g, s] w w' := by
  obtain ⟨V, hV⟩ : ∃ V, V = applyP nm p 0 xs D := ⟨_, rfl⟩
  rw [← hV]
  have HV := Lib.hid hV
  have HA := Lib.hid hA
  have HLG := Lib.hid hlg
  have HDK := Lib.hid hd
  have HDO := Lib.hid hD
  have HX := Lib.hid hx
  clear hV hA hlg hd hD hx
  go_enter Try.func39, Try.ntmps39
  go_wp2
  go_loopw [5, 6, 7, 8, 11] (fun _ _ _ _ i wr => ∃ (k : Nat) (E : Dk), k ≤ xs.length ∧ i = .int .i64 k ∧ Hid (applyP nm p k (xs.drop k) E = V) ∧ Hid E.Ok ∧ Hid (E.writes ≤ D.writes + k) ∧ Hid (E.L.length = D.L.length) ∧ Hid (IsDk wr g s cp r E) ∧ Hid (Only [g, s] w wr)) (fun _ _ _ _ i _ => xs.length - (intOf i).toNat)
  case atStart => exact ⟨0, D, by omega, rfl, HV.out.symm, HDO, Lib.hid (by simp), Lib.hid rfl, HDK, Only.refl _ _⟩
  case round =>
    obtain ⟨k, E, hk, rfl, hap, hE, hew, hel, hdk, hO⟩ := hrel
    by_cases hlt : k < xs.length
    · have hlt' : (k : Int) < xs.length := by omega
      have hxk := HX.out xs[k] (List.getElem_mem hlt)
      have hdr := List.drop_eq_getElem_cons hlt
      obtain ⟨ad, rfl, hc⟩ := HA.out k xs[k] (List.getElem?_eq_getElem hlt)
      have hab := hAg ad rfl
      have hc1 : wr.cell? (ad.add k) = some (.int .i64 (xs[k] : Int)) := hO.out.cell hc (by rw [add_block]; simp [hab.1, hab.2])
      have HAP := hap
      rw [hdr] at HAP
      have HXS := Lib.hid (List.getElem?_eq_getElem hlt)
      clear hc hdr hab hap
      generalize xs[k] = x at *
      have HLG1 := Lib.hid (HLG.out.only hO.out (by simp [hqg, hqs]))
      have hL := hel.out
      have hi9 : 1 + nm + k < E.L.length := by omega
      go_wp2
      by_cases hoff : E.off = true
      · have hap := HAP.out
        unfold applyP at hap
        rw [if_pos hoff] at hap
        have HAP2 := Lib.hid hap
        clear hap HAP
        refine L.grow_start [] 13 ((0, true, false) :: (1, true, false) :: (2, true, false) :: (3, true, false) :: (4, true, false) :: (5, true, true) :: (6, false, true) :: (7, false, true) :: (8, true, true) :: (9, true, false) :: (10, true, false) :: (11, true, true) :: (12, true, true) :: []) (by kernel_rfl) (([], [0], some 17) :: ([0], [17], some 18) :: ([1], [18], some 19) :: ([2], [19], some 20) :: ([], [0], some 21) :: ([], [5], some 22) :: ([4, 5], [21, 22], some 23) :: ([3, 6, 6], [20, 23], some 24) :: ([7], [24], some 16) :: ([8], [16], some 25) :: ([8], [16], some 26) :: ([9, 7, 0, 1, 2, 3, 4, 5, 6, 7, 8, 9], [25], some 7) :: ([10, 11, 0, 1, 2, 3, 4, 5, 6, 7, 8, 9, 10, 11], [26], some 8) :: []) (by kernel_rfl) (by kernel_rfl) (n := 13) rfl (by kernel_rfl) (fun _ _ _ _ _ h => h) (fun wg hog => ?_)
        refine L.growe_start (N := 48) (by rfl) ?_
        have e0 : ∀ w', Only [] wg w' → w'.cell? ⟨q, 0, none⟩ = some (.pointer (some ⟨g, 0, none⟩)) := fun w' h => ((HLG1.out.only hog (by simp)).only h (by simp)).c0
        iterate 6 (first | (refine L.ge_off rfl rfl rfl (by rfl) ?_) | (refine L.ge_move rfl rfl rfl (by rfl) rfl (by simp [L.evE, L.lk, Act.eval]; rfl) ?_) | (refine L.ge_pick rfl rfl rfl (by rfl) rfl (by simp [L.evE, L.lk, Act.eval]; rfl) (by simp [L.evE, L.lk, Act.eval]; rfl) ?_) | (refine L.ge_val rfl rfl rfl (by rfl) (by intro w' hw'; simp [execOp, L.evE, L.lk, Act.eval]; go_simp; rfl) ?_))
        refine L.ge_call rfl rfl rfl (by rfl) rfl (by simp [L.evE, L.lk, Act.eval]; rfl) (by go_simp) ?_
        refine (image_any q g nm p dead k wg (HLG1.out.only hog (by simp)) hnm (by omega)).mono ?_
        rintro e wh ⟨rfl, rfl⟩
        refine ⟨_, rfl, Only.refl _ _, ?_⟩
        refine L.ge_call rfl rfl rfl (by rfl) rfl (by simp [L.evE, L.lk, Act.eval]; rfl) (by go_simp) ?_
        refine (read_no g s cp r E _ wh (hdk.out.only hog (by simp) (by simp)) 6 (by omega) (by unfold Dk.wrong; rw [if_pos hoff])).mono ?_
        rintro e wj ⟨rfl, rfl⟩
        refine ⟨_, rfl, Only.refl _ _, ?_⟩
        have HDK2 := Lib.hid (hdk.out.only hog (by simp) (by simp))
        have HO2 := Lib.hid (hO.out.trans (hog.mono (T := [g, s]) (by simp)))
        clear hog e0
        iterate 5 (first | (refine L.ge_off rfl rfl rfl (by rfl) ?_) | (refine L.ge_move rfl rfl rfl (by rfl) rfl (by simp [L.evE, L.lk, Act.eval]; rfl) ?_) | (refine L.ge_pick rfl rfl rfl (by rfl) rfl (by simp [L.evE, L.lk, Act.eval]; rfl) (by simp [L.evE, L.lk, Act.eval]; rfl) ?_) | (refine L.ge_val rfl rfl rfl (by rfl) (by intro w' hw'; simp [execOp, L.evE, L.lk, Act.eval]; go_simp; rfl) ?_))
        refine L.ge_done ?_
        simp only [L.puts, Act.put, goInt, List.setIfInBounds_toArray, List.set_cons_zero, List.set_cons_succ]
        go_wp2
        go_ret
        exact ⟨by rw [← HAP2.out]; rfl, by rw [← HAP2.out]; exact HDK2.out, HO2.out⟩
      · have hoff' : E.off = false := by simpa using hoff
        have hbq : E.L[1 + nm + k]? = some (E.L.getD (1 + nm + k) []) := by rw [List.getD_eq_getElem?_getD, List.getElem?_eq_getElem hi9]; rfl
        have hap := HAP.out
        unfold applyP at hap
        rw [if_neg hoff] at hap
        have hb256 : (E.L.getD (1 + nm + k) []).length = 256 := hE.out.secs _ (List.mem_of_getElem? hbq)
        have hlen' := write_len' E ((1 + nm + p + x : Nat) : Int) (E.L.getD (1 + nm + k) [])
        have hcnt := write_count E ((1 + nm + p + x : Nat) : Int) (E.L.getD (1 + nm + k) [])
        have hok := Dk.write_ok hE.out ((1 + nm + p + x : Nat) : Int) (E.L.getD (1 + nm + k) [])
        generalize E.L.getD (1 + nm + k) [] = b at *
        obtain ⟨v, E', hw⟩ : ∃ v E', E.write ((1 + nm + p + x : Nat) : Int) b = (v, E') := ⟨_, _, rfl⟩
        rw [hw] at hap hlen' hcnt hok
        simp only [] at hap hlen' hcnt hok
        have HAP2 := Lib.hid hap
        have HW := Lib.hid hw
        have HB := Lib.hid hbq
        have HOK := Lib.hid hok
        have HLN := Lib.hid (hlen'.trans hel.out)
        have HCN := Lib.hid (show E'.writes ≤ D.writes + ((k + 1 : Nat) : Int) by have := hew.out; omega)
        have hwr9 : E.writes < 1000000000 := by have := hew.out; omega
        have HWR9 := Lib.hid hwr9
        clear hap HAP hw hbq hok hlen' hcnt hwr9 hoff
        refine L.grow_start [] 13 ((0, true, false) :: (1, true, false) :: (2, true, false) :: (3, true, false) :: (4, true, false) :: (5, true, true) :: (6, false, true) :: (7, false, true) :: (8, true, true) :: (9, true, false) :: (10, true, false) :: (11, true, true) :: (12, true, true) :: []) (by kernel_rfl) (([], [0], some 17) :: ([0], [17], some 18) :: ([1], [18], some 19) :: ([2], [19], some 20) :: ([], [0], some 21) :: ([], [5], some 22) :: ([4, 5], [21, 22], some 23) :: ([3, 6, 6], [20, 23], some 24) :: ([7], [24], some 16) :: ([8], [16], some 25) :: ([8], [16], some 26) :: ([9, 7, 0, 1, 2, 3, 4, 5, 6, 7, 8, 9], [25], some 7) :: ([10, 11, 0, 1, 2, 3, 4, 5, 6, 7, 8, 9, 10, 11], [26], some 8) :: []) (by kernel_rfl) (by kernel_rfl) (n := 13) rfl (by kernel_rfl) (fun _ _ _ _ _ h => h) (fun wg hog => ?_)
        refine L.growe_start (N := 48) (by rfl) ?_
        have e0 : ∀ w', Only [] wg w' → w'.cell? ⟨q, 0, none⟩ = some (.pointer (some ⟨g, 0, none⟩)) := fun w' h => ((HLG1.out.only hog (by simp)).only h (by simp)).c0
        iterate 6 (first | (refine L.ge_off rfl rfl rfl (by rfl) ?_) | (refine L.ge_move rfl rfl rfl (by rfl) rfl (by simp [L.evE, L.lk, Act.eval]; rfl) ?_) | (refine L.ge_pick rfl rfl rfl (by rfl) rfl (by simp [L.evE, L.lk, Act.eval]; rfl) (by simp [L.evE, L.lk, Act.eval]; rfl) ?_) | (refine L.ge_val rfl rfl rfl (by rfl) (by intro w' hw'; simp [execOp, L.evE, L.lk, Act.eval]; go_simp; rfl) ?_))
        refine L.ge_call rfl rfl rfl (by rfl) rfl (by simp [L.evE, L.lk, Act.eval]; rfl) (by go_simp) ?_
        refine (image_any q g nm p dead k wg (HLG1.out.only hog (by simp)) hnm (by omega)).mono ?_
        rintro e wh ⟨rfl, rfl⟩
        refine ⟨_, rfl, Only.refl _ _, ?_⟩
        refine L.ge_call rfl rfl rfl (by rfl) rfl (by simp [L.evE, L.lk, Act.eval]; rfl) (by go_simp) ?_
        refine (read_is g s cp r E _ (1 + nm + k) b wh (hdk.out.only hog (by simp) (by simp)) hE.out hoff' rfl HB.out).mono ?_
        rintro e wj ⟨pb, rfl, hpb, hpz, hoj⟩
        refine ⟨_, rfl, hoj, ?_⟩
        have HDK2 := Lib.hid (hdk.out.only (hog.trans hoj) (by simp) (by simp))
        have HO2 := Lib.hid (hO.out.trans ((hog.trans hoj).mono (T := [g, s]) (by simp)))
        have HLG2 := Lib.hid (HLG1.out.only (hog.trans hoj) (by simp))
        have HPB := Lib.hid hpb
        clear hog hoj e0 hpb
        iterate 5 (first | (refine L.ge_off rfl rfl rfl (by rfl) ?_) | (refine L.ge_move rfl rfl rfl (by rfl) rfl (by simp [L.evE, L.lk, Act.eval]; rfl) ?_) | (refine L.ge_pick rfl rfl rfl (by rfl) rfl (by simp [L.evE, L.lk, Act.eval]; rfl) (by simp [L.evE, L.lk, Act.eval]; rfl) ?_) | (refine L.ge_val rfl rfl rfl (by rfl) (by intro w' hw'; simp [execOp, L.evE, L.lk, Act.eval]; go_simp; rfl) ?_))
        refine L.ge_done ?_
        simp only [L.puts, Act.put, goInt, List.setIfInBounds_toArray, List.set_cons_zero, List.set_cons_succ]
        go_wp2
        refine L.grow_start [g, s] 10 ((0, true, false) :: (1, true, false) :: (2, true, false) :: (3, true, false) :: (4, true, false) :: (5, true, false) :: (7, true, false) :: (6, false, true) :: (8, false, true) :: (9, true, true) :: []) (by kernel_rfl) (([], [0], some 29) :: ([0], [29], some 30) :: ([1], [30], some 31) :: ([2], [31], some 32) :: ([], [0], some 33) :: ([], [6], some 34) :: ([4, 5], [33, 34], some 35) :: ([], [7], some 36) :: ([3, 6, 7, 6], [32, 35, 36], some 37) :: ([8, 8, 0, 1, 2, 3, 4, 5, 6, 7, 8], [37], some 8) :: []) (by kernel_rfl) (by kernel_rfl) (n := 10) rfl (by kernel_rfl) (fun _ _ _ _ _ h => h) (fun wk hok => ?_)
        refine L.growe_start (N := 48) (by rfl) ?_
        have e0 : ∀ w', Only [g, s] wk w' → w'.cell? ⟨q, 0, none⟩ = some (.pointer (some ⟨g, 0, none⟩)) := fun w' h => ((HLG2.out.only hok (by simp)).only h (by simp [hqg, hqs])).c0
        iterate 7 (first | (refine L.ge_off rfl rfl rfl (by rfl) ?_) | (refine L.ge_move rfl rfl rfl (by rfl) rfl (by simp [L.evE, L.lk, Act.eval]; rfl) ?_) | (refine L.ge_pick rfl rfl rfl (by rfl) rfl (by simp [L.evE, L.lk, Act.eval]; rfl) (by simp [L.evE, L.lk, Act.eval]; rfl) ?_) | (refine L.ge_val rfl rfl rfl (by rfl) (by intro w' hw'; simp [execOp, L.evE, L.lk, Act.eval]; go_simp; rfl) ?_))
        refine L.ge_call rfl rfl rfl (by rfl) rfl (by simp [L.evE, L.lk, Act.eval]; rfl) (by go_simp) ?_
        refine (data_any q g nm p dead x wk (HLG2.out.only hok (by simp)) hnm (by omega) hp).mono ?_
        rintro e wl ⟨rfl, hol⟩
        refine ⟨_, rfl, hol.mono (by simp), ?_⟩
        refine L.ge_call rfl rfl rfl (by rfl) rfl (by simp [L.evE, L.lk, Act.eval]; rfl) (by go_simp) ?_
        refine (write_is g s cp r E E' v _ pb 256 b _ wl (HDK2.out.only (hok.trans hol) (by simp) (by simp)) hE.out HWR9.out ((hok.trans hol).heap HPB.out (by simp)) 256 hb256 HW.out).mono ?_
        rintro e wm ⟨rfl, hdm, hom⟩
        refine ⟨_, rfl, hom, ?_⟩
        have HDK3 := Lib.hid hdm
        have HO3 := Lib.hid ((HO2.out.trans ((hok.trans hol).mono (T := [g, s]) (by simp))).trans hom)
        clear hok hol hom hdm e0
        iterate 1 (first | (refine L.ge_off rfl rfl rfl (by rfl) ?_) | (refine L.ge_move rfl rfl rfl (by rfl) rfl (by simp [L.evE, L.lk, Act.eval]; rfl) ?_) | (refine L.ge_pick rfl rfl rfl (by rfl) rfl (by simp [L.evE, L.lk, Act.eval]; rfl) (by simp [L.evE, L.lk, Act.eval]; rfl) ?_) | (refine L.ge_val rfl rfl rfl (by rfl) (by intro w' hw'; simp [execOp, L.evE, L.lk, Act.eval]; go_simp; rfl) ?_))
        refine L.ge_done ?_
        simp only [L.puts, Act.put, goInt, List.setIfInBounds_toArray, List.set_cons_zero, List.set_cons_succ]
        by_cases hv : v = 0
        · subst hv
          have hap := HAP2.out
          rw [if_neg (by simp)] at hap
          have HAP3 := Lib.hid hap
          clear hap HAP2
          go_wp2
          go_roundw
          case rel => exact ⟨k + 1, E', by omega, by go_num, HAP3, HOK, HCN, HLN, HDK3, HO3⟩
          case measure => simp [intOf]; omega
        · have hap := HAP2.out
          rw [if_pos hv] at hap
          have HAP3 := Lib.hid hap
          clear hap HAP2
          go_wp2
          go_ret
          exact ⟨by rw [← HAP3.out]; rfl, by rw [← HAP3.out]; exact HDK3.out, HO3.out⟩
    · obtain rfl : k = xs.length := by omega
      have hap' := hap.out
      rw [List.drop_length] at hap'
      unfold applyP at hap'
      have HAP := Lib.hid hap'
      have HLG1 := Lib.hid (HLG.out.only hO.out (by simp [hqg, hqs]))
      have hwr9 : E.writes < 1000000000 := by have := hew.out; omega
      have HWR9 := Lib.hid hwr9
      clear hap hap' hwr9
      go_wp2
      refine L.grow_start [g, s] 7 ((0, true, false) :: (1, true, false) :: (2, true, false) :: (3, true, false) :: (4, false, true) :: (5, false, true) :: (6, true, true) :: []) (by kernel_rfl) (([], [0], some 42) :: ([0], [42], some 43) :: ([1], [43], some 44) :: ([2], [44], some 45) :: ([], [], some 46) :: ([3, 4], [45, 46], some 47) :: ([5, 5, 0, 1, 2, 3, 4, 5], [47], some 4) :: []) (by kernel_rfl) (by kernel_rfl) (n := 7) rfl (by kernel_rfl) (fun _ _ _ _ _ h => h) (fun wg hog => ?_)
      refine L.growe_start (N := 48) (by rfl) ?_
      have e0 : ∀ w', Only [g, s] wg w' → w'.cell? ⟨q, 0, none⟩ = some (.pointer (some ⟨g, 0, none⟩)) := fun w' h => ((HLG1.out.only hog (by simp)).only h (by simp [hqg, hqs])).c0
      iterate 4 (first | (refine L.ge_off rfl rfl rfl (by rfl) ?_) | (refine L.ge_move rfl rfl rfl (by rfl) rfl (by simp [L.evE, L.lk, Act.eval]; rfl) ?_) | (refine L.ge_pick rfl rfl rfl (by rfl) rfl (by simp [L.evE, L.lk, Act.eval]; rfl) (by simp [L.evE, L.lk, Act.eval]; rfl) ?_) | (refine L.ge_val rfl rfl rfl (by rfl) (by intro w' hw'; simp [execOp, L.evE, L.lk, Act.eval]; go_simp; rfl) ?_))
      refine ge_make_bytes rfl rfl rfl (by rfl) _ _ _ rfl 5 Try.underlying43 infoU8 .i64 .i64 256 (by simp [L.evE, L.lk, Act.eval]) (by simp [L.evE, L.lk, Act.eval]) (by omega) ?_
      intro wh hbh hoh
      refine L.ge_call rfl rfl rfl (by rfl) rfl (by simp [L.evE, L.lk, Act.eval]; rfl) (by go_simp) ?_
      refine (write_row g s cp r E _ _ 256 (sec 0) _ wh (hdk.out.only (hog.trans hoh) (by simp) (by simp)) hE.out HWR9.out hbh 256 (sec_length 0)).mono ?_
      rintro e wm ⟨rfl, hdm, hom⟩
      refine ⟨_, rfl, hom, ?_⟩
      rw [HAP.out]
      have HDK3 := Lib.hid (show IsDk wm g s cp r V.2 by rw [← HAP.out]; exact hdm)
      have HO3 := Lib.hid ((hO.out.trans ((hog.trans hoh).mono (T := [g, s]) (by simp))).trans hom)
      clear hog hoh hom hdm e0 hbh
      iterate 1 (first | (refine L.ge_off rfl rfl rfl (by rfl) ?_) | (refine L.ge_move rfl rfl rfl (by rfl) rfl (by simp [L.evE, L.lk, Act.eval]; rfl) ?_) | (refine L.ge_pick rfl rfl rfl (by rfl) rfl (by simp [L.evE, L.lk, Act.eval]; rfl) (by simp [L.evE, L.lk, Act.eval]; rfl) ?_) | (refine L.ge_val rfl rfl rfl (by rfl) (by intro w' hw'; simp [execOp, L.evE, L.lk, Act.eval]; go_simp; rfl) ?_))
      refine L.ge_done ?_
      simp only [L.puts, Act.put, goInt, List.setIfInBounds_toArray, List.set_cons_zero, List.set_cons_succ]
      go_wp2
      go_ret
      exact ⟨rfl, HDK3.out, HO3.out⟩
end Go.Proofs.Ytlngfelpmebemaa
