/-
  May a group be, as the document says.
-/
import Derived.Test.YtlngfelpmebemaaWalRb
namespace Go.Proofs.Ytlngfelpmebemaa
open Go Go.RowKit
set_option linter.unusedSimpArgs false
set_option linter.unusedVariables false
theorem right_take_next (p : Nat) (xs : List Wr) (k : Nat) (hk : k < xs.length) : RightP p (xs.take (k + 1)) ↔ RightP p (xs.take k) ∧ okW p xs[k] ∧ xs[k].1 ∉ (xs.take k).map (·.1) := by
  rw [List.take_succ_eq_append_getElem hk]
  exact right_snoc p _ _
set_option maxHeartbeats 8000000 in
set_option maxRecDepth 100000 in
theorem rright_any (p m a c : Nat) (mr : List Value) (M : List (List UInt8)) (A : Option Addr) (ca : Nat) (xs : List Wr) (w : World) (hp9 : p ≤ 10000) (hxl : xs.length ≤ 4000000) (hM : M.length = p) (hm : IsMd w m a c mr M) (hA : WritesAt w A xs) :
    Calls Try.prog 15 #[.pointer (some ⟨m, 0, none⟩), .slice A xs.length ca] w fun e w' => e = .returned (.bool (decide (RightP p xs))) ∧ Only [] w w' := by
  obtain ⟨V, hV⟩ : ∃ V, V = decide (RightP p xs) := ⟨_, rfl⟩
  rw [← hV]
  have HV := Lib.hid hV
  have HA := Lib.hid hA
  have HX := Lib.hid (show w.heap[m]? = some (.cells #[.slice (some ⟨a, 0, none⟩) p c] 58 (0, 0)) from by rw [hm.hd, hM])
  clear hV hA hm hM
  go_enter Try.func15, Try.ntmps15
  go_wp2
  go_loopw [5] (fun i wr => ∃ (k : Nat), k ≤ xs.length ∧ i = .int .i64 k ∧ Hid (RightP p (xs.take k)) ∧ Hid (Only [] w wr)) (fun i _ => xs.length - (Go.RowKit.intOf i).toNat)
  case atStart => exact ⟨0, by omega, rfl, Lib.hid ⟨by simp, by simp⟩, Lib.hid (Only.refl _ _)⟩
  case round =>
    obtain ⟨k, hk, rfl, HR, HO⟩ := hrel
    by_cases hlt : k < xs.length
    · have hlt' : (k : Int) < xs.length := by omega
      have hk0 : (0 : Int) ≤ k := by omega
      obtain ⟨ad, B, cap, hAd, hc, hcap, hB⟩ := (HA.out.only HO.out).row k hlt
      have hnx := right_take_next p xs k hlt
      have hbad : ¬ okW p xs[k] → V = false := fun h => by
        rw [HV.out, decide_eq_false_iff_not]
        exact right_of_take (k + 1) (fun h9 => h (hnx.1 h9).2.1)
      have hdup : xs[k].1 ∈ (xs.take k).map (·.1) → V = false := fun h => by
        rw [HV.out, decide_eq_false_iff_not]
        exact right_of_take (k + 1) (fun h9 => (hnx.1 h9).2.2 h)
      have hgood : okW p xs[k] → (∀ (i : Nat) (hi : i < k), (xs[i]'(by omega)).1 ≠ xs[k].1) → RightP p (xs.take (k + 1)) := fun h1 h2 => by
        refine hnx.2 ⟨HR.out, h1, fun hm => ?_⟩
        obtain ⟨y, hy, e⟩ := List.mem_map.1 hm
        obtain ⟨i, hi, rfl⟩ := List.getElem_of_mem hy
        rw [List.getElem_take] at e
        exact h2 i (by rw [List.length_take] at hi; omega) e
      have HBAD := Lib.hid hbad
      have HDUP := Lib.hid hdup
      have HGOOD := Lib.hid hgood
      have hrow : ∀ (j : Nat) (hj : j < xs.length), ∃ Bj cj, CellsAt wr (ad.add (j * 2)) [.int .i64 xs[j].1, .slice Bj xs[j].2.length cj] := fun j hj => by
        obtain ⟨ad', Bj, cj, e, h, _⟩ := (HA.out.only HO.out).row j hj
        rw [hAd] at e
        obtain rfl := Option.some.inj e
        exact ⟨Bj, cj, h⟩
      have HROW := Lib.hid hrow
      clear hnx hbad hdup hgood hrow hcap hB
      obtain ⟨x, hx⟩ : ∃ x, x = xs[k] := ⟨_, rfl⟩
      rw [← hx] at HBAD HDUP HGOOD hc
      have HXE := Lib.hid hx
      clear hx
      obtain ⟨xi, xb⟩ := x
      have HC := Lib.hid (show CellsAt wr (ad.add (k * 2)) [.int .i64 xi, .slice B xb.length cap] from hc)
      subst hAd
      clear hc
      obtain ⟨bl, hbl⟩ : ∃ bl, bl = xb.length := ⟨_, rfl⟩
      rw [← hbl] at HC
      have HBLN := Lib.hid hbl
      clear hbl
      have hcs : (xi < 0 ∨ (p : Int) ≤ xi ∨ bl ≠ 256) ∨ (0 ≤ xi ∧ xi < (p : Int) ∧ bl = 256) := by omega
      go_wp2
      refine L.grow_start [] 28 ((0, true, false) :: (1, true, true) :: (2, true, true) :: (3, true, true) :: (4, true, true) :: (5, true, true) :: (6, true, true) :: (7, true, false) :: (8, true, false) :: (9, true, false) :: (10, true, false) :: (11, true, false) :: (12, true, true) :: (13, true, true) :: (14, true, true) :: (15, true, true) :: (16, true, true) :: (17, true, true) :: (18, true, true) :: (19, true, true) :: (20, true, false) :: (21, true, true) :: (22, true, true) :: (23, true, true) :: (24, true, true) :: (25, true, true) :: (26, true, true) :: (27, true, true) :: []) (by kernel_rfl) (([], [1], some 13) :: ([], [5], some 14) :: ([0, 1], [13, 14], some 15) :: ([2], [15], some 16) :: ([3], [16], some 17) :: ([4], [17], some 18) :: ([5], [18], some 19) :: ([6], [1, 19], some 20) :: ([6], [5, 19], some 21) :: ([7, 8, 6], [20, 21, 19], some 22) :: ([9, 6], [22, 19], some 23) :: ([10, 6], [23, 19], some 24) :: ([6], [0, 19], some 25) :: ([12, 6], [25, 19], some 26) :: ([13, 6], [26, 19], some 27) :: ([14, 6], [27, 19], some 28) :: ([15, 6], [28, 19], some 29) :: ([11, 16, 6], [24, 29, 19], some 30) :: ([6, 17], [19, 30], some 31) :: ([18, 6], [31], some 32) :: ([19], [1, 32], some 33) :: ([19], [5, 32], some 34) :: ([20, 21, 19], [33, 34, 32], some 35) :: ([22, 19], [35, 32], some 36) :: ([23, 19], [36, 32], some 37) :: ([24, 19], [37, 32], some 38) :: ([25, 19], [38, 32], some 39) :: ([19, 26], [32, 39], some 40) :: []) (by kernel_rfl) (by kernel_rfl) (n := 28) rfl (by kernel_rfl) (fun _ _ _ _ _ h => h) (fun wg hog => ?_)
      refine L.growe_start (N := 57) (by rfl) ?_
      have e0 : ∀ w', Only [] wg w' → w'.cell? ⟨m, 0, none⟩ = some (.slice (some ⟨a, 0, none⟩) p c) := fun w' q => (cell_of_row w' m 0 _ _ _ ((HO.out.trans (hog.trans q)).heap HX.out (by simp))).trans rfl
      have f0 : ∀ w', Only [] wg w' → w'.cell? (ad.add (k * 2)) = some (.int .i64 xi) := fun w' q => cellsAt_head (HC.out.only (hog.trans q) (by simp)) rfl
      have f1 : ∀ w', Only [] wg w' → w'.cell? ⟨(ad.add (k * 2)).block, (ad.add (k * 2)).off + 1, none⟩ = some (.slice B bl cap) := fun w' q => cellsAt_field (HC.out.only (hog.trans q) (by simp)) 1 (by omega) rfl
      have HOG := Lib.hid (HO.out.trans hog)
      have HHG := Lib.hid hog
      clear hog
      rcases hcs with hcs | ⟨hx0, hx1, hx2⟩
      · have hv : V = false := HBAD.out (fun h => by
          have h : 0 ≤ xi ∧ xi < (p : Int) ∧ xb.length = 256 := h
          have := HBLN.out
          omega)
        have HVF := Lib.hid hv
        clear hv
        rcases Int.lt_or_le xi 0 with hneg | hpos
        · clear hcs
          iterate 28 (first | (refine L.ge_off rfl rfl rfl (by rfl) ?_) | (refine L.ge_move rfl rfl rfl (by rfl) rfl (by simp [L.evE, L.lk, Act.eval]; rfl) ?_) | (refine L.ge_pick rfl rfl rfl (by rfl) rfl (by simp [L.evE, L.lk, Act.eval]; rfl) (by simp [L.evE, L.lk, Act.eval]; rfl) ?_) | (refine L.ge_val rfl rfl rfl (by rfl) (by intro w' hw'; simp [execOp, L.evE, L.lk, Act.eval]; go_simp; rfl) ?_))
          refine L.ge_done ?_
          simp only [L.puts, Act.put, goInt, List.setIfInBounds_toArray, List.set_cons_zero, List.set_cons_succ]
          go_wp2
          go_ret
          exact ⟨by rw [HVF.out]; rfl, HOG.out⟩
        · have hno : ¬ xi < 0 := by omega
          rcases Int.lt_or_le xi p with hin | hout
          · have hb2 : ((bl : Int) != 256) = true := by rw [bne_iff_ne]; omega
            have hno2 : ¬ (p : Int) ≤ xi := by omega
            clear hcs
            iterate 28 (first | (refine L.ge_off rfl rfl rfl (by rfl) ?_) | (refine L.ge_move rfl rfl rfl (by rfl) rfl (by simp [L.evE, L.lk, Act.eval]; rfl) ?_) | (refine L.ge_pick rfl rfl rfl (by rfl) rfl (by simp [L.evE, L.lk, Act.eval]; rfl) (by simp [L.evE, L.lk, Act.eval]; rfl) ?_) | (refine L.ge_val rfl rfl rfl (by rfl) (by intro w' hw'; simp [execOp, L.evE, L.lk, Act.eval]; go_simp; rfl) ?_))
            refine L.ge_done ?_
            simp only [L.puts, Act.put, goInt, List.setIfInBounds_toArray, List.set_cons_zero, List.set_cons_succ]
            go_wp2
            go_ret
            exact ⟨by rw [HVF.out]; rfl, HOG.out⟩
          · clear hcs
            iterate 28 (first | (refine L.ge_off rfl rfl rfl (by rfl) ?_) | (refine L.ge_move rfl rfl rfl (by rfl) rfl (by simp [L.evE, L.lk, Act.eval]; rfl) ?_) | (refine L.ge_pick rfl rfl rfl (by rfl) rfl (by simp [L.evE, L.lk, Act.eval]; rfl) (by simp [L.evE, L.lk, Act.eval]; rfl) ?_) | (refine L.ge_val rfl rfl rfl (by rfl) (by intro w' hw'; simp [execOp, L.evE, L.lk, Act.eval]; go_simp; rfl) ?_))
            refine L.ge_done ?_
            simp only [L.puts, Act.put, goInt, List.setIfInBounds_toArray, List.set_cons_zero, List.set_cons_succ]
            go_wp2
            go_ret
            exact ⟨by rw [HVF.out]; rfl, HOG.out⟩
      · subst hx2
        have hno : ¬ xi < 0 := by omega
        have hno2 : ¬ (p : Int) ≤ xi := by omega
        iterate 28 (first | (refine L.ge_off rfl rfl rfl (by rfl) ?_) | (refine L.ge_move rfl rfl rfl (by rfl) rfl (by simp [L.evE, L.lk, Act.eval]; rfl) ?_) | (refine L.ge_pick rfl rfl rfl (by rfl) rfl (by simp [L.evE, L.lk, Act.eval]; rfl) (by simp [L.evE, L.lk, Act.eval]; rfl) ?_) | (refine L.ge_val rfl rfl rfl (by rfl) (by intro w' hw'; simp [execOp, L.evE, L.lk, Act.eval]; go_simp; rfl) ?_))
        refine L.ge_done ?_
        simp only [L.puts, Act.put, goInt, List.setIfInBounds_toArray, List.set_cons_zero, List.set_cons_succ]
        have HOKX := Lib.hid (show 0 ≤ xi ∧ xi < (p : Int) from ⟨hx0, hx1⟩)
        clear e0 f0 f1 hno hno2 hx0 hx1
        go_wp2
        go_loopw [6] (fun i wq => ∃ (j : Nat), j ≤ k ∧ i = .int .i64 j ∧ Hid (∀ (i : Nat) (hi : i < j) (hi2 : i < xs.length), (xs[i]'hi2).1 ≠ xi) ∧ Hid (Only [] wr wq)) (fun i _ => k - (Go.RowKit.intOf i).toNat)
        case atStart => exact ⟨0, by omega, rfl, Lib.hid (fun i hi _ => by omega), HHG⟩
        case round =>
          obtain ⟨j, hj, rfl, HNE, HOQ⟩ := hrel
          by_cases hj2 : j < k
          · have hj2' : (j : Int) < k := by omega
            have hj0 : (0 : Int) ≤ j := by omega
            have hjx : (j : Int) < xs.length := by omega
            obtain ⟨Bj, cj, hcj⟩ := HROW.out j (by omega)
            obtain ⟨y, hy⟩ : ∃ y, y = xs[j]'(by omega) := ⟨_, rfl⟩
            rw [← hy] at hcj
            obtain ⟨yi, yb⟩ := y
            have HCJ := Lib.hid (show CellsAt _ (ad.add (j * 2)) [.int .i64 yi, .slice Bj yb.length cj] from hcj)
            have HYE := Lib.hid (show yi = (xs[j]'(by omega)).1 from by rw [← hy])
            clear hcj hy
            go_wp2
            refine L.grow_start [] 11 ((0, true, false) :: (1, true, false) :: (2, true, false) :: (3, true, false) :: (4, true, false) :: (5, true, false) :: (6, true, true) :: (7, true, true) :: (8, true, true) :: (9, true, true) :: (10, true, true) :: []) (by kernel_rfl) (([], [1], some 46) :: ([], [6], some 47) :: ([0, 1], [46, 47], some 48) :: ([2], [48], some 49) :: ([3], [49], some 50) :: ([], [1], some 51) :: ([], [5], some 52) :: ([5, 6], [51, 52], some 53) :: ([7], [53], some 54) :: ([8], [54], some 55) :: ([4, 9], [50, 55], some 56) :: []) (by kernel_rfl) (by kernel_rfl) (n := 11) rfl (by kernel_rfl) (fun _ _ _ _ _ h => h) (fun wg2 hog2 => ?_)
            refine L.growe_start (N := 57) (by rfl) ?_
            have f0 : ∀ w', Only [] wg2 w' → w'.cell? (ad.add (k * 2)) = some (.int .i64 xi) := fun w' q => cellsAt_head (HC.out.only (HOQ.out.trans (hog2.trans q)) (by simp)) rfl
            have f1 : ∀ w', Only [] wg2 w' → w'.cell? (ad.add (j * 2)) = some (.int .i64 yi) := fun w' q => cellsAt_head (HCJ.out.only (HOQ.out.trans (hog2.trans q)) (by simp)) rfl
            have HO2 := Lib.hid (HOQ.out.trans hog2)
            clear hog2
            by_cases he : yi = xi
            · have hv : V = false := HDUP.out (by
                refine List.mem_map.2 ⟨xs[j]'(by omega), ?_, by rw [← HYE.out]; exact he⟩
                rw [List.mem_take_iff_getElem]
                exact ⟨j, by omega, rfl⟩)
              have HVF := Lib.hid hv
              subst he
              clear hv
              iterate 11 (first | (refine L.ge_off rfl rfl rfl (by rfl) ?_) | (refine L.ge_move rfl rfl rfl (by rfl) rfl (by simp [L.evE, L.lk, Act.eval]; rfl) ?_) | (refine L.ge_pick rfl rfl rfl (by rfl) rfl (by simp [L.evE, L.lk, Act.eval]; rfl) (by simp [L.evE, L.lk, Act.eval]; rfl) ?_) | (refine L.ge_val rfl rfl rfl (by rfl) (by intro w' hw'; simp [execOp, L.evE, L.lk, Act.eval]; go_simp; rfl) ?_))
              refine L.ge_done ?_
              simp only [L.puts, Act.put, goInt, List.setIfInBounds_toArray, List.set_cons_zero, List.set_cons_succ]
              clear f0 f1
              go_wp2
              go_ret
              exact ⟨by rw [HVF.out]; rfl, HO.out.trans HO2.out⟩
            · have hb : (yi == xi) = false := by rw [beq_eq_false_iff_ne]; exact he
              iterate 11 (first | (refine L.ge_off rfl rfl rfl (by rfl) ?_) | (refine L.ge_move rfl rfl rfl (by rfl) rfl (by simp [L.evE, L.lk, Act.eval]; rfl) ?_) | (refine L.ge_pick rfl rfl rfl (by rfl) rfl (by simp [L.evE, L.lk, Act.eval]; rfl) (by simp [L.evE, L.lk, Act.eval]; rfl) ?_) | (refine L.ge_val rfl rfl rfl (by rfl) (by intro w' hw'; simp [execOp, L.evE, L.lk, Act.eval]; go_simp; rfl) ?_))
              refine L.ge_done ?_
              simp only [L.puts, Act.put, goInt, List.setIfInBounds_toArray, List.set_cons_zero, List.set_cons_succ]
              have HNE2 := Lib.hid he
              clear f0 f1 hb he
              go_wp2
              go_roundw
              case rel =>
                refine ⟨j + 1, by omega, by go_num, Lib.hid fun i hi hi2 => ?_, HO2⟩
                by_cases hij : i = j
                · subst hij
                  rw [← HYE.out]
                  exact HNE2.out
                · exact HNE.out i (by omega) hi2
              case measure => simp [Go.RowKit.intOf]; omega
          · obtain rfl : j = k := by omega
            go_wp2
            go_roundw
            case rel => exact ⟨j + 1, by omega, by go_num, Lib.hid (HGOOD.out ⟨HOKX.out.1, HOKX.out.2, HBLN.out.symm⟩ (fun i hi => HNE.out i hi (by omega))), Lib.hid (HO.out.trans HOQ.out)⟩
            case measure => simp [Go.RowKit.intOf]; omega
    · obtain rfl : k = xs.length := by omega
      go_wp2
      go_ret
      refine ⟨?_, HO.out⟩
      have hr := HR.out
      rw [List.take_length] at hr
      rw [HV.out, decide_eq_true hr]
      rfl
end Go.Proofs.Ytlngfelpmebemaa
