/-
  The log's Read.
-/
import Derived.Test.YtlngfelpmebemaaWalOp
namespace Go.Proofs.Ytlngfelpmebemaa
open Go Go.RowKit
set_option linter.unusedSimpArgs false
set_option linter.unusedVariables false
/-- Why a data sector cannot be read. -/
def lwrong (D : Dk) (dead : Bool) (p : Nat) (i : Int) : Nat := if dead = true ∨ D.off = true then 6 else if i < 0 ∨ (p : Int) ≤ i then 1 else 0
set_option maxHeartbeats 4000000 in
set_option maxRecDepth 100000 in
theorem lread_no (q g s cp nm p : Nat) (r : List Value) (dead : Bool) (D : Dk) (i : Int) (w : World) (hd : IsDk w g s cp r D) (hlg : IsLg w q g nm p dead) (v : Nat) (hv : lwrong D dead p i = v) (hv0 : v ≠ 0) :
    Calls Try.prog 19 #[.pointer (some ⟨q, 0, none⟩), .int .i64 i] w fun e w' => e = .returned (.tuple #[.slice none 0 0, .int .i64 (v : Int)]) ∧ Only [] w w' := by
  have c0 := hlg.c0
  have c2 := hlg.c2
  have c3 := hlg.c3
  have HD := Lib.hid hd
  have HV := Lib.hid hv
  have HV0 := Lib.hid hv0
  clear hd hlg hv hv0
  go_enter Try.func19, Try.ntmps19
  cases dead with
  | true =>
    go_wp2
    go_ret2
    refine ⟨?_, Only.refl _ _⟩
    have h := HV.out
    unfold lwrong at h
    rw [if_pos (.inl rfl)] at h
    rw [← h]
    rfl
  | false =>
    by_cases hoff : D.off = true
    · have h := HV.out
      unfold lwrong at h
      rw [if_pos (.inr hoff)] at h
      have HH := Lib.hid h
      clear h
      go_wp2_with (go_at_call 32; refine (on_any g s cp r D _ HD.out).mono ?_; rw [hoff]; rintro e w1 ⟨rfl, rfl⟩)
      go_ret2
      exact ⟨by rw [← HH.out]; rfl, Only.refl _ _⟩
    · have hoff' : D.off = false := by simpa using hoff
      have h := HV.out
      unfold lwrong at h
      rw [if_neg (by rw [hoff']; simp)] at h
      by_cases hi : i < 0
      · rw [if_pos (.inl hi)] at h
        have HH := Lib.hid h
        clear h hoff
        go_wp2_with (go_at_call 32; refine (on_any g s cp r D _ HD.out).mono ?_; rw [hoff']; rintro e w1 ⟨rfl, rfl⟩)
        go_ret2
        exact ⟨by rw [← HH.out]; rfl, Only.refl _ _⟩
      · by_cases hi2 : (p : Int) ≤ i
        · rw [if_pos (.inr hi2)] at h
          have HH := Lib.hid h
          clear h hoff
          have hi0 : 0 ≤ i := by omega
          go_wp2_with (go_at_call 32; refine (on_any g s cp r D _ HD.out).mono ?_; rw [hoff']; rintro e w1 ⟨rfl, rfl⟩)
          go_ret2
          exact ⟨by rw [← HH.out]; rfl, Only.refl _ _⟩
        · rw [if_neg (by omega)] at h
          exact absurd h.symm HV0.out
set_option maxHeartbeats 4000000 in
set_option maxRecDepth 100000 in
theorem lread_yes (q g s cp nm p : Nat) (r : List Value) (D : Dk) (i : Nat) (b : List UInt8) (w : World) (hD : D.Ok) (hd : IsDk w g s cp r D) (hlg : IsLg w q g nm p false) (hoff : D.off = false) (hi : i < p) (hp : p ≤ 1000000) (hnm : nm ≤ 1000000) (hb : D.L[1 + nm + p + i]? = some b) :
    Calls Try.prog 19 #[.pointer (some ⟨q, 0, none⟩), .int .i64 (i : Int)] w fun e w' => ∃ pb, e = .returned (.tuple #[.slice (some ⟨pb, 0, none⟩) 256 256, .int .i64 0]) ∧ w'.heap[pb]? = some (.cells (bcells b).toArray 75 (0, 0)) ∧ w.heap.size ≤ pb ∧ Only [] w w' := by
  have c0 := hlg.c0
  have c2 := hlg.c2
  have c3 := hlg.c3
  have HD := Lib.hid hd
  have HLG := Lib.hid hlg
  have HDO := Lib.hid hD
  have HB := Lib.hid hb
  have hi' : (i : Int) < p := by omega
  have hi0 : (0 : Int) ≤ i := by omega
  clear hd hlg hb hD
  go_enter Try.func19, Try.ntmps19
  go_wp2_with (go_at_call 32; refine (on_any g s cp r D _ HD.out).mono ?_; rw [hoff]; rintro e w1 ⟨rfl, rfl⟩)
  refine L.grow_start [] 12 ((0, true, false) :: (1, true, false) :: (2, true, false) :: (3, true, false) :: (4, true, false) :: (5, true, true) :: (6, false, true) :: (7, false, true) :: (8, true, false) :: (9, true, true) :: (10, true, true) :: (11, true, true) :: []) (by kernel_rfl) (([], [0], some 28) :: ([0], [28], some 29) :: ([1], [29], some 30) :: ([2], [30], some 31) :: ([], [0], some 32) :: ([], [1], some 33) :: ([4, 5], [32, 33], some 34) :: ([3, 6, 6], [31, 34], some 35) :: ([7], [35], some 36) :: ([7], [35], some 37) :: ([8, 7, 0, 1, 2, 3, 4, 5, 6, 7, 8, 9], [36], some 4) :: ([9, 10, 0, 1, 2, 3, 4, 5, 6, 7, 8, 9, 10], [37], some 5) :: []) (by kernel_rfl) (by kernel_rfl) (n := 12) rfl (by kernel_rfl) (fun _ _ _ _ _ h => h) (fun wg hog => ?_)
  refine L.growe_start (N := 38) (by rfl) ?_
  have e0 : ∀ w', Only [] wg w' → w'.cell? ⟨q, 0, none⟩ = some (.pointer (some ⟨g, 0, none⟩)) := fun w' h => ((HLG.out.only hog (by simp)).only h (by simp)).c0
  iterate 6 (first | (refine L.ge_off rfl rfl rfl (by rfl) ?_) | (refine L.ge_move rfl rfl rfl (by rfl) rfl (by simp [L.evE, L.lk, Act.eval]; rfl) ?_) | (refine L.ge_pick rfl rfl rfl (by rfl) rfl (by simp [L.evE, L.lk, Act.eval]; rfl) (by simp [L.evE, L.lk, Act.eval]; rfl) ?_) | (refine L.ge_val rfl rfl rfl (by rfl) (by intro w' hw'; simp [execOp, L.evE, L.lk, Act.eval]; go_simp; rfl) ?_))
  refine L.ge_call rfl rfl rfl (by rfl) rfl (by simp [L.evE, L.lk, Act.eval]; rfl) (by go_simp) ?_
  refine (data_any q g nm p false i wg (HLG.out.only hog (by simp)) hnm (by omega) hp).mono ?_
  rintro e wh ⟨rfl, hoh⟩
  refine ⟨_, rfl, hoh, ?_⟩
  refine L.ge_call rfl rfl rfl (by rfl) rfl (by simp [L.evE, L.lk, Act.eval]; rfl) (by go_simp) ?_
  refine (read_is g s cp r D _ (1 + nm + p + i) b wh (HD.out.only (hog.trans hoh) (by simp) (by simp)) HDO.out hoff rfl HB.out).mono ?_
  rintro e wj ⟨pb, rfl, hpb, hpz, hoj⟩
  refine ⟨_, rfl, hoj, ?_⟩
  have HPB := Lib.hid hpb
  have HO := Lib.hid ((hog.trans hoh).trans hoj)
  have HZ := Lib.hid (Nat.le_trans (hog.trans hoh).size hpz)
  clear hog hoh hoj hpb hpz e0
  iterate 4 (first | (refine L.ge_off rfl rfl rfl (by rfl) ?_) | (refine L.ge_move rfl rfl rfl (by rfl) rfl (by simp [L.evE, L.lk, Act.eval]; rfl) ?_) | (refine L.ge_pick rfl rfl rfl (by rfl) rfl (by simp [L.evE, L.lk, Act.eval]; rfl) (by simp [L.evE, L.lk, Act.eval]; rfl) ?_) | (refine L.ge_val rfl rfl rfl (by rfl) (by intro w' hw'; simp [execOp, L.evE, L.lk, Act.eval]; go_simp; rfl) ?_))
  refine L.ge_done ?_
  simp only [L.puts, Act.put, goInt, List.setIfInBounds_toArray, List.set_cons_zero, List.set_cons_succ]
  go_wp2
  go_ret2
  exact ⟨_, rfl, HPB.out, HZ.out, HO.out⟩
end Go.Proofs.Ytlngfelpmebemaa
