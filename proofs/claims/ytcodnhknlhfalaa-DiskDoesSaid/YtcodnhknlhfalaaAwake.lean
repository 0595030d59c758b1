/-
  The chapter's examples hold: awake answers true, and leaves what was there.
-/
import Derived.Test.YtcodnhknlhfalaaDisk
import Derived.Test.YtcodnhknlhfalaaG
namespace Go.Proofs.Ytcodnhknlhfalaa
open Go.RowKit
set_option linter.unusedSimpArgs false
set_option linter.unusedVariables false
theorem aw_ok (L : List (List UInt8)) (h : L = [sec 0, sec 0] ∨ L = [sec 0, sec 7]) (off : Bool) (l : Int) (hl : l = 0 ∨ l = -1) (n : Int) (hn : 0 ≤ n) : (⟨L, off, l, n⟩ : Dk).Ok := by
  refine ⟨fun b hb => ?_, ?_, ?_, ?_, hn⟩
  · rcases h with rfl | rfl <;> simp at hb
    · rw [hb]; exact sec_length _
    · rcases hb with rfl | rfl <;> exact sec_length _
  · rcases h with rfl | rfl <;> simp
  · simp only []; omega
  · simp only []; omega
theorem aw_new : Dk.new 2 = ⟨[sec 0, sec 0], false, -1, 0⟩ := rfl
theorem aw_w1 : (⟨[sec 0, sec 0], false, -1, 0⟩ : Dk).write 1 (sec 7) = (0, ⟨[sec 0, sec 7], false, -1, 1⟩) := by simp [Dk.write, sec_length]
theorem aw_w2 : (⟨[sec 0, sec 7], false, 0, 1⟩ : Dk).write 0 (sec 8) = (6, ⟨[sec 0, sec 7], true, 0, 1⟩) := by simp [Dk.write, sec_length]
set_option maxHeartbeats 1000000 in
set_option maxRecDepth 100000 in
theorem awake_any (w : World) :
    Calls Try.prog 7 #[] w fun e w' => e = .returned (.bool true) ∧ Only [] w w' := by
  go_enter Try.func7, Try.ntmps7
  go_wp2_with fail
  refine (new_yes 2 (by omega) (by omega) _).mono ?_; rintro e w1 ⟨g, s, rfl, hI0, hg, hs, ho0⟩
  rw [aw_new] at hI0
  have HO := Lib.hid ho0; have HI := Lib.hid hI0; clear hI0 ho0
  go_wp2_with fail
  refine (sectors_any g s 2 [] _ _ HI.out).mono ?_; rintro e w' ⟨rfl, rfl⟩
  go_wp2_with fail
  refine (on_any g s 2 [] _ _ HI.out).mono ?_; rintro e w' ⟨rfl, rfl⟩
  go_wp2_with fail
  refine (full_any 7 _).mono ?_; rintro e w2 ⟨rfl, hb2, ho2⟩
  have HB := Lib.hid hb2
  have HI2 := Lib.hid (HI.out.only ho2 (by simp) (by simp))
  have HO2 := Lib.hid (HO.out.trans ho2)
  clear hb2 ho2 HO HI
  go_wp2_with fail
  refine (write_is g s 2 [] _ _ 0 1 _ _ (sec 7) _ _ HI2.out (aw_ok _ (.inl rfl) _ _ (.inr rfl) _ (by omega)) (by simp) HB.out _ (sec_length _) aw_w1).mono ?_; rintro e w3 ⟨rfl, hI3, ho3⟩
  have HI3 := Lib.hid hI3
  have HO3 := Lib.hid (HO2.out.then ho3 (by simp; omega))
  clear hI3 ho3 HI2 HO2 HB
  go_wp2_with fail
  refine (read_is g s 2 [] _ 1 1 (sec 7) _ HI3.out (aw_ok _ (.inr rfl) _ _ (.inr rfl) _ (by omega)) rfl rfl rfl).mono ?_; rintro e w4 ⟨p, rfl, hp4, hpl, ho4⟩
  have HP4 := Lib.hid hp4
  have HI4 := Lib.hid (HI3.out.only ho4 (by simp) (by simp))
  have HO4 := Lib.hid (HO3.out.trans ho4)
  have hgl := heap_lt HI3.out.hd
  have hsl := heap_lt HI3.out.sec
  clear hp4 ho4 HI3 HO3
  go_wp2_with fail
  refine (cut_any g s 2 [] _ 0 _ HI4.out).mono ?_; rintro e w5 ⟨rfl, hI5, ho5⟩
  have HI5 := Lib.hid hI5
  have HO5 := Lib.hid (HO4.out.then ho5 (by simp; omega))
  have HP5 := Lib.hid (ho5.heap HP4.out (by simp; omega))
  clear hI5 ho5 HI4 HO4 HP4
  go_wp2_with fail
  refine (full_any 8 _).mono ?_; rintro e w6 ⟨rfl, hb6, ho6⟩
  have HB := Lib.hid hb6
  have HI6 := Lib.hid (HI5.out.only ho6 (by simp) (by simp))
  have HO6 := Lib.hid (HO5.out.trans ho6)
  have HP6 := Lib.hid (ho6.heap HP5.out (by simp))
  clear hb6 ho6 HO5 HI5 HP5
  go_wp2_with fail
  refine (write_is g s 2 [] _ _ 6 0 _ _ (sec 8) _ _ HI6.out (aw_ok _ (.inr rfl) _ _ (.inl rfl) _ (by simp)) (by simp [Dk.cut]) HB.out _ (sec_length _) aw_w2).mono ?_; rintro e w7 ⟨rfl, hI7, ho7⟩
  have HI7 := Lib.hid hI7
  have HO7 := Lib.hid (HO6.out.then ho7 (by simp; omega))
  have HP7 := Lib.hid (ho7.heap HP6.out (by simp; omega))
  clear hI7 ho7 HI6 HO6 HB HP6
  go_wp2_with fail
  refine (on_any g s 2 [] _ _ HI7.out).mono ?_; rintro e w' ⟨rfl, rfl⟩
  go_wp2_with fail
  refine (up_any g s 2 [] _ _ HI7.out).mono ?_; rintro e w8 ⟨rfl, hI8, ho8⟩
  have HI8 := Lib.hid hI8
  have HO8 := Lib.hid (HO7.out.then ho8 (by simp; omega))
  have HP8 := Lib.hid (ho8.heap HP7.out (by simp; omega))
  clear hI8 ho8 HI7 HO7 HP7
  go_wp2_with fail
  refine (read_is g s 2 [] _ 0 0 (sec 0) _ HI8.out (aw_ok _ (.inr rfl) _ _ (.inr rfl) _ (by simp)) rfl rfl rfl).mono ?_; rintro e w9 ⟨q, rfl, hq9, hql, ho9⟩
  have HQ9 := Lib.hid hq9
  have HI9 := Lib.hid (HI8.out.only ho9 (by simp) (by simp))
  have HO9 := Lib.hid (HO8.out.trans ho9)
  have HP9 := Lib.hid (ho9.heap HP8.out (by simp))
  clear hq9 ho9 HI8 HO8 HP8
  go_wp2_with fail
  have hcp : ∀ w', Only [] w9 w' → (convert 30 9 (.slice (some ⟨p, 0, none⟩) 256 256)).run Try.prog w' = .ok (.string ⟨(sec 7).toArray⟩) w' := fun w' h =>
    run_string_row w' 30 9 5 Try.underlying30 Try.underlying5 Try.underlying9 p 256 256 (sec 7) _ _ (sec_length _) (h.heap HP9.out (by simp))
  have hcq : ∀ w', Only [] w9 w' → (convert 30 9 (.slice (some ⟨q, 0, none⟩) 256 256)).run Try.prog w' = .ok (.string ⟨(sec 0).toArray⟩) w' := fun w' h =>
    run_string_row w' 30 9 5 Try.underlying30 Try.underlying5 Try.underlying9 q 256 256 (sec 0) _ _ (sec_length _) (h.heap HQ9.out (by simp))
  have HI9' := fun w' (h : Only [] w9 w') => HI9.out.only h (by simp) (by simp)
  have HIa := Lib.hid HI9'
  clear HI9'
  refine grow_start [] ((0, true, true) :: (1, true, true) :: (2, true, true) :: (3, true, true) :: (4, true, true) :: (5, true, true) :: (6, true, true) :: (7, true, false) :: (8, true, false) :: (9, true, true) :: (10, true, true) :: (11, true, true) :: (12, true, true) :: (13, true, true) :: (14, true, true) :: (15, true, true) :: (16, true, true) :: (17, true, true) :: (18, true, true) :: (19, true, true) :: (20, true, true) :: (21, true, true) :: (22, true, true) :: (23, true, true) :: (24, true, true) :: (25, true, true) :: (26, true, false) :: (27, true, false) :: (28, true, true) :: (29, true, true) :: (30, true, true) :: (31, true, true) :: (32, true, true) :: (33, true, true) :: (34, true, true) :: (35, true, true) :: (36, true, true) :: (37, true, true) :: []) (by kernel_rfl) (([], [3], some 52) :: ([0], [52], some 53) :: ([1], [53], some 54) :: ([2], [5, 54], some 55) :: ([3, 2], [55, 54], some 56) :: ([2, 4], [54, 56], some 57) :: ([5, 2], [57], some 58) :: ([6], [4, 58], some 59) :: ([7, 6], [59, 58], some 60) :: ([6, 6], [58], some 61) :: ([9, 6], [61, 58], some 62) :: ([8, 10, 6], [60, 62, 58], some 63) :: ([6, 11], [58, 63], some 64) :: ([12, 9], [64], some 65) :: ([13], [6, 65], some 66) :: ([14, 13], [66, 65], some 67) :: ([13, 15], [65, 67], some 68) :: ([16, 13], [68], some 69) :: ([17], [7, 69], some 70) :: ([18, 17], [70, 69], some 71) :: ([17, 19], [69, 71], some 72) :: ([20, 17], [72], some 73) :: ([21], [9, 73], some 74) :: ([22, 21], [74, 73], some 75) :: ([21, 23], [73, 75], some 76) :: ([24, 21], [76], some 77) :: ([25], [8, 77], some 78) :: ([26, 25], [78, 77], some 79) :: ([25, 25], [77], some 80) :: ([28, 25], [80, 77], some 81) :: ([27, 29, 25], [79, 81, 77], some 82) :: ([25, 30], [77, 82], some 83) :: ([31, 28], [83], some 84) :: ([32], [1, 84], some 85) :: ([33, 32, 32], [85, 84], some 86) :: ([34, 32], [86, 84], some 87) :: ([32, 35], [84, 87], some 88) :: ([36, 34, 0, 1, 2, 3, 4, 5, 6, 7, 8, 9, 10, 11, 12, 13, 14, 15, 16, 17, 18, 19, 20, 21, 22, 23, 24, 25, 26, 27, 28, 29, 30, 31, 32, 33, 34, 35, 36], [88], some 0) :: []) (by kernel_rfl) (by kernel_rfl) (n := 38) rfl (by kernel_rfl) (fun _ _ _ _ _ h => h) (fun wg hog => ?_)
  refine growe_start (N := 89) (by rfl) ?_
  have hp10 : ∀ w', Only [] wg w' → _ := fun w' h => hcp w' (hog.trans h)
  have hq10 : ∀ w', Only [] wg w' → _ := fun w' h => hcq w' (hog.trans h)
  iterate 9 (first
    | (refine ge_off rfl rfl rfl (by rfl) ?_)
    | (refine ge_move rfl rfl rfl (by rfl) rfl (by simp [evE, lk, Act.eval]; rfl) ?_)
    | (refine ge_pick rfl rfl rfl (by rfl) rfl (by simp [evE, lk, Act.eval]; rfl) (by simp [evE, lk, Act.eval]; rfl) ?_)
    | (refine ge_val rfl rfl rfl (by rfl) (by intro w' hw'; simp [execOp, evE, lk, Act.eval]; go_simp; rfl) ?_))
  -- operation 9: Op.call { callee := Callee.value (Operand.func 11), args := #[Operand.const (Value.int IntKind.u8 7)], argTypes := #[5] }
  refine ge_call rfl rfl rfl (by rfl) rfl (by simp [evE, lk, Act.eval]; rfl) (by go_simp) ?_
  refine (full_int 7 (by omega) (by omega) _).mono ?_
  rintro e wa ⟨b, rfl, hb, hbl, hoa⟩
  have hca := fun w' (h : Only [] wa w') => run_string_row w' 30 9 5 Try.underlying30 Try.underlying5 Try.underlying9 _ 256 256 (sec 7) _ _ (sec_length _) (h.heap hb (by simp))
  have hq11 : ∀ w', Only [] wa w' → _ := fun w' h => hcq w' ((hog.trans hoa).trans h)
  refine ⟨_, rfl, hoa, ?_⟩
  iterate 18 (first
    | (refine ge_off rfl rfl rfl (by rfl) ?_)
    | (refine ge_move rfl rfl rfl (by rfl) rfl (by simp [evE, lk, Act.eval]; rfl) ?_)
    | (refine ge_pick rfl rfl rfl (by rfl) rfl (by simp [evE, lk, Act.eval]; rfl) (by simp [evE, lk, Act.eval]; rfl) ?_)
    | (refine ge_val rfl rfl rfl (by rfl) (by intro w' hw'; simp [execOp, evE, lk, Act.eval]; go_simp; rfl) ?_))
  -- operation 28: Op.call { callee := Callee.value (Operand.func 11), args := #[Operand.const (Value.int IntKind.u8 0)], argTypes := #[5] }
  refine ge_call rfl rfl rfl (by rfl) rfl (by simp [evE, lk, Act.eval]; rfl) (by go_simp) ?_
  refine (full_int 0 (by omega) (by omega) _).mono ?_
  rintro e wb ⟨b2, rfl, hb2, hbl2, hob⟩
  have hcb := fun w' (h : Only [] wb w') => run_string_row w' 30 9 5 Try.underlying30 Try.underlying5 Try.underlying9 _ 256 256 (sec 0) _ _ (sec_length _) (h.heap hb2 (by simp))
  refine ⟨_, rfl, hob, ?_⟩
  iterate 5 (first
    | (refine ge_off rfl rfl rfl (by rfl) ?_)
    | (refine ge_move rfl rfl rfl (by rfl) rfl (by simp [evE, lk, Act.eval]; rfl) ?_)
    | (refine ge_pick rfl rfl rfl (by rfl) rfl (by simp [evE, lk, Act.eval]; rfl) (by simp [evE, lk, Act.eval]; rfl) ?_)
    | (refine ge_val rfl rfl rfl (by rfl) (by intro w' hw'; simp [execOp, evE, lk, Act.eval]; go_simp; rfl) ?_))
  -- operation 34: Op.call { callee := Callee.value (Operand.func 14), args := #[Operand.tmp 85], argTypes := #[24] }
  refine ge_call rfl rfl rfl (by rfl) rfl (by simp [evE, lk, Act.eval]; rfl) (by go_simp) ?_
  refine (writes_any g s 2 [] _ _ (HIa.out _ ((hog.trans hoa).trans hob))).mono ?_
  rintro e w' ⟨rfl, rfl⟩
  refine ⟨_, rfl, Only.refl _ _, ?_⟩
  iterate 3 (first
    | (refine ge_off rfl rfl rfl (by rfl) ?_)
    | (refine ge_move rfl rfl rfl (by rfl) rfl (by simp [evE, lk, Act.eval]; rfl) ?_)
    | (refine ge_pick rfl rfl rfl (by rfl) rfl (by simp [evE, lk, Act.eval]; rfl) (by simp [evE, lk, Act.eval]; rfl) ?_)
    | (refine ge_val rfl rfl rfl (by rfl) (by intro w' hw'; simp [execOp, evE, lk, Act.eval]; go_simp; rfl) ?_))
  refine ge_done ?_
  simp only [puts, Act.put, List.setIfInBounds_toArray, List.set_cons_zero, List.set_cons_succ]
  have HF := Lib.hid (((HO9.out.trans hog).trans hoa).trans hob)
  clear hcp hcq hp10 hq10 hca hq11 hcb hoa hob hog hb hb2
  go_wp2
  go_ret
  exact ⟨rfl, HF.out⟩
end Go.Proofs.Ytcodnhknlhfalaa
