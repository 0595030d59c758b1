/-
  DiskClones, walked: a disk and its clone do not see one another.
-/
import Derived.Test.YtcodnhknlhfalaaAwake
import Derived.Test.YtcodnhknlhfalaaClone
import Derived.Test.YtcodnhknlhfalaaClonesPure
namespace Go.Proofs.Ytcodnhknlhfalaa
open Go.RowKit
set_option linter.unusedSimpArgs false
set_option linter.unusedVariables false
set_option maxHeartbeats 1000000 in
set_option maxRecDepth 100000 in
theorem clones_out (x y at_ after : Int) (w : World) (h : at_ < 0 ∨ 7 < at_ ∨ after < 0 ∨ 20 < after) :
    Calls Try.prog 6 #[.int .u8 x, .int .u8 y, .int .i64 at_, .int .i64 after] w fun e w' => e = .returned (.bool true) ∧ Only [] w w' := by
  have hh : at_ < 0 ∨ (0 ≤ at_ ∧ 7 < at_) ∨ ((0 ≤ at_ ∧ at_ ≤ 7) ∧ after < 0) ∨ ((0 ≤ at_ ∧ at_ ≤ 7) ∧ (0 ≤ after ∧ 20 < after)) := by omega
  clear h
  rcases hh with h | ⟨h, h2⟩ | ⟨⟨h, h2⟩, h3⟩ | ⟨⟨h, h2⟩, h3, h4⟩
  all_goals
    go_enter Try.func6, Try.ntmps6
    go_wp2_with (first
      | (go_at_call 7; refine (awake_any _).mono ?_; rintro e w1 ⟨rfl, ho1⟩; have HO1 := Lib.hid ho1; clear ho1)
      | (go_at_call 8; refine (new_yes 8 (by omega) (by omega) _).mono ?_; rintro e w2 ⟨g, s, rfl, hI0, hg, hs, ho2⟩; have HO2 := Lib.hid ho2; have HI := Lib.hid hI0; clear ho2 hI0))
    go_ret
    exact ⟨rfl, HO1.out.trans HO2.out⟩
set_option maxHeartbeats 8000000 in
set_option maxRecDepth 100000 in
theorem clones_in (x y : Int) (hx0 : 0 ≤ x) (hx1 : x < 256) (hy0 : 0 ≤ y) (hy1 : y < 256) (a n : Nat) (ha : a < 8) (hn : n ≤ 20) (w : World) :
    Calls Try.prog 6 #[.int .u8 x, .int .u8 y, .int .i64 a, .int .i64 n] w fun e w' => e = .returned (.bool true) ∧ Only [] w w' := by
  have ha1 : (0 : Int) ≤ a := by omega
  have ha2 : (a : Int) ≤ 7 := by omega
  have hn1 : (0 : Int) ≤ n := by omega
  have hn2 : (n : Int) ≤ 20 := by omega
  obtain ⟨X, hX⟩ : ∃ X : UInt8, X = UInt8.ofNat x.toNat := ⟨_, rfl⟩
  obtain ⟨Y, hY⟩ : ∃ Y : UInt8, Y = UInt8.ofNat y.toNat := ⟨_, rfl⟩
  have fullX : ∀ w, Calls Try.prog 11 #[.int .u8 x] w fun e w' => ∃ b, e = .returned (.slice (some ⟨b, 0, none⟩) 256 256) ∧ w'.heap[b]? = some (.cells (bcells (sec X)).toArray 5 (0, 0)) ∧ w.heap.size ≤ b ∧ Only [] w w' := by
    intro w; rw [hX]; exact full_int x hx0 hx1 w
  have fullY : ∀ w, Calls Try.prog 11 #[.int .u8 y] w fun e w' => ∃ b, e = .returned (.slice (some ⟨b, 0, none⟩) 256 256) ∧ w'.heap[b]? = some (.cells (bcells (sec Y)).toArray 5 (0, 0)) ∧ w.heap.size ≤ b ∧ Only [] w w' := by
    intro w; rw [hY]; exact full_int y hy0 hy1 w
  have FX := Lib.hid fullX
  have FY := Lib.hid fullY
  clear fullX fullY hX hY
  go_enter Try.func6, Try.ntmps6
  go_wp2_with (first
    | (go_at_call 7; refine (awake_any _).mono ?_; rintro e w1 ⟨rfl, ho1⟩; have HO1 := Lib.hid ho1; clear ho1)
    | (go_at_call 8; refine (new_yes 8 (by omega) (by omega) _).mono ?_; rintro e w2 ⟨g, s, rfl, hI0, hg, hs, ho2⟩; have HO2 := Lib.hid (HO1.out.trans ho2); have HI := Lib.hid hI0; clear ho2 hI0)
    | (go_at_call 11; refine (FX.out _).mono ?_; rintro e w3 ⟨b3, rfl, hb3, hbl3, ho3⟩; have HB3 := Lib.hid hb3; have HI3 := Lib.hid (HI.out.only ho3 (by simp) (by simp)); have HO3 := Lib.hid (HO2.out.trans ho3); clear hb3 ho3))
  have hB1 := HO1.out.size
  have hgW : w.heap.size ≤ g := by omega
  have hsW : w.heap.size ≤ s := by omega
  refine (write_is g s 8 [] (Dk.new 8) _ 0 a _ _ (sec X) _ _ HI3.out (Dk.new_ok 8 (by omega)) (by simp [Dk.new]) HB3.out 256 (sec_length _) (Cls.cl_start a X Y ha)).mono ?_
  rintro e w4 ⟨rfl, hI4, ho4⟩
  have HI4 := Lib.hid hI4
  have HO4 := Lib.hid (HO3.out.then ho4 (by simp; omega))
  clear hI4 ho4 HI HI3 HO3 HB3 HO2
  go_wp2_with fail
  refine (cut_any g s 8 [] _ n _ HI4.out).mono ?_
  rintro e w5 ⟨rfl, hI5, ho5⟩
  have e5 : (⟨Cls.cl a 0 X Y, false, -1, 1⟩ : Dk).cut n = ⟨Cls.cl a 0 X Y, false, (n : Int) - (0 : Nat), 1 + (0 : Nat)⟩ := by
    unfold Dk.cut
    simp only [Dk.mk.injEq, true_and]
    constructor
    · rw [if_neg (by omega)]; omega
    · rfl
  rw [e5] at hI5
  have HI5 := Lib.hid hI5
  have HO5 := Lib.hid (HO4.out.then ho5 (by simp; omega))
  clear hI5 ho5 HI4 HO4 e5
  go_wp2_with fail
  refine (clone_any g s 8 [] _ _ HI5.out (Cls.cl_ok _ _ _ _ _ _ _ (by omega) (by omega) (by omega)) (by simp [Cls.cl_length])).mono ?_
  rintro e w6 ⟨g', s', cp', r', rfl, hI6, hg6, hs6, ho6⟩
  have hgl := heap_lt HI5.out.hd
  have hsl := heap_lt HI5.out.sec
  have HC6 := Lib.hid hI6
  have HI6 := Lib.hid (HI5.out.only ho6 (by simp) (by simp))
  have HO6 := Lib.hid (HO5.out.trans ho6)
  clear hI6 ho6 HI5 HO5
  go_wp2_with (first
    | (go_at_call 23; refine (sectors_any g' s' cp' r' _ _ HC6.out).mono ?_; rintro e w' ⟨rfl, rfl⟩; rw [Cls.cl_length])
    | (go_at_call 14; refine (writes_any g' s' cp' r' _ _ HC6.out).mono ?_; rintro e w' ⟨rfl, rfl⟩))
  go_loopw [13] (fun i wr => ∃ k : Nat, k ≤ n ∧ i = .int .i64 k ∧ Hid (IsDk wr g' s' cp' r' ⟨Cls.cl a k X Y, false, (n : Int) - k, 1 + k⟩) ∧ Hid (IsDk wr g s 8 [] ⟨Cls.cl a 0 X Y, false, (n : Int) - (0 : Nat), 1 + (0 : Nat)⟩) ∧ Hid (Only [] w wr)) (fun i _ => n - (intOf i).toNat)
  case atStart => exact ⟨0, by omega, rfl, HC6, HI6, HO6⟩
  case round =>
    obtain ⟨k, hk, rfl, hC, hI, hO⟩ := hrel
    clear HC6 HI6 HO6
    by_cases hlt : k < n
    · have hlt' : (k : Int) < n := by omega
      have hk0 : (0 : Int) ≤ k := by omega
      go_wp2_with (go_at_call 11; refine (FY.out _).mono ?_; rintro e w7 ⟨b7, rfl, hb7, hbl7, ho7⟩; have HB7 := Lib.hid hb7; have HO7 := Lib.hid ho7; clear hb7 ho7)
      refine (write_is g' s' cp' r' _ _ 0 _ _ _ (sec Y) _ _ (hC.out.only HO7.out (by simp) (by simp)) (Cls.cl_ok _ _ _ _ _ _ _ (by omega) (by omega) (by omega)) (by simp only []; omega) HB7.out 256 (sec_length _) (Cls.cl_step a k n X Y hlt _ (by omega))).mono ?_
      rintro e w8 ⟨rfl, hC8, ho8⟩
      have HC8 := Lib.hid hC8
      have HI8 := Lib.hid ((hI.out.only HO7.out (by simp) (by simp)).only ho8 (by simp; omega) (by simp; omega))
      have HO8 := Lib.hid ((hO.out.trans HO7.out).then ho8 (by simp; omega))
      clear hC8 ho8 hC hI hO HO7 HB7
      go_wp2
      go_roundw
      case rel => exact ⟨k + 1, by omega, by go_num, HC8, HI8, HO8⟩
      case measure => simp [intOf]; omega
    · obtain rfl : k = n := by omega
      go_wp2_with (go_at_call 11; refine (FY.out _).mono ?_; rintro e w7 ⟨b7, rfl, hb7, hbl7, ho7⟩; have HB7 := Lib.hid hb7; have HO7 := Lib.hid ho7; clear hb7 ho7)
      refine (write_is g' s' cp' r' _ _ 6 _ _ _ (sec Y) _ _ (hC.out.only HO7.out (by simp) (by simp)) (Cls.cl_ok _ _ _ _ _ _ _ (by omega) (by omega) (by omega)) (by simp only []; omega) HB7.out 256 (sec_length _) (by rw [Int.sub_self]; exact Cls.dead _ (Cls.cl_length _ _ _ _) _ _ (sec_length _) _ (by omega) (by omega))).mono ?_
      rintro e w8 ⟨rfl, hC8, ho8⟩
      have HC8 := Lib.hid hC8
      have HI8 := Lib.hid ((hI.out.only HO7.out (by simp) (by simp)).only ho8 (by simp; omega) (by simp; omega))
      have HO8 := Lib.hid ((hO.out.trans HO7.out).then ho8 (by simp; omega))
      clear hC8 ho8 hC hI hO HO7 HB7
      go_wp2_with fail
      refine (read_is g s 8 [] _ a a (sec X) _ HI8.out (Cls.cl_ok _ _ _ _ _ _ _ (by omega) (by omega) (by omega)) rfl rfl (by rw [Cls.cl_get _ _ _ _ _ ha]; simp [Cls.has])).mono ?_
      rintro e w9 ⟨p, rfl, hp9, hpl, ho9⟩
      have HP9 := Lib.hid hp9
      have HC9 := Lib.hid (HC8.out.only ho9 (by simp) (by simp))
      have HI9 := Lib.hid (HI8.out.only ho9 (by simp) (by simp))
      have HO9 := Lib.hid (HO8.out.trans ho9)
      clear hp9 ho9 HC8 HI8 HO8
      go_wp2_with fail
      refine grow_start [] ((0, true, true) :: (1, true, true) :: (2, true, true) :: (3, true, true) :: (4, true, true) :: (5, true, true) :: (6, true, true) :: (7, true, false) :: (8, true, false) :: (9, true, true) :: (10, true, true) :: (11, true, true) :: (12, true, true) :: (13, true, true) :: (14, true, true) :: (15, true, true) :: (16, true, true) :: (17, true, true) :: (18, true, true) :: (19, true, true) :: (20, true, false) :: (22, true, false) :: (23, true, false) :: (21, true, true) :: (24, true, true) :: (25, true, true) :: []) (by kernel_rfl) (([], [15], some 98) :: ([0], [98], some 99) :: ([1], [99], some 100) :: ([2], [17, 100], some 101) :: ([3, 2], [101, 100], some 102) :: ([2, 4], [100, 102], some 103) :: ([5, 2], [103], some 104) :: ([6], [16, 104], some 105) :: ([7, 6], [105, 104], some 106) :: ([6], [0, 104], some 107) :: ([9, 6, 6], [107, 104], some 108) :: ([10, 6], [108, 104], some 109) :: ([8, 11, 6], [106, 109, 104], some 110) :: ([6, 12], [104, 110], some 111) :: ([13, 10], [111], some 112) :: ([14], [10, 112], some 113) :: ([15, 14, 14], [113, 112], some 114) :: ([16, 14], [114, 112], some 115) :: ([14, 17], [112, 115], some 116) :: ([18, 16], [116], some 117) :: ([19], [12, 117], some 118) :: ([20, 19, 19], [118, 117], some 119) :: ([19], [3, 117], some 120) :: ([22, 19], [120, 117], some 121) :: ([21, 23, 19], [119, 121, 117], some 122) :: ([19, 24], [117, 122], some 123) :: []) (by kernel_rfl) (by kernel_rfl) (n := 26) rfl (by kernel_rfl) (fun _ _ _ _ _ h => h) (fun wg hog => ?_)
      refine growe_start (N := 172) (by rfl) ?_
      have hcp : ∀ w', Only [] wg w' → (convert 30 9 (.slice (some ⟨p, 0, none⟩) 256 256)).run Try.prog w' = .ok (.string ⟨(sec X).toArray⟩) w' := fun w' h =>
        run_string_row w' 30 9 5 Try.underlying30 Try.underlying5 Try.underlying9 p 256 256 (sec X) _ _ (sec_length _) ((hog.trans h).heap HP9.out (by simp))
      iterate 10 (first
        | (refine ge_off rfl rfl rfl (by rfl) ?_)
        | (refine ge_move rfl rfl rfl (by rfl) rfl (by simp [evE, lk, Act.eval]; rfl) ?_)
        | (refine ge_pick rfl rfl rfl (by rfl) rfl (by simp [evE, lk, Act.eval]; rfl) (by simp [evE, lk, Act.eval]; rfl) ?_)
        | (refine ge_val rfl rfl rfl (by rfl) (by intro w' hw'; simp [execOp, evE, lk, Act.eval]; go_simp; rfl) ?_))
      -- operation 10: Op.call { callee := Callee.value (Operand.func 11), args := #[Operand.tmp 107], argTypes := #[5] }
      refine ge_call rfl rfl rfl (by rfl) rfl (by simp [evE, lk, Act.eval]; rfl) (by go_simp) ?_
      refine (FX.out _).mono ?_
      rintro e wa ⟨b10, rfl, hb10, hbl10, hoa⟩
      have hca : ∀ w', Only [] wa w' → (convert 30 9 (.slice (some ⟨b10, 0, none⟩) 256 256)).run Try.prog w' = .ok (.string ⟨(sec X).toArray⟩) w' := fun w' h =>
        run_string_row w' 30 9 5 Try.underlying30 Try.underlying5 Try.underlying9 b10 256 256 (sec X) _ _ (sec_length _) (h.heap hb10 (by simp))
      have HIa := Lib.hid (HI9.out.only (hog.trans hoa) (by simp) (by simp))
      have HCa := Lib.hid (HC9.out.only (hog.trans hoa) (by simp) (by simp))
      have HOa := Lib.hid (HO9.out.trans (hog.trans hoa))
      refine ⟨_, rfl, hoa, ?_⟩
      clear hcp hog hoa hb10 HP9 HC9 HI9 HO9
      iterate 5 (first
        | (refine ge_off rfl rfl rfl (by rfl) ?_)
        | (refine ge_move rfl rfl rfl (by rfl) rfl (by simp [evE, lk, Act.eval]; rfl) ?_)
        | (refine ge_pick rfl rfl rfl (by rfl) rfl (by simp [evE, lk, Act.eval]; rfl) (by simp [evE, lk, Act.eval]; rfl) ?_)
        | (refine ge_val rfl rfl rfl (by rfl) (by intro w' hw'; simp [execOp, evE, lk, Act.eval]; go_simp; rfl) ?_))
      -- operation 16: Op.call { callee := Callee.value (Operand.func 14), args := #[Operand.tmp 113], argTypes := #[24] }
      refine ge_call rfl rfl rfl (by rfl) rfl (by simp [evE, lk, Act.eval]; rfl) (by go_simp) ?_
      refine (writes_any g s 8 [] _ _ HIa.out).mono ?_
      rintro e w' ⟨he, rfl⟩
      replace he : e = .returned (.int .i64 1) := he
      subst he
      refine ⟨_, rfl, Only.refl _ _, ?_⟩
      iterate 6 (first
        | (refine ge_off rfl rfl rfl (by rfl) ?_)
        | (refine ge_move rfl rfl rfl (by rfl) rfl (by simp [evE, lk, Act.eval]; rfl) ?_)
        | (refine ge_pick rfl rfl rfl (by rfl) rfl (by simp [evE, lk, Act.eval]; rfl) (by simp [evE, lk, Act.eval]; rfl) ?_)
        | (refine ge_val rfl rfl rfl (by rfl) (by intro w' hw'; simp [execOp, evE, lk, Act.eval]; go_simp; rfl) ?_))
      -- operation 21: Op.call { callee := Callee.value (Operand.func 14), args := #[Operand.tmp 118], argTypes := #[24] }
      refine ge_call rfl rfl rfl (by rfl) rfl (by simp [evE, lk, Act.eval]; rfl) (by go_simp) ?_
      refine (writes_any g' s' cp' r' _ _ HCa.out).mono ?_
      rintro e w' ⟨rfl, rfl⟩
      have hwk : IntKind.i64.wrap ((k : Int) + 1) = 1 + (k : Int) := by rw [IntKind.wrap_i64]; omega
      refine ⟨_, rfl, Only.refl _ _, ?_⟩
      iterate 2 (first
        | (refine ge_off rfl rfl rfl (by rfl) ?_)
        | (refine ge_move rfl rfl rfl (by rfl) rfl (by simp [evE, lk, Act.eval]; rfl) ?_)
        | (refine ge_pick rfl rfl rfl (by rfl) rfl (by simp [evE, lk, Act.eval]; rfl) (by simp [evE, lk, Act.eval]; rfl) ?_)
        | (refine ge_val rfl rfl rfl (by rfl) (by intro w' hw'; simp [execOp, evE, lk, Act.eval]; go_simp; rfl) ?_))
      refine ge_done ?_
      simp only [puts, Act.put, List.setIfInBounds_toArray, List.set_cons_zero, List.set_cons_succ]
      rw [show IntKind.i64.wrap ((k : Int) + 1) = (k : Int) + 1 from by rw [IntKind.wrap_i64]; omega]
      clear hca hwk
      go_wp2
      go_loopw [18] (fun i wr => ∃ (m : Nat) (L : List (List UInt8)), m ≤ k ∧ i = .int .i64 m ∧ Hid (L.length = 8 ∧ ∀ b ∈ L, b.length = 256) ∧ Hid (IsDk wr g s 8 [] ⟨L, false, (k : Int) - m, 1 + m⟩) ∧ Hid (IsDk wr g' s' cp' r' ⟨Cls.cl a k X Y, true, 0, 1 + (k : Int)⟩) ∧ Hid (Only [] w wr)) (fun i _ => k - (intOf i).toNat)
      case atStart => exact ⟨0, _, by omega, rfl, ⟨Cls.cl_length _ _ _ _, Cls.cl_secs _ _ _ _⟩, HIa, HCa, HOa⟩
      case round =>
        obtain ⟨m, L, hm, rfl, hL, hI, hC, hO⟩ := hrel
        clear HIa HCa HOa
        by_cases hlt2 : m < k
        · have hlt2' : (m : Int) < k := by omega
          have hm0 : (0 : Int) ≤ m := by omega
          go_wp2_with (go_at_call 11; refine (FX.out _).mono ?_; rintro e w7 ⟨b7, rfl, hb7, hbl7, ho7⟩; have HB7 := Lib.hid hb7; have HO7 := Lib.hid ho7; clear hb7 ho7)
          refine (write_is g s 8 [] _ _ 0 _ _ _ (sec X) _ _ (hI.out.only HO7.out (by simp) (by simp)) ⟨hL.out.2, by rw [hL.out.1]; omega, by simp only []; omega, by simp only []; omega, by simp only []; omega⟩ (by simp only []; omega) HB7.out 256 (sec_length _) (Cls.any_step L hL.out.1 m k (sec X) (sec_length _) hlt2 _ (by omega) (by omega))).mono ?_
          rintro e wb ⟨rfl, hIb, hob⟩
          have HIb := Lib.hid hIb
          have HCb := Lib.hid ((hC.out.only HO7.out (by simp) (by simp)).only hob (by simp; omega) (by simp; omega))
          have HOb := Lib.hid ((hO.out.trans HO7.out).then hob (by simp; omega))
          clear hIb hob hC hI hO HO7 HB7
          go_wp2
          go_roundw
          case rel =>
            refine ⟨m + 1, _, by omega, by go_num, ⟨?_, ?_⟩, HIb, HCb, HOb⟩
            · rw [List.length_set]; exact hL.out.1
            · intro b hb
              rcases List.mem_or_eq_of_mem_set hb with hb | rfl
              · exact hL.out.2 b hb
              · exact sec_length _
          case measure => simp [intOf]; omega
        · obtain rfl : m = k := by omega
          go_wp2_with (go_at_call 11; refine (FX.out _).mono ?_; rintro e w7 ⟨b7, rfl, hb7, hbl7, ho7⟩; have HB7 := Lib.hid hb7; have HO7 := Lib.hid ho7; clear hb7 ho7)
          refine (write_is g s 8 [] _ _ 6 _ _ _ (sec X) _ _ (hI.out.only HO7.out (by simp) (by simp)) ⟨hL.out.2, by rw [hL.out.1]; omega, by simp only []; omega, by simp only []; omega, by simp only []; omega⟩ (by simp only []; omega) HB7.out 256 (sec_length _) (by rw [Int.sub_self]; exact Cls.dead _ hL.out.1 _ _ (sec_length _) _ (by omega) (by omega))).mono ?_
          rintro e wb ⟨rfl, hIb, hob⟩
          have HCb := Lib.hid ((hC.out.only HO7.out (by simp) (by simp)).only hob (by simp; omega) (by simp; omega))
          have HOb := Lib.hid ((hO.out.trans HO7.out).then hob (by simp; omega))
          clear hIb hob hC hI hO HO7 HB7 hL
          go_wp2_with fail
          refine (up_any g' s' cp' r' _ _ HCb.out).mono ?_
          rintro e wc ⟨rfl, hCc, hoc⟩
          have HCc := Lib.hid (show IsDk wc g' s' cp' r' ⟨Cls.cl a m X Y, false, -1, 1 + (m : Int)⟩ from hCc)
          have HOc := Lib.hid (HOb.out.then hoc (by simp; omega))
          clear hCc hoc HCb HOb
          go_wp2_with fail
          go_loopw [19] (fun i wr => ∃ j : Nat, j ≤ 8 ∧ i = .int .i64 j ∧ Hid (IsDk wr g' s' cp' r' ⟨Cls.cl a m X Y, false, -1, 1 + (m : Int)⟩) ∧ Hid (Only [] w wr)) (fun i _ => 8 - (intOf i).toNat)
          case atStart => exact ⟨0, by omega, rfl, HCc, HOc⟩
          case round =>
            obtain ⟨j, hj, rfl, hC, hO⟩ := hrel
            clear HCc HOc
            by_cases hlt3 : j < 8
            · have hlt3' : (j : Int) < 8 := by omega
              have hj0 : (0 : Int) ≤ j := by omega
              go_wp2_with fail
              refine (read_is g' s' cp' r' _ j j (sec (Cls.has a m X Y j)) _ hC.out (Cls.cl_ok _ _ _ _ _ _ _ (by omega) (by omega) (by omega)) rfl rfl (Cls.cl_get _ _ _ _ _ hlt3)).mono ?_
              rintro e we ⟨p2, rfl, hp, hpl2, hoe⟩
              have HP := Lib.hid hp
              have HCe := Lib.hid (hC.out.only hoe (by simp) (by simp))
              have HOe := Lib.hid (hO.out.trans hoe)
              clear hp hoe hC hO
              have hcs : (∃ _ : ((j : Int) == a) = true ∧ (m : Int) ≤ j, Cls.has a m X Y j = X) ∨ (∃ _ : ((j : Int) == a) = true ∧ (j : Int) < m, Cls.has a m X Y j = Y) ∨
                  (∃ _ : ((j : Int) == a) = false ∧ (j : Int) < m, Cls.has a m X Y j = Y) ∨ (∃ _ : ((j : Int) == a) = false ∧ (m : Int) ≤ j, Cls.has a m X Y j = 0) := by
                unfold Cls.has
                by_cases h1 : j < m
                · rw [if_pos h1]
                  by_cases h2 : j = a
                  · exact .inr (.inl ⟨⟨by simp [h2], by omega⟩, rfl⟩)
                  · exact .inr (.inr (.inl ⟨⟨by simpa using fun h => h2 (by omega), by omega⟩, rfl⟩))
                · rw [if_neg h1]
                  by_cases h2 : j = a
                  · rw [if_pos h2]; exact .inl ⟨⟨by simp [h2], by omega⟩, rfl⟩
                  · rw [if_neg h2]; exact .inr (.inr (.inr ⟨⟨by simpa using fun h => h2 (by omega), by omega⟩, rfl⟩))
              rcases hcs with ⟨⟨hja, hjm⟩, hh⟩ | ⟨⟨hja, hjm⟩, hh⟩ | ⟨⟨hja, hjm⟩, hh⟩ | ⟨⟨hja, hjm⟩, hh⟩
              · have FW := Lib.hid (fun w => (FX.out w).mono fun e w' h => by rw [← hh] at h; exact h)
                clear hh
                go_wp2_with fail
                refine grow_start [] ((0, true, true) :: (1, true, true) :: (2, true, true) :: (3, true, false) :: (4, true, false) :: (5, true, true) :: (6, true, true) :: (7, true, true) :: (8, true, true) :: (9, true, true) :: []) (by kernel_rfl) (([], [21], some 160) :: ([0], [160], some 161) :: ([1], [161], some 162) :: ([2], [20, 162], some 163) :: ([3, 2], [163, 162], some 164) :: ([2], [22, 162], some 165) :: ([5, 2, 2], [165, 162], some 166) :: ([6, 2], [166, 162], some 167) :: ([4, 7, 2], [164, 167, 162], some 168) :: ([2, 8], [162, 168], some 169) :: []) (by kernel_rfl) (by kernel_rfl) (n := 10) rfl (by kernel_rfl) (fun _ _ _ _ _ h => h) (fun wg hog => ?_)
                refine growe_start (N := 172) (by rfl) ?_
                have hcp : ∀ w', Only [] wg w' → (convert 30 9 (.slice (some ⟨p2, 0, none⟩) 256 256)).run Try.prog w' = .ok (.string ⟨(sec (Cls.has a m X Y j)).toArray⟩) w' := fun w' h =>
                  run_string_row w' 30 9 5 Try.underlying30 Try.underlying5 Try.underlying9 p2 256 256 (sec (Cls.has a m X Y j)) _ _ (sec_length _) ((hog.trans h).heap HP.out (by simp))
                iterate 6 (first
                  | (refine ge_off rfl rfl rfl (by rfl) ?_)
                  | (refine ge_move rfl rfl rfl (by rfl) rfl (by simp [evE, lk, Act.eval]; rfl) ?_)
                  | (refine ge_pick rfl rfl rfl (by rfl) rfl (by simp [evE, lk, Act.eval]; rfl) (by simp [evE, lk, Act.eval]; rfl) ?_)
                  | (refine ge_val rfl rfl rfl (by rfl) (by intro w' hw'; simp [execOp, evE, lk, Act.eval]; go_simp; rfl) ?_))
                -- operation 6: Op.call { callee := Callee.value (Operand.func 11), args := #[Operand.tmp 165], argTypes := #[5] }
                refine ge_call rfl rfl rfl (by rfl) rfl (by simp [evE, lk, Act.eval]; rfl) (by go_simp) ?_
                refine (FW.out _).mono ?_
                rintro e wa ⟨b11, rfl, hb11, hbl11, hoa⟩
                have hca : ∀ w', Only [] wa w' → (convert 30 9 (.slice (some ⟨b11, 0, none⟩) 256 256)).run Try.prog w' = .ok (.string ⟨(sec (Cls.has a m X Y j)).toArray⟩) w' := fun w' h =>
                  run_string_row w' 30 9 5 Try.underlying30 Try.underlying5 Try.underlying9 b11 256 256 (sec (Cls.has a m X Y j)) _ _ (sec_length _) (h.heap hb11 (by simp))
                have HCf := Lib.hid (HCe.out.only (hog.trans hoa) (by simp) (by simp))
                have HOf := Lib.hid (HOe.out.trans (hog.trans hoa))
                refine ⟨_, rfl, hoa, ?_⟩
                clear hcp hog hoa hb11 HP HCe HOe FW
                iterate 3 (first
                  | (refine ge_off rfl rfl rfl (by rfl) ?_)
                  | (refine ge_move rfl rfl rfl (by rfl) rfl (by simp [evE, lk, Act.eval]; rfl) ?_)
                  | (refine ge_pick rfl rfl rfl (by rfl) rfl (by simp [evE, lk, Act.eval]; rfl) (by simp [evE, lk, Act.eval]; rfl) ?_)
                  | (refine ge_val rfl rfl rfl (by rfl) (by intro w' hw'; simp [execOp, evE, lk, Act.eval]; go_simp; rfl) ?_))
                refine ge_done ?_
                simp only [puts, Act.put, List.setIfInBounds_toArray, List.set_cons_zero, List.set_cons_succ]
                go_wp2
                go_roundw
                case rel => exact ⟨j + 1, by omega, by go_num, HCf, HOf⟩
                case measure => simp [intOf]; omega
              · have FW := Lib.hid (fun w => (FY.out w).mono fun e w' h => by rw [← hh] at h; exact h)
                clear hh
                go_wp2_with fail
                refine grow_start [] ((0, true, true) :: (1, true, true) :: (2, true, true) :: (3, true, false) :: (4, true, false) :: (5, true, true) :: (6, true, true) :: (7, true, true) :: (8, true, true) :: (9, true, true) :: []) (by kernel_rfl) (([], [21], some 160) :: ([0], [160], some 161) :: ([1], [161], some 162) :: ([2], [20, 162], some 163) :: ([3, 2], [163, 162], some 164) :: ([2], [22, 162], some 165) :: ([5, 2, 2], [165, 162], some 166) :: ([6, 2], [166, 162], some 167) :: ([4, 7, 2], [164, 167, 162], some 168) :: ([2, 8], [162, 168], some 169) :: []) (by kernel_rfl) (by kernel_rfl) (n := 10) rfl (by kernel_rfl) (fun _ _ _ _ _ h => h) (fun wg hog => ?_)
                refine growe_start (N := 172) (by rfl) ?_
                have hcp : ∀ w', Only [] wg w' → (convert 30 9 (.slice (some ⟨p2, 0, none⟩) 256 256)).run Try.prog w' = .ok (.string ⟨(sec (Cls.has a m X Y j)).toArray⟩) w' := fun w' h =>
                  run_string_row w' 30 9 5 Try.underlying30 Try.underlying5 Try.underlying9 p2 256 256 (sec (Cls.has a m X Y j)) _ _ (sec_length _) ((hog.trans h).heap HP.out (by simp))
                iterate 6 (first
                  | (refine ge_off rfl rfl rfl (by rfl) ?_)
                  | (refine ge_move rfl rfl rfl (by rfl) rfl (by simp [evE, lk, Act.eval]; rfl) ?_)
                  | (refine ge_pick rfl rfl rfl (by rfl) rfl (by simp [evE, lk, Act.eval]; rfl) (by simp [evE, lk, Act.eval]; rfl) ?_)
                  | (refine ge_val rfl rfl rfl (by rfl) (by intro w' hw'; simp [execOp, evE, lk, Act.eval]; go_simp; rfl) ?_))
                -- operation 6: Op.call { callee := Callee.value (Operand.func 11), args := #[Operand.tmp 165], argTypes := #[5] }
                refine ge_call rfl rfl rfl (by rfl) rfl (by simp [evE, lk, Act.eval]; rfl) (by go_simp) ?_
                refine (FW.out _).mono ?_
                rintro e wa ⟨b11, rfl, hb11, hbl11, hoa⟩
                have hca : ∀ w', Only [] wa w' → (convert 30 9 (.slice (some ⟨b11, 0, none⟩) 256 256)).run Try.prog w' = .ok (.string ⟨(sec (Cls.has a m X Y j)).toArray⟩) w' := fun w' h =>
                  run_string_row w' 30 9 5 Try.underlying30 Try.underlying5 Try.underlying9 b11 256 256 (sec (Cls.has a m X Y j)) _ _ (sec_length _) (h.heap hb11 (by simp))
                have HCf := Lib.hid (HCe.out.only (hog.trans hoa) (by simp) (by simp))
                have HOf := Lib.hid (HOe.out.trans (hog.trans hoa))
                refine ⟨_, rfl, hoa, ?_⟩
                clear hcp hog hoa hb11 HP HCe HOe FW
                iterate 3 (first
                  | (refine ge_off rfl rfl rfl (by rfl) ?_)
                  | (refine ge_move rfl rfl rfl (by rfl) rfl (by simp [evE, lk, Act.eval]; rfl) ?_)
                  | (refine ge_pick rfl rfl rfl (by rfl) rfl (by simp [evE, lk, Act.eval]; rfl) (by simp [evE, lk, Act.eval]; rfl) ?_)
                  | (refine ge_val rfl rfl rfl (by rfl) (by intro w' hw'; simp [execOp, evE, lk, Act.eval]; go_simp; rfl) ?_))
                refine ge_done ?_
                simp only [puts, Act.put, List.setIfInBounds_toArray, List.set_cons_zero, List.set_cons_succ]
                go_wp2
                go_roundw
                case rel => exact ⟨j + 1, by omega, by go_num, HCf, HOf⟩
                case measure => simp [intOf]; omega
              · have FW := Lib.hid (fun w => (FY.out w).mono fun e w' h => by rw [← hh] at h; exact h)
                clear hh
                go_wp2_with fail
                refine grow_start [] ((0, true, true) :: (1, true, true) :: (2, true, true) :: (3, true, false) :: (4, true, false) :: (5, true, true) :: (6, true, true) :: (7, true, true) :: (8, true, true) :: (9, true, true) :: []) (by kernel_rfl) (([], [21], some 160) :: ([0], [160], some 161) :: ([1], [161], some 162) :: ([2], [20, 162], some 163) :: ([3, 2], [163, 162], some 164) :: ([2], [22, 162], some 165) :: ([5, 2, 2], [165, 162], some 166) :: ([6, 2], [166, 162], some 167) :: ([4, 7, 2], [164, 167, 162], some 168) :: ([2, 8], [162, 168], some 169) :: []) (by kernel_rfl) (by kernel_rfl) (n := 10) rfl (by kernel_rfl) (fun _ _ _ _ _ h => h) (fun wg hog => ?_)
                refine growe_start (N := 172) (by rfl) ?_
                have hcp : ∀ w', Only [] wg w' → (convert 30 9 (.slice (some ⟨p2, 0, none⟩) 256 256)).run Try.prog w' = .ok (.string ⟨(sec (Cls.has a m X Y j)).toArray⟩) w' := fun w' h =>
                  run_string_row w' 30 9 5 Try.underlying30 Try.underlying5 Try.underlying9 p2 256 256 (sec (Cls.has a m X Y j)) _ _ (sec_length _) ((hog.trans h).heap HP.out (by simp))
                iterate 6 (first
                  | (refine ge_off rfl rfl rfl (by rfl) ?_)
                  | (refine ge_move rfl rfl rfl (by rfl) rfl (by simp [evE, lk, Act.eval]; rfl) ?_)
                  | (refine ge_pick rfl rfl rfl (by rfl) rfl (by simp [evE, lk, Act.eval]; rfl) (by simp [evE, lk, Act.eval]; rfl) ?_)
                  | (refine ge_val rfl rfl rfl (by rfl) (by intro w' hw'; simp [execOp, evE, lk, Act.eval]; go_simp; rfl) ?_))
                -- operation 6: Op.call { callee := Callee.value (Operand.func 11), args := #[Operand.tmp 165], argTypes := #[5] }
                refine ge_call rfl rfl rfl (by rfl) rfl (by simp [evE, lk, Act.eval]; rfl) (by go_simp) ?_
                refine (FW.out _).mono ?_
                rintro e wa ⟨b11, rfl, hb11, hbl11, hoa⟩
                have hca : ∀ w', Only [] wa w' → (convert 30 9 (.slice (some ⟨b11, 0, none⟩) 256 256)).run Try.prog w' = .ok (.string ⟨(sec (Cls.has a m X Y j)).toArray⟩) w' := fun w' h =>
                  run_string_row w' 30 9 5 Try.underlying30 Try.underlying5 Try.underlying9 b11 256 256 (sec (Cls.has a m X Y j)) _ _ (sec_length _) (h.heap hb11 (by simp))
                have HCf := Lib.hid (HCe.out.only (hog.trans hoa) (by simp) (by simp))
                have HOf := Lib.hid (HOe.out.trans (hog.trans hoa))
                refine ⟨_, rfl, hoa, ?_⟩
                clear hcp hog hoa hb11 HP HCe HOe FW
                iterate 3 (first
                  | (refine ge_off rfl rfl rfl (by rfl) ?_)
                  | (refine ge_move rfl rfl rfl (by rfl) rfl (by simp [evE, lk, Act.eval]; rfl) ?_)
                  | (refine ge_pick rfl rfl rfl (by rfl) rfl (by simp [evE, lk, Act.eval]; rfl) (by simp [evE, lk, Act.eval]; rfl) ?_)
                  | (refine ge_val rfl rfl rfl (by rfl) (by intro w' hw'; simp [execOp, evE, lk, Act.eval]; go_simp; rfl) ?_))
                refine ge_done ?_
                simp only [puts, Act.put, List.setIfInBounds_toArray, List.set_cons_zero, List.set_cons_succ]
                go_wp2
                go_roundw
                case rel => exact ⟨j + 1, by omega, by go_num, HCf, HOf⟩
                case measure => simp [intOf]; omega
              · have FW := Lib.hid (fun w => (full_int 0 (by omega) (by omega) w).mono fun e w' h => by
                  have e0 : UInt8.ofNat (Int.toNat 0) = Cls.has a m X Y j := by rw [hh]; rfl
                  rw [e0] at h
                  exact h)
                clear hh
                go_wp2_with fail
                refine grow_start [] ((0, true, true) :: (1, true, true) :: (2, true, true) :: (3, true, false) :: (4, true, false) :: (5, true, true) :: (6, true, true) :: (7, true, true) :: (8, true, true) :: (9, true, true) :: []) (by kernel_rfl) (([], [21], some 160) :: ([0], [160], some 161) :: ([1], [161], some 162) :: ([2], [20, 162], some 163) :: ([3, 2], [163, 162], some 164) :: ([2], [22, 162], some 165) :: ([5, 2, 2], [165, 162], some 166) :: ([6, 2], [166, 162], some 167) :: ([4, 7, 2], [164, 167, 162], some 168) :: ([2, 8], [162, 168], some 169) :: []) (by kernel_rfl) (by kernel_rfl) (n := 10) rfl (by kernel_rfl) (fun _ _ _ _ _ h => h) (fun wg hog => ?_)
                refine growe_start (N := 172) (by rfl) ?_
                have hcp : ∀ w', Only [] wg w' → (convert 30 9 (.slice (some ⟨p2, 0, none⟩) 256 256)).run Try.prog w' = .ok (.string ⟨(sec (Cls.has a m X Y j)).toArray⟩) w' := fun w' h =>
                  run_string_row w' 30 9 5 Try.underlying30 Try.underlying5 Try.underlying9 p2 256 256 (sec (Cls.has a m X Y j)) _ _ (sec_length _) ((hog.trans h).heap HP.out (by simp))
                iterate 6 (first
                  | (refine ge_off rfl rfl rfl (by rfl) ?_)
                  | (refine ge_move rfl rfl rfl (by rfl) rfl (by simp [evE, lk, Act.eval]; rfl) ?_)
                  | (refine ge_pick rfl rfl rfl (by rfl) rfl (by simp [evE, lk, Act.eval]; rfl) (by simp [evE, lk, Act.eval]; rfl) ?_)
                  | (refine ge_val rfl rfl rfl (by rfl) (by intro w' hw'; simp [execOp, evE, lk, Act.eval]; go_simp; rfl) ?_))
                -- operation 6: Op.call { callee := Callee.value (Operand.func 11), args := #[Operand.tmp 165], argTypes := #[5] }
                refine ge_call rfl rfl rfl (by rfl) rfl (by simp [evE, lk, Act.eval]; rfl) (by go_simp) ?_
                refine (FW.out _).mono ?_
                rintro e wa ⟨b11, rfl, hb11, hbl11, hoa⟩
                have hca : ∀ w', Only [] wa w' → (convert 30 9 (.slice (some ⟨b11, 0, none⟩) 256 256)).run Try.prog w' = .ok (.string ⟨(sec (Cls.has a m X Y j)).toArray⟩) w' := fun w' h =>
                  run_string_row w' 30 9 5 Try.underlying30 Try.underlying5 Try.underlying9 b11 256 256 (sec (Cls.has a m X Y j)) _ _ (sec_length _) (h.heap hb11 (by simp))
                have HCf := Lib.hid (HCe.out.only (hog.trans hoa) (by simp) (by simp))
                have HOf := Lib.hid (HOe.out.trans (hog.trans hoa))
                refine ⟨_, rfl, hoa, ?_⟩
                clear hcp hog hoa hb11 HP HCe HOe FW
                iterate 3 (first
                  | (refine ge_off rfl rfl rfl (by rfl) ?_)
                  | (refine ge_move rfl rfl rfl (by rfl) rfl (by simp [evE, lk, Act.eval]; rfl) ?_)
                  | (refine ge_pick rfl rfl rfl (by rfl) rfl (by simp [evE, lk, Act.eval]; rfl) (by simp [evE, lk, Act.eval]; rfl) ?_)
                  | (refine ge_val rfl rfl rfl (by rfl) (by intro w' hw'; simp [execOp, evE, lk, Act.eval]; go_simp; rfl) ?_))
                refine ge_done ?_
                simp only [puts, Act.put, List.setIfInBounds_toArray, List.set_cons_zero, List.set_cons_succ]
                go_wp2
                go_roundw
                case rel => exact ⟨j + 1, by omega, by go_num, HCf, HOf⟩
                case measure => simp [intOf]; omega
            · obtain rfl : j = 8 := by omega
              go_wp2
              go_ret
              exact ⟨rfl, hO.out⟩
/-- The walk at whatever input. -/
theorem diskClones_walk (a0 a1 a2 a3 : Int) (w : World) (w0 : (Lit.int .u8 a0).wf = true) (w1 : (Lit.int .u8 a1).wf = true) (w2 : (Lit.int .i64 a2).wf = true) (w3 : (Lit.int .i64 a3).wf = true) :
    Calls Try.prog 6 #[.int .u8 a0, .int .u8 a1, .int .i64 a2, .int .i64 a3] w fun e w' => e = .returned (.bool true) ∧ Only [] w w' := by
  have hx := wf_u8 w0
  have hy := wf_u8 w1
  by_cases h : a2 < 0 ∨ 7 < a2 ∨ a3 < 0 ∨ 20 < a3
  · exact clones_out a0 a1 a2 a3 w h
  · have := clones_in a0 a1 hx.1 hx.2 hy.1 hy.2 a2.toNat a3.toNat (by omega) (by omega) w
    rw [show ((a2.toNat : Nat) : Int) = a2 by omega, show ((a3.toNat : Nat) : Int) = a3 by omega] at this
    exact this
end Go.Proofs.Ytcodnhknlhfalaa
