import Derived.Test.YtgmcmhlomfeldaaAn1
set_option linter.unusedVariables false
set_option linter.unusedSimpArgs false
namespace Go.Proofs.YtgmcmhlomfeldaaW.PrintWords
end Go.Proofs.YtgmcmhlomfeldaaW.PrintWords
namespace Go.Proofs.YtgmcmhlomfeldaaW.PrintLast
end Go.Proofs.YtgmcmhlomfeldaaW.PrintLast
namespace Go.Proofs.YtgmcmhlomfeldaaW.PrintMore
end Go.Proofs.YtgmcmhlomfeldaaW.PrintMore
/-! ### Print3 -/
namespace Go.Proofs.Ytgmcmhlomfeldaa.Print
open Go.RowKit Go.Proofs.YtgmcmhlomfeldaaW.PrintWords Go.Proofs.YtgmcmhlomfeldaaW.PrintLast Go.Proofs.YtgmcmhlomfeldaaW.PrintMore
set_option linter.unusedVariables false
set_option linter.unusedSimpArgs false
mutual
def arb_Right.j0 : Nat → Bool → List Int → List (S37) → Int → Option (Bool)
  | 0, _, _, _, _ => none
  | k + 1, x23, x128000, x128001, x128002 => if x23 = true then (some false) else (arb_Right.l0 k x128000 (x128000.length : Int) 0 x128000 x128001 x128002)
def arb_Right.l0 : Nat → List Int → Int → Int → List Int → List (S37) → Int → Option (Bool)
  | 0, _, _, _, _, _, _ => none
  | k + 1, x25, x26, x27, x128000, x128001, x128002 => if x27 < x26 then (if 0 ≤ x27 then (if x27 < (x25.length : Int) then (if (rd x25 x27) = 0 then (arb_Right.l0 k x25 x26 (wrap64 (x27 + 1)) x128000 x128001 x128002) else ((arb_batch.f (rd x25 x27)).bind fun t130 => (if t130 = true then (arb_Right.l0 k x25 x26 (wrap64 (x27 + 1)) x128000 x128001 x128002) else (some false)))) else (none)) else (none)) else (arb_Right.l1 k 0 x128001 (x128001.length : Int) 0 x128000 x128001 x128002)
def arb_Right.l1 : Nat → Int → List (S37) → Int → Int → List Int → List (S37) → Int → Option (Bool)
  | 0, _, _, _, _, _, _, _ => none
  | k + 1, x5, x40, x41, x42, x128000, x128001, x128002 => if x42 < x41 then (if 0 ≤ x42 then (if x42 < (x40.length : Int) then (if ((rd_T37 x40 x42).f3) ≤ x5 then (arb_Right.j3 k x42 x40 x41 x42 true x128000 x128001 x128002 ((rd_T37 x40 x42).f0) ((rd_T37 x40 x42).f1) ((rd_T37 x40 x42).f2) ((rd_T37 x40 x42).f3)) else (if ((rd_T37 x40 x42).f3) ≥ x128002 then (arb_Right.j3 k x42 x40 x41 x42 true x128000 x128001 x128002 ((rd_T37 x40 x42).f0) ((rd_T37 x40 x42).f1) ((rd_T37 x40 x42).f2) ((rd_T37 x40 x42).f3)) else ((arb_batch.f ((rd_T37 x40 x42).f0)).bind fun t133 => (if t133 = true then (if ((rd_T37 x40 x42).f1) < 0 then (arb_Right.j3 k x42 x40 x41 x42 true x128000 x128001 x128002 ((rd_T37 x40 x42).f0) ((rd_T37 x40 x42).f1) ((rd_T37 x40 x42).f2) ((rd_T37 x40 x42).f3)) else (if ((rd_T37 x40 x42).f1) ≥ 24 then (arb_Right.j3 k x42 x40 x41 x42 true x128000 x128001 x128002 ((rd_T37 x40 x42).f0) ((rd_T37 x40 x42).f1) ((rd_T37 x40 x42).f2) ((rd_T37 x40 x42).f3)) else ((arb_rising.f k ((rd_T37 x40 x42).f2) (x128000.length : Int)).bind fun t134 => (arb_Right.j3 k x42 x40 x41 x42 (!t134) x128000 x128001 x128002 ((rd_T37 x40 x42).f0) ((rd_T37 x40 x42).f1) ((rd_T37 x40 x42).f2) ((rd_T37 x40 x42).f3))))) else (arb_Right.j3 k x42 x40 x41 x42 true x128000 x128001 x128002 ((rd_T37 x40 x42).f0) ((rd_T37 x40 x42).f1) ((rd_T37 x40 x42).f2) ((rd_T37 x40 x42).f3)))))) else (none)) else (none)) else (some true)
def arb_Right.j3 : Nat → Int → List (S37) → Int → Int → Bool → List Int → List (S37) → Int → Int → Int → List Int → Int → Option (Bool)
  | 0, _, _, _, _, _, _, _, _, _, _, _, _ => none
  | k + 1, x6, x40, x41, x42, x82, x128000, x128001, x128002, x133000, x133001, x133002, x133003 => if x82 = true then (some false) else (if 0 < (x133002.length : Int) then ((arb_above.f k x128000 x133000 (rd x133002 0)).bind fun t136 => (if t136 = true then (some false) else (if 0 ≤ x6 then (if x6 ≤ (x128001.length : Int) then ((arb_waits.f (x128001.take (x6 : Int).toNat) x133000).bind fun t141 => (if t141 ≥ 0 then (some false) else (arb_Right.l1 k x133003 x40 x41 (wrap64 (x42 + 1)) x128000 x128001 x128002))) else (none)) else (none)))) else (none))
end
def arb_Right.f (k : Nat) (l0_0 : List Int) (l0_1 : List (S37)) (a0_2 : Int) : Option (Bool) := if (l0_0.length : Int) < 1 then (arb_Right.j0 k true l0_0 l0_1 a0_2) else (if (l0_0.length : Int) > 5 then (arb_Right.j0 k true l0_0 l0_1 a0_2) else ((arb_batch.f a0_2).bind fun t128 => (arb_Right.j0 k (!t128) l0_0 l0_1 a0_2)))
def arb_Right.T15 : Bool × List (List Nat × List Nat) := (true, [([], []), ([0], [0]), ([], []), ([2], [2]), ([], []), ([4], [4]), ([5], [5]), ([6], [6]), ([1, 3, 7], [1, 3, 7]), ([8, 8], [8]), ([9], [9]), ([10, 9], [9, 10]), ([9], [9]), ([11, 12, 9], [9, 11, 12]), ([9], [9]), ([14, 9], [9, 14]), ([13, 15, 9, 9], [9, 13, 15]), ([16, 9], [9, 16]), ([9, 17], [9, 17])])
def arb_Right.B15 : List Nat := [0, 1, 0, 4, 0, 16, 48, 112, 255, 511, 1023, 2047, 1023, 8191, 1023, 17407, 65535, 131071, 262143]
theorem arb_Right.tab15 : rtab .any (opsOf Try.f13 15) = arb_Right.T15 := by kernel_rfl
theorem arb_Right.bits15 : waitsOk arb_Right.T15.2 arb_Right.B15 = true := by kernel_rfl
set_option maxHeartbeats 8000000 in
set_option maxRecDepth 100000 in
theorem arb_Right.calls (k : Nat) (A0_0 : Option Addr) (c0_0 : Nat) (l0_0 : List Int) (A0_1 : Option Addr) (c0_1 : Nat) (l0_1 : List (S37)) (a0_2 : Int) (r : Bool) (w : World) (hr0_0 : Kd.C (Kd.int .i64) w A0_0 l0_0.length l0_0) (hc0_0 : l0_0.length ≤ c0_0) (hr0_1 : Kd.C k37 w A0_1 l0_1.length l0_1) (hc0_1 : l0_1.length ≤ c0_1) (h : arb_Right.f k l0_0 l0_1 a0_2 = some r) :
    Calls Try.prog 13 #[.agg #[.slice A0_0 l0_0.length c0_0, .slice A0_1 l0_1.length c0_1, .int .i64 a0_2]] w fun e w' => e = .returned (.bool r) ∧ Below w.heap.size w w' := by
  have hu26 := Try.underlying26
  have hu37 := Try.underlying37
  have HR0_0 := Aside0.mk hr0_0
  have HC0_0 := Aside0.mk hc0_0
  clear hr0_0 hc0_0
  have HR0_1 := Aside0.mk hr0_1
  have HC0_1 := Aside0.mk hc0_1
  clear hr0_1 hc0_1
  have HB := Aside0.mk (Below.refl w.heap.size w)
  have H : (if (l0_0.length : Int) < 1 then (arb_Right.j0 k true l0_0 l0_1 a0_2) else (if (l0_0.length : Int) > 5 then (arb_Right.j0 k true l0_0 l0_1 a0_2) else ((arb_batch.f a0_2).bind fun t128 => (arb_Right.j0 k (!t128) l0_0 l0_1 a0_2)))) = some r := h
  clear h
  have HC2 := Aside0.mk H
  clear H
  go_enter Try.func13, Try.ntmps13
  go_upto_region 1 with (first | ((with_reducible refine gate_dst (N := 1) rfl ?_); (try (refine gate_guard (by rfl) ?_; dsimp only)); refine box_event ?hg (N := 1) ?hd (cs := #[.slice A0_0 l0_0.length c0_0, .slice A0_1 l0_1.length c0_1, .int .i64 a0_2]) (t := 26) ?hr ?_; (case hd => rfl); (case hg => rfl); (case hr => first | (go_simp; done) | (go_simp; rfl)); intro gb127 hg w3 hbox hb; have n0_ := Aside0.mk (below_step (by repeat (first | (with_reducible first | exact HB.out | apply below_alloc | apply pw_below_drewN | apply below_drew1) | exact HB.out)) hb); have n1_ := Aside0.mk (hbox); have n2_ := Aside0.mk ((by rw [hg]; exact (below_size (by repeat (first | (with_reducible first | exact HB.out | apply below_alloc | apply pw_below_drewN | apply below_drew1) | exact HB.out))) : w.heap.size ≤ gb127)); have n3_ := Aside0.mk ((by rw [hg]; exact (below_size (by repeat (first | (with_reducible first | exact HB.out | apply below_alloc | apply pw_below_drewN | apply below_drew1) | exact HB.out))) : w.heap.size ≤ gb127)); clear HB; have HB := n0_; have BK127 := n1_; have GW127 := n2_; have GE127 := n3_; clear n0_ n1_ n2_ n3_; clear hb hbox hg))
  (try simp only [Act.put, List.setIfInBounds_toArray, List.set_cons_zero, List.set_cons_succ])
  go_cut [23] (fun v23 wc => ∃ (kq : Nat) (x23_1 : Bool), v23 = .bool x23_1 ∧ Aside0 (arb_Right.j0 kq x23_1 l0_0 l0_1 a0_2 = some r) ∧ Aside0 (kq ≤ k) ∧ Aside0 (wc.heap[gb127]? = some (.cells #[(.slice A0_0 l0_0.length c0_0), (.slice A0_1 l0_1.length c0_1), .int .i64 a0_2] 26 (0, 0))) ∧ Aside0 (Below w.heap.size w wc))
  case first =>
    have H := HC2.out
    clear HC2
    by_cases c4 : (l0_0.length : Int) < 1
    · rw [if_pos c4] at H
      have c4b0 : decide ((l0_0.length : Int) < 1) = true := decide_eq_true c4
      have c4b1 : decide (l0_0.length < 1) = true := decide_eq_true (by omega)
      clear c4
      (first | rw [c4b0] | (simp only [i64_w, i32_w]; rw [c4b0]) | skip)
      have H' := Aside0.mk H
      clear H
      have hcz5_0 : w3.cell? ⟨gb127, 0, none⟩ = some (.slice A0_0 l0_0.length c0_0) := (blk_cell BK127.out 0).trans rfl
      have hcz5_1 : w3.cell? ⟨gb127, 1, none⟩ = some (.slice A0_1 l0_1.length c0_1) := (blk_cell BK127.out 1).trans rfl
      have hcz5_2 : w3.cell? ⟨gb127, 2, none⟩ = some (.int .i64 a0_2) := (blk_cell BK127.out 2).trans rfl
      have hfz5_0 := blk_frozen BK127.out 0
      have hfz5_1 := blk_frozen BK127.out 1
      have hfz5_2 := blk_frozen BK127.out 2
      go_wp2
      go_meet
      case rel => exact ⟨_, (true), (by first | rfl | (simp; done) | (simp [*]; done)), H', ⟨by first | omega | exact Nat.le_refl _⟩, ⟨by (with_reducible repeat (first | refine blk_drewN ?_ _ | refine blk_drew ?_ | refine blk_alloc ?_ _)); exact BK127.out⟩, ⟨by repeat (first | (with_reducible first | exact HB.out | apply below_alloc | apply pw_below_drewN | apply below_drew1 | refine below_set ?_ GE127.out) | exact HB.out)⟩⟩
    · rw [if_neg c4] at H
      have c4b0 : decide ((l0_0.length : Int) < 1) = false := decide_eq_false c4
      have c4b1 : decide (l0_0.length < 1) = false := decide_eq_false (by omega)
      clear c4
      (first | rw [c4b0] | (simp only [i64_w, i32_w]; rw [c4b0]) | skip)
      by_cases c6 : (l0_0.length : Int) > 5
      · rw [if_pos c6] at H
        have c6b0 : decide (5 < (l0_0.length : Int)) = true := decide_eq_true c6
        have c6b1 : decide (5 < l0_0.length) = true := decide_eq_true (by omega)
        clear c6
        have H' := Aside0.mk H
        clear H
        have hcz7_0 : w3.cell? ⟨gb127, 0, none⟩ = some (.slice A0_0 l0_0.length c0_0) := (blk_cell BK127.out 0).trans rfl
        have hcz7_1 : w3.cell? ⟨gb127, 1, none⟩ = some (.slice A0_1 l0_1.length c0_1) := (blk_cell BK127.out 1).trans rfl
        have hcz7_2 : w3.cell? ⟨gb127, 2, none⟩ = some (.int .i64 a0_2) := (blk_cell BK127.out 2).trans rfl
        have hfz7_0 := blk_frozen BK127.out 0
        have hfz7_1 := blk_frozen BK127.out 1
        have hfz7_2 := blk_frozen BK127.out 2
        go_wp2
        go_meet
        case rel => exact ⟨_, (true), (by first | rfl | (simp; done) | (simp [*]; done)), H', ⟨by first | omega | exact Nat.le_refl _⟩, ⟨by (with_reducible repeat (first | refine blk_drewN ?_ _ | refine blk_drew ?_ | refine blk_alloc ?_ _)); exact BK127.out⟩, ⟨by repeat (first | (with_reducible first | exact HB.out | apply below_alloc | apply pw_below_drewN | apply below_drew1 | refine below_set ?_ GE127.out) | exact HB.out)⟩⟩
      · rw [if_neg c6] at H
        have c6b0 : decide (5 < (l0_0.length : Int)) = false := decide_eq_false c6
        have c6b1 : decide (5 < l0_0.length) = false := decide_eq_false (by omega)
        clear c6
        replace H := Option.bind_eq_some_iff.mp H
        obtain ⟨t128, A80, H⟩ := H
        replace H : (arb_Right.j0 k (!t128) l0_0 l0_1 a0_2) = some r := H
        have A8 := Aside0.mk A80
        clear A80
        have H' := Aside0.mk H
        clear H
        have hcz9_0 : w3.cell? ⟨gb127, 0, none⟩ = some (.slice A0_0 l0_0.length c0_0) := (blk_cell BK127.out 0).trans rfl
        have hcz9_1 : w3.cell? ⟨gb127, 1, none⟩ = some (.slice A0_1 l0_1.length c0_1) := (blk_cell BK127.out 1).trans rfl
        have hcz9_2 : w3.cell? ⟨gb127, 2, none⟩ = some (.int .i64 a0_2) := (blk_cell BK127.out 2).trans rfl
        have hfz9_0 := blk_frozen BK127.out 0
        have hfz9_1 := blk_frozen BK127.out 1
        have hfz9_2 := blk_frozen BK127.out 2
        go_wp2_with (first | (go_at_call 32; (with_reducible refine (arb_batch.calls a0_2 t128 _ A8.out).mono ?_); rintro e w' ⟨rfl, ⟨nd, rfl⟩⟩))
        go_meet
        case rel => exact ⟨_, (!t128), (by first | rfl | (simp; done) | (simp [*]; done)), H', ⟨by first | omega | exact Nat.le_refl _⟩, ⟨by (with_reducible repeat (first | refine blk_drewN ?_ _ | refine blk_drew ?_ | refine blk_alloc ?_ _)); exact BK127.out⟩, ⟨by repeat (first | (with_reducible first | exact HB.out | apply below_alloc | apply pw_below_drewN | apply below_drew1 | refine below_set ?_ GE127.out) | exact HB.out)⟩⟩
  case rest =>
    clear HC2
    try clear c1
    try clear p2
    try clear c4
    try clear c4b0
    try clear c4b1
    try clear c6
    try clear c6b0
    try clear c6b1
    try clear hcz5_0
    try clear hcz5_1
    try clear hcz5_2
    try clear hcz7_0
    try clear hcz7_1
    try clear hcz7_2
    try clear hcz9_0
    try clear hcz9_1
    try clear hcz9_2
    try clear hfz5_0
    try clear hfz5_1
    try clear hfz5_2
    try clear hfz7_0
    try clear hfz7_1
    try clear hfz7_2
    try clear hfz9_0
    try clear hfz9_1
    try clear hfz9_2
    obtain ⟨kq, x23_1, rfl, HA, HJ1, BK127, HB⟩ := hcut
    cases kq with
    | zero => exact absurd HA.out (by simp [arb_Right.j0])
    | succ kj1 =>
      have H := HA.out
      clear HA
      simp only [arb_Right.j0] at H
      by_cases c10 : x23_1 = true
      · subst c10
        have H1 : (some false) = some r := by rw [if_pos rfl] at H; exact H
        clear H
        have H := H1
        clear H1
        obtain rfl := Option.some.inj H
        go_wp2
        go_ret
        exact ⟨by first | rfl | (simp [errW_none, errW_some] <;> rfl) | (simp [*, errW_none, errW_some] <;> rfl), by repeat (first | (with_reducible first | exact HB.out | apply below_alloc | apply pw_below_drewN | apply below_drew1 | refine below_set ?_ GE127.out) | exact HB.out)⟩
      · replace c10 := Bool.eq_false_iff.mpr c10
        subst c10
        have H1 : (arb_Right.l0 kj1 l0_0 (l0_0.length : Int) 0 l0_0 l0_1 a0_2) = some r := by rw [if_neg (show ¬ (false = true) by decide)] at H; exact H
        clear H
        have H := H1
        clear H1
        have H' := Aside0.mk H
        clear H
        have hcz11_0 : wc.cell? ⟨gb127, 0, none⟩ = some (.slice A0_0 l0_0.length c0_0) := (blk_cell BK127.out 0).trans rfl
        have hcz11_1 : wc.cell? ⟨gb127, 1, none⟩ = some (.slice A0_1 l0_1.length c0_1) := (blk_cell BK127.out 1).trans rfl
        have hcz11_2 : wc.cell? ⟨gb127, 2, none⟩ = some (.int .i64 a0_2) := (blk_cell BK127.out 2).trans rfl
        have hfz11_0 := blk_frozen BK127.out 0
        have hfz11_1 := blk_frozen BK127.out 1
        have hfz11_2 := blk_frozen BK127.out 2
        go_wp2
        go_loopg [27] kj1 (fun kq v27 w' => ∃ (x27_2 : Int), v27 = .int .i64 x27_2 ∧ Aside0 (arb_Right.l0 kq l0_0 (l0_0.length : Int) x27_2 l0_0 l0_1 a0_2 = some r) ∧ Aside0 (kq ≤ kj1) ∧ Aside0 (w'.heap[gb127]? = some (.cells #[(.slice A0_0 l0_0.length c0_0), (.slice A0_1 l0_1.length c0_1), .int .i64 a0_2] 26 (0, 0))) ∧ Aside0 (Below w.heap.size w w'))
        case atStart => exact ⟨(0), (by first | rfl | (simp; done) | (simp [*]; done)), H', ⟨Nat.le_refl _⟩, ⟨by (with_reducible repeat (first | refine blk_drewN ?_ _ | refine blk_drew ?_ | refine blk_alloc ?_ _)); exact BK127.out⟩, ⟨by repeat (first | (with_reducible first | exact HB.out | apply below_alloc | apply pw_below_drewN | apply below_drew1 | refine below_set ?_ GE127.out) | exact HB.out)⟩⟩
        case round =>
          clear H'
          try clear c1
          try clear p2
          try clear c4
          try clear c4b0
          try clear c4b1
          try clear c6
          try clear c6b0
          try clear c6b1
          try clear c10
          try clear hcz11_0
          try clear hcz11_1
          try clear hcz11_2
          try clear hcz5_0
          try clear hcz5_1
          try clear hcz5_2
          try clear hcz7_0
          try clear hcz7_1
          try clear hcz7_2
          try clear hcz9_0
          try clear hcz9_1
          try clear hcz9_2
          try clear hfz11_0
          try clear hfz11_1
          try clear hfz11_2
          try clear hfz5_0
          try clear hfz5_1
          try clear hfz5_2
          try clear hfz7_0
          try clear hfz7_1
          try clear hfz7_2
          try clear hfz9_0
          try clear hfz9_1
          try clear hfz9_2
          try clear p2
          obtain ⟨x27_2, rfl, HA, HK2, BK127, HB⟩ := hrel
          cases gk with
          | zero => exact absurd HA.out (by simp [arb_Right.l0])
          | succ k2 =>
            have H := HA.out
            clear HA
            simp only [arb_Right.l0] at H
            by_cases c12 : x27_2 < (l0_0.length : Int)
            · rw [if_pos c12] at H
              have c12b0 : decide (x27_2 < (l0_0.length : Int)) = true := decide_eq_true c12
              clear c12
              by_cases c13 : 0 ≤ x27_2
              · rw [if_pos c13] at H
                have c13b0 : decide (0 ≤ x27_2) = true := decide_eq_true c13
                clear c13
                by_cases c14 : x27_2 < (l0_0.length : Int)
                · rw [if_pos c14] at H
                  have c14b0 : decide (x27_2 < (l0_0.length : Int)) = true := decide_eq_true c14
                  clear c14
                  by_cases c15 : (rd l0_0 x27_2) = 0
                  · rw [if_pos c15] at H
                    have c15b0 : ((rd l0_0 x27_2) == 0) = true := beq_iff_eq.mpr c15
                    have c15b1 : ((rd l0_0 x27_2) != 0) = false := bne_eq_false_iff_eq.mpr c15
                    clear c15
                    have H' := Aside0.mk H
                    clear H
                    have p129 : 0 ≤ (x27_2 : Int) := of_decide_eq_true (by first | (with_reducible assumption) | assumption)
                    have q129 : x27_2 < (l0_0.length : Int) := of_decide_eq_true (by first | (with_reducible assumption) | assumption)
                    obtain ⟨ad129, e129, hx129_0⟩ := Kd.at_int HR0_0.out x27_2 p129 q129
                    cases e129
                    replace hx129_0 := (HB.out.cell (World.block_lt_of_cell? w _ hx129_0)).trans hx129_0
                    replace p129 := eq_true p129
                    replace q129 := eq_true q129
                    go_wp2
                    go_roundg k2
                    case measure => have := HJ1.out; have := HK2.out; omega
                    case rel => exact ⟨(wrap64 (x27_2 + 1)), (by first | rfl | (simp; done) | (simp [*]; done)), H', ⟨by have := HJ1.out; have := HK2.out; omega⟩, ⟨by (with_reducible repeat (first | refine blk_drewN ?_ _ | refine blk_drew ?_ | refine blk_alloc ?_ _)); exact BK127.out⟩, ⟨by repeat (first | (with_reducible first | exact HB.out | apply below_alloc | apply pw_below_drewN | apply below_drew1 | refine below_set ?_ GE127.out) | exact HB.out)⟩⟩
                  · rw [if_neg c15] at H
                    have c15b0 : ((rd l0_0 x27_2) == 0) = false := beq_eq_false_iff_ne.mpr c15
                    have c15b1 : ((rd l0_0 x27_2) != 0) = true := bne_iff_ne.mpr c15
                    replace H := Option.bind_eq_some_iff.mp H
                    obtain ⟨t130, A160, H⟩ := H
                    replace H : (if t130 = true then (arb_Right.l0 k2 l0_0 (l0_0.length : Int) (wrap64 (x27_2 + 1)) l0_0 l0_1 a0_2) else (some false)) = some r := H
                    have A16 := Aside0.mk A160
                    clear A160
                    by_cases c17 : t130 = true
                    · subst c17
                      have H1 : (arb_Right.l0 k2 l0_0 (l0_0.length : Int) (wrap64 (x27_2 + 1)) l0_0 l0_1 a0_2) = some r := by rw [if_pos rfl] at H; exact H
                      clear H
                      have H := H1
                      clear H1
                      have H' := Aside0.mk H
                      clear H
                      have p129 : 0 ≤ (x27_2 : Int) := of_decide_eq_true (by first | (with_reducible assumption) | assumption)
                      have q129 : x27_2 < (l0_0.length : Int) := of_decide_eq_true (by first | (with_reducible assumption) | assumption)
                      obtain ⟨ad129, e129, hx129_0⟩ := Kd.at_int HR0_0.out x27_2 p129 q129
                      cases e129
                      replace hx129_0 := (HB.out.cell (World.block_lt_of_cell? w _ hx129_0)).trans hx129_0
                      replace p129 := eq_true p129
                      replace q129 := eq_true q129
                      go_wp2_with (first | (go_at_call 32; (with_reducible refine (arb_batch.calls (rd l0_0 x27_2) true _ A16.out).mono ?_); rintro e w' ⟨rfl, ⟨nd, rfl⟩⟩))
                      go_roundg k2
                      case measure => have := HJ1.out; have := HK2.out; omega
                      case rel => exact ⟨(wrap64 (x27_2 + 1)), (by first | rfl | (simp; done) | (simp [*]; done)), H', ⟨by have := HJ1.out; have := HK2.out; omega⟩, ⟨by (with_reducible repeat (first | refine blk_drewN ?_ _ | refine blk_drew ?_ | refine blk_alloc ?_ _)); exact BK127.out⟩, ⟨by repeat (first | (with_reducible first | exact HB.out | apply below_alloc | apply pw_below_drewN | apply below_drew1 | refine below_set ?_ GE127.out) | exact HB.out)⟩⟩
                    · replace c17 := Bool.eq_false_iff.mpr c17
                      subst c17
                      have H1 : (some false) = some r := by rw [if_neg (show ¬ (false = true) by decide)] at H; exact H
                      clear H
                      have H := H1
                      clear H1
                      obtain rfl := Option.some.inj H
                      have p129 : 0 ≤ (x27_2 : Int) := of_decide_eq_true (by first | (with_reducible assumption) | assumption)
                      have q129 : x27_2 < (l0_0.length : Int) := of_decide_eq_true (by first | (with_reducible assumption) | assumption)
                      obtain ⟨ad129, e129, hx129_0⟩ := Kd.at_int HR0_0.out x27_2 p129 q129
                      cases e129
                      replace hx129_0 := (HB.out.cell (World.block_lt_of_cell? w _ hx129_0)).trans hx129_0
                      replace p129 := eq_true p129
                      replace q129 := eq_true q129
                      go_wp2_with (first | (go_at_call 32; (with_reducible refine (arb_batch.calls (rd l0_0 x27_2) false _ A16.out).mono ?_); rintro e w' ⟨rfl, ⟨nd, rfl⟩⟩))
                      go_ret
                      exact ⟨by first | rfl | (simp [errW_none, errW_some] <;> rfl) | (simp [*, errW_none, errW_some] <;> rfl), by repeat (first | (with_reducible first | exact HB.out | apply below_alloc | apply pw_below_drewN | apply below_drew1 | refine below_set ?_ GE127.out) | exact HB.out)⟩
                · rw [if_neg c14] at H
                  exact absurd H (by simp)
              · rw [if_neg c13] at H
                exact absurd H (by simp)
            · rw [if_neg c12] at H
              have c12b0 : decide (x27_2 < (l0_0.length : Int)) = false := decide_eq_false c12
              clear c12
              have H' := Aside0.mk H
              clear H
              have hcz18_0 : wr.cell? ⟨gb127, 0, none⟩ = some (.slice A0_0 l0_0.length c0_0) := (blk_cell BK127.out 0).trans rfl
              have hcz18_1 : wr.cell? ⟨gb127, 1, none⟩ = some (.slice A0_1 l0_1.length c0_1) := (blk_cell BK127.out 1).trans rfl
              have hcz18_2 : wr.cell? ⟨gb127, 2, none⟩ = some (.int .i64 a0_2) := (blk_cell BK127.out 2).trans rfl
              have hfz18_0 := blk_frozen BK127.out 0
              have hfz18_1 := blk_frozen BK127.out 1
              have hfz18_2 := blk_frozen BK127.out 2
              go_wp2
              go_loopg [5, 42] k2 (fun kq v5 v42 w' => ∃ (x5_3 : Int) (x42_3 : Int), v5 = .int .i64 x5_3 ∧ v42 = .int .i64 x42_3 ∧ Aside0 (arb_Right.l1 kq x5_3 l0_1 (l0_1.length : Int) x42_3 l0_0 l0_1 a0_2 = some r) ∧ Aside0 (kq ≤ k2) ∧ Aside0 (w'.heap[gb127]? = some (.cells #[(.slice A0_0 l0_0.length c0_0), (.slice A0_1 l0_1.length c0_1), .int .i64 a0_2] 26 (0, 0))) ∧ Aside0 (Below w.heap.size w w'))
              case atStart => exact ⟨(0), (0), (by first | rfl | (simp; done) | (simp [*]; done)), (by first | rfl | (simp; done) | (simp [*]; done)), H', ⟨Nat.le_refl _⟩, ⟨by (with_reducible repeat (first | refine blk_drewN ?_ _ | refine blk_drew ?_ | refine blk_alloc ?_ _)); exact BK127.out⟩, ⟨by repeat (first | (with_reducible first | exact HB.out | apply below_alloc | apply pw_below_drewN | apply below_drew1 | refine below_set ?_ GE127.out) | exact HB.out)⟩⟩
              case round =>
                clear H'
                try clear c1
                try clear p1
                try clear q1
                try clear hx1
                try clear p2
                try clear c4
                try clear c4b0
                try clear c4b1
                try clear c6
                try clear c6b0
                try clear c6b1
                try clear p6
                try clear c10
                try clear c12
                try clear c12b0
                try clear p12
                try clear q12
                try clear hx12
                try clear c13
                try clear c13b0
                try clear c14
                try clear c14b0
                try clear c15
                try clear c15b0
                try clear c15b1
                try clear c17
                try clear hcz11_0
                try clear hcz11_1
                try clear hcz11_2
                try clear hcz18_0
                try clear hcz18_1
                try clear hcz18_2
                try clear hcz5_0
                try clear hcz5_1
                try clear hcz5_2
                try clear hcz7_0
                try clear hcz7_1
                try clear hcz7_2
                try clear hcz9_0
                try clear hcz9_1
                try clear hcz9_2
                try clear hfz11_0
                try clear hfz11_1
                try clear hfz11_2
                try clear hfz18_0
                try clear hfz18_1
                try clear hfz18_2
                try clear hfz5_0
                try clear hfz5_1
                try clear hfz5_2
                try clear hfz7_0
                try clear hfz7_1
                try clear hfz7_2
                try clear hfz9_0
                try clear hfz9_1
                try clear hfz9_2
                try clear hx129_0
                try clear p129
                try clear p2
                try clear q129
                obtain ⟨x5_3, x42_3, rfl, rfl, HA, HK3, BK127, HB⟩ := hrel
                cases gk with
                | zero => exact absurd HA.out (by simp [arb_Right.l1])
                | succ k3 =>
                  have H := HA.out
                  clear HA
                  simp only [arb_Right.l1] at H
                  by_cases c19 : x42_3 < (l0_1.length : Int)
                  · rw [if_pos c19] at H
                    have c19b0 : decide (x42_3 < (l0_1.length : Int)) = true := decide_eq_true c19
                    clear c19
                    by_cases c20 : 0 ≤ x42_3
                    · rw [if_pos c20] at H
                      have c20b0 : decide (0 ≤ x42_3) = true := decide_eq_true c20
                      clear c20
                      by_cases c21 : x42_3 < (l0_1.length : Int)
                      · rw [if_pos c21] at H
                        have c21b0 : decide (x42_3 < (l0_1.length : Int)) = true := decide_eq_true c21
                        clear c21
                        have HC22 := Aside0.mk H
                        clear H
                        have p131 : 0 ≤ (x42_3 : Int) := of_decide_eq_true (by first | (with_reducible assumption) | assumption)
                        have q131 : x42_3 < (l0_1.length : Int) := of_decide_eq_true (by first | (with_reducible assumption) | assumption)
                        obtain ⟨ad131, A131_2, c131_2, e131, hx131_0, hx131_1, hx131_2, hx131_3, hl131_2, hi131_2⟩ := at_T37 HR0_1.out x42_3 p131 q131
                        cases e131
                        replace hx131_0 := (HB.out.cell (World.block_lt_of_cell? w _ hx131_0)).trans hx131_0
                        replace hx131_1 := (HB.out.cell (World.block_lt_of_cell? w _ hx131_1)).trans hx131_1
                        replace hx131_2 := (HB.out.cell (World.block_lt_of_cell? w _ hx131_2)).trans hx131_2
                        replace hx131_3 := (HB.out.cell (World.block_lt_of_cell? w _ hx131_3)).trans hx131_3
                        have HR131_2 := Aside0.mk hi131_2
                        have HC131_2 := Aside0.mk hl131_2
                        clear hi131_2 hl131_2
                        replace p131 := eq_true p131
                        replace q131 := eq_true q131
                        go_upto_region 13 with (first | ((with_reducible refine gate_dst (N := 7) rfl ?_); (try (refine gate_guard (by rfl) ?_; dsimp only)); refine box_event ?hg (N := 7) ?hd (cs := #[.int .i64 0, .int .i64 0, .slice none 0 0, .int .i64 0]) (t := 37) ?hr ?_; (case hd => rfl); (case hg => rfl); (case hr => first | (go_simp; done) | (go_simp; rfl)); intro gb132 hg w23 hbox hb; have n0_ := Aside0.mk (blk_below (g := gb127) (o := .cells #[.slice A0_0 l0_0.length c0_0, .slice (some ad131) l0_1.length c0_1, .int .i64 a0_2] 26 (0, 0)) (by (with_reducible repeat (first | refine blk_drewN ?_ _ | refine blk_drew ?_ | refine blk_alloc ?_ _)); exact BK127.out) hb); have n1_ := Aside0.mk (below_step (by repeat (first | (with_reducible first | exact HB.out | apply below_alloc | apply pw_below_drewN | apply below_drew1 | refine below_set ?_ GE127.out) | exact HB.out)) hb); have n2_ := Aside0.mk (hbox); have n3_ := Aside0.mk ((by rw [hg]; exact (below_size (by repeat (first | (with_reducible first | exact HB.out | apply below_alloc | apply pw_below_drewN | apply below_drew1 | refine below_set ?_ GE127.out) | exact HB.out))) : w.heap.size ≤ gb132)); have n4_ := Aside0.mk ((by rw [hg]; exact (below_size (by repeat (first | (with_reducible first | exact HB.out | apply below_alloc | apply pw_below_drewN | apply below_drew1 | refine below_set ?_ GE127.out) | exact HB.out))) : w.heap.size ≤ gb132)); have n5_ := Aside0.mk ((by rw [hg]; exact Nat.ne_of_lt (blk_lt (g := gb127) (o := .cells #[.slice A0_0 l0_0.length c0_0, .slice (some ad131) l0_1.length c0_1, .int .i64 a0_2] 26 (0, 0)) (by (with_reducible repeat (first | refine blk_drewN ?_ _ | refine blk_drew ?_ | refine blk_alloc ?_ _)); exact BK127.out)) : gb127 ≠ gb132)); have n6_ := Aside0.mk ((by rw [hg]; exact Nat.ne_of_gt (blk_lt (g := gb127) (o := .cells #[.slice A0_0 l0_0.length c0_0, .slice (some ad131) l0_1.length c0_1, .int .i64 a0_2] 26 (0, 0)) (by (with_reducible repeat (first | refine blk_drewN ?_ _ | refine blk_drew ?_ | refine blk_alloc ?_ _)); exact BK127.out)) : gb132 ≠ gb127)); clear BK127; clear HB; have BK127 := n0_; have HB := n1_; have BK132 := n2_; have GW132 := n3_; have GE132 := n4_; have NB127_132 := n5_; have NB132_127 := n6_; clear n0_ n1_ n2_ n3_ n4_ n5_ n6_; clear hb hbox hg; have hnb24 := NB132_127.out; have hnc24 := NB127_132.out; have hcz25_0 : w23.cell? ⟨gb132, 0, none⟩ = some (.int .i64 0) := (blk_cell BK132.out 0).trans rfl; have hcz25_1 : w23.cell? ⟨gb132, 1, none⟩ = some (.int .i64 0) := (blk_cell BK132.out 1).trans rfl; have hcz25_2 : w23.cell? ⟨gb132, 2, none⟩ = some (.slice none 0 0) := (blk_cell BK132.out 2).trans rfl; have hcz25_3 : w23.cell? ⟨gb132, 3, none⟩ = some (.int .i64 0) := (blk_cell BK132.out 3).trans rfl; have hfz25_0 := blk_frozen BK132.out 0; have hfz25_1 := blk_frozen BK132.out 1; have hfz25_2 := blk_frozen BK132.out 2; have hfz25_3 := blk_frozen BK132.out 3))
                        (try simp only [Act.put, List.setIfInBounds_toArray, List.set_cons_zero, List.set_cons_succ])
                        go_cut [82] (fun v82 wc => ∃ (kq : Nat) (x82_21 : Bool), v82 = .bool x82_21 ∧ Aside0 (arb_Right.j3 kq x42_3 l0_1 (l0_1.length : Int) x42_3 x82_21 l0_0 l0_1 a0_2 ((rd_T37 l0_1 x42_3).f0) ((rd_T37 l0_1 x42_3).f1) ((rd_T37 l0_1 x42_3).f2) ((rd_T37 l0_1 x42_3).f3) = some r) ∧ Aside0 (kq ≤ k3) ∧ Aside0 (wc.heap[gb127]? = some (.cells #[(.slice A0_0 l0_0.length c0_0), (.slice (some ad131) l0_1.length c0_1), .int .i64 a0_2] 26 (0, 0))) ∧ Aside0 (wc.heap[gb132]? = some (.cells #[.int .i64 ((rd_T37 l0_1 x42_3).f0), .int .i64 ((rd_T37 l0_1 x42_3).f1), (.slice A131_2 ((rd_T37 l0_1 x42_3).f2).length c131_2), .int .i64 ((rd_T37 l0_1 x42_3).f3)] 37 (0, 0))) ∧ Aside0 (Below w.heap.size w wc))
                        case first =>
                          have H := HC22.out
                          clear HC22
                          by_cases c26 : ((rd_T37 l0_1 x42_3).f3) ≤ x5_3
                          · rw [if_pos c26] at H
                            have c26b0 : decide (((rd_T37 l0_1 x42_3).f3) ≤ x5_3) = true := decide_eq_true c26
                            clear c26
                            (first | rw [c26b0] | (simp only [i64_w, i32_w]; rw [c26b0]) | skip)
                            have H' := Aside0.mk H
                            clear H
                            have hnb27 := NB132_127.out
                            have hnc27 := NB127_132.out
                            have hcz28_0 : w23.cell? ⟨gb132, 0, none⟩ = some (.int .i64 0) := (blk_cell BK132.out 0).trans rfl
                            have hcz28_1 : w23.cell? ⟨gb132, 1, none⟩ = some (.int .i64 0) := (blk_cell BK132.out 1).trans rfl
                            have hcz28_2 : w23.cell? ⟨gb132, 2, none⟩ = some (.slice none 0 0) := (blk_cell BK132.out 2).trans rfl
                            have hcz28_3 : w23.cell? ⟨gb132, 3, none⟩ = some (.int .i64 0) := (blk_cell BK132.out 3).trans rfl
                            have hfz28_0 := blk_frozen BK132.out 0
                            have hfz28_1 := blk_frozen BK132.out 1
                            have hfz28_2 := blk_frozen BK132.out 2
                            have hfz28_3 := blk_frozen BK132.out 3
                            go_wp2
                            go_meet
                            case rel => exact ⟨_, (true), (by first | rfl | (simp; done) | (simp [*]; done)), H', ⟨by have := HJ1.out; have := HK2.out; have := HK3.out; first | omega | exact Nat.le_refl _⟩, ⟨by (with_reducible repeat (first | refine blk_drewN ?_ _ | refine blk_drew ?_ | refine blk_alloc ?_ _)); refine blk_far ?_ NB127_132.out _; (with_reducible repeat (first | refine blk_drewN ?_ _ | refine blk_drew ?_ | refine blk_alloc ?_ _)); refine blk_far ?_ NB127_132.out _; (with_reducible repeat (first | refine blk_drewN ?_ _ | refine blk_drew ?_ | refine blk_alloc ?_ _)); refine blk_far ?_ NB127_132.out _; (with_reducible repeat (first | refine blk_drewN ?_ _ | refine blk_drew ?_ | refine blk_alloc ?_ _)); refine blk_far ?_ NB127_132.out _; (with_reducible repeat (first | refine blk_drewN ?_ _ | refine blk_drew ?_ | refine blk_alloc ?_ _)); exact BK127.out⟩, ⟨by (with_reducible repeat (first | refine blk_drewN ?_ _ | refine blk_drew ?_ | refine blk_alloc ?_ _)); refine blk_put (cs := #[.int .i64 ((rd_T37 l0_1 x42_3).f0), .int .i64 ((rd_T37 l0_1 x42_3).f1), .slice A131_2 ((rd_T37 l0_1 x42_3).f2).length c131_2, .int .i64 0]) ?_ 3 _ rfl; (with_reducible repeat (first | refine blk_drewN ?_ _ | refine blk_drew ?_ | refine blk_alloc ?_ _)); refine blk_put (cs := #[.int .i64 ((rd_T37 l0_1 x42_3).f0), .int .i64 ((rd_T37 l0_1 x42_3).f1), .slice none 0 0, .int .i64 0]) ?_ 2 _ rfl; (with_reducible repeat (first | refine blk_drewN ?_ _ | refine blk_drew ?_ | refine blk_alloc ?_ _)); refine blk_put (cs := #[.int .i64 ((rd_T37 l0_1 x42_3).f0), .int .i64 0, .slice none 0 0, .int .i64 0]) ?_ 1 _ rfl; (with_reducible repeat (first | refine blk_drewN ?_ _ | refine blk_drew ?_ | refine blk_alloc ?_ _)); refine blk_put (cs := #[.int .i64 0, .int .i64 0, .slice none 0 0, .int .i64 0]) ?_ 0 _ rfl; (with_reducible repeat (first | refine blk_drewN ?_ _ | refine blk_drew ?_ | refine blk_alloc ?_ _)); exact BK132.out⟩, ⟨by repeat (first | (with_reducible first | exact HB.out | apply below_alloc | apply pw_below_drewN | apply below_drew1 | refine below_set ?_ GE127.out | refine below_set ?_ GE132.out) | exact HB.out)⟩⟩
                          · rw [if_neg c26] at H
                            have c26b0 : decide (((rd_T37 l0_1 x42_3).f3) ≤ x5_3) = false := decide_eq_false c26
                            clear c26
                            (first | rw [c26b0] | (simp only [i64_w, i32_w]; rw [c26b0]) | skip)
                            by_cases c29 : ((rd_T37 l0_1 x42_3).f3) ≥ a0_2
                            · rw [if_pos c29] at H
                              have c29b0 : decide (a0_2 ≤ ((rd_T37 l0_1 x42_3).f3)) = true := decide_eq_true c29
                              clear c29
                              have H' := Aside0.mk H
                              clear H
                              have hnb30 := NB132_127.out
                              have hnc30 := NB127_132.out
                              have hcz31_0 : w23.cell? ⟨gb132, 0, none⟩ = some (.int .i64 0) := (blk_cell BK132.out 0).trans rfl
                              have hcz31_1 : w23.cell? ⟨gb132, 1, none⟩ = some (.int .i64 0) := (blk_cell BK132.out 1).trans rfl
                              have hcz31_2 : w23.cell? ⟨gb132, 2, none⟩ = some (.slice none 0 0) := (blk_cell BK132.out 2).trans rfl
                              have hcz31_3 : w23.cell? ⟨gb132, 3, none⟩ = some (.int .i64 0) := (blk_cell BK132.out 3).trans rfl
                              have hfz31_0 := blk_frozen BK132.out 0
                              have hfz31_1 := blk_frozen BK132.out 1
                              have hfz31_2 := blk_frozen BK132.out 2
                              have hfz31_3 := blk_frozen BK132.out 3
                              have hcz32_0 : w23.cell? ⟨gb127, 0, none⟩ = some (.slice A0_0 l0_0.length c0_0) := (blk_cell BK127.out 0).trans rfl
                              have hcz32_1 : w23.cell? ⟨gb127, 1, none⟩ = some (.slice (some ad131) l0_1.length c0_1) := (blk_cell BK127.out 1).trans rfl
                              have hcz32_2 : w23.cell? ⟨gb127, 2, none⟩ = some (.int .i64 a0_2) := (blk_cell BK127.out 2).trans rfl
                              have hfz32_0 := blk_frozen BK127.out 0
                              have hfz32_1 := blk_frozen BK127.out 1
                              have hfz32_2 := blk_frozen BK127.out 2
                              go_wp2
                              go_meet
                              case rel => exact ⟨_, (true), (by first | rfl | (simp; done) | (simp [*]; done)), H', ⟨by have := HJ1.out; have := HK2.out; have := HK3.out; first | omega | exact Nat.le_refl _⟩, ⟨by (with_reducible repeat (first | refine blk_drewN ?_ _ | refine blk_drew ?_ | refine blk_alloc ?_ _)); refine blk_far ?_ NB127_132.out _; (with_reducible repeat (first | refine blk_drewN ?_ _ | refine blk_drew ?_ | refine blk_alloc ?_ _)); refine blk_far ?_ NB127_132.out _; (with_reducible repeat (first | refine blk_drewN ?_ _ | refine blk_drew ?_ | refine blk_alloc ?_ _)); refine blk_far ?_ NB127_132.out _; (with_reducible repeat (first | refine blk_drewN ?_ _ | refine blk_drew ?_ | refine blk_alloc ?_ _)); refine blk_far ?_ NB127_132.out _; (with_reducible repeat (first | refine blk_drewN ?_ _ | refine blk_drew ?_ | refine blk_alloc ?_ _)); exact BK127.out⟩, ⟨by (with_reducible repeat (first | refine blk_drewN ?_ _ | refine blk_drew ?_ | refine blk_alloc ?_ _)); refine blk_put (cs := #[.int .i64 ((rd_T37 l0_1 x42_3).f0), .int .i64 ((rd_T37 l0_1 x42_3).f1), .slice A131_2 ((rd_T37 l0_1 x42_3).f2).length c131_2, .int .i64 0]) ?_ 3 _ rfl; (with_reducible repeat (first | refine blk_drewN ?_ _ | refine blk_drew ?_ | refine blk_alloc ?_ _)); refine blk_put (cs := #[.int .i64 ((rd_T37 l0_1 x42_3).f0), .int .i64 ((rd_T37 l0_1 x42_3).f1), .slice none 0 0, .int .i64 0]) ?_ 2 _ rfl; (with_reducible repeat (first | refine blk_drewN ?_ _ | refine blk_drew ?_ | refine blk_alloc ?_ _)); refine blk_put (cs := #[.int .i64 ((rd_T37 l0_1 x42_3).f0), .int .i64 0, .slice none 0 0, .int .i64 0]) ?_ 1 _ rfl; (with_reducible repeat (first | refine blk_drewN ?_ _ | refine blk_drew ?_ | refine blk_alloc ?_ _)); refine blk_put (cs := #[.int .i64 0, .int .i64 0, .slice none 0 0, .int .i64 0]) ?_ 0 _ rfl; (with_reducible repeat (first | refine blk_drewN ?_ _ | refine blk_drew ?_ | refine blk_alloc ?_ _)); exact BK132.out⟩, ⟨by repeat (first | (with_reducible first | exact HB.out | apply below_alloc | apply pw_below_drewN | apply below_drew1 | refine below_set ?_ GE127.out | refine below_set ?_ GE132.out) | exact HB.out)⟩⟩
                            · rw [if_neg c29] at H
                              have c29b0 : decide (a0_2 ≤ ((rd_T37 l0_1 x42_3).f3)) = false := decide_eq_false c29
                              clear c29
                              replace H := Option.bind_eq_some_iff.mp H
                              obtain ⟨t133, A330, H⟩ := H
                              replace H : (if t133 = true then (if ((rd_T37 l0_1 x42_3).f1) < 0 then (arb_Right.j3 k3 x42_3 l0_1 (l0_1.length : Int) x42_3 true l0_0 l0_1 a0_2 ((rd_T37 l0_1 x42_3).f0) ((rd_T37 l0_1 x42_3).f1) ((rd_T37 l0_1 x42_3).f2) ((rd_T37 l0_1 x42_3).f3)) else (if ((rd_T37 l0_1 x42_3).f1) ≥ 24 then (arb_Right.j3 k3 x42_3 l0_1 (l0_1.length : Int) x42_3 true l0_0 l0_1 a0_2 ((rd_T37 l0_1 x42_3).f0) ((rd_T37 l0_1 x42_3).f1) ((rd_T37 l0_1 x42_3).f2) ((rd_T37 l0_1 x42_3).f3)) else ((arb_rising.f k3 ((rd_T37 l0_1 x42_3).f2) (l0_0.length : Int)).bind fun t134 => (arb_Right.j3 k3 x42_3 l0_1 (l0_1.length : Int) x42_3 (!t134) l0_0 l0_1 a0_2 ((rd_T37 l0_1 x42_3).f0) ((rd_T37 l0_1 x42_3).f1) ((rd_T37 l0_1 x42_3).f2) ((rd_T37 l0_1 x42_3).f3))))) else (arb_Right.j3 k3 x42_3 l0_1 (l0_1.length : Int) x42_3 true l0_0 l0_1 a0_2 ((rd_T37 l0_1 x42_3).f0) ((rd_T37 l0_1 x42_3).f1) ((rd_T37 l0_1 x42_3).f2) ((rd_T37 l0_1 x42_3).f3))) = some r := H
                              have A33 := Aside0.mk A330
                              clear A330
                              by_cases c34 : t133 = true
                              · subst c34
                                have H1 : (if ((rd_T37 l0_1 x42_3).f1) < 0 then (arb_Right.j3 k3 x42_3 l0_1 (l0_1.length : Int) x42_3 true l0_0 l0_1 a0_2 ((rd_T37 l0_1 x42_3).f0) ((rd_T37 l0_1 x42_3).f1) ((rd_T37 l0_1 x42_3).f2) ((rd_T37 l0_1 x42_3).f3)) else (if ((rd_T37 l0_1 x42_3).f1) ≥ 24 then (arb_Right.j3 k3 x42_3 l0_1 (l0_1.length : Int) x42_3 true l0_0 l0_1 a0_2 ((rd_T37 l0_1 x42_3).f0) ((rd_T37 l0_1 x42_3).f1) ((rd_T37 l0_1 x42_3).f2) ((rd_T37 l0_1 x42_3).f3)) else ((arb_rising.f k3 ((rd_T37 l0_1 x42_3).f2) (l0_0.length : Int)).bind fun t134 => (arb_Right.j3 k3 x42_3 l0_1 (l0_1.length : Int) x42_3 (!t134) l0_0 l0_1 a0_2 ((rd_T37 l0_1 x42_3).f0) ((rd_T37 l0_1 x42_3).f1) ((rd_T37 l0_1 x42_3).f2) ((rd_T37 l0_1 x42_3).f3))))) = some r := by rw [if_pos rfl] at H; exact H
                                clear H
                                have H := H1
                                clear H1
                                by_cases c35 : ((rd_T37 l0_1 x42_3).f1) < 0
                                · rw [if_pos c35] at H
                                  have c35b0 : decide (((rd_T37 l0_1 x42_3).f1) < 0) = true := decide_eq_true c35
                                  clear c35
                                  have H' := Aside0.mk H
                                  clear H
                                  have hnb36 := NB132_127.out
                                  have hnc36 := NB127_132.out
                                  have hcz37_0 : w23.cell? ⟨gb132, 0, none⟩ = some (.int .i64 0) := (blk_cell BK132.out 0).trans rfl
                                  have hcz37_1 : w23.cell? ⟨gb132, 1, none⟩ = some (.int .i64 0) := (blk_cell BK132.out 1).trans rfl
                                  have hcz37_2 : w23.cell? ⟨gb132, 2, none⟩ = some (.slice none 0 0) := (blk_cell BK132.out 2).trans rfl
                                  have hcz37_3 : w23.cell? ⟨gb132, 3, none⟩ = some (.int .i64 0) := (blk_cell BK132.out 3).trans rfl
                                  have hfz37_0 := blk_frozen BK132.out 0
                                  have hfz37_1 := blk_frozen BK132.out 1
                                  have hfz37_2 := blk_frozen BK132.out 2
                                  have hfz37_3 := blk_frozen BK132.out 3
                                  have hcz38_0 : w23.cell? ⟨gb127, 0, none⟩ = some (.slice A0_0 l0_0.length c0_0) := (blk_cell BK127.out 0).trans rfl
                                  have hcz38_1 : w23.cell? ⟨gb127, 1, none⟩ = some (.slice (some ad131) l0_1.length c0_1) := (blk_cell BK127.out 1).trans rfl
                                  have hcz38_2 : w23.cell? ⟨gb127, 2, none⟩ = some (.int .i64 a0_2) := (blk_cell BK127.out 2).trans rfl
                                  have hfz38_0 := blk_frozen BK127.out 0
                                  have hfz38_1 := blk_frozen BK127.out 1
                                  have hfz38_2 := blk_frozen BK127.out 2
                                  go_wp2_with (first | (go_at_call 32; (with_reducible refine (arb_batch.calls ((rd_T37 l0_1 x42_3).f0) true _ A33.out).mono ?_); rintro e w' ⟨rfl, ⟨nd, rfl⟩⟩))
                                  go_meet
                                  case rel => exact ⟨_, (true), (by first | rfl | (simp; done) | (simp [*]; done)), H', ⟨by have := HJ1.out; have := HK2.out; have := HK3.out; first | omega | exact Nat.le_refl _⟩, ⟨by (with_reducible repeat (first | refine blk_drewN ?_ _ | refine blk_drew ?_ | refine blk_alloc ?_ _)); refine blk_far ?_ NB127_132.out _; (with_reducible repeat (first | refine blk_drewN ?_ _ | refine blk_drew ?_ | refine blk_alloc ?_ _)); refine blk_far ?_ NB127_132.out _; (with_reducible repeat (first | refine blk_drewN ?_ _ | refine blk_drew ?_ | refine blk_alloc ?_ _)); refine blk_far ?_ NB127_132.out _; (with_reducible repeat (first | refine blk_drewN ?_ _ | refine blk_drew ?_ | refine blk_alloc ?_ _)); refine blk_far ?_ NB127_132.out _; (with_reducible repeat (first | refine blk_drewN ?_ _ | refine blk_drew ?_ | refine blk_alloc ?_ _)); exact BK127.out⟩, ⟨by (with_reducible repeat (first | refine blk_drewN ?_ _ | refine blk_drew ?_ | refine blk_alloc ?_ _)); refine blk_put (cs := #[.int .i64 ((rd_T37 l0_1 x42_3).f0), .int .i64 ((rd_T37 l0_1 x42_3).f1), .slice A131_2 ((rd_T37 l0_1 x42_3).f2).length c131_2, .int .i64 0]) ?_ 3 _ rfl; (with_reducible repeat (first | refine blk_drewN ?_ _ | refine blk_drew ?_ | refine blk_alloc ?_ _)); refine blk_put (cs := #[.int .i64 ((rd_T37 l0_1 x42_3).f0), .int .i64 ((rd_T37 l0_1 x42_3).f1), .slice none 0 0, .int .i64 0]) ?_ 2 _ rfl; (with_reducible repeat (first | refine blk_drewN ?_ _ | refine blk_drew ?_ | refine blk_alloc ?_ _)); refine blk_put (cs := #[.int .i64 ((rd_T37 l0_1 x42_3).f0), .int .i64 0, .slice none 0 0, .int .i64 0]) ?_ 1 _ rfl; (with_reducible repeat (first | refine blk_drewN ?_ _ | refine blk_drew ?_ | refine blk_alloc ?_ _)); refine blk_put (cs := #[.int .i64 0, .int .i64 0, .slice none 0 0, .int .i64 0]) ?_ 0 _ rfl; (with_reducible repeat (first | refine blk_drewN ?_ _ | refine blk_drew ?_ | refine blk_alloc ?_ _)); exact BK132.out⟩, ⟨by repeat (first | (with_reducible first | exact HB.out | apply below_alloc | apply pw_below_drewN | apply below_drew1 | refine below_set ?_ GE127.out | refine below_set ?_ GE132.out) | exact HB.out)⟩⟩
                                · rw [if_neg c35] at H
                                  have c35b0 : decide (((rd_T37 l0_1 x42_3).f1) < 0) = false := decide_eq_false c35
                                  clear c35
                                  by_cases c39 : ((rd_T37 l0_1 x42_3).f1) ≥ 24
                                  · rw [if_pos c39] at H
                                    have c39b0 : decide (24 ≤ ((rd_T37 l0_1 x42_3).f1)) = true := decide_eq_true c39
                                    clear c39
                                    have H' := Aside0.mk H
                                    clear H
                                    have hnb40 := NB132_127.out
                                    have hnc40 := NB127_132.out
                                    have hcz41_0 : w23.cell? ⟨gb132, 0, none⟩ = some (.int .i64 0) := (blk_cell BK132.out 0).trans rfl
                                    have hcz41_1 : w23.cell? ⟨gb132, 1, none⟩ = some (.int .i64 0) := (blk_cell BK132.out 1).trans rfl
                                    have hcz41_2 : w23.cell? ⟨gb132, 2, none⟩ = some (.slice none 0 0) := (blk_cell BK132.out 2).trans rfl
                                    have hcz41_3 : w23.cell? ⟨gb132, 3, none⟩ = some (.int .i64 0) := (blk_cell BK132.out 3).trans rfl
                                    have hfz41_0 := blk_frozen BK132.out 0
                                    have hfz41_1 := blk_frozen BK132.out 1
                                    have hfz41_2 := blk_frozen BK132.out 2
                                    have hfz41_3 := blk_frozen BK132.out 3
                                    have hcz42_0 : w23.cell? ⟨gb127, 0, none⟩ = some (.slice A0_0 l0_0.length c0_0) := (blk_cell BK127.out 0).trans rfl
                                    have hcz42_1 : w23.cell? ⟨gb127, 1, none⟩ = some (.slice (some ad131) l0_1.length c0_1) := (blk_cell BK127.out 1).trans rfl
                                    have hcz42_2 : w23.cell? ⟨gb127, 2, none⟩ = some (.int .i64 a0_2) := (blk_cell BK127.out 2).trans rfl
                                    have hfz42_0 := blk_frozen BK127.out 0
                                    have hfz42_1 := blk_frozen BK127.out 1
                                    have hfz42_2 := blk_frozen BK127.out 2
                                    go_wp2_with (first | (go_at_call 32; (with_reducible refine (arb_batch.calls ((rd_T37 l0_1 x42_3).f0) true _ A33.out).mono ?_); rintro e w' ⟨rfl, ⟨nd, rfl⟩⟩))
                                    go_meet
                                    case rel => exact ⟨_, (true), (by first | rfl | (simp; done) | (simp [*]; done)), H', ⟨by have := HJ1.out; have := HK2.out; have := HK3.out; first | omega | exact Nat.le_refl _⟩, ⟨by (with_reducible repeat (first | refine blk_drewN ?_ _ | refine blk_drew ?_ | refine blk_alloc ?_ _)); refine blk_far ?_ NB127_132.out _; (with_reducible repeat (first | refine blk_drewN ?_ _ | refine blk_drew ?_ | refine blk_alloc ?_ _)); refine blk_far ?_ NB127_132.out _; (with_reducible repeat (first | refine blk_drewN ?_ _ | refine blk_drew ?_ | refine blk_alloc ?_ _)); refine blk_far ?_ NB127_132.out _; (with_reducible repeat (first | refine blk_drewN ?_ _ | refine blk_drew ?_ | refine blk_alloc ?_ _)); refine blk_far ?_ NB127_132.out _; (with_reducible repeat (first | refine blk_drewN ?_ _ | refine blk_drew ?_ | refine blk_alloc ?_ _)); exact BK127.out⟩, ⟨by (with_reducible repeat (first | refine blk_drewN ?_ _ | refine blk_drew ?_ | refine blk_alloc ?_ _)); refine blk_put (cs := #[.int .i64 ((rd_T37 l0_1 x42_3).f0), .int .i64 ((rd_T37 l0_1 x42_3).f1), .slice A131_2 ((rd_T37 l0_1 x42_3).f2).length c131_2, .int .i64 0]) ?_ 3 _ rfl; (with_reducible repeat (first | refine blk_drewN ?_ _ | refine blk_drew ?_ | refine blk_alloc ?_ _)); refine blk_put (cs := #[.int .i64 ((rd_T37 l0_1 x42_3).f0), .int .i64 ((rd_T37 l0_1 x42_3).f1), .slice none 0 0, .int .i64 0]) ?_ 2 _ rfl; (with_reducible repeat (first | refine blk_drewN ?_ _ | refine blk_drew ?_ | refine blk_alloc ?_ _)); refine blk_put (cs := #[.int .i64 ((rd_T37 l0_1 x42_3).f0), .int .i64 0, .slice none 0 0, .int .i64 0]) ?_ 1 _ rfl; (with_reducible repeat (first | refine blk_drewN ?_ _ | refine blk_drew ?_ | refine blk_alloc ?_ _)); refine blk_put (cs := #[.int .i64 0, .int .i64 0, .slice none 0 0, .int .i64 0]) ?_ 0 _ rfl; (with_reducible repeat (first | refine blk_drewN ?_ _ | refine blk_drew ?_ | refine blk_alloc ?_ _)); exact BK132.out⟩, ⟨by repeat (first | (with_reducible first | exact HB.out | apply below_alloc | apply pw_below_drewN | apply below_drew1 | refine below_set ?_ GE127.out | refine below_set ?_ GE132.out) | exact HB.out)⟩⟩
                                  · rw [if_neg c39] at H
                                    have c39b0 : decide (24 ≤ ((rd_T37 l0_1 x42_3).f1)) = false := decide_eq_false c39
                                    clear c39
                                    replace H := Option.bind_eq_some_iff.mp H
                                    obtain ⟨t134, A430, H⟩ := H
                                    replace H : (arb_Right.j3 k3 x42_3 l0_1 (l0_1.length : Int) x42_3 (!t134) l0_0 l0_1 a0_2 ((rd_T37 l0_1 x42_3).f0) ((rd_T37 l0_1 x42_3).f1) ((rd_T37 l0_1 x42_3).f2) ((rd_T37 l0_1 x42_3).f3)) = some r := H
                                    have A43 := Aside0.mk A430
                                    clear A430
                                    have H' := Aside0.mk H
                                    clear H
                                    have hnb44 := NB132_127.out
                                    have hnc44 := NB127_132.out
                                    have hcz45_0 : w23.cell? ⟨gb132, 0, none⟩ = some (.int .i64 0) := (blk_cell BK132.out 0).trans rfl
                                    have hcz45_1 : w23.cell? ⟨gb132, 1, none⟩ = some (.int .i64 0) := (blk_cell BK132.out 1).trans rfl
                                    have hcz45_2 : w23.cell? ⟨gb132, 2, none⟩ = some (.slice none 0 0) := (blk_cell BK132.out 2).trans rfl
                                    have hcz45_3 : w23.cell? ⟨gb132, 3, none⟩ = some (.int .i64 0) := (blk_cell BK132.out 3).trans rfl
                                    have hfz45_0 := blk_frozen BK132.out 0
                                    have hfz45_1 := blk_frozen BK132.out 1
                                    have hfz45_2 := blk_frozen BK132.out 2
                                    have hfz45_3 := blk_frozen BK132.out 3
                                    have hcz46_0 : w23.cell? ⟨gb127, 0, none⟩ = some (.slice A0_0 l0_0.length c0_0) := (blk_cell BK127.out 0).trans rfl
                                    have hcz46_1 : w23.cell? ⟨gb127, 1, none⟩ = some (.slice (some ad131) l0_1.length c0_1) := (blk_cell BK127.out 1).trans rfl
                                    have hcz46_2 : w23.cell? ⟨gb127, 2, none⟩ = some (.int .i64 a0_2) := (blk_cell BK127.out 2).trans rfl
                                    have hfz46_0 := blk_frozen BK127.out 0
                                    have hfz46_1 := blk_frozen BK127.out 1
                                    have hfz46_2 := blk_frozen BK127.out 2
                                    go_wp2_with (first | (go_at_call 32; (with_reducible refine (arb_batch.calls ((rd_T37 l0_1 x42_3).f0) true _ A33.out).mono ?_); rintro e w' ⟨rfl, ⟨nd, rfl⟩⟩) | (go_at_call 33; (with_reducible refine (arb_rising.calls k3 _ _ ((rd_T37 l0_1 x42_3).f2) (l0_0.length : Int) t134 _ ?side1 ?side2 A43.out).mono ?_); (case side1 => exact Kd.C_below HR131_2.out (by repeat (first | (with_reducible first | exact HB.out | apply below_alloc | apply pw_below_drewN | apply below_drew1 | refine below_set ?_ GE127.out | refine below_set ?_ GE132.out) | exact HB.out))); (case side2 => exact HC131_2.out); rintro e w' ⟨rfl, ⟨nd, rfl⟩⟩))
                                    go_meet
                                    case rel => exact ⟨_, (!t134), (by first | rfl | (simp; done) | (simp [*]; done)), H', ⟨by have := HJ1.out; have := HK2.out; have := HK3.out; first | omega | exact Nat.le_refl _⟩, ⟨by (with_reducible repeat (first | refine blk_drewN ?_ _ | refine blk_drew ?_ | refine blk_alloc ?_ _)); refine blk_far ?_ NB127_132.out _; (with_reducible repeat (first | refine blk_drewN ?_ _ | refine blk_drew ?_ | refine blk_alloc ?_ _)); refine blk_far ?_ NB127_132.out _; (with_reducible repeat (first | refine blk_drewN ?_ _ | refine blk_drew ?_ | refine blk_alloc ?_ _)); refine blk_far ?_ NB127_132.out _; (with_reducible repeat (first | refine blk_drewN ?_ _ | refine blk_drew ?_ | refine blk_alloc ?_ _)); refine blk_far ?_ NB127_132.out _; (with_reducible repeat (first | refine blk_drewN ?_ _ | refine blk_drew ?_ | refine blk_alloc ?_ _)); exact BK127.out⟩, ⟨by (with_reducible repeat (first | refine blk_drewN ?_ _ | refine blk_drew ?_ | refine blk_alloc ?_ _)); refine blk_put (cs := #[.int .i64 ((rd_T37 l0_1 x42_3).f0), .int .i64 ((rd_T37 l0_1 x42_3).f1), .slice A131_2 ((rd_T37 l0_1 x42_3).f2).length c131_2, .int .i64 0]) ?_ 3 _ rfl; (with_reducible repeat (first | refine blk_drewN ?_ _ | refine blk_drew ?_ | refine blk_alloc ?_ _)); refine blk_put (cs := #[.int .i64 ((rd_T37 l0_1 x42_3).f0), .int .i64 ((rd_T37 l0_1 x42_3).f1), .slice none 0 0, .int .i64 0]) ?_ 2 _ rfl; (with_reducible repeat (first | refine blk_drewN ?_ _ | refine blk_drew ?_ | refine blk_alloc ?_ _)); refine blk_put (cs := #[.int .i64 ((rd_T37 l0_1 x42_3).f0), .int .i64 0, .slice none 0 0, .int .i64 0]) ?_ 1 _ rfl; (with_reducible repeat (first | refine blk_drewN ?_ _ | refine blk_drew ?_ | refine blk_alloc ?_ _)); refine blk_put (cs := #[.int .i64 0, .int .i64 0, .slice none 0 0, .int .i64 0]) ?_ 0 _ rfl; (with_reducible repeat (first | refine blk_drewN ?_ _ | refine blk_drew ?_ | refine blk_alloc ?_ _)); exact BK132.out⟩, ⟨by repeat (first | (with_reducible first | exact HB.out | apply below_alloc | apply pw_below_drewN | apply below_drew1 | refine below_set ?_ GE127.out | refine below_set ?_ GE132.out) | exact HB.out)⟩⟩
                              · replace c34 := Bool.eq_false_iff.mpr c34
                                subst c34
                                have H1 : (arb_Right.j3 k3 x42_3 l0_1 (l0_1.length : Int) x42_3 true l0_0 l0_1 a0_2 ((rd_T37 l0_1 x42_3).f0) ((rd_T37 l0_1 x42_3).f1) ((rd_T37 l0_1 x42_3).f2) ((rd_T37 l0_1 x42_3).f3)) = some r := by rw [if_neg (show ¬ (false = true) by decide)] at H; exact H
                                clear H
                                have H := H1
                                clear H1
                                have H' := Aside0.mk H
                                clear H
                                have hnb47 := NB132_127.out
                                have hnc47 := NB127_132.out
                                have hcz48_0 : w23.cell? ⟨gb132, 0, none⟩ = some (.int .i64 0) := (blk_cell BK132.out 0).trans rfl
                                have hcz48_1 : w23.cell? ⟨gb132, 1, none⟩ = some (.int .i64 0) := (blk_cell BK132.out 1).trans rfl
                                have hcz48_2 : w23.cell? ⟨gb132, 2, none⟩ = some (.slice none 0 0) := (blk_cell BK132.out 2).trans rfl
                                have hcz48_3 : w23.cell? ⟨gb132, 3, none⟩ = some (.int .i64 0) := (blk_cell BK132.out 3).trans rfl
                                have hfz48_0 := blk_frozen BK132.out 0
                                have hfz48_1 := blk_frozen BK132.out 1
                                have hfz48_2 := blk_frozen BK132.out 2
                                have hfz48_3 := blk_frozen BK132.out 3
                                have hcz49_0 : w23.cell? ⟨gb127, 0, none⟩ = some (.slice A0_0 l0_0.length c0_0) := (blk_cell BK127.out 0).trans rfl
                                have hcz49_1 : w23.cell? ⟨gb127, 1, none⟩ = some (.slice (some ad131) l0_1.length c0_1) := (blk_cell BK127.out 1).trans rfl
                                have hcz49_2 : w23.cell? ⟨gb127, 2, none⟩ = some (.int .i64 a0_2) := (blk_cell BK127.out 2).trans rfl
                                have hfz49_0 := blk_frozen BK127.out 0
                                have hfz49_1 := blk_frozen BK127.out 1
                                have hfz49_2 := blk_frozen BK127.out 2
                                go_wp2_with (first | (go_at_call 32; (with_reducible refine (arb_batch.calls ((rd_T37 l0_1 x42_3).f0) false _ A33.out).mono ?_); rintro e w' ⟨rfl, ⟨nd, rfl⟩⟩))
                                go_meet
                                case rel => exact ⟨_, (true), (by first | rfl | (simp; done) | (simp [*]; done)), H', ⟨by have := HJ1.out; have := HK2.out; have := HK3.out; first | omega | exact Nat.le_refl _⟩, ⟨by (with_reducible repeat (first | refine blk_drewN ?_ _ | refine blk_drew ?_ | refine blk_alloc ?_ _)); refine blk_far ?_ NB127_132.out _; (with_reducible repeat (first | refine blk_drewN ?_ _ | refine blk_drew ?_ | refine blk_alloc ?_ _)); refine blk_far ?_ NB127_132.out _; (with_reducible repeat (first | refine blk_drewN ?_ _ | refine blk_drew ?_ | refine blk_alloc ?_ _)); refine blk_far ?_ NB127_132.out _; (with_reducible repeat (first | refine blk_drewN ?_ _ | refine blk_drew ?_ | refine blk_alloc ?_ _)); refine blk_far ?_ NB127_132.out _; (with_reducible repeat (first | refine blk_drewN ?_ _ | refine blk_drew ?_ | refine blk_alloc ?_ _)); exact BK127.out⟩, ⟨by (with_reducible repeat (first | refine blk_drewN ?_ _ | refine blk_drew ?_ | refine blk_alloc ?_ _)); refine blk_put (cs := #[.int .i64 ((rd_T37 l0_1 x42_3).f0), .int .i64 ((rd_T37 l0_1 x42_3).f1), .slice A131_2 ((rd_T37 l0_1 x42_3).f2).length c131_2, .int .i64 0]) ?_ 3 _ rfl; (with_reducible repeat (first | refine blk_drewN ?_ _ | refine blk_drew ?_ | refine blk_alloc ?_ _)); refine blk_put (cs := #[.int .i64 ((rd_T37 l0_1 x42_3).f0), .int .i64 ((rd_T37 l0_1 x42_3).f1), .slice none 0 0, .int .i64 0]) ?_ 2 _ rfl; (with_reducible repeat (first | refine blk_drewN ?_ _ | refine blk_drew ?_ | refine blk_alloc ?_ _)); refine blk_put (cs := #[.int .i64 ((rd_T37 l0_1 x42_3).f0), .int .i64 0, .slice none 0 0, .int .i64 0]) ?_ 1 _ rfl; (with_reducible repeat (first | refine blk_drewN ?_ _ | refine blk_drew ?_ | refine blk_alloc ?_ _)); refine blk_put (cs := #[.int .i64 0, .int .i64 0, .slice none 0 0, .int .i64 0]) ?_ 0 _ rfl; (with_reducible repeat (first | refine blk_drewN ?_ _ | refine blk_drew ?_ | refine blk_alloc ?_ _)); exact BK132.out⟩, ⟨by repeat (first | (with_reducible first | exact HB.out | apply below_alloc | apply pw_below_drewN | apply below_drew1 | refine below_set ?_ GE127.out | refine below_set ?_ GE132.out) | exact HB.out)⟩⟩
                        case rest =>
                          clear HC22
                          try clear c1
                          try clear p1
                          try clear q1
                          try clear hx1
                          try clear c2
                          try clear p2
                          try clear c3
                          try clear c4
                          try clear c4b0
                          try clear c4b1
                          try clear c6
                          try clear c6b0
                          try clear c6b1
                          try clear p6
                          try clear c10
                          try clear c12
                          try clear c12b0
                          try clear p12
                          try clear q12
                          try clear hx12
                          try clear c13
                          try clear c13b0
                          try clear p13
                          try clear q13
                          try clear hx13
                          try clear c14
                          try clear c14b0
                          try clear c15
                          try clear c15b0
                          try clear c15b1
                          try clear c17
                          try clear c19
                          try clear c19b0
                          try clear c20
                          try clear c20b0
                          try clear c21
                          try clear c21b0
                          try clear c24
                          try clear c26
                          try clear c26b0
                          try clear c27
                          try clear c29
                          try clear c29b0
                          try clear c30
                          try clear c34
                          try clear c35
                          try clear c35b0
                          try clear c36
                          try clear c39
                          try clear c39b0
                          try clear c40
                          try clear c44
                          try clear c47
                          try clear hcz11_0
                          try clear hcz11_1
                          try clear hcz11_2
                          try clear hcz18_0
                          try clear hcz18_1
                          try clear hcz18_2
                          try clear hcz25_0
                          try clear hcz25_1
                          try clear hcz25_2
                          try clear hcz25_3
                          try clear hcz28_0
                          try clear hcz28_1
                          try clear hcz28_2
                          try clear hcz28_3
                          try clear hcz31_0
                          try clear hcz31_1
                          try clear hcz31_2
                          try clear hcz31_3
                          try clear hcz32_0
                          try clear hcz32_1
                          try clear hcz32_2
                          try clear hcz37_0
                          try clear hcz37_1
                          try clear hcz37_2
                          try clear hcz37_3
                          try clear hcz38_0
                          try clear hcz38_1
                          try clear hcz38_2
                          try clear hcz41_0
                          try clear hcz41_1
                          try clear hcz41_2
                          try clear hcz41_3
                          try clear hcz42_0
                          try clear hcz42_1
                          try clear hcz42_2
                          try clear hcz45_0
                          try clear hcz45_1
                          try clear hcz45_2
                          try clear hcz45_3
                          try clear hcz46_0
                          try clear hcz46_1
                          try clear hcz46_2
                          try clear hcz48_0
                          try clear hcz48_1
                          try clear hcz48_2
                          try clear hcz48_3
                          try clear hcz49_0
                          try clear hcz49_1
                          try clear hcz49_2
                          try clear hcz5_0
                          try clear hcz5_1
                          try clear hcz5_2
                          try clear hcz7_0
                          try clear hcz7_1
                          try clear hcz7_2
                          try clear hcz9_0
                          try clear hcz9_1
                          try clear hcz9_2
                          try clear hfz11_0
                          try clear hfz11_1
                          try clear hfz11_2
                          try clear hfz18_0
                          try clear hfz18_1
                          try clear hfz18_2
                          try clear hfz25_0
                          try clear hfz25_1
                          try clear hfz25_2
                          try clear hfz25_3
                          try clear hfz28_0
                          try clear hfz28_1
                          try clear hfz28_2
                          try clear hfz28_3
                          try clear hfz31_0
                          try clear hfz31_1
                          try clear hfz31_2
                          try clear hfz31_3
                          try clear hfz32_0
                          try clear hfz32_1
                          try clear hfz32_2
                          try clear hfz37_0
                          try clear hfz37_1
                          try clear hfz37_2
                          try clear hfz37_3
                          try clear hfz38_0
                          try clear hfz38_1
                          try clear hfz38_2
                          try clear hfz41_0
                          try clear hfz41_1
                          try clear hfz41_2
                          try clear hfz41_3
                          try clear hfz42_0
                          try clear hfz42_1
                          try clear hfz42_2
                          try clear hfz45_0
                          try clear hfz45_1
                          try clear hfz45_2
                          try clear hfz45_3
                          try clear hfz46_0
                          try clear hfz46_1
                          try clear hfz46_2
                          try clear hfz48_0
                          try clear hfz48_1
                          try clear hfz48_2
                          try clear hfz48_3
                          try clear hfz49_0
                          try clear hfz49_1
                          try clear hfz49_2
                          try clear hfz5_0
                          try clear hfz5_1
                          try clear hfz5_2
                          try clear hfz7_0
                          try clear hfz7_1
                          try clear hfz7_2
                          try clear hfz9_0
                          try clear hfz9_1
                          try clear hfz9_2
                          try clear hx129_0
                          try clear hx131_0
                          try clear hx131_1
                          try clear hx131_2
                          try clear hx131_3
                          try clear p1
                          try clear p12
                          try clear p129
                          try clear p131
                          try clear p2
                          try clear p6
                          try clear q1
                          try clear q12
                          try clear q129
                          try clear q131
                          obtain ⟨kq, x82_21, rfl, HA, HJ21, BK127, BK132, HB⟩ := hcut
                          cases kq with
                          | zero => exact absurd HA.out (by simp [arb_Right.j3])
                          | succ kj21 =>
                            have H := HA.out
                            clear HA
                            simp only [arb_Right.j3] at H
                            by_cases c50 : x82_21 = true
                            · subst c50
                              have H1 : (some false) = some r := by rw [if_pos rfl] at H; exact H
                              clear H
                              have H := H1
                              clear H1
                              obtain rfl := Option.some.inj H
                              go_wp2
                              go_ret
                              exact ⟨by first | rfl | (simp [errW_none, errW_some] <;> rfl) | (simp [*, errW_none, errW_some] <;> rfl), by repeat (first | (with_reducible first | exact HB.out | apply below_alloc | apply pw_below_drewN | apply below_drew1 | refine below_set ?_ GE127.out | refine below_set ?_ GE132.out) | exact HB.out)⟩
                            · replace c50 := Bool.eq_false_iff.mpr c50
                              subst c50
                              have H1 : (if 0 < (((rd_T37 l0_1 x42_3).f2).length : Int) then ((arb_above.f kj21 l0_0 ((rd_T37 l0_1 x42_3).f0) (rd ((rd_T37 l0_1 x42_3).f2) 0)).bind fun t136 => (if t136 = true then (some false) else (if 0 ≤ x42_3 then (if x42_3 ≤ (l0_1.length : Int) then ((arb_waits.f (l0_1.take (x42_3 : Int).toNat) ((rd_T37 l0_1 x42_3).f0)).bind fun t141 => (if t141 ≥ 0 then (some false) else (arb_Right.l1 kj21 ((rd_T37 l0_1 x42_3).f3) l0_1 (l0_1.length : Int) (wrap64 (x42_3 + 1)) l0_0 l0_1 a0_2))) else (none)) else (none)))) else (none)) = some r := by rw [if_neg (show ¬ (false = true) by decide)] at H; exact H
                              clear H
                              have H := H1
                              clear H1
                              by_cases c51 : 0 < (((rd_T37 l0_1 x42_3).f2).length : Int)
                              · rw [if_pos c51] at H
                                have c51b0 : decide (0 < (((rd_T37 l0_1 x42_3).f2).length : Int)) = true := decide_eq_true c51
                                have c51b1 : decide (0 < ((rd_T37 l0_1 x42_3).f2).length) = true := decide_eq_true (by omega)
                                clear c51
                                replace H := Option.bind_eq_some_iff.mp H
                                obtain ⟨t136, A520, H⟩ := H
                                replace H : (if t136 = true then (some false) else (if 0 ≤ x42_3 then (if x42_3 ≤ (l0_1.length : Int) then ((arb_waits.f (l0_1.take (x42_3 : Int).toNat) ((rd_T37 l0_1 x42_3).f0)).bind fun t141 => (if t141 ≥ 0 then (some false) else (arb_Right.l1 kj21 ((rd_T37 l0_1 x42_3).f3) l0_1 (l0_1.length : Int) (wrap64 (x42_3 + 1)) l0_0 l0_1 a0_2))) else (none)) else (none))) = some r := H
                                have A52 := Aside0.mk A520
                                clear A520
                                by_cases c53 : t136 = true
                                · subst c53
                                  have H1 : (some false) = some r := by rw [if_pos rfl] at H; exact H
                                  clear H
                                  have H := H1
                                  clear H1
                                  obtain rfl := Option.some.inj H
                                  try go_wp2
                                  have n0_ := Aside0.mk (blk_drew BK127.out)
                                  have n1_ := Aside0.mk (blk_drew BK132.out)
                                  have n2_ := Aside0.mk (below_drew1 HB.out)
                                  clear BK127
                                  clear BK132
                                  clear HB
                                  have BK127 := n0_
                                  have BK132 := n1_
                                  have HB := n2_
                                  clear n0_ n1_ n2_
                                  have p135 : 0 ≤ (0 : Int) := (by omega)
                                  have q135 : 0 < (((rd_T37 l0_1 x42_3).f2).length : Int) := of_decide_eq_true (by first | (with_reducible assumption) | assumption)
                                  obtain ⟨ad135, e135, hx135_0⟩ := Kd.at_int HR131_2.out 0 p135 q135
                                  have hw135_0 := hx135_0
                                  (try rw [show ((0 : Int)).toNat = 0 from rfl] at hw135_0)
                                  (try rw [show 0 * 1 = 0 from rfl] at hw135_0)
                                  (try rw [Addr.add_zero'] at hw135_0)
                                  cases e135
                                  have qi135 : (0 < ((rd_T37 l0_1 x42_3).f2).length) = True := eq_true (by omega)
                                  (try rw [show ((0 : Int)).toNat = 0 from rfl] at hx135_0)
                                  (try rw [Addr.add_zero'] at hx135_0)
                                  replace hx135_0 := (HB.out.cell (World.block_lt_of_cell? w _ hx135_0)).trans hx135_0
                                  replace p135 := eq_true p135
                                  replace q135 := eq_true q135
                                  refine start_ (n := 19) (S := fun w' => w'.cell? ⟨gb127, 0, none⟩ = some (.slice A0_0 l0_0.length c0_0) ∧ w'.cell? ⟨gb127, 1, none⟩ = some (.slice (some ad131) l0_1.length c0_1) ∧ w'.cell? ⟨gb127, 2, none⟩ = some (.int .i64 a0_2) ∧ w'.cell? ⟨gb132, 0, none⟩ = some (.int .i64 ((rd_T37 l0_1 x42_3).f0)) ∧ w'.cell? ⟨gb132, 1, none⟩ = some (.int .i64 ((rd_T37 l0_1 x42_3).f1)) ∧ w'.cell? ⟨gb132, 2, none⟩ = some (.slice (some ad135) ((rd_T37 l0_1 x42_3).f2).length c131_2) ∧ w'.cell? ⟨gb132, 3, none⟩ = some (.int .i64 ((rd_T37 l0_1 x42_3).f3)) ∧ w'.cell? ad135 = some (.int .i64 (rd ((rd_T37 l0_1 x42_3).f2) 0))) (ds := []) #[false, false, false, false, false, false, false, false, false, false, false, false, false, false, false, false, false, false, false] (by kernel_rfl) rfl rfl ⟨(blk_cell BK127.out 0).trans rfl, (blk_cell BK127.out 1).trans rfl, (blk_cell BK127.out 2).trans rfl, (blk_cell BK132.out 0).trans rfl, (blk_cell BK132.out 1).trans rfl, (blk_cell BK132.out 2).trans rfl, (blk_cell BK132.out 3).trans rfl, ((HB.out.cell (World.block_lt_of_cell? w _ hw135_0)).trans hw135_0)⟩ (fun hHeld => ?_); refine with_tabW arb_Right.tab15 arb_Right.bits15 (fun HT_ HW_ => ?_)
                                  generalize wc.drew = w54 at BK127 BK132 HB hx135_0 hHeld ⊢
                                  refine pure_ (i := 0) (N := some 83) (v := ?_) (a' := ?_) #[true, false, false, false, false, false, false, false, false, false, false, false, false, false, false, false, false, false, false] rfl rfl (any_of HT_.out (by kernel_rfl)) (fun _ _ _ h => h) (Or.inl ⟨by rfl, ?_⟩) ?_ ?_
                                  rotate_left
                                  · intro w'
                                    go_simp
                                    with_reducible rfl
                                  rotate_left
                                  · simp only [Act.put, List.setIfInBounds_toArray, List.set_cons_zero, List.set_cons_succ, i64_w, i32_w]
                                    rfl
                                  refine pure_ (i := 2) (N := some 85) (v := ?_) (a' := ?_) #[true, false, true, false, false, false, false, false, false, false, false, false, false, false, false, false, false, false, false] rfl rfl (any_of HT_.out (by kernel_rfl)) (fun _ _ _ h => h) (Or.inl ⟨by rfl, ?_⟩) ?_ ?_
                                  rotate_left
                                  · intro w'
                                    go_simp
                                    with_reducible rfl
                                  rotate_left
                                  · simp only [Act.put, List.setIfInBounds_toArray, List.set_cons_zero, List.set_cons_succ, i64_w, i32_w]
                                    rfl
                                  refine pure_ (i := 4) (N := some 87) (v := ?_) (a' := ?_) #[true, false, true, false, true, false, false, false, false, false, false, false, false, false, false, false, false, false, false] rfl rfl (any_of HT_.out (by kernel_rfl)) (fun _ _ _ h => h) (Or.inl ⟨by rfl, ?_⟩) ?_ ?_
                                  rotate_left
                                  · intro w'
                                    go_simp
                                    with_reducible rfl
                                  rotate_left
                                  · simp only [Act.put, List.setIfInBounds_toArray, List.set_cons_zero, List.set_cons_succ, i64_w, i32_w]
                                    rfl
                                  refine take_ (i := 1) (N := some 84) (v := ?_) (a' := ?_) #[true, true, true, false, true, false, false, false, false, false, false, false, false, false, false, false, false, false, false] rfl rfl (take_ofW HT_.out HW_.out (by kernel_rfl)) (fun _ _ _ h => h) (Or.inl ⟨by rfl, ?_⟩) hHeld ?_ ?_
                                  rotate_left
                                  · rintro w' ⟨s0, s1, s2, s3, s4, s5, s6, s7⟩
                                    go_simp
                                    with_reducible rfl
                                  rotate_left
                                  · simp only [Act.put, List.setIfInBounds_toArray, List.set_cons_zero, List.set_cons_succ, i64_w, i32_w]
                                    rfl
                                  refine take_ (i := 3) (N := some 86) (v := ?_) (a' := ?_) #[true, true, true, true, true, false, false, false, false, false, false, false, false, false, false, false, false, false, false] rfl rfl (take_ofW HT_.out HW_.out (by kernel_rfl)) (fun _ _ _ h => h) (Or.inl ⟨by rfl, ?_⟩) hHeld ?_ ?_
                                  rotate_left
                                  · rintro w' ⟨s0, s1, s2, s3, s4, s5, s6, s7⟩
                                    go_simp
                                    with_reducible rfl
                                  rotate_left
                                  · simp only [Act.put, List.setIfInBounds_toArray, List.set_cons_zero, List.set_cons_succ, i64_w, i32_w]
                                    rfl
                                  refine take_ (i := 5) (N := some 88) (v := ?_) (a' := ?_) #[true, true, true, true, true, true, false, false, false, false, false, false, false, false, false, false, false, false, false] rfl rfl (take_ofW HT_.out HW_.out (by kernel_rfl)) (fun _ _ _ h => h) (Or.inl ⟨by rfl, ?_⟩) hHeld ?_ ?_
                                  rotate_left
                                  · rintro w' ⟨s0, s1, s2, s3, s4, s5, s6, s7⟩
                                    go_simp
                                    with_reducible rfl
                                  rotate_left
                                  · simp only [Act.put, List.setIfInBounds_toArray, List.set_cons_zero, List.set_cons_succ, i64_w, i32_w]
                                    rfl
                                  refine pure_ (i := 6) (N := some 89) (v := ?_) (a' := ?_) #[true, true, true, true, true, true, true, false, false, false, false, false, false, false, false, false, false, false, false] rfl rfl (any_of HT_.out (by kernel_rfl)) (fun _ _ _ h => h) (Or.inl ⟨by rfl, ?_⟩) ?_ ?_
                                  rotate_left
                                  · intro w'
                                    go_simp
                                    with_reducible rfl
                                  rotate_left
                                  · simp only [Act.put, List.setIfInBounds_toArray, List.set_cons_zero, List.set_cons_succ, i64_w, i32_w]
                                    rfl
                                  refine take_ (i := 7) (N := some 90) (v := ?_) (a' := ?_) #[true, true, true, true, true, true, true, true, false, false, false, false, false, false, false, false, false, false, false] rfl rfl (take_ofW HT_.out HW_.out (by kernel_rfl)) (fun _ _ _ h => h) (Or.inl ⟨by rfl, ?_⟩) hHeld ?_ ?_
                                  rotate_left
                                  · rintro w' ⟨s0, s1, s2, s3, s4, s5, s6, s7⟩
                                    go_simp
                                    with_reducible rfl
                                  rotate_left
                                  · simp only [Act.put, List.setIfInBounds_toArray, List.set_cons_zero, List.set_cons_succ, i64_w, i32_w]
                                    rfl
                                  refine one_ (i := 8) (N := some 91) #[true, true, true, true, true, true, true, true, true, false, false, false, false, false, false, false, false, false, false] rfl rfl (one_of HT_.out (by kernel_rfl)) (by decide) (fun K hK => ?_)
                                  refine goes_ Try.func34 (by kernel_rfl) rfl #[.slice A0_0 l0_0.length c0_0, .int .i64 ((rd_T37 l0_1 x42_3).f0), .int .i64 (rd ((rd_T37 l0_1 x42_3).f2) 0)] (by rfl) rfl rfl (by (try simp only [List.map_toArray, List.map_cons, List.map_nil]); first | done | rfl | (simp only [List.length_drop, List.length_take]; rfl)) ?_
                                  with_reducible refine (arb_above.calls kj21 _ _ l0_0 ((rd_T37 l0_1 x42_3).f0) (rd ((rd_T37 l0_1 x42_3).f2) 0) true _ ?side1 ?side2 A52.out).mono ?_
                                  (case side1 => repeat (first | exact (Kd.C_below HR0_0.out HB.out) | (with_reducible refine Kd.C_alloc ?_ _) | (with_reducible refine Kd.C_drewN ?_ _) | (with_reducible refine Kd.C_drew ?_)))
                                  (case side2 => exact HC0_0.out)
                                  rintro e w' ⟨rfl, ⟨nd, rfl⟩⟩
                                  refine ⟨_, rfl, ?_⟩
                                  refine hK.out _ _ ⟨(blk_cell BK127.out 0).trans rfl, (blk_cell BK127.out 1).trans rfl, (blk_cell BK127.out 2).trans rfl, (blk_cell BK132.out 0).trans rfl, (blk_cell BK132.out 1).trans rfl, (blk_cell BK132.out 2).trans rfl, (blk_cell BK132.out 3).trans rfl, ((HB.out.cell (World.block_lt_of_cell? w _ hw135_0)).trans hw135_0)⟩ (fun hHeld => ?_)
                                  clear hK K
                                  refine norm_ (a' := ?_) ?_ ?_
                                  rotate_left
                                  · show Act.put _ (some 91) _ = _
                                    simp only [Act.put, List.setIfInBounds_toArray, List.set_cons_zero, List.set_cons_succ, i64_w, i32_w]
                                    rfl
                                  refine pure_ (i := 9) (N := some 92) (v := ?_) (a' := ?_) #[true, true, true, true, true, true, true, true, true, true, false, false, false, false, false, false, false, false, false] rfl rfl (any_of HT_.out (by kernel_rfl)) (fun _ _ _ h => h) (Or.inl ⟨by rfl, ?_⟩) ?_ ?_
                                  rotate_left
                                  · intro w'
                                    go_simp
                                    with_reducible rfl
                                  rotate_left
                                  · simp only [Act.put, List.setIfInBounds_toArray, List.set_cons_zero, List.set_cons_succ, i64_w, i32_w]
                                    rfl
                                  refine pure_ (i := 10) (N := some 93) (v := undef) (a' := ?_) #[true, true, true, true, true, true, true, true, true, true, true, false, false, false, false, false, false, false, false] rfl rfl (any_of HT_.out (by kernel_rfl)) (fun _ _ _ h => h) (Or.inr ⟨by rfl, rfl⟩) ?_ ?_
                                  rotate_left
                                  · simp only [Act.put, List.setIfInBounds_toArray, List.set_cons_zero, List.set_cons_succ, i64_w, i32_w]
                                    rfl
                                  refine pure_ (i := 11) (N := some 94) (v := undef) (a' := ?_) #[true, true, true, true, true, true, true, true, true, true, true, true, false, false, false, false, false, false, false] rfl rfl (any_of HT_.out (by kernel_rfl)) (fun _ _ _ h => h) (Or.inr ⟨by rfl, rfl⟩) ?_ ?_
                                  rotate_left
                                  · simp only [Act.put, List.setIfInBounds_toArray, List.set_cons_zero, List.set_cons_succ, i64_w, i32_w]
                                    rfl
                                  refine pure_ (i := 12) (N := some 95) (v := undef) (a' := ?_) #[true, true, true, true, true, true, true, true, true, true, true, true, true, false, false, false, false, false, false] rfl rfl (any_of HT_.out (by kernel_rfl)) (fun _ _ _ h => h) (Or.inr ⟨by rfl, rfl⟩) ?_ ?_
                                  rotate_left
                                  · simp only [Act.put, List.setIfInBounds_toArray, List.set_cons_zero, List.set_cons_succ, i64_w, i32_w]
                                    rfl
                                  refine pure_ (i := 13) (N := some 96) (v := undef) (a' := ?_) #[true, true, true, true, true, true, true, true, true, true, true, true, true, true, false, false, false, false, false] rfl rfl (any_of HT_.out (by kernel_rfl)) (fun _ _ _ h => h) (Or.inr ⟨by rfl, rfl⟩) ?_ ?_
                                  rotate_left
                                  · simp only [Act.put, List.setIfInBounds_toArray, List.set_cons_zero, List.set_cons_succ, i64_w, i32_w]
                                    rfl
                                  refine pure_ (i := 14) (N := some 97) (v := undef) (a' := ?_) #[true, true, true, true, true, true, true, true, true, true, true, true, true, true, true, false, false, false, false] rfl rfl (any_of HT_.out (by kernel_rfl)) (fun _ _ _ h => h) (Or.inr ⟨by rfl, rfl⟩) ?_ ?_
                                  rotate_left
                                  · simp only [Act.put, List.setIfInBounds_toArray, List.set_cons_zero, List.set_cons_succ, i64_w, i32_w]
                                    rfl
                                  refine pure_ (i := 15) (N := some 98) (v := undef) (a' := ?_) #[true, true, true, true, true, true, true, true, true, true, true, true, true, true, true, true, false, false, false] rfl rfl (any_of HT_.out (by kernel_rfl)) (fun _ _ _ h => h) (Or.inr ⟨by rfl, rfl⟩) ?_ ?_
                                  rotate_left
                                  · simp only [Act.put, List.setIfInBounds_toArray, List.set_cons_zero, List.set_cons_succ, i64_w, i32_w]
                                    rfl
                                  refine pure_ (i := 16) (N := some 99) (v := undef) (a' := ?_) #[true, true, true, true, true, true, true, true, true, true, true, true, true, true, true, true, true, false, false] rfl rfl (any_of HT_.out (by kernel_rfl)) (fun _ _ _ h => h) (Or.inr ⟨by rfl, rfl⟩) ?_ ?_
                                  rotate_left
                                  · simp only [Act.put, List.setIfInBounds_toArray, List.set_cons_zero, List.set_cons_succ, i64_w, i32_w]
                                    rfl
                                  refine pure_ (i := 17) (N := some 100) (v := undef) (a' := ?_) #[true, true, true, true, true, true, true, true, true, true, true, true, true, true, true, true, true, true, false] rfl rfl (any_of HT_.out (by kernel_rfl)) (fun _ _ _ h => h) (Or.inr ⟨by rfl, rfl⟩) ?_ ?_
                                  rotate_left
                                  · simp only [Act.put, List.setIfInBounds_toArray, List.set_cons_zero, List.set_cons_succ, i64_w, i32_w]
                                    rfl
                                  refine pure_ (i := 18) (N := some 101) (v := ?_) (a' := ?_) #[true, true, true, true, true, true, true, true, true, true, true, true, true, true, true, true, true, true, true] rfl rfl (any_of HT_.out (by kernel_rfl)) (fun _ _ _ h => h) (Or.inl ⟨by rfl, ?_⟩) ?_ ?_
                                  rotate_left
                                  · intro w'
                                    go_simp
                                    with_reducible rfl
                                  rotate_left
                                  · simp only [Act.put, List.setIfInBounds_toArray, List.set_cons_zero, List.set_cons_succ, i64_w, i32_w]
                                    rfl
                                  refine done_ (done_of HT_.out (by kernel_rfl)) ?_
                                  try go_wp2
                                  go_ret
                                  exact ⟨by first | rfl | (simp [errW_none, errW_some] <;> rfl) | (simp [*, errW_none, errW_some] <;> rfl), by repeat (first | (with_reducible first | exact HB.out | apply below_alloc | apply pw_below_drewN | apply below_drew1 | refine below_set ?_ GE127.out | refine below_set ?_ GE132.out) | exact HB.out)⟩
                                · replace c53 := Bool.eq_false_iff.mpr c53
                                  subst c53
                                  have H1 : (if 0 ≤ x42_3 then (if x42_3 ≤ (l0_1.length : Int) then ((arb_waits.f (l0_1.take (x42_3 : Int).toNat) ((rd_T37 l0_1 x42_3).f0)).bind fun t141 => (if t141 ≥ 0 then (some false) else (arb_Right.l1 kj21 ((rd_T37 l0_1 x42_3).f3) l0_1 (l0_1.length : Int) (wrap64 (x42_3 + 1)) l0_0 l0_1 a0_2))) else (none)) else (none)) = some r := by rw [if_neg (show ¬ (false = true) by decide)] at H; exact H
                                  clear H
                                  have H := H1
                                  clear H1
                                  by_cases c55 : 0 ≤ x42_3
                                  · rw [if_pos c55] at H
                                    have c55b0 := eq_true c55
                                    have c55b1 : decide (0 ≤ x42_3) = true := decide_eq_true c55
                                    clear c55
                                    by_cases c56 : x42_3 ≤ (l0_1.length : Int)
                                    · rw [if_pos c56] at H
                                      have c56b0 := eq_true c56
                                      have c56b1 : decide (x42_3 ≤ (l0_1.length : Int)) = true := decide_eq_true c56
                                      clear c56
                                      obtain ⟨y137, hy137⟩ : ∃ y_ : List (S37), y_ = (l0_1.take (x42_3 : Int).toNat) := ⟨_, rfl⟩
                                      replace H : ((arb_waits.f y137 ((rd_T37 l0_1 x42_3).f0)).bind fun t141 => (if t141 ≥ 0 then (some false) else (arb_Right.l1 kj21 ((rd_T37 l0_1 x42_3).f3) l0_1 (l0_1.length : Int) (wrap64 (x42_3 + 1)) l0_0 l0_1 a0_2))) = some r := by first | (rw [hy137]; with_reducible exact H) | (have H2_ := (Option.bind_some _ _).symm.trans H; rw [hy137]; with_reducible exact H2_) | (have H2_ := (Option.bind_some _ _).symm.trans H; with_reducible exact H2_) | with_reducible exact H | (rw [hy137]; exact H) | exact H
                                      have Ny137 := Aside0.mk hy137
                                      clear hy137
                                      replace H := Option.bind_eq_some_iff.mp H
                                      obtain ⟨t141, A570, H⟩ := H
                                      replace H : (if t141 ≥ 0 then (some false) else (arb_Right.l1 kj21 ((rd_T37 l0_1 x42_3).f3) l0_1 (l0_1.length : Int) (wrap64 (x42_3 + 1)) l0_0 l0_1 a0_2)) = some r := H
                                      have A57 := Aside0.mk A570
                                      clear A570
                                      by_cases c58 : t141 ≥ 0
                                      · rw [if_pos c58] at H
                                        have c58b0 : decide (0 ≤ t141) = true := decide_eq_true c58
                                        clear c58
                                        obtain rfl := Option.some.inj H
                                        try go_wp2
                                        have n0_ := Aside0.mk (blk_drew BK127.out)
                                        have n1_ := Aside0.mk (blk_drew BK132.out)
                                        have n2_ := Aside0.mk (below_drew1 HB.out)
                                        clear BK127
                                        clear BK132
                                        clear HB
                                        have BK127 := n0_
                                        have BK132 := n1_
                                        have HB := n2_
                                        clear n0_ n1_ n2_
                                        have p135 : 0 ≤ (0 : Int) := (by omega)
                                        have q135 : 0 < (((rd_T37 l0_1 x42_3).f2).length : Int) := of_decide_eq_true (by first | (with_reducible assumption) | assumption)
                                        obtain ⟨ad135, e135, hx135_0⟩ := Kd.at_int HR131_2.out 0 p135 q135
                                        have hw135_0 := hx135_0
                                        (try rw [show ((0 : Int)).toNat = 0 from rfl] at hw135_0)
                                        (try rw [show 0 * 1 = 0 from rfl] at hw135_0)
                                        (try rw [Addr.add_zero'] at hw135_0)
                                        cases e135
                                        have qi135 : (0 < ((rd_T37 l0_1 x42_3).f2).length) = True := eq_true (by omega)
                                        (try rw [show ((0 : Int)).toNat = 0 from rfl] at hx135_0)
                                        (try rw [Addr.add_zero'] at hx135_0)
                                        replace hx135_0 := (HB.out.cell (World.block_lt_of_cell? w _ hx135_0)).trans hx135_0
                                        replace p135 := eq_true p135
                                        replace q135 := eq_true q135
                                        refine start_ (n := 19) (S := fun w' => w'.cell? ⟨gb127, 0, none⟩ = some (.slice A0_0 l0_0.length c0_0) ∧ w'.cell? ⟨gb127, 1, none⟩ = some (.slice (some ad131) l0_1.length c0_1) ∧ w'.cell? ⟨gb127, 2, none⟩ = some (.int .i64 a0_2) ∧ w'.cell? ⟨gb132, 0, none⟩ = some (.int .i64 ((rd_T37 l0_1 x42_3).f0)) ∧ w'.cell? ⟨gb132, 1, none⟩ = some (.int .i64 ((rd_T37 l0_1 x42_3).f1)) ∧ w'.cell? ⟨gb132, 2, none⟩ = some (.slice (some ad135) ((rd_T37 l0_1 x42_3).f2).length c131_2) ∧ w'.cell? ⟨gb132, 3, none⟩ = some (.int .i64 ((rd_T37 l0_1 x42_3).f3)) ∧ w'.cell? ad135 = some (.int .i64 (rd ((rd_T37 l0_1 x42_3).f2) 0))) (ds := []) #[false, false, false, false, false, false, false, false, false, false, false, false, false, false, false, false, false, false, false] (by kernel_rfl) rfl rfl ⟨(blk_cell BK127.out 0).trans rfl, (blk_cell BK127.out 1).trans rfl, (blk_cell BK127.out 2).trans rfl, (blk_cell BK132.out 0).trans rfl, (blk_cell BK132.out 1).trans rfl, (blk_cell BK132.out 2).trans rfl, (blk_cell BK132.out 3).trans rfl, ((HB.out.cell (World.block_lt_of_cell? w _ hw135_0)).trans hw135_0)⟩ (fun hHeld => ?_); refine with_tabW arb_Right.tab15 arb_Right.bits15 (fun HT_ HW_ => ?_)
                                        generalize wc.drew = w59 at BK127 BK132 HB hx135_0 hHeld ⊢
                                        refine pure_ (i := 0) (N := some 83) (v := ?_) (a' := ?_) #[true, false, false, false, false, false, false, false, false, false, false, false, false, false, false, false, false, false, false] rfl rfl (any_of HT_.out (by kernel_rfl)) (fun _ _ _ h => h) (Or.inl ⟨by rfl, ?_⟩) ?_ ?_
                                        rotate_left
                                        · intro w'
                                          go_simp
                                          with_reducible rfl
                                        rotate_left
                                        · simp only [Act.put, List.setIfInBounds_toArray, List.set_cons_zero, List.set_cons_succ, i64_w, i32_w]
                                          rfl
                                        refine pure_ (i := 2) (N := some 85) (v := ?_) (a' := ?_) #[true, false, true, false, false, false, false, false, false, false, false, false, false, false, false, false, false, false, false] rfl rfl (any_of HT_.out (by kernel_rfl)) (fun _ _ _ h => h) (Or.inl ⟨by rfl, ?_⟩) ?_ ?_
                                        rotate_left
                                        · intro w'
                                          go_simp
                                          with_reducible rfl
                                        rotate_left
                                        · simp only [Act.put, List.setIfInBounds_toArray, List.set_cons_zero, List.set_cons_succ, i64_w, i32_w]
                                          rfl
                                        refine pure_ (i := 4) (N := some 87) (v := ?_) (a' := ?_) #[true, false, true, false, true, false, false, false, false, false, false, false, false, false, false, false, false, false, false] rfl rfl (any_of HT_.out (by kernel_rfl)) (fun _ _ _ h => h) (Or.inl ⟨by rfl, ?_⟩) ?_ ?_
                                        rotate_left
                                        · intro w'
                                          go_simp
                                          with_reducible rfl
                                        rotate_left
                                        · simp only [Act.put, List.setIfInBounds_toArray, List.set_cons_zero, List.set_cons_succ, i64_w, i32_w]
                                          rfl
                                        refine take_ (i := 1) (N := some 84) (v := ?_) (a' := ?_) #[true, true, true, false, true, false, false, false, false, false, false, false, false, false, false, false, false, false, false] rfl rfl (take_ofW HT_.out HW_.out (by kernel_rfl)) (fun _ _ _ h => h) (Or.inl ⟨by rfl, ?_⟩) hHeld ?_ ?_
                                        rotate_left
                                        · rintro w' ⟨s0, s1, s2, s3, s4, s5, s6, s7⟩
                                          go_simp
                                          with_reducible rfl
                                        rotate_left
                                        · simp only [Act.put, List.setIfInBounds_toArray, List.set_cons_zero, List.set_cons_succ, i64_w, i32_w]
                                          rfl
                                        refine take_ (i := 3) (N := some 86) (v := ?_) (a' := ?_) #[true, true, true, true, true, false, false, false, false, false, false, false, false, false, false, false, false, false, false] rfl rfl (take_ofW HT_.out HW_.out (by kernel_rfl)) (fun _ _ _ h => h) (Or.inl ⟨by rfl, ?_⟩) hHeld ?_ ?_
                                        rotate_left
                                        · rintro w' ⟨s0, s1, s2, s3, s4, s5, s6, s7⟩
                                          go_simp
                                          with_reducible rfl
                                        rotate_left
                                        · simp only [Act.put, List.setIfInBounds_toArray, List.set_cons_zero, List.set_cons_succ, i64_w, i32_w]
                                          rfl
                                        refine take_ (i := 5) (N := some 88) (v := ?_) (a' := ?_) #[true, true, true, true, true, true, false, false, false, false, false, false, false, false, false, false, false, false, false] rfl rfl (take_ofW HT_.out HW_.out (by kernel_rfl)) (fun _ _ _ h => h) (Or.inl ⟨by rfl, ?_⟩) hHeld ?_ ?_
                                        rotate_left
                                        · rintro w' ⟨s0, s1, s2, s3, s4, s5, s6, s7⟩
                                          go_simp
                                          with_reducible rfl
                                        rotate_left
                                        · simp only [Act.put, List.setIfInBounds_toArray, List.set_cons_zero, List.set_cons_succ, i64_w, i32_w]
                                          rfl
                                        refine pure_ (i := 6) (N := some 89) (v := ?_) (a' := ?_) #[true, true, true, true, true, true, true, false, false, false, false, false, false, false, false, false, false, false, false] rfl rfl (any_of HT_.out (by kernel_rfl)) (fun _ _ _ h => h) (Or.inl ⟨by rfl, ?_⟩) ?_ ?_
                                        rotate_left
                                        · intro w'
                                          go_simp
                                          with_reducible rfl
                                        rotate_left
                                        · simp only [Act.put, List.setIfInBounds_toArray, List.set_cons_zero, List.set_cons_succ, i64_w, i32_w]
                                          rfl
                                        refine take_ (i := 7) (N := some 90) (v := ?_) (a' := ?_) #[true, true, true, true, true, true, true, true, false, false, false, false, false, false, false, false, false, false, false] rfl rfl (take_ofW HT_.out HW_.out (by kernel_rfl)) (fun _ _ _ h => h) (Or.inl ⟨by rfl, ?_⟩) hHeld ?_ ?_
                                        rotate_left
                                        · rintro w' ⟨s0, s1, s2, s3, s4, s5, s6, s7⟩
                                          go_simp
                                          with_reducible rfl
                                        rotate_left
                                        · simp only [Act.put, List.setIfInBounds_toArray, List.set_cons_zero, List.set_cons_succ, i64_w, i32_w]
                                          rfl
                                        refine one_ (i := 8) (N := some 91) #[true, true, true, true, true, true, true, true, true, false, false, false, false, false, false, false, false, false, false] rfl rfl (one_of HT_.out (by kernel_rfl)) (by decide) (fun K hK => ?_)
                                        refine goes_ Try.func34 (by kernel_rfl) rfl #[.slice A0_0 l0_0.length c0_0, .int .i64 ((rd_T37 l0_1 x42_3).f0), .int .i64 (rd ((rd_T37 l0_1 x42_3).f2) 0)] (by rfl) rfl rfl (by (try simp only [List.map_toArray, List.map_cons, List.map_nil]); first | done | rfl | (simp only [List.length_drop, List.length_take]; rfl)) ?_
                                        with_reducible refine (arb_above.calls kj21 _ _ l0_0 ((rd_T37 l0_1 x42_3).f0) (rd ((rd_T37 l0_1 x42_3).f2) 0) false _ ?side1 ?side2 A52.out).mono ?_
                                        (case side1 => repeat (first | exact (Kd.C_below HR0_0.out HB.out) | (with_reducible refine Kd.C_alloc ?_ _) | (with_reducible refine Kd.C_drewN ?_ _) | (with_reducible refine Kd.C_drew ?_)))
                                        (case side2 => exact HC0_0.out)
                                        rintro e w' ⟨rfl, ⟨nd, rfl⟩⟩
                                        refine ⟨_, rfl, ?_⟩
                                        have q60 : (x42_3 : Int) ≤ ((l0_1.length : Int) : Int) := of_decide_eq_true (by first | (with_reducible assumption) | assumption)
                                        obtain ⟨i060, hi060, _, hsz60, _⟩ := info_parts info37
                                        have hroom60 : l0_1.length ≤ c0_1 := HC0_1.out
                                        have hC60 : Kd.C k37 _ (some ad131) l0_1.length l0_1 := HR0_1.out
                                        have hcut60 := cut_to (P := Try.prog) 24 37 .i64 Try.underlying24 hi060 (some ad131) l0_1.length c0_1 x42_3 (of_decide_eq_true (by first | (with_reducible assumption) | assumption)) q60 hroom60
                                        have hr60 := Kd.C_take (m := (x42_3 : Int).toNat) hC60 (by omega)
                                        have hy60 : y137.length = (x42_3 : Int).toNat := (by rw [Ny137.out, List.length_take]; omega)
                                        rw [← Ny137.out] at hr60
                                        rw [← hy60] at hcut60
                                        have HR140 := Aside0.mk hr60
                                        have HC140 := Aside0.mk (show y137.length ≤ c0_1 from by omega)
                                        clear hr60 hC60 hroom60 hi060 hsz60
                                        have KY60 := Aside0.mk hy60
                                        clear hy60
                                        replace q60 := eq_true q60
                                        refine hK.out _ _ ⟨(blk_cell BK127.out 0).trans rfl, (blk_cell BK127.out 1).trans rfl, (blk_cell BK127.out 2).trans rfl, (blk_cell BK132.out 0).trans rfl, (blk_cell BK132.out 1).trans rfl, (blk_cell BK132.out 2).trans rfl, (blk_cell BK132.out 3).trans rfl, ((HB.out.cell (World.block_lt_of_cell? w _ hw135_0)).trans hw135_0)⟩ (fun hHeld => ?_)
                                        clear hK K
                                        refine norm_ (a' := ?_) ?_ ?_
                                        rotate_left
                                        · show Act.put _ (some 91) _ = _
                                          simp only [Act.put, List.setIfInBounds_toArray, List.set_cons_zero, List.set_cons_succ, i64_w, i32_w]
                                          rfl
                                        refine pure_ (i := 9) (N := some 92) (v := ?_) (a' := ?_) #[true, true, true, true, true, true, true, true, true, true, false, false, false, false, false, false, false, false, false] rfl rfl (any_of HT_.out (by kernel_rfl)) (fun _ _ _ h => h) (Or.inl ⟨by rfl, ?_⟩) ?_ ?_
                                        rotate_left
                                        · intro w'
                                          go_simp
                                          with_reducible rfl
                                        rotate_left
                                        · simp only [Act.put, List.setIfInBounds_toArray, List.set_cons_zero, List.set_cons_succ, i64_w, i32_w]
                                          rfl
                                        refine pure_ (i := 10) (N := some 93) (v := ?_) (a' := ?_) #[true, true, true, true, true, true, true, true, true, true, true, false, false, false, false, false, false, false, false] rfl rfl (any_of HT_.out (by kernel_rfl)) (fun _ _ _ h => h) (Or.inl ⟨by rfl, ?_⟩) ?_ ?_
                                        rotate_left
                                        · intro w'
                                          go_simp
                                          with_reducible rfl
                                        rotate_left
                                        · simp only [Act.put, List.setIfInBounds_toArray, List.set_cons_zero, List.set_cons_succ, i64_w, i32_w]
                                          rfl
                                        refine pure_ (i := 12) (N := some 95) (v := ?_) (a' := ?_) #[true, true, true, true, true, true, true, true, true, true, true, false, true, false, false, false, false, false, false] rfl rfl (any_of HT_.out (by kernel_rfl)) (fun _ _ _ h => h) (Or.inl ⟨by rfl, ?_⟩) ?_ ?_
                                        rotate_left
                                        · intro w'
                                          go_simp
                                          with_reducible rfl
                                        rotate_left
                                        · simp only [Act.put, List.setIfInBounds_toArray, List.set_cons_zero, List.set_cons_succ, i64_w, i32_w]
                                          rfl
                                        refine pure_ (i := 14) (N := some 97) (v := ?_) (a' := ?_) #[true, true, true, true, true, true, true, true, true, true, true, false, true, false, true, false, false, false, false] rfl rfl (any_of HT_.out (by kernel_rfl)) (fun _ _ _ h => h) (Or.inl ⟨by rfl, ?_⟩) ?_ ?_
                                        rotate_left
                                        · intro w'
                                          go_simp
                                          with_reducible rfl
                                        rotate_left
                                        · simp only [Act.put, List.setIfInBounds_toArray, List.set_cons_zero, List.set_cons_succ, i64_w, i32_w]
                                          rfl
                                        refine take_ (i := 11) (N := some 94) (v := ?_) (a' := ?_) #[true, true, true, true, true, true, true, true, true, true, true, true, true, false, true, false, false, false, false] rfl rfl (take_ofW HT_.out HW_.out (by kernel_rfl)) (fun _ _ _ h => h) (Or.inl ⟨by rfl, ?_⟩) hHeld ?_ ?_
                                        rotate_left
                                        · rintro w' ⟨s0, s1, s2, s3, s4, s5, s6, s7⟩
                                          go_simp
                                          with_reducible rfl
                                        rotate_left
                                        · simp only [Act.put, List.setIfInBounds_toArray, List.set_cons_zero, List.set_cons_succ, i64_w, i32_w]
                                          rfl
                                        refine pure_ (i := 13) (N := some 96) (v := ?_) (a' := ?_) #[true, true, true, true, true, true, true, true, true, true, true, true, true, true, true, false, false, false, false] rfl rfl (any_of HT_.out (by kernel_rfl)) (fun _ _ _ h => h) (Or.inl ⟨by rfl, ?_⟩) ?_ ?_
                                        rotate_left
                                        · intro w'
                                          go_simp
                                          with_reducible rfl
                                        rotate_left
                                        · simp only [Act.put, List.setIfInBounds_toArray, List.set_cons_zero, List.set_cons_succ, i64_w, i32_w]
                                          rfl
                                        refine take_ (i := 15) (N := some 98) (v := ?_) (a' := ?_) #[true, true, true, true, true, true, true, true, true, true, true, true, true, true, true, true, false, false, false] rfl rfl (take_ofW HT_.out HW_.out (by kernel_rfl)) (fun _ _ _ h => h) (Or.inl ⟨by rfl, ?_⟩) hHeld ?_ ?_
                                        rotate_left
                                        · rintro w' ⟨s0, s1, s2, s3, s4, s5, s6, s7⟩
                                          go_simp
                                          with_reducible rfl
                                        rotate_left
                                        · simp only [Act.put, List.setIfInBounds_toArray, List.set_cons_zero, List.set_cons_succ, i64_w, i32_w]
                                          rfl
                                        refine one_ (i := 16) (N := some 99) #[true, true, true, true, true, true, true, true, true, true, true, true, true, true, true, true, true, false, false] rfl rfl (one_of HT_.out (by kernel_rfl)) (by decide) (fun K hK => ?_)
                                        refine goes_ Try.func35 (by kernel_rfl) rfl #[.slice (some ad131) y137.length c0_1, .int .i64 ((rd_T37 l0_1 x42_3).f0)] (by rfl) rfl rfl (by (try simp only [List.map_toArray, List.map_cons, List.map_nil]); first | done | rfl | (simp only [List.length_drop, List.length_take]; rfl)) ?_
                                        with_reducible refine (arb_waits.calls _ _ y137 ((rd_T37 l0_1 x42_3).f0) t141 _ ?side1 ?side2 A57.out).mono ?_
                                        (case side1 => repeat (first | exact (Kd.C_below HR140.out (by repeat (first | (with_reducible first | exact HB.out | apply below_alloc | apply pw_below_drewN | apply below_drew1 | refine below_set ?_ GE127.out | refine below_set ?_ GE132.out) | exact HB.out))) | (with_reducible refine Kd.C_alloc ?_ _) | (with_reducible refine Kd.C_drewN ?_ _) | (with_reducible refine Kd.C_drew ?_)))
                                        (case side2 => exact HC140.out)
                                        rintro e w61 ⟨rfl, hb⟩
                                        refine ⟨_, rfl, ?_⟩
                                        have n0_ := Aside0.mk (blk_below (g := gb127) (o := .cells #[.slice A0_0 l0_0.length c0_0, .slice (some ad131) l0_1.length c0_1, .int .i64 a0_2] 26 (0, 0)) (by (with_reducible repeat (first | refine blk_drewN ?_ _ | refine blk_drew ?_ | refine blk_alloc ?_ _)); exact BK127.out) hb)
                                        have n1_ := Aside0.mk (blk_below (g := gb132) (o := .cells #[.int .i64 ((rd_T37 l0_1 x42_3).f0), .int .i64 ((rd_T37 l0_1 x42_3).f1), .slice (some ad135) ((rd_T37 l0_1 x42_3).f2).length c131_2, .int .i64 ((rd_T37 l0_1 x42_3).f3)] 37 (0, 0)) (by (with_reducible repeat (first | refine blk_drewN ?_ _ | refine blk_drew ?_ | refine blk_alloc ?_ _)); exact BK132.out) hb)
                                        have n2_ := Aside0.mk (below_step (by repeat (first | (with_reducible first | exact HB.out | apply below_alloc | apply pw_below_drewN | apply below_drew1 | refine below_set ?_ GE127.out | refine below_set ?_ GE132.out) | exact HB.out)) hb)
                                        clear BK127
                                        clear BK132
                                        clear HB
                                        have BK127 := n0_
                                        have BK132 := n1_
                                        have HB := n2_
                                        clear n0_ n1_ n2_
                                        (try clear hb)
                                        (try clear hb2)
                                        (try clear hk)
                                        (try clear hi)
                                        refine hK.out _ _ ⟨(blk_cell BK127.out 0).trans rfl, (blk_cell BK127.out 1).trans rfl, (blk_cell BK127.out 2).trans rfl, (blk_cell BK132.out 0).trans rfl, (blk_cell BK132.out 1).trans rfl, (blk_cell BK132.out 2).trans rfl, (blk_cell BK132.out 3).trans rfl, ((HB.out.cell (World.block_lt_of_cell? w _ hw135_0)).trans hw135_0)⟩ (fun hHeld => ?_)
                                        clear hK K
                                        refine norm_ (a' := ?_) ?_ ?_
                                        rotate_left
                                        · show Act.put _ (some 99) _ = _
                                          simp only [Act.put, List.setIfInBounds_toArray, List.set_cons_zero, List.set_cons_succ, i64_w, i32_w]
                                          rfl
                                        refine pure_ (i := 17) (N := some 100) (v := ?_) (a' := ?_) #[true, true, true, true, true, true, true, true, true, true, true, true, true, true, true, true, true, true, false] rfl rfl (any_of HT_.out (by kernel_rfl)) (fun _ _ _ h => h) (Or.inl ⟨by rfl, ?_⟩) ?_ ?_
                                        rotate_left
                                        · intro w'
                                          go_simp
                                          with_reducible rfl
                                        rotate_left
                                        · simp only [Act.put, List.setIfInBounds_toArray, List.set_cons_zero, List.set_cons_succ, i64_w, i32_w]
                                          rfl
                                        refine pure_ (i := 18) (N := some 101) (v := ?_) (a' := ?_) #[true, true, true, true, true, true, true, true, true, true, true, true, true, true, true, true, true, true, true] rfl rfl (any_of HT_.out (by kernel_rfl)) (fun _ _ _ h => h) (Or.inl ⟨by rfl, ?_⟩) ?_ ?_
                                        rotate_left
                                        · intro w'
                                          go_simp
                                          with_reducible rfl
                                        rotate_left
                                        · simp only [Act.put, List.setIfInBounds_toArray, List.set_cons_zero, List.set_cons_succ, i64_w, i32_w]
                                          rfl
                                        refine done_ (done_of HT_.out (by kernel_rfl)) ?_
                                        try go_wp2
                                        go_ret
                                        exact ⟨by first | rfl | (simp [errW_none, errW_some] <;> rfl) | (simp [*, errW_none, errW_some] <;> rfl), by repeat (first | (with_reducible first | exact HB.out | apply below_alloc | apply pw_below_drewN | apply below_drew1 | refine below_set ?_ GE127.out | refine below_set ?_ GE132.out) | exact HB.out)⟩
                                      · rw [if_neg c58] at H
                                        have c58b0 : decide (0 ≤ t141) = false := decide_eq_false c58
                                        clear c58
                                        have H' := Aside0.mk H
                                        clear H
                                        try go_wp2
                                        have n0_ := Aside0.mk (blk_drew BK127.out)
                                        have n1_ := Aside0.mk (blk_drew BK132.out)
                                        have n2_ := Aside0.mk (below_drew1 HB.out)
                                        clear BK127
                                        clear BK132
                                        clear HB
                                        have BK127 := n0_
                                        have BK132 := n1_
                                        have HB := n2_
                                        clear n0_ n1_ n2_
                                        have p135 : 0 ≤ (0 : Int) := (by omega)
                                        have q135 : 0 < (((rd_T37 l0_1 x42_3).f2).length : Int) := of_decide_eq_true (by first | (with_reducible assumption) | assumption)
                                        obtain ⟨ad135, e135, hx135_0⟩ := Kd.at_int HR131_2.out 0 p135 q135
                                        have hw135_0 := hx135_0
                                        (try rw [show ((0 : Int)).toNat = 0 from rfl] at hw135_0)
                                        (try rw [show 0 * 1 = 0 from rfl] at hw135_0)
                                        (try rw [Addr.add_zero'] at hw135_0)
                                        cases e135
                                        have qi135 : (0 < ((rd_T37 l0_1 x42_3).f2).length) = True := eq_true (by omega)
                                        (try rw [show ((0 : Int)).toNat = 0 from rfl] at hx135_0)
                                        (try rw [Addr.add_zero'] at hx135_0)
                                        replace hx135_0 := (HB.out.cell (World.block_lt_of_cell? w _ hx135_0)).trans hx135_0
                                        replace p135 := eq_true p135
                                        replace q135 := eq_true q135
                                        refine start_ (n := 19) (S := fun w' => w'.cell? ⟨gb127, 0, none⟩ = some (.slice A0_0 l0_0.length c0_0) ∧ w'.cell? ⟨gb127, 1, none⟩ = some (.slice (some ad131) l0_1.length c0_1) ∧ w'.cell? ⟨gb127, 2, none⟩ = some (.int .i64 a0_2) ∧ w'.cell? ⟨gb132, 0, none⟩ = some (.int .i64 ((rd_T37 l0_1 x42_3).f0)) ∧ w'.cell? ⟨gb132, 1, none⟩ = some (.int .i64 ((rd_T37 l0_1 x42_3).f1)) ∧ w'.cell? ⟨gb132, 2, none⟩ = some (.slice (some ad135) ((rd_T37 l0_1 x42_3).f2).length c131_2) ∧ w'.cell? ⟨gb132, 3, none⟩ = some (.int .i64 ((rd_T37 l0_1 x42_3).f3)) ∧ w'.cell? ad135 = some (.int .i64 (rd ((rd_T37 l0_1 x42_3).f2) 0))) (ds := []) #[false, false, false, false, false, false, false, false, false, false, false, false, false, false, false, false, false, false, false] (by kernel_rfl) rfl rfl ⟨(blk_cell BK127.out 0).trans rfl, (blk_cell BK127.out 1).trans rfl, (blk_cell BK127.out 2).trans rfl, (blk_cell BK132.out 0).trans rfl, (blk_cell BK132.out 1).trans rfl, (blk_cell BK132.out 2).trans rfl, (blk_cell BK132.out 3).trans rfl, ((HB.out.cell (World.block_lt_of_cell? w _ hw135_0)).trans hw135_0)⟩ (fun hHeld => ?_); refine with_tabW arb_Right.tab15 arb_Right.bits15 (fun HT_ HW_ => ?_)
                                        generalize wc.drew = w62 at BK127 BK132 HB hx135_0 hHeld ⊢
                                        refine pure_ (i := 0) (N := some 83) (v := ?_) (a' := ?_) #[true, false, false, false, false, false, false, false, false, false, false, false, false, false, false, false, false, false, false] rfl rfl (any_of HT_.out (by kernel_rfl)) (fun _ _ _ h => h) (Or.inl ⟨by rfl, ?_⟩) ?_ ?_
                                        rotate_left
                                        · intro w'
                                          go_simp
                                          with_reducible rfl
                                        rotate_left
                                        · simp only [Act.put, List.setIfInBounds_toArray, List.set_cons_zero, List.set_cons_succ, i64_w, i32_w]
                                          rfl
                                        refine pure_ (i := 2) (N := some 85) (v := ?_) (a' := ?_) #[true, false, true, false, false, false, false, false, false, false, false, false, false, false, false, false, false, false, false] rfl rfl (any_of HT_.out (by kernel_rfl)) (fun _ _ _ h => h) (Or.inl ⟨by rfl, ?_⟩) ?_ ?_
                                        rotate_left
                                        · intro w'
                                          go_simp
                                          with_reducible rfl
                                        rotate_left
                                        · simp only [Act.put, List.setIfInBounds_toArray, List.set_cons_zero, List.set_cons_succ, i64_w, i32_w]
                                          rfl
                                        refine pure_ (i := 4) (N := some 87) (v := ?_) (a' := ?_) #[true, false, true, false, true, false, false, false, false, false, false, false, false, false, false, false, false, false, false] rfl rfl (any_of HT_.out (by kernel_rfl)) (fun _ _ _ h => h) (Or.inl ⟨by rfl, ?_⟩) ?_ ?_
                                        rotate_left
                                        · intro w'
                                          go_simp
                                          with_reducible rfl
                                        rotate_left
                                        · simp only [Act.put, List.setIfInBounds_toArray, List.set_cons_zero, List.set_cons_succ, i64_w, i32_w]
                                          rfl
                                        refine take_ (i := 1) (N := some 84) (v := ?_) (a' := ?_) #[true, true, true, false, true, false, false, false, false, false, false, false, false, false, false, false, false, false, false] rfl rfl (take_ofW HT_.out HW_.out (by kernel_rfl)) (fun _ _ _ h => h) (Or.inl ⟨by rfl, ?_⟩) hHeld ?_ ?_
                                        rotate_left
                                        · rintro w' ⟨s0, s1, s2, s3, s4, s5, s6, s7⟩
                                          go_simp
                                          with_reducible rfl
                                        rotate_left
                                        · simp only [Act.put, List.setIfInBounds_toArray, List.set_cons_zero, List.set_cons_succ, i64_w, i32_w]
                                          rfl
                                        refine take_ (i := 3) (N := some 86) (v := ?_) (a' := ?_) #[true, true, true, true, true, false, false, false, false, false, false, false, false, false, false, false, false, false, false] rfl rfl (take_ofW HT_.out HW_.out (by kernel_rfl)) (fun _ _ _ h => h) (Or.inl ⟨by rfl, ?_⟩) hHeld ?_ ?_
                                        rotate_left
                                        · rintro w' ⟨s0, s1, s2, s3, s4, s5, s6, s7⟩
                                          go_simp
                                          with_reducible rfl
                                        rotate_left
                                        · simp only [Act.put, List.setIfInBounds_toArray, List.set_cons_zero, List.set_cons_succ, i64_w, i32_w]
                                          rfl
                                        refine take_ (i := 5) (N := some 88) (v := ?_) (a' := ?_) #[true, true, true, true, true, true, false, false, false, false, false, false, false, false, false, false, false, false, false] rfl rfl (take_ofW HT_.out HW_.out (by kernel_rfl)) (fun _ _ _ h => h) (Or.inl ⟨by rfl, ?_⟩) hHeld ?_ ?_
                                        rotate_left
                                        · rintro w' ⟨s0, s1, s2, s3, s4, s5, s6, s7⟩
                                          go_simp
                                          with_reducible rfl
                                        rotate_left
                                        · simp only [Act.put, List.setIfInBounds_toArray, List.set_cons_zero, List.set_cons_succ, i64_w, i32_w]
                                          rfl
                                        refine pure_ (i := 6) (N := some 89) (v := ?_) (a' := ?_) #[true, true, true, true, true, true, true, false, false, false, false, false, false, false, false, false, false, false, false] rfl rfl (any_of HT_.out (by kernel_rfl)) (fun _ _ _ h => h) (Or.inl ⟨by rfl, ?_⟩) ?_ ?_
                                        rotate_left
                                        · intro w'
                                          go_simp
                                          with_reducible rfl
                                        rotate_left
                                        · simp only [Act.put, List.setIfInBounds_toArray, List.set_cons_zero, List.set_cons_succ, i64_w, i32_w]
                                          rfl
                                        refine take_ (i := 7) (N := some 90) (v := ?_) (a' := ?_) #[true, true, true, true, true, true, true, true, false, false, false, false, false, false, false, false, false, false, false] rfl rfl (take_ofW HT_.out HW_.out (by kernel_rfl)) (fun _ _ _ h => h) (Or.inl ⟨by rfl, ?_⟩) hHeld ?_ ?_
                                        rotate_left
                                        · rintro w' ⟨s0, s1, s2, s3, s4, s5, s6, s7⟩
                                          go_simp
                                          with_reducible rfl
                                        rotate_left
                                        · simp only [Act.put, List.setIfInBounds_toArray, List.set_cons_zero, List.set_cons_succ, i64_w, i32_w]
                                          rfl
                                        refine one_ (i := 8) (N := some 91) #[true, true, true, true, true, true, true, true, true, false, false, false, false, false, false, false, false, false, false] rfl rfl (one_of HT_.out (by kernel_rfl)) (by decide) (fun K hK => ?_)
                                        refine goes_ Try.func34 (by kernel_rfl) rfl #[.slice A0_0 l0_0.length c0_0, .int .i64 ((rd_T37 l0_1 x42_3).f0), .int .i64 (rd ((rd_T37 l0_1 x42_3).f2) 0)] (by rfl) rfl rfl (by (try simp only [List.map_toArray, List.map_cons, List.map_nil]); first | done | rfl | (simp only [List.length_drop, List.length_take]; rfl)) ?_
                                        with_reducible refine (arb_above.calls kj21 _ _ l0_0 ((rd_T37 l0_1 x42_3).f0) (rd ((rd_T37 l0_1 x42_3).f2) 0) false _ ?side1 ?side2 A52.out).mono ?_
                                        (case side1 => repeat (first | exact (Kd.C_below HR0_0.out HB.out) | (with_reducible refine Kd.C_alloc ?_ _) | (with_reducible refine Kd.C_drewN ?_ _) | (with_reducible refine Kd.C_drew ?_)))
                                        (case side2 => exact HC0_0.out)
                                        rintro e w' ⟨rfl, ⟨nd, rfl⟩⟩
                                        refine ⟨_, rfl, ?_⟩
                                        have q63 : (x42_3 : Int) ≤ ((l0_1.length : Int) : Int) := of_decide_eq_true (by first | (with_reducible assumption) | assumption)
                                        obtain ⟨i063, hi063, _, hsz63, _⟩ := info_parts info37
                                        have hroom63 : l0_1.length ≤ c0_1 := HC0_1.out
                                        have hC63 : Kd.C k37 _ (some ad131) l0_1.length l0_1 := HR0_1.out
                                        have hcut63 := cut_to (P := Try.prog) 24 37 .i64 Try.underlying24 hi063 (some ad131) l0_1.length c0_1 x42_3 (of_decide_eq_true (by first | (with_reducible assumption) | assumption)) q63 hroom63
                                        have hr63 := Kd.C_take (m := (x42_3 : Int).toNat) hC63 (by omega)
                                        have hy63 : y137.length = (x42_3 : Int).toNat := (by rw [Ny137.out, List.length_take]; omega)
                                        rw [← Ny137.out] at hr63
                                        rw [← hy63] at hcut63
                                        have HR140 := Aside0.mk hr63
                                        have HC140 := Aside0.mk (show y137.length ≤ c0_1 from by omega)
                                        clear hr63 hC63 hroom63 hi063 hsz63
                                        have KY63 := Aside0.mk hy63
                                        clear hy63
                                        replace q63 := eq_true q63
                                        refine hK.out _ _ ⟨(blk_cell BK127.out 0).trans rfl, (blk_cell BK127.out 1).trans rfl, (blk_cell BK127.out 2).trans rfl, (blk_cell BK132.out 0).trans rfl, (blk_cell BK132.out 1).trans rfl, (blk_cell BK132.out 2).trans rfl, (blk_cell BK132.out 3).trans rfl, ((HB.out.cell (World.block_lt_of_cell? w _ hw135_0)).trans hw135_0)⟩ (fun hHeld => ?_)
                                        clear hK K
                                        refine norm_ (a' := ?_) ?_ ?_
                                        rotate_left
                                        · show Act.put _ (some 91) _ = _
                                          simp only [Act.put, List.setIfInBounds_toArray, List.set_cons_zero, List.set_cons_succ, i64_w, i32_w]
                                          rfl
                                        refine pure_ (i := 9) (N := some 92) (v := ?_) (a' := ?_) #[true, true, true, true, true, true, true, true, true, true, false, false, false, false, false, false, false, false, false] rfl rfl (any_of HT_.out (by kernel_rfl)) (fun _ _ _ h => h) (Or.inl ⟨by rfl, ?_⟩) ?_ ?_
                                        rotate_left
                                        · intro w'
                                          go_simp
                                          with_reducible rfl
                                        rotate_left
                                        · simp only [Act.put, List.setIfInBounds_toArray, List.set_cons_zero, List.set_cons_succ, i64_w, i32_w]
                                          rfl
                                        refine pure_ (i := 10) (N := some 93) (v := ?_) (a' := ?_) #[true, true, true, true, true, true, true, true, true, true, true, false, false, false, false, false, false, false, false] rfl rfl (any_of HT_.out (by kernel_rfl)) (fun _ _ _ h => h) (Or.inl ⟨by rfl, ?_⟩) ?_ ?_
                                        rotate_left
                                        · intro w'
                                          go_simp
                                          with_reducible rfl
                                        rotate_left
                                        · simp only [Act.put, List.setIfInBounds_toArray, List.set_cons_zero, List.set_cons_succ, i64_w, i32_w]
                                          rfl
                                        refine pure_ (i := 12) (N := some 95) (v := ?_) (a' := ?_) #[true, true, true, true, true, true, true, true, true, true, true, false, true, false, false, false, false, false, false] rfl rfl (any_of HT_.out (by kernel_rfl)) (fun _ _ _ h => h) (Or.inl ⟨by rfl, ?_⟩) ?_ ?_
                                        rotate_left
                                        · intro w'
                                          go_simp
                                          with_reducible rfl
                                        rotate_left
                                        · simp only [Act.put, List.setIfInBounds_toArray, List.set_cons_zero, List.set_cons_succ, i64_w, i32_w]
                                          rfl
                                        refine pure_ (i := 14) (N := some 97) (v := ?_) (a' := ?_) #[true, true, true, true, true, true, true, true, true, true, true, false, true, false, true, false, false, false, false] rfl rfl (any_of HT_.out (by kernel_rfl)) (fun _ _ _ h => h) (Or.inl ⟨by rfl, ?_⟩) ?_ ?_
                                        rotate_left
                                        · intro w'
                                          go_simp
                                          with_reducible rfl
                                        rotate_left
                                        · simp only [Act.put, List.setIfInBounds_toArray, List.set_cons_zero, List.set_cons_succ, i64_w, i32_w]
                                          rfl
                                        refine take_ (i := 11) (N := some 94) (v := ?_) (a' := ?_) #[true, true, true, true, true, true, true, true, true, true, true, true, true, false, true, false, false, false, false] rfl rfl (take_ofW HT_.out HW_.out (by kernel_rfl)) (fun _ _ _ h => h) (Or.inl ⟨by rfl, ?_⟩) hHeld ?_ ?_
                                        rotate_left
                                        · rintro w' ⟨s0, s1, s2, s3, s4, s5, s6, s7⟩
                                          go_simp
                                          with_reducible rfl
                                        rotate_left
                                        · simp only [Act.put, List.setIfInBounds_toArray, List.set_cons_zero, List.set_cons_succ, i64_w, i32_w]
                                          rfl
                                        refine pure_ (i := 13) (N := some 96) (v := ?_) (a' := ?_) #[true, true, true, true, true, true, true, true, true, true, true, true, true, true, true, false, false, false, false] rfl rfl (any_of HT_.out (by kernel_rfl)) (fun _ _ _ h => h) (Or.inl ⟨by rfl, ?_⟩) ?_ ?_
                                        rotate_left
                                        · intro w'
                                          go_simp
                                          with_reducible rfl
                                        rotate_left
                                        · simp only [Act.put, List.setIfInBounds_toArray, List.set_cons_zero, List.set_cons_succ, i64_w, i32_w]
                                          rfl
                                        refine take_ (i := 15) (N := some 98) (v := ?_) (a' := ?_) #[true, true, true, true, true, true, true, true, true, true, true, true, true, true, true, true, false, false, false] rfl rfl (take_ofW HT_.out HW_.out (by kernel_rfl)) (fun _ _ _ h => h) (Or.inl ⟨by rfl, ?_⟩) hHeld ?_ ?_
                                        rotate_left
                                        · rintro w' ⟨s0, s1, s2, s3, s4, s5, s6, s7⟩
                                          go_simp
                                          with_reducible rfl
                                        rotate_left
                                        · simp only [Act.put, List.setIfInBounds_toArray, List.set_cons_zero, List.set_cons_succ, i64_w, i32_w]
                                          rfl
                                        refine one_ (i := 16) (N := some 99) #[true, true, true, true, true, true, true, true, true, true, true, true, true, true, true, true, true, false, false] rfl rfl (one_of HT_.out (by kernel_rfl)) (by decide) (fun K hK => ?_)
                                        refine goes_ Try.func35 (by kernel_rfl) rfl #[.slice (some ad131) y137.length c0_1, .int .i64 ((rd_T37 l0_1 x42_3).f0)] (by rfl) rfl rfl (by (try simp only [List.map_toArray, List.map_cons, List.map_nil]); first | done | rfl | (simp only [List.length_drop, List.length_take]; rfl)) ?_
                                        with_reducible refine (arb_waits.calls _ _ y137 ((rd_T37 l0_1 x42_3).f0) t141 _ ?side1 ?side2 A57.out).mono ?_
                                        (case side1 => repeat (first | exact (Kd.C_below HR140.out (by repeat (first | (with_reducible first | exact HB.out | apply below_alloc | apply pw_below_drewN | apply below_drew1 | refine below_set ?_ GE127.out | refine below_set ?_ GE132.out) | exact HB.out))) | (with_reducible refine Kd.C_alloc ?_ _) | (with_reducible refine Kd.C_drewN ?_ _) | (with_reducible refine Kd.C_drew ?_)))
                                        (case side2 => exact HC140.out)
                                        rintro e w64 ⟨rfl, hb⟩
                                        refine ⟨_, rfl, ?_⟩
                                        have n0_ := Aside0.mk (blk_below (g := gb127) (o := .cells #[.slice A0_0 l0_0.length c0_0, .slice (some ad131) l0_1.length c0_1, .int .i64 a0_2] 26 (0, 0)) (by (with_reducible repeat (first | refine blk_drewN ?_ _ | refine blk_drew ?_ | refine blk_alloc ?_ _)); exact BK127.out) hb)
                                        have n1_ := Aside0.mk (blk_below (g := gb132) (o := .cells #[.int .i64 ((rd_T37 l0_1 x42_3).f0), .int .i64 ((rd_T37 l0_1 x42_3).f1), .slice (some ad135) ((rd_T37 l0_1 x42_3).f2).length c131_2, .int .i64 ((rd_T37 l0_1 x42_3).f3)] 37 (0, 0)) (by (with_reducible repeat (first | refine blk_drewN ?_ _ | refine blk_drew ?_ | refine blk_alloc ?_ _)); exact BK132.out) hb)
                                        have n2_ := Aside0.mk (below_step (by repeat (first | (with_reducible first | exact HB.out | apply below_alloc | apply pw_below_drewN | apply below_drew1 | refine below_set ?_ GE127.out | refine below_set ?_ GE132.out) | exact HB.out)) hb)
                                        clear BK127
                                        clear BK132
                                        clear HB
                                        have BK127 := n0_
                                        have BK132 := n1_
                                        have HB := n2_
                                        clear n0_ n1_ n2_
                                        (try clear hb)
                                        (try clear hb2)
                                        (try clear hk)
                                        (try clear hi)
                                        refine hK.out _ _ ⟨(blk_cell BK127.out 0).trans rfl, (blk_cell BK127.out 1).trans rfl, (blk_cell BK127.out 2).trans rfl, (blk_cell BK132.out 0).trans rfl, (blk_cell BK132.out 1).trans rfl, (blk_cell BK132.out 2).trans rfl, (blk_cell BK132.out 3).trans rfl, ((HB.out.cell (World.block_lt_of_cell? w _ hw135_0)).trans hw135_0)⟩ (fun hHeld => ?_)
                                        clear hK K
                                        refine norm_ (a' := ?_) ?_ ?_
                                        rotate_left
                                        · show Act.put _ (some 99) _ = _
                                          simp only [Act.put, List.setIfInBounds_toArray, List.set_cons_zero, List.set_cons_succ, i64_w, i32_w]
                                          rfl
                                        refine pure_ (i := 17) (N := some 100) (v := ?_) (a' := ?_) #[true, true, true, true, true, true, true, true, true, true, true, true, true, true, true, true, true, true, false] rfl rfl (any_of HT_.out (by kernel_rfl)) (fun _ _ _ h => h) (Or.inl ⟨by rfl, ?_⟩) ?_ ?_
                                        rotate_left
                                        · intro w'
                                          go_simp
                                          with_reducible rfl
                                        rotate_left
                                        · simp only [Act.put, List.setIfInBounds_toArray, List.set_cons_zero, List.set_cons_succ, i64_w, i32_w]
                                          rfl
                                        refine pure_ (i := 18) (N := some 101) (v := ?_) (a' := ?_) #[true, true, true, true, true, true, true, true, true, true, true, true, true, true, true, true, true, true, true] rfl rfl (any_of HT_.out (by kernel_rfl)) (fun _ _ _ h => h) (Or.inl ⟨by rfl, ?_⟩) ?_ ?_
                                        rotate_left
                                        · intro w'
                                          go_simp
                                          with_reducible rfl
                                        rotate_left
                                        · simp only [Act.put, List.setIfInBounds_toArray, List.set_cons_zero, List.set_cons_succ, i64_w, i32_w]
                                          rfl
                                        refine done_ (done_of HT_.out (by kernel_rfl)) ?_
                                        have hnb65 := NB132_127.out
                                        have hnc65 := NB127_132.out
                                        have hcz66_0 : w64.cell? ⟨gb132, 0, none⟩ = some (.int .i64 ((rd_T37 l0_1 x42_3).f0)) := (blk_cell BK132.out 0).trans rfl
                                        have hcz66_1 : w64.cell? ⟨gb132, 1, none⟩ = some (.int .i64 ((rd_T37 l0_1 x42_3).f1)) := (blk_cell BK132.out 1).trans rfl
                                        have hcz66_2 : w64.cell? ⟨gb132, 2, none⟩ = some (.slice (some ad135) ((rd_T37 l0_1 x42_3).f2).length c131_2) := (blk_cell BK132.out 2).trans rfl
                                        have hcz66_3 : w64.cell? ⟨gb132, 3, none⟩ = some (.int .i64 ((rd_T37 l0_1 x42_3).f3)) := (blk_cell BK132.out 3).trans rfl
                                        have hfz66_0 := blk_frozen BK132.out 0
                                        have hfz66_1 := blk_frozen BK132.out 1
                                        have hfz66_2 := blk_frozen BK132.out 2
                                        have hfz66_3 := blk_frozen BK132.out 3
                                        try go_wp2
                                        go_roundg kj21
                                        case measure => have := HJ1.out; have := HK2.out; have := HK3.out; have := HJ21.out; omega
                                        case rel => exact ⟨(((rd_T37 l0_1 x42_3).f3)), (wrap64 (x42_3 + 1)), (by first | rfl | (simp; done) | (simp [*]; done)), (by first | rfl | (simp; done) | (simp [*]; done)), H', ⟨by have := HJ1.out; have := HK2.out; have := HK3.out; have := HJ21.out; omega⟩, ⟨by (with_reducible repeat (first | refine blk_drewN ?_ _ | refine blk_drew ?_ | refine blk_alloc ?_ _)); exact BK127.out⟩, ⟨by repeat (first | (with_reducible first | exact HB.out | apply below_alloc | apply pw_below_drewN | apply below_drew1 | refine below_set ?_ GE127.out | refine below_set ?_ GE132.out) | exact HB.out)⟩⟩
                                    · rw [if_neg c56] at H
                                      exact absurd H (by simp)
                                  · rw [if_neg c55] at H
                                    exact absurd H (by simp)
                              · rw [if_neg c51] at H
                                exact absurd H (by simp)
                      · rw [if_neg c21] at H
                        exact absurd H (by simp)
                    · rw [if_neg c20] at H
                      exact absurd H (by simp)
                  · rw [if_neg c19] at H
                    have c19b0 : decide (x42_3 < (l0_1.length : Int)) = false := decide_eq_false c19
                    clear c19
                    obtain rfl := Option.some.inj H
                    go_wp2
                    go_ret
                    exact ⟨by first | rfl | (simp [errW_none, errW_some] <;> rfl) | (simp [*, errW_none, errW_some] <;> rfl), by repeat (first | (with_reducible first | exact HB.out | apply below_alloc | apply pw_below_drewN | apply below_drew1 | refine below_set ?_ GE127.out) | exact HB.out)⟩
end Go.Proofs.Ytgmcmhlomfeldaa.Print
/-! ### Print5 -/
namespace Go.Proofs.Ytgmcmhlomfeldaa.Print
open Go.RowKit Go.Proofs.YtgmcmhlomfeldaaW.PrintWords Go.Proofs.YtgmcmhlomfeldaaW.PrintLast Go.Proofs.YtgmcmhlomfeldaaW.PrintMore
set_option linter.unusedVariables false
set_option linter.unusedSimpArgs false
def arb_Ask.j0 : Nat → Int → Int → List Int → Bool → List Int → List (S37) → Int → Option (List Int × (List (S37)) × Int × Int)
  | 0, _, _, _, _, _, _, _ => none
  | k + 1, x1, x2, x3, x11, x164000, x164001, x164002 => if x11 = true then (some (([] : List Int), ([] : List (S37)), 0, 1)) else ((arb_waits.f x164001 x1).bind fun t168 => (if t168 ≥ 0 then (some (([] : List Int), ([] : List (S37)), 0, 5)) else (if 0 < (x3.length : Int) then ((arb_above.f k x164000 x1 (rd x3 0)).bind fun t170 => (if t170 = true then (some (([] : List Int), ([] : List (S37)), 0, 170)) else (if x164002 = 1099511627776 then (some (([] : List Int), ([] : List (S37)), 0, 3)) else ((arb_copied.f x164000 x164001 x164002).bind fun bt171 => ((slices_Clone_int_int.f x3).bind fun t179 => (if bt171.2.1.length < 2932031007402 then (some (bt171.1, (bt171.2.1 ++ [(⟨x1, x2, t179, x164002⟩ : S37)]), wrap64 (bt171.2.2 + 1), 0)) else (none))))))) else (none))))
def arb_Ask.f (k : Nat) (l0_0 : List Int) (l0_1 : List (S37)) (a0_2 : Int) (a1 : Int) (a2 : Int) (l3 : List Int) : Option (List Int × (List (S37)) × Int × Int) := (arb_Right.f k l0_0 l0_1 a0_2).bind fun t165 => (if t165 = true then ((arb_batch.f a1).bind fun t166 => (if t166 = true then (if a2 < 0 then (arb_Ask.j0 k a1 a2 l3 (decide (a2 < 0)) l0_0 l0_1 a0_2) else (if a2 ≥ 24 then (arb_Ask.j0 k a1 a2 l3 (decide (a2 ≥ 24)) l0_0 l0_1 a0_2) else ((arb_rising.f k l3 (l0_0.length : Int)).bind fun t167 => (arb_Ask.j0 k a1 a2 l3 (!t167) l0_0 l0_1 a0_2)))) else (arb_Ask.j0 k a1 a2 l3 (!t166) l0_0 l0_1 a0_2))) else (arb_Ask.j0 k a1 a2 l3 (!t165) l0_0 l0_1 a0_2))
def arb_Ask.T9 : Bool × List (List Nat × List Nat) := (true, [([], []), ([0], [0]), ([], []), ([], []), ([3], [3]), ([4], [4]), ([1, 2, 5], [1, 2, 5]), ([6, 6], [6])])
def arb_Ask.B9 : List Nat := [0, 1, 0, 0, 8, 24, 63, 127]
theorem arb_Ask.tab9 : rtab .any (opsOf Try.f14 9) = arb_Ask.T9 := by kernel_rfl
theorem arb_Ask.bits9 : waitsOk arb_Ask.T9.2 arb_Ask.B9 = true := by kernel_rfl
def arb_Ask.T14 : Bool × List (List Nat × List Nat) := (true, [([], []), ([0], [0]), ([], []), ([], []), ([], []), ([4], [4]), ([], []), ([6], [6]), ([2, 3, 5, 7], [2, 3, 5, 7]), ([8], [8]), ([1, 9, 5], [1, 9]), ([0, 1, 2, 3, 4, 5, 6, 7, 8, 9, 10], []), ([11, 10, 10, 0, 1, 2, 3, 4, 5, 6, 7, 8, 9, 10], [10, 11])])
def arb_Ask.B14 : List Nat := [0, 1, 0, 0, 0, 16, 0, 64, 252, 508, 1023, 2047, 4095]
theorem arb_Ask.tab14 : rtab .any (opsOf Try.f14 14) = arb_Ask.T14 := by kernel_rfl
theorem arb_Ask.bits14 : waitsOk arb_Ask.T14.2 arb_Ask.B14 = true := by kernel_rfl
set_option maxHeartbeats 8000000 in
set_option maxRecDepth 100000 in
theorem arb_Ask.calls (k : Nat) (A0_0 : Option Addr) (c0_0 : Nat) (l0_0 : List Int) (A0_1 : Option Addr) (c0_1 : Nat) (l0_1 : List (S37)) (a0_2 : Int) (a1 : Int) (a2 : Int) (A3 : Option Addr) (c3 : Nat) (l3 : List Int) (r1 : List Int) (r2 : List (S37)) (r3 : Int) (r4 : Int) (w : World) (hr0_0 : Kd.C (Kd.int .i64) w A0_0 l0_0.length l0_0) (hc0_0 : l0_0.length ≤ c0_0) (hr0_1 : Kd.C k37 w A0_1 l0_1.length l0_1) (hc0_1 : l0_1.length ≤ c0_1) (hr3 : Kd.C (Kd.int .i64) w A3 l3.length l3) (hc3 : l3.length ≤ c3) (h : arb_Ask.f k l0_0 l0_1 a0_2 a1 a2 l3 = some (r1, r2, r3, r4)) :
    Calls Try.prog 14 #[.agg #[.slice A0_0 l0_0.length c0_0, .slice A0_1 l0_1.length c0_1, .int .i64 a0_2], .int .i64 a1, .int .i64 a2, .slice A3 l3.length c3] w fun e w' => ∃ v0_ v1_ : Value, e = .returned (.tuple #[.agg #[v0_, v1_, .int .i64 r3], .int .i64 r4]) ∧ Kd.R (Kd.int .i64) 3 w' w.heap.size (fun _ => True) v0_ r1 ∧ Kd.S k37 37 w' w.heap.size (fun k_ => some k_ ≠ (v0_ : Value).ownBlock) v1_ r2 ∧ Below w.heap.size w w' := by
  have hu26 := Try.underlying26
  have hu37 := Try.underlying37
  have HR0_0 := Aside0.mk hr0_0
  have HC0_0 := Aside0.mk hc0_0
  clear hr0_0 hc0_0
  have HR0_1 := Aside0.mk hr0_1
  have HC0_1 := Aside0.mk hc0_1
  clear hr0_1 hc0_1
  have HR3 := Aside0.mk hr3
  have HC3 := Aside0.mk hc3
  clear hr3 hc3
  have HB := Aside0.mk (Below.refl w.heap.size w)
  have H : ((arb_Right.f k l0_0 l0_1 a0_2).bind fun t165 => (if t165 = true then ((arb_batch.f a1).bind fun t166 => (if t166 = true then (if a2 < 0 then (arb_Ask.j0 k a1 a2 l3 (decide (a2 < 0)) l0_0 l0_1 a0_2) else (if a2 ≥ 24 then (arb_Ask.j0 k a1 a2 l3 (decide (a2 ≥ 24)) l0_0 l0_1 a0_2) else ((arb_rising.f k l3 (l0_0.length : Int)).bind fun t167 => (arb_Ask.j0 k a1 a2 l3 (!t167) l0_0 l0_1 a0_2)))) else (arb_Ask.j0 k a1 a2 l3 (!t166) l0_0 l0_1 a0_2))) else (arb_Ask.j0 k a1 a2 l3 (!t165) l0_0 l0_1 a0_2))) = some (r1, r2, r3, r4) := h
  clear h
  replace H := Option.bind_eq_some_iff.mp H
  obtain ⟨t165, A50, H⟩ := H
  replace H : (if t165 = true then ((arb_batch.f a1).bind fun t166 => (if t166 = true then (if a2 < 0 then (arb_Ask.j0 k a1 a2 l3 (decide (a2 < 0)) l0_0 l0_1 a0_2) else (if a2 ≥ 24 then (arb_Ask.j0 k a1 a2 l3 (decide (a2 ≥ 24)) l0_0 l0_1 a0_2) else ((arb_rising.f k l3 (l0_0.length : Int)).bind fun t167 => (arb_Ask.j0 k a1 a2 l3 (!t167) l0_0 l0_1 a0_2)))) else (arb_Ask.j0 k a1 a2 l3 (!t166) l0_0 l0_1 a0_2))) else (arb_Ask.j0 k a1 a2 l3 (!t165) l0_0 l0_1 a0_2)) = some (r1, r2, r3, r4) := H
  have A5 := Aside0.mk A50
  clear A50
  have HC6 := Aside0.mk H
  clear H
  go_enter Try.func14, Try.ntmps14
  go_upto_if 11 with (first | ((with_reducible refine gate_dst (N := 4) rfl ?_); refine box_event ?hg (N := 4) ?hd (cs := #[.slice A0_0 l0_0.length c0_0, .slice A0_1 l0_1.length c0_1, .int .i64 a0_2]) (t := 26) ?hr ?_; (case hd => rfl); (case hg => rfl); (case hr => first | (go_simp; done) | (go_simp; rfl)); intro gb163 hg w7 hbox hb; have n0_ := Aside0.mk (below_step (by repeat (first | (with_reducible first | exact HB.out | apply below_alloc | apply pw_below_drewN | apply below_drew1) | exact HB.out)) hb); have n1_ := Aside0.mk (hbox); have n2_ := Aside0.mk ((by rw [hg]; exact (below_size (by repeat (first | (with_reducible first | exact HB.out | apply below_alloc | apply pw_below_drewN | apply below_drew1) | exact HB.out))) : w.heap.size ≤ gb163)); have n3_ := Aside0.mk ((by rw [hg]; exact (below_size (by repeat (first | (with_reducible first | exact HB.out | apply below_alloc | apply pw_below_drewN | apply below_drew1) | exact HB.out))) : w.heap.size ≤ gb163)); clear HB; have HB := n0_; have BK163 := n1_; have GW163 := n2_; have GE163 := n3_; clear n0_ n1_ n2_ n3_; clear hb hbox hg) | ((with_reducible refine gate_dst (N := 8) rfl ?_); refine box_event ?hg (N := 8) ?hd (cs := #[.slice none 0 0, .slice none 0 0, .int .i64 0]) (t := 26) ?hr ?_; (case hd => rfl); (case hg => rfl); (case hr => first | (go_simp; done) | (go_simp; rfl)); intro gb164 hg w8 hbox hb; have n0_ := Aside0.mk (blk_below (g := gb163) (o := .cells #[.slice A0_0 l0_0.length c0_0, .slice A0_1 l0_1.length c0_1, .int .i64 a0_2] 26 (0, 0)) (by (with_reducible repeat (first | refine blk_drewN ?_ _ | refine blk_drew ?_ | refine blk_alloc ?_ _)); exact BK163.out) hb); have n1_ := Aside0.mk (below_step (by repeat (first | (with_reducible first | exact HB.out | apply below_alloc | apply pw_below_drewN | apply below_drew1 | refine below_set ?_ GE163.out) | exact HB.out)) hb); have n2_ := Aside0.mk (hbox); have n3_ := Aside0.mk ((by rw [hg]; exact (below_size (by repeat (first | (with_reducible first | exact HB.out | apply below_alloc | apply pw_below_drewN | apply below_drew1 | refine below_set ?_ GE163.out) | exact HB.out))) : w.heap.size ≤ gb164)); have n4_ := Aside0.mk ((by rw [hg]; exact (below_size (by repeat (first | (with_reducible first | exact HB.out | apply below_alloc | apply pw_below_drewN | apply below_drew1 | refine below_set ?_ GE163.out) | exact HB.out))) : w.heap.size ≤ gb164)); have n5_ := Aside0.mk ((by rw [hg]; exact Nat.ne_of_lt (blk_lt (g := gb163) (o := .cells #[.slice A0_0 l0_0.length c0_0, .slice A0_1 l0_1.length c0_1, .int .i64 a0_2] 26 (0, 0)) (by (with_reducible repeat (first | refine blk_drewN ?_ _ | refine blk_drew ?_ | refine blk_alloc ?_ _)); exact BK163.out)) : gb163 ≠ gb164)); have n6_ := Aside0.mk ((by rw [hg]; exact Nat.ne_of_gt (blk_lt (g := gb163) (o := .cells #[.slice A0_0 l0_0.length c0_0, .slice A0_1 l0_1.length c0_1, .int .i64 a0_2] 26 (0, 0)) (by (with_reducible repeat (first | refine blk_drewN ?_ _ | refine blk_drew ?_ | refine blk_alloc ?_ _)); exact BK163.out)) : gb164 ≠ gb163)); clear BK163; clear HB; have BK163 := n0_; have HB := n1_; have BK164 := n2_; have GW164 := n3_; have GE164 := n4_; have NB163_164 := n5_; have NB164_163 := n6_; clear n0_ n1_ n2_ n3_ n4_ n5_ n6_; clear hb hbox hg; have hnb9 := NB163_164.out; have hnc9 := NB164_163.out; have hcz10_0 : w8.cell? ⟨gb163, 0, none⟩ = some (.slice A0_0 l0_0.length c0_0) := (blk_cell BK163.out 0).trans rfl; have hcz10_1 : w8.cell? ⟨gb163, 1, none⟩ = some (.slice A0_1 l0_1.length c0_1) := (blk_cell BK163.out 1).trans rfl; have hcz10_2 : w8.cell? ⟨gb163, 2, none⟩ = some (.int .i64 a0_2) := (blk_cell BK163.out 2).trans rfl; have hfz10_0 := blk_frozen BK163.out 0; have hfz10_1 := blk_frozen BK163.out 1; have hfz10_2 := blk_frozen BK163.out 2) | ((with_reducible refine gate_callee (f := 13) rfl ?_); refine goesL_ (some 13) rfl rfl Try.func13 (by kernel_rfl) rfl #[.agg #[.slice A0_0 l0_0.length c0_0, .slice A0_1 l0_1.length c0_1, .int .i64 a0_2]] rfl (by (try simp only [List.map_toArray, List.map_cons, List.map_nil]); first | done | rfl | (simp only [List.length_drop, List.length_take]; rfl)) ?_; (with_reducible refine (arb_Right.calls k _ _ l0_0 _ _ l0_1 a0_2 t165 _ ?side1 ?side2 ?side3 ?side4 A5.out).mono ?_); (case side1 => repeat (first | exact (Kd.C_below HR0_0.out HB.out) | (with_reducible refine Kd.C_alloc ?_ _) | (with_reducible refine Kd.C_drewN ?_ _) | (with_reducible refine Kd.C_drew ?_))); (case side2 => exact HC0_0.out); (case side3 => repeat (first | exact (Kd.C_below HR0_1.out HB.out) | (with_reducible refine Kd.C_alloc ?_ _) | (with_reducible refine Kd.C_drewN ?_ _) | (with_reducible refine Kd.C_drew ?_))); (case side4 => exact HC0_1.out); rintro e w11 ⟨rfl, hb⟩; refine ⟨_, rfl, ?_⟩; have n0_ := Aside0.mk (blk_below (g := gb163) (o := .cells #[.slice A0_0 l0_0.length c0_0, .slice A0_1 l0_1.length c0_1, .int .i64 a0_2] 26 (0, 0)) (by (with_reducible repeat (first | refine blk_drewN ?_ _ | refine blk_drew ?_ | refine blk_alloc ?_ _)); exact BK163.out) hb); have n1_ := Aside0.mk (blk_below (g := gb164) (o := .cells #[.slice none 0 0, .slice none 0 0, .int .i64 0] 26 (0, 0)) (by (with_reducible repeat (first | refine blk_drewN ?_ _ | refine blk_drew ?_ | refine blk_alloc ?_ _)); exact BK164.out) hb); have n2_ := Aside0.mk (below_step (by repeat (first | (with_reducible first | exact HB.out | apply below_alloc | apply pw_below_drewN | apply below_drew1 | refine below_set ?_ GE163.out | refine below_set ?_ GE164.out) | exact HB.out)) hb); clear BK163; clear BK164; clear HB; have BK163 := n0_; have BK164 := n1_; have HB := n2_; clear n0_ n1_ n2_; (try clear hb); (try clear hb2); (try clear hk); (try clear hi)))
  (try simp only [Act.put, List.setIfInBounds_toArray, List.set_cons_zero, List.set_cons_succ])
  go_cut [11] (fun v11 wc => ∃ (kq : Nat) (x11_5 : Bool), v11 = .bool x11_5 ∧ Aside0 (arb_Ask.j0 kq a1 a2 l3 x11_5 l0_0 l0_1 a0_2 = some (r1, r2, r3, r4)) ∧ Aside0 (kq ≤ k) ∧ Aside0 (wc.heap[gb163]? = some (.cells #[(.slice A0_0 l0_0.length c0_0), (.slice A0_1 l0_1.length c0_1), .int .i64 a0_2] 26 (0, 0))) ∧ Aside0 (wc.heap[gb164]? = some (.cells #[(.slice none 0 0), (.slice none 0 0), .int .i64 0] 26 (0, 0))) ∧ Aside0 (Below w.heap.size w wc))
  case first =>
    have H := HC6.out
    clear HC6
    by_cases c12 : t165 = true
    · subst c12
      have H1 : ((arb_batch.f a1).bind fun t166 => (if t166 = true then (if a2 < 0 then (arb_Ask.j0 k a1 a2 l3 (decide (a2 < 0)) l0_0 l0_1 a0_2) else (if a2 ≥ 24 then (arb_Ask.j0 k a1 a2 l3 (decide (a2 ≥ 24)) l0_0 l0_1 a0_2) else ((arb_rising.f k l3 (l0_0.length : Int)).bind fun t167 => (arb_Ask.j0 k a1 a2 l3 (!t167) l0_0 l0_1 a0_2)))) else (arb_Ask.j0 k a1 a2 l3 (!t166) l0_0 l0_1 a0_2))) = some (r1, r2, r3, r4) := by rw [if_pos rfl] at H; exact H
      clear H
      have H := H1
      clear H1
      replace H := Option.bind_eq_some_iff.mp H
      obtain ⟨t166, A130, H⟩ := H
      replace H : (if t166 = true then (if a2 < 0 then (arb_Ask.j0 k a1 a2 l3 (decide (a2 < 0)) l0_0 l0_1 a0_2) else (if a2 ≥ 24 then (arb_Ask.j0 k a1 a2 l3 (decide (a2 ≥ 24)) l0_0 l0_1 a0_2) else ((arb_rising.f k l3 (l0_0.length : Int)).bind fun t167 => (arb_Ask.j0 k a1 a2 l3 (!t167) l0_0 l0_1 a0_2)))) else (arb_Ask.j0 k a1 a2 l3 (!t166) l0_0 l0_1 a0_2)) = some (r1, r2, r3, r4) := H
      have A13 := Aside0.mk A130
      clear A130
      by_cases c14 : t166 = true
      · subst c14
        have H1 : (if a2 < 0 then (arb_Ask.j0 k a1 a2 l3 (decide (a2 < 0)) l0_0 l0_1 a0_2) else (if a2 ≥ 24 then (arb_Ask.j0 k a1 a2 l3 (decide (a2 ≥ 24)) l0_0 l0_1 a0_2) else ((arb_rising.f k l3 (l0_0.length : Int)).bind fun t167 => (arb_Ask.j0 k a1 a2 l3 (!t167) l0_0 l0_1 a0_2)))) = some (r1, r2, r3, r4) := by rw [if_pos rfl] at H; exact H
        clear H
        have H := H1
        clear H1
        by_cases c15 : a2 < 0
        · rw [if_pos c15] at H
          have c15b0 : decide (a2 < 0) = true := decide_eq_true c15
          clear c15
          (first | rw [c15b0] | (simp only [i64_w, i32_w]; rw [c15b0]) | skip)
          have H' := Aside0.mk H
          clear H
          go_wp2_with (first | ((with_reducible refine gate_callee (f := 32) rfl ?_); refine goesL_ (some 16) rfl rfl Try.func32 (by kernel_rfl) rfl #[.int .i64 a1] rfl (by (try simp only [List.map_toArray, List.map_cons, List.map_nil]); first | done | rfl | (simp only [List.length_drop, List.length_take]; rfl)) ?_; (with_reducible refine (arb_batch.calls a1 true _ A13.out).mono ?_); rintro e w' ⟨rfl, ⟨nd, rfl⟩⟩; refine ⟨_, rfl, ?_⟩))
          go_meet
          case rel => exact ⟨_, (decide (a2 < 0)), (by first | rfl | (simp; done) | (simp [*]; done)), H', ⟨by first | omega | exact Nat.le_refl _⟩, ⟨by (with_reducible repeat (first | refine blk_drewN ?_ _ | refine blk_drew ?_ | refine blk_alloc ?_ _)); exact BK163.out⟩, ⟨by (with_reducible repeat (first | refine blk_drewN ?_ _ | refine blk_drew ?_ | refine blk_alloc ?_ _)); exact BK164.out⟩, ⟨by repeat (first | (with_reducible first | exact HB.out | apply below_alloc | apply pw_below_drewN | apply below_drew1 | refine below_set ?_ GE163.out | refine below_set ?_ GE164.out) | exact HB.out)⟩⟩
        · rw [if_neg c15] at H
          have c15b0 : decide (a2 < 0) = false := decide_eq_false c15
          clear c15
          (first | rw [c15b0] | (simp only [i64_w, i32_w]; rw [c15b0]) | skip)
          by_cases c16 : a2 ≥ 24
          · rw [if_pos c16] at H
            have c16b0 : decide (24 ≤ a2) = true := decide_eq_true c16
            clear c16
            have H' := Aside0.mk H
            clear H
            go_wp2_with (first | ((with_reducible refine gate_callee (f := 32) rfl ?_); refine goesL_ (some 16) rfl rfl Try.func32 (by kernel_rfl) rfl #[.int .i64 a1] rfl (by (try simp only [List.map_toArray, List.map_cons, List.map_nil]); first | done | rfl | (simp only [List.length_drop, List.length_take]; rfl)) ?_; (with_reducible refine (arb_batch.calls a1 true _ A13.out).mono ?_); rintro e w' ⟨rfl, ⟨nd, rfl⟩⟩; refine ⟨_, rfl, ?_⟩))
            go_meet
            case rel => exact ⟨_, (decide (a2 ≥ 24)), (by first | rfl | (simp; done) | (simp [*]; done)), H', ⟨by first | omega | exact Nat.le_refl _⟩, ⟨by (with_reducible repeat (first | refine blk_drewN ?_ _ | refine blk_drew ?_ | refine blk_alloc ?_ _)); exact BK163.out⟩, ⟨by (with_reducible repeat (first | refine blk_drewN ?_ _ | refine blk_drew ?_ | refine blk_alloc ?_ _)); exact BK164.out⟩, ⟨by repeat (first | (with_reducible first | exact HB.out | apply below_alloc | apply pw_below_drewN | apply below_drew1 | refine below_set ?_ GE163.out | refine below_set ?_ GE164.out) | exact HB.out)⟩⟩
          · rw [if_neg c16] at H
            have c16b0 : decide (24 ≤ a2) = false := decide_eq_false c16
            clear c16
            replace H := Option.bind_eq_some_iff.mp H
            obtain ⟨t167, A170, H⟩ := H
            replace H : (arb_Ask.j0 k a1 a2 l3 (!t167) l0_0 l0_1 a0_2) = some (r1, r2, r3, r4) := H
            have A17 := Aside0.mk A170
            clear A170
            have H' := Aside0.mk H
            clear H
            go_wp2_with (first | ((with_reducible refine gate_callee (f := 32) rfl ?_); refine goesL_ (some 16) rfl rfl Try.func32 (by kernel_rfl) rfl #[.int .i64 a1] rfl (by (try simp only [List.map_toArray, List.map_cons, List.map_nil]); first | done | rfl | (simp only [List.length_drop, List.length_take]; rfl)) ?_; (with_reducible refine (arb_batch.calls a1 true _ A13.out).mono ?_); rintro e w' ⟨rfl, ⟨nd, rfl⟩⟩; refine ⟨_, rfl, ?_⟩; have hnb18 := NB163_164.out; have hnc18 := NB164_163.out; have hcz19_0 : w11.cell? ⟨gb163, 0, none⟩ = some (.slice A0_0 l0_0.length c0_0) := (blk_cell BK163.out 0).trans rfl; have hcz19_1 : w11.cell? ⟨gb163, 1, none⟩ = some (.slice A0_1 l0_1.length c0_1) := (blk_cell BK163.out 1).trans rfl; have hcz19_2 : w11.cell? ⟨gb163, 2, none⟩ = some (.int .i64 a0_2) := (blk_cell BK163.out 2).trans rfl; have hfz19_0 := blk_frozen BK163.out 0; have hfz19_1 := blk_frozen BK163.out 1; have hfz19_2 := blk_frozen BK163.out 2) | ((with_reducible refine gate_callee (f := 33) rfl ?_); refine goesL_ (some 26) rfl rfl Try.func33 (by kernel_rfl) rfl #[.slice A3 l3.length c3, .int .i64 (l0_0.length : Int)] rfl (by (try simp only [List.map_toArray, List.map_cons, List.map_nil]); first | done | rfl | (simp only [List.length_drop, List.length_take]; rfl)) ?_; (with_reducible refine (arb_rising.calls k _ _ l3 (l0_0.length : Int) t167 _ ?side1 ?side2 A17.out).mono ?_); (case side1 => repeat (first | exact (Kd.C_below HR3.out (by repeat (first | (with_reducible first | exact HB.out | apply below_alloc | apply pw_below_drewN | apply below_drew1 | refine below_set ?_ GE163.out | refine below_set ?_ GE164.out) | exact HB.out))) | (with_reducible refine Kd.C_alloc ?_ _) | (with_reducible refine Kd.C_drewN ?_ _) | (with_reducible refine Kd.C_drew ?_))); (case side2 => exact HC3.out); rintro e w' ⟨rfl, ⟨nd, rfl⟩⟩; refine ⟨_, rfl, ?_⟩))
            go_meet
            case rel => exact ⟨_, (!t167), (by first | rfl | (simp; done) | (simp [*]; done)), H', ⟨by first | omega | exact Nat.le_refl _⟩, ⟨by (with_reducible repeat (first | refine blk_drewN ?_ _ | refine blk_drew ?_ | refine blk_alloc ?_ _)); exact BK163.out⟩, ⟨by (with_reducible repeat (first | refine blk_drewN ?_ _ | refine blk_drew ?_ | refine blk_alloc ?_ _)); exact BK164.out⟩, ⟨by repeat (first | (with_reducible first | exact HB.out | apply below_alloc | apply pw_below_drewN | apply below_drew1 | refine below_set ?_ GE163.out | refine below_set ?_ GE164.out) | exact HB.out)⟩⟩
      · replace c14 := Bool.eq_false_iff.mpr c14
        subst c14
        have H1 : (arb_Ask.j0 k a1 a2 l3 (!false) l0_0 l0_1 a0_2) = some (r1, r2, r3, r4) := by rw [if_neg (show ¬ (false = true) by decide)] at H; exact H
        clear H
        have H := H1
        clear H1
        have H' := Aside0.mk H
        clear H
        go_wp2_with (first | ((with_reducible refine gate_callee (f := 32) rfl ?_); refine goesL_ (some 16) rfl rfl Try.func32 (by kernel_rfl) rfl #[.int .i64 a1] rfl (by (try simp only [List.map_toArray, List.map_cons, List.map_nil]); first | done | rfl | (simp only [List.length_drop, List.length_take]; rfl)) ?_; (with_reducible refine (arb_batch.calls a1 false _ A13.out).mono ?_); rintro e w' ⟨rfl, ⟨nd, rfl⟩⟩; refine ⟨_, rfl, ?_⟩))
        go_meet
        case rel => exact ⟨_, (!false), (by first | rfl | (simp; done) | (simp [*]; done)), H', ⟨by first | omega | exact Nat.le_refl _⟩, ⟨by (with_reducible repeat (first | refine blk_drewN ?_ _ | refine blk_drew ?_ | refine blk_alloc ?_ _)); exact BK163.out⟩, ⟨by (with_reducible repeat (first | refine blk_drewN ?_ _ | refine blk_drew ?_ | refine blk_alloc ?_ _)); exact BK164.out⟩, ⟨by repeat (first | (with_reducible first | exact HB.out | apply below_alloc | apply pw_below_drewN | apply below_drew1 | refine below_set ?_ GE163.out | refine below_set ?_ GE164.out) | exact HB.out)⟩⟩
    · replace c12 := Bool.eq_false_iff.mpr c12
      subst c12
      have H1 : (arb_Ask.j0 k a1 a2 l3 (!false) l0_0 l0_1 a0_2) = some (r1, r2, r3, r4) := by rw [if_neg (show ¬ (false = true) by decide)] at H; exact H
      clear H
      have H := H1
      clear H1
      have H' := Aside0.mk H
      clear H
      go_wp2
      go_meet
      case rel => exact ⟨_, (!false), (by first | rfl | (simp; done) | (simp [*]; done)), H', ⟨by first | omega | exact Nat.le_refl _⟩, ⟨by (with_reducible repeat (first | refine blk_drewN ?_ _ | refine blk_drew ?_ | refine blk_alloc ?_ _)); exact BK163.out⟩, ⟨by (with_reducible repeat (first | refine blk_drewN ?_ _ | refine blk_drew ?_ | refine blk_alloc ?_ _)); exact BK164.out⟩, ⟨by repeat (first | (with_reducible first | exact HB.out | apply below_alloc | apply pw_below_drewN | apply below_drew1 | refine below_set ?_ GE163.out | refine below_set ?_ GE164.out) | exact HB.out)⟩⟩
  case rest =>
    clear HC6
    try clear c1
    try clear p2
    try clear c3
    try clear c9
    try clear c12
    try clear c13
    try clear c14
    try clear c15
    try clear c15b0
    try clear c16
    try clear c16b0
    try clear c18
    try clear hcz10_0
    try clear hcz10_1
    try clear hcz10_2
    try clear hcz19_0
    try clear hcz19_1
    try clear hcz19_2
    try clear hfz10_0
    try clear hfz10_1
    try clear hfz10_2
    try clear hfz19_0
    try clear hfz19_1
    try clear hfz19_2
    obtain ⟨kq, x11_5, rfl, HA, HJ5, BK163, BK164, HB⟩ := hcut
    cases kq with
    | zero => exact absurd HA.out (by simp [arb_Ask.j0])
    | succ kj5 =>
      have H := HA.out
      clear HA
      simp only [arb_Ask.j0] at H
      by_cases c20 : x11_5 = true
      · subst c20
        have H1 : (some (([] : List Int), ([] : List (S37)), 0, 1)) = some (r1, r2, r3, r4) := by rw [if_pos rfl] at H; exact H
        clear H
        have H := H1
        clear H1
        simp only [Option.some.injEq, Prod.mk.injEq] at H
        obtain ⟨rfl, rfl, rfl, rfl⟩ := H
        have hnb21 := NB164_163.out
        have hnc21 := NB163_164.out
        have hcz22_0 : wc.cell? ⟨gb164, 0, none⟩ = some (.slice none 0 0) := (blk_cell BK164.out 0).trans rfl
        have hcz22_1 : wc.cell? ⟨gb164, 1, none⟩ = some (.slice none 0 0) := (blk_cell BK164.out 1).trans rfl
        have hcz22_2 : wc.cell? ⟨gb164, 2, none⟩ = some (.int .i64 0) := (blk_cell BK164.out 2).trans rfl
        have hfz22_0 := blk_frozen BK164.out 0
        have hfz22_1 := blk_frozen BK164.out 1
        have hfz22_2 := blk_frozen BK164.out 2
        go_wp2
        refine bodyPost_ret (results_ct rfl _ _ gb164 26 #[.slice none 0 0, .slice none 0 0, .int .i64 0] (0, 0) _ rfl (by (with_reducible repeat (first | refine blk_drewN ?_ _ | refine blk_drew ?_ | refine blk_alloc ?_ _)); refine blk_put (cs := #[.slice none 0 0, .slice none 0 0, .int .i64 0]) ?_ 2 _ rfl; (with_reducible repeat (first | refine blk_drewN ?_ _ | refine blk_drew ?_ | refine blk_alloc ?_ _)); refine blk_put (cs := #[.slice none 0 0, .slice none 0 0, .int .i64 0]) ?_ 1 _ rfl; (with_reducible repeat (first | refine blk_drewN ?_ _ | refine blk_drew ?_ | refine blk_alloc ?_ _)); refine blk_put (cs := #[.slice none 0 0, .slice none 0 0, .int .i64 0]) ?_ 0 _ rfl; (with_reducible repeat (first | refine blk_drewN ?_ _ | refine blk_drew ?_ | refine blk_alloc ?_ _)); exact BK164.out) Try.underlying26 rfl (by kernel_rfl)) rfl ?_
        exact ⟨_, _, by first | rfl | (simp [errW_none, errW_some] <;> rfl) | (simp [*, errW_none, errW_some] <;> rfl), by first | exact Kd.R_nil _ _ _ _ _ | exact Kd.N_nil _ _ _ _ _ | exact Kd.V_nil _ _ _ _ _ | exact Kd.Q_nil _ _ _ _ _ | exact Kd.S_nil _ _ _ _ _, by first | exact Kd.S_nil _ _ _ _ _ | exact Kd.N_nil _ _ _ _ _ | exact Kd.V_nil _ _ _ _ _ | exact Kd.Q_nil _ _ _ _ _ | exact Kd.R_nil _ _ _ _ _, by repeat (first | (with_reducible first | exact HB.out | apply below_alloc | apply pw_below_drewN | apply below_drew1 | refine below_set ?_ GE163.out | refine below_set ?_ GE164.out) | exact HB.out)⟩
      · replace c20 := Bool.eq_false_iff.mpr c20
        subst c20
        have H1 : ((arb_waits.f l0_1 a1).bind fun t168 => (if t168 ≥ 0 then (some (([] : List Int), ([] : List (S37)), 0, 5)) else (if 0 < (l3.length : Int) then ((arb_above.f kj5 l0_0 a1 (rd l3 0)).bind fun t170 => (if t170 = true then (some (([] : List Int), ([] : List (S37)), 0, 170)) else (if a0_2 = 1099511627776 then (some (([] : List Int), ([] : List (S37)), 0, 3)) else ((arb_copied.f l0_0 l0_1 a0_2).bind fun bt171 => ((slices_Clone_int_int.f l3).bind fun t179 => (if bt171.2.1.length < 2932031007402 then (some (bt171.1, (bt171.2.1 ++ [(⟨a1, a2, t179, a0_2⟩ : S37)]), wrap64 (bt171.2.2 + 1), 0)) else (none))))))) else (none)))) = some (r1, r2, r3, r4) := by rw [if_neg (show ¬ (false = true) by decide)] at H; exact H
        clear H
        have H := H1
        clear H1
        replace H := Option.bind_eq_some_iff.mp H
        obtain ⟨t168, A230, H⟩ := H
        replace H : (if t168 ≥ 0 then (some (([] : List Int), ([] : List (S37)), 0, 5)) else (if 0 < (l3.length : Int) then ((arb_above.f kj5 l0_0 a1 (rd l3 0)).bind fun t170 => (if t170 = true then (some (([] : List Int), ([] : List (S37)), 0, 170)) else (if a0_2 = 1099511627776 then (some (([] : List Int), ([] : List (S37)), 0, 3)) else ((arb_copied.f l0_0 l0_1 a0_2).bind fun bt171 => ((slices_Clone_int_int.f l3).bind fun t179 => (if bt171.2.1.length < 2932031007402 then (some (bt171.1, (bt171.2.1 ++ [(⟨a1, a2, t179, a0_2⟩ : S37)]), wrap64 (bt171.2.2 + 1), 0)) else (none))))))) else (none))) = some (r1, r2, r3, r4) := H
        have A23 := Aside0.mk A230
        clear A230
        by_cases c24 : t168 ≥ 0
        · rw [if_pos c24] at H
          have c24b0 : decide (0 ≤ t168) = true := decide_eq_true c24
          clear c24
          simp only [Option.some.injEq, Prod.mk.injEq] at H
          obtain ⟨rfl, rfl, rfl, rfl⟩ := H
          have hnb25 := NB163_164.out
          have hnc25 := NB164_163.out
          have hcz26_0 : wc.cell? ⟨gb163, 0, none⟩ = some (.slice A0_0 l0_0.length c0_0) := (blk_cell BK163.out 0).trans rfl
          have hcz26_1 : wc.cell? ⟨gb163, 1, none⟩ = some (.slice A0_1 l0_1.length c0_1) := (blk_cell BK163.out 1).trans rfl
          have hcz26_2 : wc.cell? ⟨gb163, 2, none⟩ = some (.int .i64 a0_2) := (blk_cell BK163.out 2).trans rfl
          have hfz26_0 := blk_frozen BK163.out 0
          have hfz26_1 := blk_frozen BK163.out 1
          have hfz26_2 := blk_frozen BK163.out 2
          go_wp2_with (first | ((with_reducible refine gate_callee (f := 35) rfl ?_); refine goesL_ (some 33) rfl rfl Try.func35 (by kernel_rfl) rfl #[.slice A0_1 l0_1.length c0_1, .int .i64 a1] rfl (by (try simp only [List.map_toArray, List.map_cons, List.map_nil]); first | done | rfl | (simp only [List.length_drop, List.length_take]; rfl)) ?_; (with_reducible refine (arb_waits.calls _ _ l0_1 a1 t168 _ ?side1 ?side2 A23.out).mono ?_); (case side1 => repeat (first | exact (Kd.C_below HR0_1.out HB.out) | (with_reducible refine Kd.C_alloc ?_ _) | (with_reducible refine Kd.C_drewN ?_ _) | (with_reducible refine Kd.C_drew ?_))); (case side2 => exact HC0_1.out); rintro e w27 ⟨rfl, hb⟩; refine ⟨_, rfl, ?_⟩; have n0_ := Aside0.mk (blk_below (g := gb163) (o := .cells #[.slice A0_0 l0_0.length c0_0, .slice A0_1 l0_1.length c0_1, .int .i64 a0_2] 26 (0, 0)) (by (with_reducible repeat (first | refine blk_drewN ?_ _ | refine blk_drew ?_ | refine blk_alloc ?_ _)); exact BK163.out) hb); have n1_ := Aside0.mk (blk_below (g := gb164) (o := .cells #[.slice none 0 0, .slice none 0 0, .int .i64 0] 26 (0, 0)) (by (with_reducible repeat (first | refine blk_drewN ?_ _ | refine blk_drew ?_ | refine blk_alloc ?_ _)); exact BK164.out) hb); have n2_ := Aside0.mk (below_step (by repeat (first | (with_reducible first | exact HB.out | apply below_alloc | apply pw_below_drewN | apply below_drew1 | refine below_set ?_ GE163.out | refine below_set ?_ GE164.out) | exact HB.out)) hb); clear BK163; clear BK164; clear HB; have BK163 := n0_; have BK164 := n1_; have HB := n2_; clear n0_ n1_ n2_; (try clear hb); (try clear hb2); (try clear hk); (try clear hi); have hcz28_0 : w27.cell? ⟨gb164, 0, none⟩ = some (.slice none 0 0) := (blk_cell BK164.out 0).trans rfl; have hcz28_1 : w27.cell? ⟨gb164, 1, none⟩ = some (.slice none 0 0) := (blk_cell BK164.out 1).trans rfl; have hcz28_2 : w27.cell? ⟨gb164, 2, none⟩ = some (.int .i64 0) := (blk_cell BK164.out 2).trans rfl; have hfz28_0 := blk_frozen BK164.out 0; have hfz28_1 := blk_frozen BK164.out 1; have hfz28_2 := blk_frozen BK164.out 2))
          refine bodyPost_ret (results_ct rfl _ _ gb164 26 #[.slice none 0 0, .slice none 0 0, .int .i64 0] (0, 0) _ rfl (by (with_reducible repeat (first | refine blk_drewN ?_ _ | refine blk_drew ?_ | refine blk_alloc ?_ _)); refine blk_put (cs := #[.slice none 0 0, .slice none 0 0, .int .i64 0]) ?_ 2 _ rfl; (with_reducible repeat (first | refine blk_drewN ?_ _ | refine blk_drew ?_ | refine blk_alloc ?_ _)); refine blk_put (cs := #[.slice none 0 0, .slice none 0 0, .int .i64 0]) ?_ 1 _ rfl; (with_reducible repeat (first | refine blk_drewN ?_ _ | refine blk_drew ?_ | refine blk_alloc ?_ _)); refine blk_put (cs := #[.slice none 0 0, .slice none 0 0, .int .i64 0]) ?_ 0 _ rfl; (with_reducible repeat (first | refine blk_drewN ?_ _ | refine blk_drew ?_ | refine blk_alloc ?_ _)); exact BK164.out) Try.underlying26 rfl (by kernel_rfl)) rfl ?_
          exact ⟨_, _, by first | rfl | (simp [errW_none, errW_some] <;> rfl) | (simp [*, errW_none, errW_some] <;> rfl), by first | exact Kd.R_nil _ _ _ _ _ | exact Kd.N_nil _ _ _ _ _ | exact Kd.V_nil _ _ _ _ _ | exact Kd.Q_nil _ _ _ _ _ | exact Kd.S_nil _ _ _ _ _, by first | exact Kd.S_nil _ _ _ _ _ | exact Kd.N_nil _ _ _ _ _ | exact Kd.V_nil _ _ _ _ _ | exact Kd.Q_nil _ _ _ _ _ | exact Kd.R_nil _ _ _ _ _, by repeat (first | (with_reducible first | exact HB.out | apply below_alloc | apply pw_below_drewN | apply below_drew1 | refine below_set ?_ GE163.out | refine below_set ?_ GE164.out) | exact HB.out)⟩
        · rw [if_neg c24] at H
          have c24b0 : decide (0 ≤ t168) = false := decide_eq_false c24
          clear c24
          by_cases c29 : 0 < (l3.length : Int)
          · rw [if_pos c29] at H
            have c29b0 : decide (0 < (l3.length : Int)) = true := decide_eq_true c29
            have c29b1 : decide (0 < l3.length) = true := decide_eq_true (by omega)
            clear c29
            replace H := Option.bind_eq_some_iff.mp H
            obtain ⟨t170, A300, H⟩ := H
            replace H : (if t170 = true then (some (([] : List Int), ([] : List (S37)), 0, 170)) else (if a0_2 = 1099511627776 then (some (([] : List Int), ([] : List (S37)), 0, 3)) else ((arb_copied.f l0_0 l0_1 a0_2).bind fun bt171 => ((slices_Clone_int_int.f l3).bind fun t179 => (if bt171.2.1.length < 2932031007402 then (some (bt171.1, (bt171.2.1 ++ [(⟨a1, a2, t179, a0_2⟩ : S37)]), wrap64 (bt171.2.2 + 1), 0)) else (none)))))) = some (r1, r2, r3, r4) := H
            have A30 := Aside0.mk A300
            clear A300
            by_cases c31 : t170 = true
            · subst c31
              have H1 : (some (([] : List Int), ([] : List (S37)), 0, 170)) = some (r1, r2, r3, r4) := by rw [if_pos rfl] at H; exact H
              clear H
              have H := H1
              clear H1
              simp only [Option.some.injEq, Prod.mk.injEq] at H
              obtain ⟨rfl, rfl, rfl, rfl⟩ := H
              have hnb32 := NB163_164.out
              have hnc32 := NB164_163.out
              have hcz33_0 : wc.cell? ⟨gb163, 0, none⟩ = some (.slice A0_0 l0_0.length c0_0) := (blk_cell BK163.out 0).trans rfl
              have hcz33_1 : wc.cell? ⟨gb163, 1, none⟩ = some (.slice A0_1 l0_1.length c0_1) := (blk_cell BK163.out 1).trans rfl
              have hcz33_2 : wc.cell? ⟨gb163, 2, none⟩ = some (.int .i64 a0_2) := (blk_cell BK163.out 2).trans rfl
              have hfz33_0 := blk_frozen BK163.out 0
              have hfz33_1 := blk_frozen BK163.out 1
              have hfz33_2 := blk_frozen BK163.out 2
              try go_wp2_with (first | ((with_reducible refine gate_callee (f := 35) rfl ?_); refine goesL_ (some 33) rfl rfl Try.func35 (by kernel_rfl) rfl #[.slice A0_1 l0_1.length c0_1, .int .i64 a1] rfl (by (try simp only [List.map_toArray, List.map_cons, List.map_nil]); first | done | rfl | (simp only [List.length_drop, List.length_take]; rfl)) ?_; (with_reducible refine (arb_waits.calls _ _ l0_1 a1 t168 _ ?side1 ?side2 A23.out).mono ?_); (case side1 => repeat (first | exact (Kd.C_below HR0_1.out HB.out) | (with_reducible refine Kd.C_alloc ?_ _) | (with_reducible refine Kd.C_drewN ?_ _) | (with_reducible refine Kd.C_drew ?_))); (case side2 => exact HC0_1.out); rintro e w34 ⟨rfl, hb⟩; refine ⟨_, rfl, ?_⟩; have n0_ := Aside0.mk (blk_below (g := gb163) (o := .cells #[.slice A0_0 l0_0.length c0_0, .slice A0_1 l0_1.length c0_1, .int .i64 a0_2] 26 (0, 0)) (by (with_reducible repeat (first | refine blk_drewN ?_ _ | refine blk_drew ?_ | refine blk_alloc ?_ _)); exact BK163.out) hb); have n1_ := Aside0.mk (blk_below (g := gb164) (o := .cells #[.slice none 0 0, .slice none 0 0, .int .i64 0] 26 (0, 0)) (by (with_reducible repeat (first | refine blk_drewN ?_ _ | refine blk_drew ?_ | refine blk_alloc ?_ _)); exact BK164.out) hb); have n2_ := Aside0.mk (below_step (by repeat (first | (with_reducible first | exact HB.out | apply below_alloc | apply pw_below_drewN | apply below_drew1 | refine below_set ?_ GE163.out | refine below_set ?_ GE164.out) | exact HB.out)) hb); clear BK163; clear BK164; clear HB; have BK163 := n0_; have BK164 := n1_; have HB := n2_; clear n0_ n1_ n2_; (try clear hb); (try clear hb2); (try clear hk); (try clear hi)))
              have n0_ := Aside0.mk (blk_drew BK163.out)
              have n1_ := Aside0.mk (blk_drew BK164.out)
              have n2_ := Aside0.mk (below_drew1 HB.out)
              clear BK163
              clear BK164
              clear HB
              have BK163 := n0_
              have BK164 := n1_
              have HB := n2_
              clear n0_ n1_ n2_
              have p169 : 0 ≤ (0 : Int) := (by omega)
              have q169 : 0 < (l3.length : Int) := of_decide_eq_true (by first | (with_reducible assumption) | assumption)
              obtain ⟨ad169, e169, hx169_0⟩ := Kd.at_int HR3.out 0 p169 q169
              have hw169_0 := hx169_0
              (try rw [show ((0 : Int)).toNat = 0 from rfl] at hw169_0)
              (try rw [show 0 * 1 = 0 from rfl] at hw169_0)
              (try rw [Addr.add_zero'] at hw169_0)
              cases e169
              have qi169 : (0 < l3.length) = True := eq_true (by omega)
              (try rw [show ((0 : Int)).toNat = 0 from rfl] at hx169_0)
              (try rw [Addr.add_zero'] at hx169_0)
              replace hx169_0 := (HB.out.cell (World.block_lt_of_cell? w _ hx169_0)).trans hx169_0
              replace p169 := eq_true p169
              replace q169 := eq_true q169
              refine start_ (n := 8) (S := fun w' => w'.cell? ⟨gb163, 0, none⟩ = some (.slice A0_0 l0_0.length c0_0) ∧ w'.cell? ⟨gb163, 1, none⟩ = some (.slice A0_1 l0_1.length c0_1) ∧ w'.cell? ⟨gb163, 2, none⟩ = some (.int .i64 a0_2) ∧ w'.cell? ad169 = some (.int .i64 (rd l3 0))) (ds := []) #[false, false, false, false, false, false, false, false] (by kernel_rfl) rfl rfl ⟨(blk_cell BK163.out 0).trans rfl, (blk_cell BK163.out 1).trans rfl, (blk_cell BK163.out 2).trans rfl, ((HB.out.cell (World.block_lt_of_cell? w _ hw169_0)).trans hw169_0)⟩ (fun hHeld => ?_); refine with_tabW arb_Ask.tab9 arb_Ask.bits9 (fun HT_ HW_ => ?_)
              generalize w34.drew = w35 at BK163 BK164 HB hx169_0 hHeld ⊢
              refine pure_ (i := 0) (N := some 37) (v := ?_) (a' := ?_) #[true, false, false, false, false, false, false, false] rfl rfl (any_of HT_.out (by kernel_rfl)) (fun _ _ _ h => h) (Or.inl ⟨by rfl, ?_⟩) ?_ ?_
              rotate_left
              · intro w'
                go_simp
                with_reducible rfl
              rotate_left
              · simp only [Act.put, List.setIfInBounds_toArray, List.set_cons_zero, List.set_cons_succ, i64_w, i32_w]
                rfl
              refine pure_ (i := 2) (N := some 39) (v := ?_) (a' := ?_) #[true, false, true, false, false, false, false, false] rfl rfl (any_of HT_.out (by kernel_rfl)) (fun _ _ _ h => h) (Or.inl ⟨by rfl, ?_⟩) ?_ ?_
              rotate_left
              · intro w'
                go_simp
                with_reducible rfl
              rotate_left
              · simp only [Act.put, List.setIfInBounds_toArray, List.set_cons_zero, List.set_cons_succ, i64_w, i32_w]
                rfl
              refine pure_ (i := 3) (N := some 40) (v := ?_) (a' := ?_) #[true, false, true, true, false, false, false, false] rfl rfl (any_of HT_.out (by kernel_rfl)) (fun _ _ _ h => h) (Or.inl ⟨by rfl, ?_⟩) ?_ ?_
              rotate_left
              · intro w'
                go_simp
                with_reducible rfl
              rotate_left
              · simp only [Act.put, List.setIfInBounds_toArray, List.set_cons_zero, List.set_cons_succ, i64_w, i32_w]
                rfl
              refine pure_ (i := 4) (N := some 41) (v := ?_) (a' := ?_) #[true, false, true, true, true, false, false, false] rfl rfl (any_of HT_.out (by kernel_rfl)) (fun _ _ _ h => h) (Or.inl ⟨by rfl, ?_⟩) ?_ ?_
              rotate_left
              · intro w'
                go_simp
                with_reducible rfl
              rotate_left
              · simp only [Act.put, List.setIfInBounds_toArray, List.set_cons_zero, List.set_cons_succ, i64_w, i32_w]
                rfl
              refine take_ (i := 1) (N := some 38) (v := ?_) (a' := ?_) #[true, true, true, true, true, false, false, false] rfl rfl (take_ofW HT_.out HW_.out (by kernel_rfl)) (fun _ _ _ h => h) (Or.inl ⟨by rfl, ?_⟩) hHeld ?_ ?_
              rotate_left
              · rintro w' ⟨s0, s1, s2, s3⟩
                go_simp
                with_reducible rfl
              rotate_left
              · simp only [Act.put, List.setIfInBounds_toArray, List.set_cons_zero, List.set_cons_succ, i64_w, i32_w]
                rfl
              refine take_ (i := 5) (N := some 42) (v := ?_) (a' := ?_) #[true, true, true, true, true, true, false, false] rfl rfl (take_ofW HT_.out HW_.out (by kernel_rfl)) (fun _ _ _ h => h) (Or.inl ⟨by rfl, ?_⟩) hHeld ?_ ?_
              rotate_left
              · rintro w' ⟨s0, s1, s2, s3⟩
                go_simp
                with_reducible rfl
              rotate_left
              · simp only [Act.put, List.setIfInBounds_toArray, List.set_cons_zero, List.set_cons_succ, i64_w, i32_w]
                rfl
              refine one_ (i := 6) (N := some 43) #[true, true, true, true, true, true, true, false] rfl rfl (one_of HT_.out (by kernel_rfl)) (by decide) (fun K hK => ?_)
              refine goes_ Try.func34 (by kernel_rfl) rfl #[.slice A0_0 l0_0.length c0_0, .int .i64 a1, .int .i64 (rd l3 0)] (by rfl) rfl rfl (by (try simp only [List.map_toArray, List.map_cons, List.map_nil]); first | done | rfl | (simp only [List.length_drop, List.length_take]; rfl)) ?_
              with_reducible refine (arb_above.calls kj5 _ _ l0_0 a1 (rd l3 0) true _ ?side1 ?side2 A30.out).mono ?_
              (case side1 => repeat (first | exact (Kd.C_below HR0_0.out HB.out) | (with_reducible refine Kd.C_alloc ?_ _) | (with_reducible refine Kd.C_drewN ?_ _) | (with_reducible refine Kd.C_drew ?_)))
              (case side2 => exact HC0_0.out)
              rintro e w' ⟨rfl, ⟨nd, rfl⟩⟩
              refine ⟨_, rfl, ?_⟩
              refine hK.out _ _ ⟨(blk_cell BK163.out 0).trans rfl, (blk_cell BK163.out 1).trans rfl, (blk_cell BK163.out 2).trans rfl, ((HB.out.cell (World.block_lt_of_cell? w _ hw169_0)).trans hw169_0)⟩ (fun hHeld => ?_)
              clear hK K
              refine norm_ (a' := ?_) ?_ ?_
              rotate_left
              · show Act.put _ (some 43) _ = _
                simp only [Act.put, List.setIfInBounds_toArray, List.set_cons_zero, List.set_cons_succ, i64_w, i32_w]
                rfl
              refine pure_ (i := 7) (N := some 36) (v := ?_) (a' := ?_) #[true, true, true, true, true, true, true, true] rfl rfl (any_of HT_.out (by kernel_rfl)) (fun _ _ _ h => h) (Or.inl ⟨by rfl, ?_⟩) ?_ ?_
              rotate_left
              · intro w'
                go_simp
                with_reducible rfl
              rotate_left
              · simp only [Act.put, List.setIfInBounds_toArray, List.set_cons_zero, List.set_cons_succ, i64_w, i32_w]
                rfl
              refine done_ (done_of HT_.out (by kernel_rfl)) ?_
              have hcz36_0 : w35.cell? ⟨gb164, 0, none⟩ = some (.slice none 0 0) := (blk_cell BK164.out 0).trans rfl
              have hcz36_1 : w35.cell? ⟨gb164, 1, none⟩ = some (.slice none 0 0) := (blk_cell BK164.out 1).trans rfl
              have hcz36_2 : w35.cell? ⟨gb164, 2, none⟩ = some (.int .i64 0) := (blk_cell BK164.out 2).trans rfl
              have hfz36_0 := blk_frozen BK164.out 0
              have hfz36_1 := blk_frozen BK164.out 1
              have hfz36_2 := blk_frozen BK164.out 2
              try go_wp2
              refine bodyPost_ret (results_ct rfl _ _ gb164 26 #[.slice none 0 0, .slice none 0 0, .int .i64 0] (0, 0) _ rfl (by (with_reducible repeat (first | refine blk_drewN ?_ _ | refine blk_drew ?_ | refine blk_alloc ?_ _)); refine blk_put (cs := #[.slice none 0 0, .slice none 0 0, .int .i64 0]) ?_ 2 _ rfl; (with_reducible repeat (first | refine blk_drewN ?_ _ | refine blk_drew ?_ | refine blk_alloc ?_ _)); refine blk_put (cs := #[.slice none 0 0, .slice none 0 0, .int .i64 0]) ?_ 1 _ rfl; (with_reducible repeat (first | refine blk_drewN ?_ _ | refine blk_drew ?_ | refine blk_alloc ?_ _)); refine blk_put (cs := #[.slice none 0 0, .slice none 0 0, .int .i64 0]) ?_ 0 _ rfl; (with_reducible repeat (first | refine blk_drewN ?_ _ | refine blk_drew ?_ | refine blk_alloc ?_ _)); exact BK164.out) Try.underlying26 rfl (by kernel_rfl)) rfl ?_
              exact ⟨_, _, by first | rfl | (simp [errW_none, errW_some] <;> rfl) | (simp [*, errW_none, errW_some] <;> rfl), by first | exact Kd.R_nil _ _ _ _ _ | exact Kd.N_nil _ _ _ _ _ | exact Kd.V_nil _ _ _ _ _ | exact Kd.Q_nil _ _ _ _ _ | exact Kd.S_nil _ _ _ _ _, by first | exact Kd.S_nil _ _ _ _ _ | exact Kd.N_nil _ _ _ _ _ | exact Kd.V_nil _ _ _ _ _ | exact Kd.Q_nil _ _ _ _ _ | exact Kd.R_nil _ _ _ _ _, by repeat (first | (with_reducible first | exact HB.out | apply below_alloc | apply pw_below_drewN | apply below_drew1 | refine below_set ?_ GE163.out | refine below_set ?_ GE164.out) | exact HB.out)⟩
            · replace c31 := Bool.eq_false_iff.mpr c31
              subst c31
              have H1 : (if a0_2 = 1099511627776 then (some (([] : List Int), ([] : List (S37)), 0, 3)) else ((arb_copied.f l0_0 l0_1 a0_2).bind fun bt171 => ((slices_Clone_int_int.f l3).bind fun t179 => (if bt171.2.1.length < 2932031007402 then (some (bt171.1, (bt171.2.1 ++ [(⟨a1, a2, t179, a0_2⟩ : S37)]), wrap64 (bt171.2.2 + 1), 0)) else (none))))) = some (r1, r2, r3, r4) := by rw [if_neg (show ¬ (false = true) by decide)] at H; exact H
              clear H
              have H := H1
              clear H1
              by_cases c37 : a0_2 = 1099511627776
              · rw [if_pos c37] at H
                have c37b0 : (a0_2 == 1099511627776) = true := beq_iff_eq.mpr c37
                have c37b1 : (a0_2 != 1099511627776) = false := bne_eq_false_iff_eq.mpr c37
                clear c37
                simp only [Option.some.injEq, Prod.mk.injEq] at H
                obtain ⟨rfl, rfl, rfl, rfl⟩ := H
                have hnb38 := NB163_164.out
                have hnc38 := NB164_163.out
                have hcz39_0 : wc.cell? ⟨gb163, 0, none⟩ = some (.slice A0_0 l0_0.length c0_0) := (blk_cell BK163.out 0).trans rfl
                have hcz39_1 : wc.cell? ⟨gb163, 1, none⟩ = some (.slice A0_1 l0_1.length c0_1) := (blk_cell BK163.out 1).trans rfl
                have hcz39_2 : wc.cell? ⟨gb163, 2, none⟩ = some (.int .i64 a0_2) := (blk_cell BK163.out 2).trans rfl
                have hfz39_0 := blk_frozen BK163.out 0
                have hfz39_1 := blk_frozen BK163.out 1
                have hfz39_2 := blk_frozen BK163.out 2
                try go_wp2_with (first | ((with_reducible refine gate_callee (f := 35) rfl ?_); refine goesL_ (some 33) rfl rfl Try.func35 (by kernel_rfl) rfl #[.slice A0_1 l0_1.length c0_1, .int .i64 a1] rfl (by (try simp only [List.map_toArray, List.map_cons, List.map_nil]); first | done | rfl | (simp only [List.length_drop, List.length_take]; rfl)) ?_; (with_reducible refine (arb_waits.calls _ _ l0_1 a1 t168 _ ?side1 ?side2 A23.out).mono ?_); (case side1 => repeat (first | exact (Kd.C_below HR0_1.out HB.out) | (with_reducible refine Kd.C_alloc ?_ _) | (with_reducible refine Kd.C_drewN ?_ _) | (with_reducible refine Kd.C_drew ?_))); (case side2 => exact HC0_1.out); rintro e w40 ⟨rfl, hb⟩; refine ⟨_, rfl, ?_⟩; have n0_ := Aside0.mk (blk_below (g := gb163) (o := .cells #[.slice A0_0 l0_0.length c0_0, .slice A0_1 l0_1.length c0_1, .int .i64 a0_2] 26 (0, 0)) (by (with_reducible repeat (first | refine blk_drewN ?_ _ | refine blk_drew ?_ | refine blk_alloc ?_ _)); exact BK163.out) hb); have n1_ := Aside0.mk (blk_below (g := gb164) (o := .cells #[.slice none 0 0, .slice none 0 0, .int .i64 0] 26 (0, 0)) (by (with_reducible repeat (first | refine blk_drewN ?_ _ | refine blk_drew ?_ | refine blk_alloc ?_ _)); exact BK164.out) hb); have n2_ := Aside0.mk (below_step (by repeat (first | (with_reducible first | exact HB.out | apply below_alloc | apply pw_below_drewN | apply below_drew1 | refine below_set ?_ GE163.out | refine below_set ?_ GE164.out) | exact HB.out)) hb); clear BK163; clear BK164; clear HB; have BK163 := n0_; have BK164 := n1_; have HB := n2_; clear n0_ n1_ n2_; (try clear hb); (try clear hb2); (try clear hk); (try clear hi)))
                have n0_ := Aside0.mk (blk_drew BK163.out)
                have n1_ := Aside0.mk (blk_drew BK164.out)
                have n2_ := Aside0.mk (below_drew1 HB.out)
                clear BK163
                clear BK164
                clear HB
                have BK163 := n0_
                have BK164 := n1_
                have HB := n2_
                clear n0_ n1_ n2_
                have p169 : 0 ≤ (0 : Int) := (by omega)
                have q169 : 0 < (l3.length : Int) := of_decide_eq_true (by first | (with_reducible assumption) | assumption)
                obtain ⟨ad169, e169, hx169_0⟩ := Kd.at_int HR3.out 0 p169 q169
                have hw169_0 := hx169_0
                (try rw [show ((0 : Int)).toNat = 0 from rfl] at hw169_0)
                (try rw [show 0 * 1 = 0 from rfl] at hw169_0)
                (try rw [Addr.add_zero'] at hw169_0)
                cases e169
                have qi169 : (0 < l3.length) = True := eq_true (by omega)
                (try rw [show ((0 : Int)).toNat = 0 from rfl] at hx169_0)
                (try rw [Addr.add_zero'] at hx169_0)
                replace hx169_0 := (HB.out.cell (World.block_lt_of_cell? w _ hx169_0)).trans hx169_0
                replace p169 := eq_true p169
                replace q169 := eq_true q169
                refine start_ (n := 8) (S := fun w' => w'.cell? ⟨gb163, 0, none⟩ = some (.slice A0_0 l0_0.length c0_0) ∧ w'.cell? ⟨gb163, 1, none⟩ = some (.slice A0_1 l0_1.length c0_1) ∧ w'.cell? ⟨gb163, 2, none⟩ = some (.int .i64 a0_2) ∧ w'.cell? ad169 = some (.int .i64 (rd l3 0))) (ds := []) #[false, false, false, false, false, false, false, false] (by kernel_rfl) rfl rfl ⟨(blk_cell BK163.out 0).trans rfl, (blk_cell BK163.out 1).trans rfl, (blk_cell BK163.out 2).trans rfl, ((HB.out.cell (World.block_lt_of_cell? w _ hw169_0)).trans hw169_0)⟩ (fun hHeld => ?_); refine with_tabW arb_Ask.tab9 arb_Ask.bits9 (fun HT_ HW_ => ?_)
                generalize w40.drew = w41 at BK163 BK164 HB hx169_0 hHeld ⊢
                refine pure_ (i := 0) (N := some 37) (v := ?_) (a' := ?_) #[true, false, false, false, false, false, false, false] rfl rfl (any_of HT_.out (by kernel_rfl)) (fun _ _ _ h => h) (Or.inl ⟨by rfl, ?_⟩) ?_ ?_
                rotate_left
                · intro w'
                  go_simp
                  with_reducible rfl
                rotate_left
                · simp only [Act.put, List.setIfInBounds_toArray, List.set_cons_zero, List.set_cons_succ, i64_w, i32_w]
                  rfl
                refine pure_ (i := 2) (N := some 39) (v := ?_) (a' := ?_) #[true, false, true, false, false, false, false, false] rfl rfl (any_of HT_.out (by kernel_rfl)) (fun _ _ _ h => h) (Or.inl ⟨by rfl, ?_⟩) ?_ ?_
                rotate_left
                · intro w'
                  go_simp
                  with_reducible rfl
                rotate_left
                · simp only [Act.put, List.setIfInBounds_toArray, List.set_cons_zero, List.set_cons_succ, i64_w, i32_w]
                  rfl
                refine pure_ (i := 3) (N := some 40) (v := ?_) (a' := ?_) #[true, false, true, true, false, false, false, false] rfl rfl (any_of HT_.out (by kernel_rfl)) (fun _ _ _ h => h) (Or.inl ⟨by rfl, ?_⟩) ?_ ?_
                rotate_left
                · intro w'
                  go_simp
                  with_reducible rfl
                rotate_left
                · simp only [Act.put, List.setIfInBounds_toArray, List.set_cons_zero, List.set_cons_succ, i64_w, i32_w]
                  rfl
                refine pure_ (i := 4) (N := some 41) (v := ?_) (a' := ?_) #[true, false, true, true, true, false, false, false] rfl rfl (any_of HT_.out (by kernel_rfl)) (fun _ _ _ h => h) (Or.inl ⟨by rfl, ?_⟩) ?_ ?_
                rotate_left
                · intro w'
                  go_simp
                  with_reducible rfl
                rotate_left
                · simp only [Act.put, List.setIfInBounds_toArray, List.set_cons_zero, List.set_cons_succ, i64_w, i32_w]
                  rfl
                refine take_ (i := 1) (N := some 38) (v := ?_) (a' := ?_) #[true, true, true, true, true, false, false, false] rfl rfl (take_ofW HT_.out HW_.out (by kernel_rfl)) (fun _ _ _ h => h) (Or.inl ⟨by rfl, ?_⟩) hHeld ?_ ?_
                rotate_left
                · rintro w' ⟨s0, s1, s2, s3⟩
                  go_simp
                  with_reducible rfl
                rotate_left
                · simp only [Act.put, List.setIfInBounds_toArray, List.set_cons_zero, List.set_cons_succ, i64_w, i32_w]
                  rfl
                refine take_ (i := 5) (N := some 42) (v := ?_) (a' := ?_) #[true, true, true, true, true, true, false, false] rfl rfl (take_ofW HT_.out HW_.out (by kernel_rfl)) (fun _ _ _ h => h) (Or.inl ⟨by rfl, ?_⟩) hHeld ?_ ?_
                rotate_left
                · rintro w' ⟨s0, s1, s2, s3⟩
                  go_simp
                  with_reducible rfl
                rotate_left
                · simp only [Act.put, List.setIfInBounds_toArray, List.set_cons_zero, List.set_cons_succ, i64_w, i32_w]
                  rfl
                refine one_ (i := 6) (N := some 43) #[true, true, true, true, true, true, true, false] rfl rfl (one_of HT_.out (by kernel_rfl)) (by decide) (fun K hK => ?_)
                refine goes_ Try.func34 (by kernel_rfl) rfl #[.slice A0_0 l0_0.length c0_0, .int .i64 a1, .int .i64 (rd l3 0)] (by rfl) rfl rfl (by (try simp only [List.map_toArray, List.map_cons, List.map_nil]); first | done | rfl | (simp only [List.length_drop, List.length_take]; rfl)) ?_
                with_reducible refine (arb_above.calls kj5 _ _ l0_0 a1 (rd l3 0) false _ ?side1 ?side2 A30.out).mono ?_
                (case side1 => repeat (first | exact (Kd.C_below HR0_0.out HB.out) | (with_reducible refine Kd.C_alloc ?_ _) | (with_reducible refine Kd.C_drewN ?_ _) | (with_reducible refine Kd.C_drew ?_)))
                (case side2 => exact HC0_0.out)
                rintro e w' ⟨rfl, ⟨nd, rfl⟩⟩
                refine ⟨_, rfl, ?_⟩
                refine hK.out _ _ ⟨(blk_cell BK163.out 0).trans rfl, (blk_cell BK163.out 1).trans rfl, (blk_cell BK163.out 2).trans rfl, ((HB.out.cell (World.block_lt_of_cell? w _ hw169_0)).trans hw169_0)⟩ (fun hHeld => ?_)
                clear hK K
                refine norm_ (a' := ?_) ?_ ?_
                rotate_left
                · show Act.put _ (some 43) _ = _
                  simp only [Act.put, List.setIfInBounds_toArray, List.set_cons_zero, List.set_cons_succ, i64_w, i32_w]
                  rfl
                refine pure_ (i := 7) (N := some 36) (v := ?_) (a' := ?_) #[true, true, true, true, true, true, true, true] rfl rfl (any_of HT_.out (by kernel_rfl)) (fun _ _ _ h => h) (Or.inl ⟨by rfl, ?_⟩) ?_ ?_
                rotate_left
                · intro w'
                  go_simp
                  with_reducible rfl
                rotate_left
                · simp only [Act.put, List.setIfInBounds_toArray, List.set_cons_zero, List.set_cons_succ, i64_w, i32_w]
                  rfl
                refine done_ (done_of HT_.out (by kernel_rfl)) ?_
                have hcz42_0 : w41.cell? ⟨gb163, 0, none⟩ = some (.slice A0_0 l0_0.length c0_0) := (blk_cell BK163.out 0).trans rfl
                have hcz42_1 : w41.cell? ⟨gb163, 1, none⟩ = some (.slice A0_1 l0_1.length c0_1) := (blk_cell BK163.out 1).trans rfl
                have hcz42_2 : w41.cell? ⟨gb163, 2, none⟩ = some (.int .i64 a0_2) := (blk_cell BK163.out 2).trans rfl
                have hfz42_0 := blk_frozen BK163.out 0
                have hfz42_1 := blk_frozen BK163.out 1
                have hfz42_2 := blk_frozen BK163.out 2
                have hcz43_0 : w41.cell? ⟨gb164, 0, none⟩ = some (.slice none 0 0) := (blk_cell BK164.out 0).trans rfl
                have hcz43_1 : w41.cell? ⟨gb164, 1, none⟩ = some (.slice none 0 0) := (blk_cell BK164.out 1).trans rfl
                have hcz43_2 : w41.cell? ⟨gb164, 2, none⟩ = some (.int .i64 0) := (blk_cell BK164.out 2).trans rfl
                have hfz43_0 := blk_frozen BK164.out 0
                have hfz43_1 := blk_frozen BK164.out 1
                have hfz43_2 := blk_frozen BK164.out 2
                try go_wp2
                refine bodyPost_ret (results_ct rfl _ _ gb164 26 #[.slice none 0 0, .slice none 0 0, .int .i64 0] (0, 0) _ rfl (by (with_reducible repeat (first | refine blk_drewN ?_ _ | refine blk_drew ?_ | refine blk_alloc ?_ _)); refine blk_put (cs := #[.slice none 0 0, .slice none 0 0, .int .i64 0]) ?_ 2 _ rfl; (with_reducible repeat (first | refine blk_drewN ?_ _ | refine blk_drew ?_ | refine blk_alloc ?_ _)); refine blk_put (cs := #[.slice none 0 0, .slice none 0 0, .int .i64 0]) ?_ 1 _ rfl; (with_reducible repeat (first | refine blk_drewN ?_ _ | refine blk_drew ?_ | refine blk_alloc ?_ _)); refine blk_put (cs := #[.slice none 0 0, .slice none 0 0, .int .i64 0]) ?_ 0 _ rfl; (with_reducible repeat (first | refine blk_drewN ?_ _ | refine blk_drew ?_ | refine blk_alloc ?_ _)); exact BK164.out) Try.underlying26 rfl (by kernel_rfl)) rfl ?_
                exact ⟨_, _, by first | rfl | (simp [errW_none, errW_some] <;> rfl) | (simp [*, errW_none, errW_some] <;> rfl), by first | exact Kd.R_nil _ _ _ _ _ | exact Kd.N_nil _ _ _ _ _ | exact Kd.V_nil _ _ _ _ _ | exact Kd.Q_nil _ _ _ _ _ | exact Kd.S_nil _ _ _ _ _, by first | exact Kd.S_nil _ _ _ _ _ | exact Kd.N_nil _ _ _ _ _ | exact Kd.V_nil _ _ _ _ _ | exact Kd.Q_nil _ _ _ _ _ | exact Kd.R_nil _ _ _ _ _, by repeat (first | (with_reducible first | exact HB.out | apply below_alloc | apply pw_below_drewN | apply below_drew1 | refine below_set ?_ GE163.out | refine below_set ?_ GE164.out) | exact HB.out)⟩
              · rw [if_neg c37] at H
                have c37b0 : (a0_2 == 1099511627776) = false := beq_eq_false_iff_ne.mpr c37
                have c37b1 : (a0_2 != 1099511627776) = true := bne_iff_ne.mpr c37
                replace H := Option.bind_eq_some_iff.mp H
                obtain ⟨⟨t171, t174, t177⟩, A440, H⟩ := H
                replace H : ((slices_Clone_int_int.f l3).bind fun t179 => (if t174.length < 2932031007402 then (some (t171, (t174 ++ [(⟨a1, a2, t179, a0_2⟩ : S37)]), wrap64 (t177 + 1), 0)) else (none))) = some (r1, r2, r3, r4) := H
                have A44 := Aside0.mk A440
                clear A440
                replace H := Option.bind_eq_some_iff.mp H
                obtain ⟨t179, A450, H⟩ := H
                replace H : (if t174.length < 2932031007402 then (some (t171, (t174 ++ [(⟨a1, a2, t179, a0_2⟩ : S37)]), wrap64 (t177 + 1), 0)) else (none)) = some (r1, r2, r3, r4) := H
                have A45 := Aside0.mk A450
                clear A450
                by_cases c46 : t174.length < 2932031007402
                · rw [if_pos c46] at H
                  have LMc46 := Aside0.mk c46
                  clear c46
                  obtain ⟨y182, hy182⟩ : ∃ y_ : List (S37), y_ = (t174 ++ [(⟨a1, a2, t179, a0_2⟩ : S37)]) := ⟨_, rfl⟩
                  replace H : (some (t171, y182, wrap64 (t177 + 1), 0)) = some (r1, r2, r3, r4) := by first | (rw [hy182]; with_reducible exact H) | (have H2_ := (Option.bind_some _ _).symm.trans H; rw [hy182]; with_reducible exact H2_) | (have H2_ := (Option.bind_some _ _).symm.trans H; with_reducible exact H2_) | with_reducible exact H | (rw [hy182]; exact H) | exact H
                  have Ny182 := Aside0.mk hy182
                  clear hy182
                  simp only [Option.some.injEq, Prod.mk.injEq] at H
                  obtain ⟨rfl, rfl, rfl, rfl⟩ := H
                  have hnb47 := NB163_164.out
                  have hnc47 := NB164_163.out
                  have hcz48_0 : wc.cell? ⟨gb163, 0, none⟩ = some (.slice A0_0 l0_0.length c0_0) := (blk_cell BK163.out 0).trans rfl
                  have hcz48_1 : wc.cell? ⟨gb163, 1, none⟩ = some (.slice A0_1 l0_1.length c0_1) := (blk_cell BK163.out 1).trans rfl
                  have hcz48_2 : wc.cell? ⟨gb163, 2, none⟩ = some (.int .i64 a0_2) := (blk_cell BK163.out 2).trans rfl
                  have hfz48_0 := blk_frozen BK163.out 0
                  have hfz48_1 := blk_frozen BK163.out 1
                  have hfz48_2 := blk_frozen BK163.out 2
                  try go_wp2_with (first | ((with_reducible refine gate_callee (f := 35) rfl ?_); refine goesL_ (some 33) rfl rfl Try.func35 (by kernel_rfl) rfl #[.slice A0_1 l0_1.length c0_1, .int .i64 a1] rfl (by (try simp only [List.map_toArray, List.map_cons, List.map_nil]); first | done | rfl | (simp only [List.length_drop, List.length_take]; rfl)) ?_; (with_reducible refine (arb_waits.calls _ _ l0_1 a1 t168 _ ?side1 ?side2 A23.out).mono ?_); (case side1 => repeat (first | exact (Kd.C_below HR0_1.out HB.out) | (with_reducible refine Kd.C_alloc ?_ _) | (with_reducible refine Kd.C_drewN ?_ _) | (with_reducible refine Kd.C_drew ?_))); (case side2 => exact HC0_1.out); rintro e w49 ⟨rfl, hb⟩; refine ⟨_, rfl, ?_⟩; have n0_ := Aside0.mk (blk_below (g := gb163) (o := .cells #[.slice A0_0 l0_0.length c0_0, .slice A0_1 l0_1.length c0_1, .int .i64 a0_2] 26 (0, 0)) (by (with_reducible repeat (first | refine blk_drewN ?_ _ | refine blk_drew ?_ | refine blk_alloc ?_ _)); exact BK163.out) hb); have n1_ := Aside0.mk (blk_below (g := gb164) (o := .cells #[.slice none 0 0, .slice none 0 0, .int .i64 0] 26 (0, 0)) (by (with_reducible repeat (first | refine blk_drewN ?_ _ | refine blk_drew ?_ | refine blk_alloc ?_ _)); exact BK164.out) hb); have n2_ := Aside0.mk (below_step (by repeat (first | (with_reducible first | exact HB.out | apply below_alloc | apply pw_below_drewN | apply below_drew1 | refine below_set ?_ GE163.out | refine below_set ?_ GE164.out) | exact HB.out)) hb); clear BK163; clear BK164; clear HB; have BK163 := n0_; have BK164 := n1_; have HB := n2_; clear n0_ n1_ n2_; (try clear hb); (try clear hb2); (try clear hk); (try clear hi)))
                  have n0_ := Aside0.mk (blk_drew BK163.out)
                  have n1_ := Aside0.mk (blk_drew BK164.out)
                  have n2_ := Aside0.mk (below_drew1 HB.out)
                  clear BK163
                  clear BK164
                  clear HB
                  have BK163 := n0_
                  have BK164 := n1_
                  have HB := n2_
                  clear n0_ n1_ n2_
                  have p169 : 0 ≤ (0 : Int) := (by omega)
                  have q169 : 0 < (l3.length : Int) := of_decide_eq_true (by first | (with_reducible assumption) | assumption)
                  obtain ⟨ad169, e169, hx169_0⟩ := Kd.at_int HR3.out 0 p169 q169
                  have hw169_0 := hx169_0
                  (try rw [show ((0 : Int)).toNat = 0 from rfl] at hw169_0)
                  (try rw [show 0 * 1 = 0 from rfl] at hw169_0)
                  (try rw [Addr.add_zero'] at hw169_0)
                  cases e169
                  have qi169 : (0 < l3.length) = True := eq_true (by omega)
                  (try rw [show ((0 : Int)).toNat = 0 from rfl] at hx169_0)
                  (try rw [Addr.add_zero'] at hx169_0)
                  replace hx169_0 := (HB.out.cell (World.block_lt_of_cell? w _ hx169_0)).trans hx169_0
                  replace p169 := eq_true p169
                  replace q169 := eq_true q169
                  refine start_ (n := 8) (S := fun w' => w'.cell? ⟨gb163, 0, none⟩ = some (.slice A0_0 l0_0.length c0_0) ∧ w'.cell? ⟨gb163, 1, none⟩ = some (.slice A0_1 l0_1.length c0_1) ∧ w'.cell? ⟨gb163, 2, none⟩ = some (.int .i64 a0_2) ∧ w'.cell? ad169 = some (.int .i64 (rd l3 0))) (ds := []) #[false, false, false, false, false, false, false, false] (by kernel_rfl) rfl rfl ⟨(blk_cell BK163.out 0).trans rfl, (blk_cell BK163.out 1).trans rfl, (blk_cell BK163.out 2).trans rfl, ((HB.out.cell (World.block_lt_of_cell? w _ hw169_0)).trans hw169_0)⟩ (fun hHeld => ?_); refine with_tabW arb_Ask.tab9 arb_Ask.bits9 (fun HT_ HW_ => ?_)
                  generalize w49.drew = w50 at BK163 BK164 HB hx169_0 hHeld ⊢
                  refine pure_ (i := 0) (N := some 37) (v := ?_) (a' := ?_) #[true, false, false, false, false, false, false, false] rfl rfl (any_of HT_.out (by kernel_rfl)) (fun _ _ _ h => h) (Or.inl ⟨by rfl, ?_⟩) ?_ ?_
                  rotate_left
                  · intro w'
                    go_simp
                    with_reducible rfl
                  rotate_left
                  · simp only [Act.put, List.setIfInBounds_toArray, List.set_cons_zero, List.set_cons_succ, i64_w, i32_w]
                    rfl
                  refine pure_ (i := 2) (N := some 39) (v := ?_) (a' := ?_) #[true, false, true, false, false, false, false, false] rfl rfl (any_of HT_.out (by kernel_rfl)) (fun _ _ _ h => h) (Or.inl ⟨by rfl, ?_⟩) ?_ ?_
                  rotate_left
                  · intro w'
                    go_simp
                    with_reducible rfl
                  rotate_left
                  · simp only [Act.put, List.setIfInBounds_toArray, List.set_cons_zero, List.set_cons_succ, i64_w, i32_w]
                    rfl
                  refine pure_ (i := 3) (N := some 40) (v := ?_) (a' := ?_) #[true, false, true, true, false, false, false, false] rfl rfl (any_of HT_.out (by kernel_rfl)) (fun _ _ _ h => h) (Or.inl ⟨by rfl, ?_⟩) ?_ ?_
                  rotate_left
                  · intro w'
                    go_simp
                    with_reducible rfl
                  rotate_left
                  · simp only [Act.put, List.setIfInBounds_toArray, List.set_cons_zero, List.set_cons_succ, i64_w, i32_w]
                    rfl
                  refine pure_ (i := 4) (N := some 41) (v := ?_) (a' := ?_) #[true, false, true, true, true, false, false, false] rfl rfl (any_of HT_.out (by kernel_rfl)) (fun _ _ _ h => h) (Or.inl ⟨by rfl, ?_⟩) ?_ ?_
                  rotate_left
                  · intro w'
                    go_simp
                    with_reducible rfl
                  rotate_left
                  · simp only [Act.put, List.setIfInBounds_toArray, List.set_cons_zero, List.set_cons_succ, i64_w, i32_w]
                    rfl
                  refine take_ (i := 1) (N := some 38) (v := ?_) (a' := ?_) #[true, true, true, true, true, false, false, false] rfl rfl (take_ofW HT_.out HW_.out (by kernel_rfl)) (fun _ _ _ h => h) (Or.inl ⟨by rfl, ?_⟩) hHeld ?_ ?_
                  rotate_left
                  · rintro w' ⟨s0, s1, s2, s3⟩
                    go_simp
                    with_reducible rfl
                  rotate_left
                  · simp only [Act.put, List.setIfInBounds_toArray, List.set_cons_zero, List.set_cons_succ, i64_w, i32_w]
                    rfl
                  refine take_ (i := 5) (N := some 42) (v := ?_) (a' := ?_) #[true, true, true, true, true, true, false, false] rfl rfl (take_ofW HT_.out HW_.out (by kernel_rfl)) (fun _ _ _ h => h) (Or.inl ⟨by rfl, ?_⟩) hHeld ?_ ?_
                  rotate_left
                  · rintro w' ⟨s0, s1, s2, s3⟩
                    go_simp
                    with_reducible rfl
                  rotate_left
                  · simp only [Act.put, List.setIfInBounds_toArray, List.set_cons_zero, List.set_cons_succ, i64_w, i32_w]
                    rfl
                  refine one_ (i := 6) (N := some 43) #[true, true, true, true, true, true, true, false] rfl rfl (one_of HT_.out (by kernel_rfl)) (by decide) (fun K hK => ?_)
                  refine goes_ Try.func34 (by kernel_rfl) rfl #[.slice A0_0 l0_0.length c0_0, .int .i64 a1, .int .i64 (rd l3 0)] (by rfl) rfl rfl (by (try simp only [List.map_toArray, List.map_cons, List.map_nil]); first | done | rfl | (simp only [List.length_drop, List.length_take]; rfl)) ?_
                  with_reducible refine (arb_above.calls kj5 _ _ l0_0 a1 (rd l3 0) false _ ?side1 ?side2 A30.out).mono ?_
                  (case side1 => repeat (first | exact (Kd.C_below HR0_0.out HB.out) | (with_reducible refine Kd.C_alloc ?_ _) | (with_reducible refine Kd.C_drewN ?_ _) | (with_reducible refine Kd.C_drew ?_)))
                  (case side2 => exact HC0_0.out)
                  rintro e w' ⟨rfl, ⟨nd, rfl⟩⟩
                  refine ⟨_, rfl, ?_⟩
                  refine hK.out _ _ ⟨(blk_cell BK163.out 0).trans rfl, (blk_cell BK163.out 1).trans rfl, (blk_cell BK163.out 2).trans rfl, ((HB.out.cell (World.block_lt_of_cell? w _ hw169_0)).trans hw169_0)⟩ (fun hHeld => ?_)
                  clear hK K
                  refine norm_ (a' := ?_) ?_ ?_
                  rotate_left
                  · show Act.put _ (some 43) _ = _
                    simp only [Act.put, List.setIfInBounds_toArray, List.set_cons_zero, List.set_cons_succ, i64_w, i32_w]
                    rfl
                  refine pure_ (i := 7) (N := some 36) (v := ?_) (a' := ?_) #[true, true, true, true, true, true, true, true] rfl rfl (any_of HT_.out (by kernel_rfl)) (fun _ _ _ h => h) (Or.inl ⟨by rfl, ?_⟩) ?_ ?_
                  rotate_left
                  · intro w'
                    go_simp
                    with_reducible rfl
                  rotate_left
                  · simp only [Act.put, List.setIfInBounds_toArray, List.set_cons_zero, List.set_cons_succ, i64_w, i32_w]
                    rfl
                  refine done_ (done_of HT_.out (by kernel_rfl)) ?_
                  have hcz51_0 : w50.cell? ⟨gb163, 0, none⟩ = some (.slice A0_0 l0_0.length c0_0) := (blk_cell BK163.out 0).trans rfl
                  have hcz51_1 : w50.cell? ⟨gb163, 1, none⟩ = some (.slice A0_1 l0_1.length c0_1) := (blk_cell BK163.out 1).trans rfl
                  have hcz51_2 : w50.cell? ⟨gb163, 2, none⟩ = some (.int .i64 a0_2) := (blk_cell BK163.out 2).trans rfl
                  have hfz51_0 := blk_frozen BK163.out 0
                  have hfz51_1 := blk_frozen BK163.out 1
                  have hfz51_2 := blk_frozen BK163.out 2
                  try go_wp2_with (first | ((with_reducible refine gate_callee (f := 36) rfl ?_); refine goesL_ (some 51) rfl rfl Try.func36 (by kernel_rfl) rfl #[.agg #[.slice A0_0 l0_0.length c0_0, .slice A0_1 l0_1.length c0_1, .int .i64 a0_2]] rfl (by (try simp only [List.map_toArray, List.map_cons, List.map_nil]); first | done | rfl | (simp only [List.length_drop, List.length_take]; rfl)) ?_; (with_reducible refine (arb_copied.calls _ _ l0_0 _ _ l0_1 a0_2 t171 t174 t177 _ ?side1 ?side2 ?side3 ?side4 A44.out).mono ?_); (case side1 => repeat (first | exact (Kd.C_below HR0_0.out (by repeat (first | (with_reducible first | exact HB.out | apply below_alloc | apply pw_below_drewN | apply below_drew1 | refine below_set ?_ GE163.out | refine below_set ?_ GE164.out) | exact HB.out))) | (with_reducible refine Kd.C_alloc ?_ _) | (with_reducible refine Kd.C_drewN ?_ _) | (with_reducible refine Kd.C_drew ?_))); (case side2 => exact HC0_0.out); (case side3 => repeat (first | exact (Kd.C_below HR0_1.out (by repeat (first | (with_reducible first | exact HB.out | apply below_alloc | apply pw_below_drewN | apply below_drew1 | refine below_set ?_ GE163.out | refine below_set ?_ GE164.out) | exact HB.out))) | (with_reducible refine Kd.C_alloc ?_ _) | (with_reducible refine Kd.C_drewN ?_ _) | (with_reducible refine Kd.C_drew ?_))); (case side4 => exact HC0_1.out); rintro e w52 ⟨v172, v175, rfl, ho0, ho1, hb⟩; refine ⟨_, rfl, ?_⟩; have n0_ := Aside0.mk (Kd.R_lower ho0 (below_size (by repeat (first | (with_reducible first | exact HB.out | apply below_alloc | apply pw_below_drewN | apply below_drew1 | refine below_set ?_ GE163.out | refine below_set ?_ GE164.out) | exact HB.out)))); have n1_ := Aside0.mk (Kd.S_lower ho1 (below_size (by repeat (first | (with_reducible first | exact HB.out | apply below_alloc | apply pw_below_drewN | apply below_drew1 | refine below_set ?_ GE163.out | refine below_set ?_ GE164.out) | exact HB.out)))); have n2_ := Aside0.mk (blk_below (g := gb163) (o := .cells #[.slice A0_0 l0_0.length c0_0, .slice A0_1 l0_1.length c0_1, .int .i64 a0_2] 26 (0, 0)) (by (with_reducible repeat (first | refine blk_drewN ?_ _ | refine blk_drew ?_ | refine blk_alloc ?_ _)); exact BK163.out) hb); have n3_ := Aside0.mk (blk_below (g := gb164) (o := .cells #[.slice none 0 0, .slice none 0 0, .int .i64 0] 26 (0, 0)) (by (with_reducible repeat (first | refine blk_drewN ?_ _ | refine blk_drew ?_ | refine blk_alloc ?_ _)); exact BK164.out) hb); have n4_ := Aside0.mk (below_step (by repeat (first | (with_reducible first | exact HB.out | apply below_alloc | apply pw_below_drewN | apply below_drew1 | refine below_set ?_ GE163.out | refine below_set ?_ GE164.out) | exact HB.out)) hb); clear BK163; clear BK164; clear HB; have HO173 := n0_; have HO176 := n1_; have BK163 := n2_; have BK164 := n3_; have HB := n4_; clear n0_ n1_ n2_ n3_ n4_; (try clear hb); (try clear hb2); (try clear hk); (try clear hi); (try clear ho0); (try clear ho1)) | ((with_reducible refine gate_dst (N := 10) rfl ?_); refine box_event ?hg (N := 10) ?hd (cs := #[.slice none 0 0, .slice none 0 0, .int .i64 0]) (t := 26) ?hr ?_; (case hd => rfl); (case hg => rfl); (case hr => first | (go_simp; done) | (go_simp; rfl)); intro gb178 hg w53 hbox hb; have n0_ := Aside0.mk (Kd.R_below (by (with_reducible repeat (first | apply Kd.R_alloc | apply Kd.R_drewN | apply Kd.R_drew)); exact HO173.out) hb); have n1_ := Aside0.mk (Kd.S_below (by (with_reducible repeat (first | apply Kd.S_alloc | apply Kd.S_drewN | apply Kd.S_drew)); exact HO176.out) hb); have n2_ := Aside0.mk (blk_below (g := gb163) (o := .cells #[.slice A0_0 l0_0.length c0_0, .slice A0_1 l0_1.length c0_1, .int .i64 a0_2] 26 (0, 0)) (by (with_reducible repeat (first | refine blk_drewN ?_ _ | refine blk_drew ?_ | refine blk_alloc ?_ _)); exact BK163.out) hb); have n3_ := Aside0.mk (blk_below (g := gb164) (o := .cells #[.slice none 0 0, .slice none 0 0, .int .i64 0] 26 (0, 0)) (by (with_reducible repeat (first | refine blk_drewN ?_ _ | refine blk_drew ?_ | refine blk_alloc ?_ _)); exact BK164.out) hb); have n4_ := Aside0.mk (below_step (by repeat (first | (with_reducible first | exact HB.out | apply below_alloc | apply pw_below_drewN | apply below_drew1 | refine below_set ?_ GE163.out | refine below_set ?_ GE164.out) | exact HB.out)) hb); have n5_ := Aside0.mk (hbox); have n6_ := Aside0.mk ((by rw [hg]; exact (below_size (by repeat (first | (with_reducible first | exact HB.out | apply below_alloc | apply pw_below_drewN | apply below_drew1 | refine below_set ?_ GE163.out | refine below_set ?_ GE164.out) | exact HB.out))) : w.heap.size ≤ gb178)); have n7_ := Aside0.mk ((by rw [hg]; exact (below_size (by repeat (first | (with_reducible first | exact HB.out | apply below_alloc | apply pw_below_drewN | apply below_drew1 | refine below_set ?_ GE163.out | refine below_set ?_ GE164.out) | exact HB.out))) : w.heap.size ≤ gb178)); have n8_ := Aside0.mk ((by rw [hg]; exact Nat.ne_of_lt (blk_lt (g := gb163) (o := .cells #[.slice A0_0 l0_0.length c0_0, .slice A0_1 l0_1.length c0_1, .int .i64 a0_2] 26 (0, 0)) (by (with_reducible repeat (first | refine blk_drewN ?_ _ | refine blk_drew ?_ | refine blk_alloc ?_ _)); exact BK163.out)) : gb163 ≠ gb178)); have n9_ := Aside0.mk ((by rw [hg]; exact Nat.ne_of_gt (blk_lt (g := gb163) (o := .cells #[.slice A0_0 l0_0.length c0_0, .slice A0_1 l0_1.length c0_1, .int .i64 a0_2] 26 (0, 0)) (by (with_reducible repeat (first | refine blk_drewN ?_ _ | refine blk_drew ?_ | refine blk_alloc ?_ _)); exact BK163.out)) : gb178 ≠ gb163)); have n10_ := Aside0.mk ((by rw [hg]; exact Nat.ne_of_lt (blk_lt (g := gb164) (o := .cells #[.slice none 0 0, .slice none 0 0, .int .i64 0] 26 (0, 0)) (by (with_reducible repeat (first | refine blk_drewN ?_ _ | refine blk_drew ?_ | refine blk_alloc ?_ _)); exact BK164.out)) : gb164 ≠ gb178)); have n11_ := Aside0.mk ((by rw [hg]; exact Nat.ne_of_gt (blk_lt (g := gb164) (o := .cells #[.slice none 0 0, .slice none 0 0, .int .i64 0] 26 (0, 0)) (by (with_reducible repeat (first | refine blk_drewN ?_ _ | refine blk_drew ?_ | refine blk_alloc ?_ _)); exact BK164.out)) : gb178 ≠ gb164)); clear HO173; clear HO176; clear BK163; clear BK164; clear HB; have HO173 := n0_; have HO176 := n1_; have BK163 := n2_; have BK164 := n3_; have HB := n4_; have BK178 := n5_; have GW178 := n6_; have GE178 := n7_; have NB163_178 := n8_; have NB178_163 := n9_; have NB164_178 := n10_; have NB178_164 := n11_; clear n0_ n1_ n2_ n3_ n4_ n5_ n6_ n7_ n8_ n9_ n10_ n11_; clear hb hbox hg; obtain ⟨Ao54, co54, eo54⟩ := Kd.R_slice HO173.out; subst eo54; have hnb55 := NB178_163.out; have hnc55 := NB163_178.out; have hnb56 := NB178_164.out; have hnc56 := NB164_178.out; have hcz57_0 : w53.cell? ⟨gb178, 0, none⟩ = some (.slice none 0 0) := (blk_cell BK178.out 0).trans rfl; have hcz57_1 : w53.cell? ⟨gb178, 1, none⟩ = some (.slice none 0 0) := (blk_cell BK178.out 1).trans rfl; have hcz57_2 : w53.cell? ⟨gb178, 2, none⟩ = some (.int .i64 0) := (blk_cell BK178.out 2).trans rfl; have hfz57_0 := blk_frozen BK178.out 0; have hfz57_1 := blk_frozen BK178.out 1; have hfz57_2 := blk_frozen BK178.out 2; obtain ⟨Ao58, co58, eo58⟩ := Kd.S_slice HO176.out; subst eo58))
                  have n0_ : Aside0 (Kd.R (Kd.int .i64) 3 (((w53.setCell ⟨gb178, 0, none⟩ (.slice Ao54 t171.length co54)).setCell ⟨gb178, 1, none⟩ (.slice Ao58 t174.length co58)).setCell ⟨gb178, 2, none⟩ (.int .i64 t177)) w.heap.size (fun _ => True) (.slice Ao54 t171.length co54) t171) := ⟨by (with_reducible repeat (first | apply Kd.R_alloc | apply Kd.R_drewN | apply Kd.R_drew)); exact Kd.R_mono (Kd.R_far (p := ⟨gb178, 2, none⟩) (Kd.R_far (p := ⟨gb178, 1, none⟩) (Kd.R_far (p := ⟨gb178, 0, none⟩) (Kd.R_types HO173.out BK178.out (by decide)) (fun _ hk => hk.2) (.slice Ao54 t171.length co54)) (fun _ hk => hk.2) (.slice Ao58 t174.length co58)) (fun _ hk => hk.2) (.int .i64 t177)) (fun _ hk => trivial)⟩
                  have n1_ : Aside0 (Kd.S k37 37 (((w53.setCell ⟨gb178, 0, none⟩ (.slice Ao54 t171.length co54)).setCell ⟨gb178, 1, none⟩ (.slice Ao58 t174.length co58)).setCell ⟨gb178, 2, none⟩ (.int .i64 t177)) w.heap.size (fun k_ => some k_ ≠ (.slice Ao54 t171.length co54 : Value).ownBlock) (.slice Ao58 t174.length co58) t174) := ⟨by (with_reducible repeat (first | apply Kd.S_alloc | apply Kd.S_drewN | apply Kd.S_drew)); exact Kd.S_mono (Kd.S_far (p := ⟨gb178, 2, none⟩) (Kd.S_far (p := ⟨gb178, 1, none⟩) (Kd.S_far (p := ⟨gb178, 0, none⟩) (Kd.S_types HO176.out BK178.out (by decide)) (fun _ hk => hk.2) (.slice Ao54 t171.length co54)) (fun _ hk => hk.2) (.slice Ao58 t174.length co58)) (fun _ hk => hk.2) (.int .i64 t177)) (fun _ hk => hk.1)⟩
                  have n2_ : Aside0 ((((w53.setCell ⟨gb178, 0, none⟩ (.slice Ao54 t171.length co54)).setCell ⟨gb178, 1, none⟩ (.slice Ao58 t174.length co58)).setCell ⟨gb178, 2, none⟩ (.int .i64 t177)).heap[gb163]? = some (.cells #[.slice A0_0 l0_0.length c0_0, .slice A0_1 l0_1.length c0_1, .int .i64 a0_2] 26 (0, 0))) := ⟨by (with_reducible repeat (first | refine blk_drewN ?_ _ | refine blk_drew ?_ | refine blk_alloc ?_ _)); refine blk_far ?_ NB163_178.out _; (with_reducible repeat (first | refine blk_drewN ?_ _ | refine blk_drew ?_ | refine blk_alloc ?_ _)); refine blk_far ?_ NB163_178.out _; (with_reducible repeat (first | refine blk_drewN ?_ _ | refine blk_drew ?_ | refine blk_alloc ?_ _)); refine blk_far ?_ NB163_178.out _; (with_reducible repeat (first | refine blk_drewN ?_ _ | refine blk_drew ?_ | refine blk_alloc ?_ _)); exact BK163.out⟩
                  have n3_ : Aside0 ((((w53.setCell ⟨gb178, 0, none⟩ (.slice Ao54 t171.length co54)).setCell ⟨gb178, 1, none⟩ (.slice Ao58 t174.length co58)).setCell ⟨gb178, 2, none⟩ (.int .i64 t177)).heap[gb164]? = some (.cells #[.slice none 0 0, .slice none 0 0, .int .i64 0] 26 (0, 0))) := ⟨by (with_reducible repeat (first | refine blk_drewN ?_ _ | refine blk_drew ?_ | refine blk_alloc ?_ _)); refine blk_far ?_ NB164_178.out _; (with_reducible repeat (first | refine blk_drewN ?_ _ | refine blk_drew ?_ | refine blk_alloc ?_ _)); refine blk_far ?_ NB164_178.out _; (with_reducible repeat (first | refine blk_drewN ?_ _ | refine blk_drew ?_ | refine blk_alloc ?_ _)); refine blk_far ?_ NB164_178.out _; (with_reducible repeat (first | refine blk_drewN ?_ _ | refine blk_drew ?_ | refine blk_alloc ?_ _)); exact BK164.out⟩
                  have n4_ : Aside0 ((((w53.setCell ⟨gb178, 0, none⟩ (.slice Ao54 t171.length co54)).setCell ⟨gb178, 1, none⟩ (.slice Ao58 t174.length co58)).setCell ⟨gb178, 2, none⟩ (.int .i64 t177)).heap[gb178]? = some (.cells #[.slice Ao54 t171.length co54, .slice Ao58 t174.length co58, .int .i64 t177] 26 (0, 0))) := ⟨by (with_reducible repeat (first | refine blk_drewN ?_ _ | refine blk_drew ?_ | refine blk_alloc ?_ _)); refine blk_put (cs := #[.slice Ao54 t171.length co54, .slice Ao58 t174.length co58, .int .i64 0]) ?_ 2 _ rfl; (with_reducible repeat (first | refine blk_drewN ?_ _ | refine blk_drew ?_ | refine blk_alloc ?_ _)); refine blk_put (cs := #[.slice Ao54 t171.length co54, .slice none 0 0, .int .i64 0]) ?_ 1 _ rfl; (with_reducible repeat (first | refine blk_drewN ?_ _ | refine blk_drew ?_ | refine blk_alloc ?_ _)); refine blk_put (cs := #[.slice none 0 0, .slice none 0 0, .int .i64 0]) ?_ 0 _ rfl; (with_reducible repeat (first | refine blk_drewN ?_ _ | refine blk_drew ?_ | refine blk_alloc ?_ _)); exact BK178.out⟩
                  have n5_ : Aside0 (Below w.heap.size w (((w53.setCell ⟨gb178, 0, none⟩ (.slice Ao54 t171.length co54)).setCell ⟨gb178, 1, none⟩ (.slice Ao58 t174.length co58)).setCell ⟨gb178, 2, none⟩ (.int .i64 t177))) := ⟨by repeat (first | (with_reducible first | exact HB.out | apply below_alloc | apply pw_below_drewN | apply below_drew1 | refine below_set ?_ GE163.out | refine below_set ?_ GE164.out | refine below_set ?_ GE178.out) | exact HB.out)⟩
                  (try clear HO173)
                  (try clear HO176)
                  (try clear BK163)
                  (try clear BK164)
                  (try clear BK178)
                  (try clear HB)
                  generalize (((w53.setCell ⟨gb178, 0, none⟩ (.slice Ao54 t171.length co54)).setCell ⟨gb178, 1, none⟩ (.slice Ao58 t174.length co58)).setCell ⟨gb178, 2, none⟩ (.int .i64 t177)) = w59 at n0_ n1_ n2_ n3_ n4_ n5_ ⊢
                  have HO173 := n0_
                  have HO176 := n1_
                  have BK163 := n2_
                  have BK164 := n3_
                  have BK178 := n4_
                  have HB := n5_
                  clear n0_ n1_ n2_ n3_ n4_ n5_
                  have n0_ := Aside0.mk (Kd.R_drew HO173.out)
                  have n1_ := Aside0.mk (Kd.S_drew HO176.out)
                  have n2_ := Aside0.mk (blk_drew BK163.out)
                  have n3_ := Aside0.mk (blk_drew BK164.out)
                  have n4_ := Aside0.mk (blk_drew BK178.out)
                  have n5_ := Aside0.mk (below_drew1 HB.out)
                  clear HO173
                  clear HO176
                  clear BK163
                  clear BK164
                  clear BK178
                  clear HB
                  have HO173 := n0_
                  have HO176 := n1_
                  have BK163 := n2_
                  have BK164 := n3_
                  have BK178 := n4_
                  have HB := n5_
                  clear n0_ n1_ n2_ n3_ n4_ n5_
                  refine start_ (n := 13) (S := fun w' => w'.cell? ⟨gb178, 0, none⟩ = some (.slice Ao54 t171.length co54) ∧ w'.cell? ⟨gb178, 1, none⟩ = some (.slice Ao58 t174.length co58) ∧ w'.cell? ⟨gb178, 2, none⟩ = some (.int .i64 t177) ∧ w'.cell? ⟨gb163, 0, none⟩ = some (.slice A0_0 l0_0.length c0_0) ∧ w'.cell? ⟨gb163, 1, none⟩ = some (.slice A0_1 l0_1.length c0_1) ∧ w'.cell? ⟨gb163, 2, none⟩ = some (.int .i64 a0_2)) (ds := [12]) #[false, false, false, false, false, false, false, false, false, false, false, false, false] (by kernel_rfl) rfl rfl ⟨(blk_cell BK178.out 0).trans rfl, (blk_cell BK178.out 1).trans rfl, (blk_cell BK178.out 2).trans rfl, (blk_cell BK163.out 0).trans rfl, (blk_cell BK163.out 1).trans rfl, (blk_cell BK163.out 2).trans rfl⟩ (fun hHeld => ?_); refine with_tabW arb_Ask.tab14 arb_Ask.bits14 (fun HT_ HW_ => ?_)
                  generalize w59.drew = w60 at HO173 HO176 BK163 BK164 BK178 HB hHeld ⊢
                  refine pure_ (i := 0) (N := some 52) (v := ?_) (a' := ?_) #[true, false, false, false, false, false, false, false, false, false, false, false, false] rfl rfl (any_of HT_.out (by kernel_rfl)) (fun _ _ _ h => h) (Or.inl ⟨by rfl, ?_⟩) ?_ ?_
                  rotate_left
                  · intro w'
                    go_simp
                    with_reducible rfl
                  rotate_left
                  · simp only [Act.put, List.setIfInBounds_toArray, List.set_cons_zero, List.set_cons_succ, i64_w, i32_w]
                    rfl
                  refine pure_ (i := 2) (N := some 54) (v := ?_) (a' := ?_) #[true, false, true, false, false, false, false, false, false, false, false, false, false] rfl rfl (any_of HT_.out (by kernel_rfl)) (fun _ _ _ h => h) (Or.inl ⟨by rfl, ?_⟩) ?_ ?_
                  rotate_left
                  · intro w'
                    go_simp
                    with_reducible rfl
                  rotate_left
                  · simp only [Act.put, List.setIfInBounds_toArray, List.set_cons_zero, List.set_cons_succ, i64_w, i32_w]
                    rfl
                  refine pure_ (i := 3) (N := some 55) (v := ?_) (a' := ?_) #[true, false, true, true, false, false, false, false, false, false, false, false, false] rfl rfl (any_of HT_.out (by kernel_rfl)) (fun _ _ _ h => h) (Or.inl ⟨by rfl, ?_⟩) ?_ ?_
                  rotate_left
                  · intro w'
                    go_simp
                    with_reducible rfl
                  rotate_left
                  · simp only [Act.put, List.setIfInBounds_toArray, List.set_cons_zero, List.set_cons_succ, i64_w, i32_w]
                    rfl
                  refine pure_ (i := 4) (N := some 56) (v := ?_) (a' := ?_) #[true, false, true, true, true, false, false, false, false, false, false, false, false] rfl rfl (any_of HT_.out (by kernel_rfl)) (fun _ _ _ h => h) (Or.inl ⟨by rfl, ?_⟩) ?_ ?_
                  rotate_left
                  · intro w'
                    go_simp
                    with_reducible rfl
                  rotate_left
                  · simp only [Act.put, List.setIfInBounds_toArray, List.set_cons_zero, List.set_cons_succ, i64_w, i32_w]
                    rfl
                  refine pure_ (i := 6) (N := some 58) (v := ?_) (a' := ?_) #[true, false, true, true, true, false, true, false, false, false, false, false, false] rfl rfl (any_of HT_.out (by kernel_rfl)) (fun _ _ _ h => h) (Or.inl ⟨by rfl, ?_⟩) ?_ ?_
                  rotate_left
                  · intro w'
                    go_simp
                    with_reducible rfl
                  rotate_left
                  · simp only [Act.put, List.setIfInBounds_toArray, List.set_cons_zero, List.set_cons_succ, i64_w, i32_w]
                    rfl
                  refine take_ (i := 1) (N := some 53) (v := ?_) (a' := ?_) #[true, true, true, true, true, false, true, false, false, false, false, false, false] rfl rfl (take_ofW HT_.out HW_.out (by kernel_rfl)) (fun _ _ _ h => h) (Or.inl ⟨by rfl, ?_⟩) hHeld ?_ ?_
                  rotate_left
                  · rintro w' ⟨s0, s1, s2, s3, s4, s5⟩
                    go_simp
                    with_reducible rfl
                  rotate_left
                  · simp only [Act.put, List.setIfInBounds_toArray, List.set_cons_zero, List.set_cons_succ, i64_w, i32_w]
                    rfl
                  refine take_ (i := 7) (N := some 59) (v := ?_) (a' := ?_) #[true, true, true, true, true, false, true, true, false, false, false, false, false] rfl rfl (take_ofW HT_.out HW_.out (by kernel_rfl)) (fun _ _ _ h => h) (Or.inl ⟨by rfl, ?_⟩) hHeld ?_ ?_
                  rotate_left
                  · rintro w' ⟨s0, s1, s2, s3, s4, s5⟩
                    go_simp
                    with_reducible rfl
                  rotate_left
                  · simp only [Act.put, List.setIfInBounds_toArray, List.set_cons_zero, List.set_cons_succ, i64_w, i32_w]
                    rfl
                  refine one_ (i := 5) (N := some 57) #[true, true, true, true, true, true, true, true, false, false, false, false, false] rfl rfl (one_of HT_.out (by kernel_rfl)) (by decide) (fun K hK => ?_)
                  refine goes_ Try.func37 (by kernel_rfl) rfl #[.slice (some ad169) l3.length c3] (by rfl) rfl rfl (by (try simp only [List.map_toArray, List.map_cons, List.map_nil]); first | done | rfl | (simp only [List.length_drop, List.length_take]; rfl)) ?_
                  with_reducible refine (slices_Clone_int_int.calls _ _ l3 t179 _ ?side1 ?side2 A45.out).mono ?_
                  (case side1 => repeat (first | exact (Kd.C_below HR3.out HB.out) | (with_reducible refine Kd.C_alloc ?_ _) | (with_reducible refine Kd.C_drewN ?_ _) | (with_reducible refine Kd.C_drew ?_)))
                  (case side2 => exact HC3.out)
                  rintro e w61 ⟨v180, rfl, ho0, hb⟩
                  refine ⟨_, rfl, ?_⟩
                  have n0_ := Aside0.mk (Kd.R_elder' (by (with_reducible repeat (first | apply Kd.R_alloc | apply Kd.R_drewN | apply Kd.R_drew)); exact HO173.out) (Kd.R_base ho0) hb)
                  have n1_ := Aside0.mk (Kd.S_elder' (by (with_reducible repeat (first | apply Kd.S_alloc | apply Kd.S_drewN | apply Kd.S_drew)); exact HO176.out) (Kd.R_base ho0) hb)
                  have n2_ := Aside0.mk (Kd.R_lower (Kd.R_new' ho0 (Kd.R_lt (by (with_reducible repeat (first | apply Kd.R_alloc | apply Kd.R_drewN | apply Kd.R_drew)); exact HO173.out))) (below_size (by repeat (first | (with_reducible first | exact HB.out | apply below_alloc | apply pw_below_drewN | apply below_drew1 | refine below_set ?_ GE163.out | refine below_set ?_ GE164.out | refine below_set ?_ GE178.out) | exact HB.out))))
                  have n3_ := Aside0.mk (blk_below (g := gb163) (o := .cells #[.slice A0_0 l0_0.length c0_0, .slice A0_1 l0_1.length c0_1, .int .i64 a0_2] 26 (0, 0)) (by (with_reducible repeat (first | refine blk_drewN ?_ _ | refine blk_drew ?_ | refine blk_alloc ?_ _)); exact BK163.out) hb)
                  have n4_ := Aside0.mk (blk_below (g := gb164) (o := .cells #[.slice none 0 0, .slice none 0 0, .int .i64 0] 26 (0, 0)) (by (with_reducible repeat (first | refine blk_drewN ?_ _ | refine blk_drew ?_ | refine blk_alloc ?_ _)); exact BK164.out) hb)
                  have n5_ := Aside0.mk (blk_below (g := gb178) (o := .cells #[.slice Ao54 t171.length co54, .slice Ao58 t174.length co58, .int .i64 t177] 26 (0, 0)) (by (with_reducible repeat (first | refine blk_drewN ?_ _ | refine blk_drew ?_ | refine blk_alloc ?_ _)); exact BK178.out) hb)
                  have n6_ := Aside0.mk (below_step (by repeat (first | (with_reducible first | exact HB.out | apply below_alloc | apply pw_below_drewN | apply below_drew1 | refine below_set ?_ GE163.out | refine below_set ?_ GE164.out | refine below_set ?_ GE178.out) | exact HB.out)) hb)
                  clear HO173
                  clear HO176
                  clear BK163
                  clear BK164
                  clear BK178
                  clear HB
                  have HO173 := n0_
                  have HO176 := n1_
                  have HO181 := n2_
                  have BK163 := n3_
                  have BK164 := n4_
                  have BK178 := n5_
                  have HB := n6_
                  clear n0_ n1_ n2_ n3_ n4_ n5_ n6_
                  (try clear hb)
                  (try clear hb2)
                  (try clear hk)
                  (try clear hi)
                  (try clear ho0)
                  obtain ⟨Ao62, co62, eo62⟩ := Kd.R_slice HO181.out
                  (first | subst eo62 | (injection eo62 with f1_ f2_ f3_; have f4_ := f1_.symm; have f5_ := f3_.symm; clear f1_ f2_ f3_; subst f4_; subst f5_))
                  refine hK.out _ _ ⟨(blk_cell BK178.out 0).trans rfl, (blk_cell BK178.out 1).trans rfl, (blk_cell BK178.out 2).trans rfl, (blk_cell BK163.out 0).trans rfl, (blk_cell BK163.out 1).trans rfl, (blk_cell BK163.out 2).trans rfl⟩ (fun hHeld => ?_)
                  clear hK K
                  refine norm_ (a' := ?_) ?_ ?_
                  rotate_left
                  · show Act.put _ (some 57) _ = _
                    simp only [Act.put, List.setIfInBounds_toArray, List.set_cons_zero, List.set_cons_succ, i64_w, i32_w]
                    rfl
                  refine pure_ (i := 8) (N := some 60) (v := ?_) (a' := ?_) #[true, true, true, true, true, true, true, true, true, false, false, false, false] rfl rfl (any_of HT_.out (by kernel_rfl)) (fun _ _ _ h => h) (Or.inl ⟨by rfl, ?_⟩) ?_ ?_
                  rotate_left
                  · intro w'
                    go_simp
                    with_reducible rfl
                  rotate_left
                  · simp only [Act.put, List.setIfInBounds_toArray, List.set_cons_zero, List.set_cons_succ, i64_w, i32_w]
                    rfl
                  refine one_ (i := 9) (N := some 61) #[true, true, true, true, true, true, true, true, true, true, false, false, false] rfl rfl (one_of HT_.out (by kernel_rfl)) (by decide) (fun K hK => ?_)
                  refine value_ (w1 := ?_) (v := ?_) (by rfl) rfl ?_ ?_
                  rotate_left 2
                  · go_simp
                    constructor
                    · rfl
                    · rfl
                  refine hK.out _ _ ⟨(blk_cell (blk_alloc BK178.out _) 0).trans rfl, (blk_cell (blk_alloc BK178.out _) 1).trans rfl, (blk_cell (blk_alloc BK178.out _) 2).trans rfl, (blk_cell (blk_alloc BK163.out _) 0).trans rfl, (blk_cell (blk_alloc BK163.out _) 1).trans rfl, (blk_cell (blk_alloc BK163.out _) 2).trans rfl⟩ (fun hHeld => ?_)
                  clear hK K
                  refine norm_ (a' := ?_) ?_ ?_
                  rotate_left
                  · show Act.put _ (some 61) _ = _
                    simp only [Act.put, List.setIfInBounds_toArray, List.set_cons_zero, List.set_cons_succ, i64_w, i32_w]
                    rfl
                  refine one_ (i := 10) (N := some 62) #[true, true, true, true, true, true, true, true, true, true, true, false, false] rfl rfl (one_of HT_.out (by kernel_rfl)) (by decide) (fun K hK => ?_)
                  refine Kd.S_append_step k37 (w0 := w) w.heap.size (by rfl) (.tmp 53) (.tmp 61) 24 37 (.agg #[(.int .i64 0), (.int .i64 0), (.slice none 0 0), (.int .i64 0)]) 48 rfl Try.underlying24 info37 rfl (by decide) (by omega) (.slice Ao58 t174.length co58) t174 (⟨a1, a2, t179, a0_2⟩ : S37) [.int .i64 a1, .int .i64 a2, .slice Ao62 t179.length co62, .int .i64 a0_2] (fun k_ => some k_ ≠ (.slice Ao54 t171.length co54 : Value).ownBlock) (fun k_ => some k_ = (.slice Ao62 t179.length co62 : Value).ownBlock) rfl rfl ?aP (fun k_ hk_ => ((Kd.R_mono (ok' := fun k_ => ((fun k_ => some k_ ≠ (.slice Ao54 t171.length co54 : Value).ownBlock)) k_ ∧ some k_ ≠ (.slice Ao58 t174.length co58 : Value).ownBlock) (Kd.R_apart' (HO181.out) (Kd.S_typed HO176.out) (by decide)) (fun k_ hk => ⟨hk.1.2, hk.2⟩))).1 k_ hk_.symm) ?aF ?aO ?aB ?aS ?aL ?_
                  (case aP => exact k37_mkM _ _ _ (⟨a1, a2, t179, a0_2⟩ : S37) (Kd.R_mono (Kd.R_tight rfl (Kd.R_mono (ok' := fun k_ => ((fun k_ => some k_ ≠ (.slice Ao54 t171.length co54 : Value).ownBlock)) k_ ∧ some k_ ≠ (.slice Ao58 t174.length co58 : Value).ownBlock) (Kd.R_apart' (HO181.out) (Kd.S_typed HO176.out) (by decide)) (fun k_ hk => ⟨hk.1.2, hk.2⟩))) (fun _ h_ => h_)))
                  (case aB => exact (by repeat (first | (with_reducible first | exact HB.out | apply below_alloc | apply pw_below_drewN | apply below_drew1 | refine below_set ?_ GE163.out | refine below_set ?_ GE164.out | refine below_set ?_ GE178.out) | exact HB.out)))
                  (case aF => exact (fun k_ hk => Kd.fresh' (Kd.R_lt (by (with_reducible repeat (first | apply Kd.R_alloc | apply Kd.R_drewN | apply Kd.R_drew)); exact HO173.out)) k_ hk))
                  (case aO => exact (by (with_reducible repeat (first | apply Kd.S_alloc | apply Kd.S_drewN | apply Kd.S_drew)); exact Kd.S_mono HO176.out (fun k_ hk => ⟨hk.1, fun e_ => hk.2 e_⟩)))
                  (case aS => exact (below_size (by repeat (first | (with_reducible first | exact HB.out | apply below_alloc | apply pw_below_drewN | apply below_drew1 | refine below_set ?_ GE163.out | refine below_set ?_ GE164.out | refine below_set ?_ GE178.out) | exact HB.out))))
                  (case aL => have := LMc46.out; omega)
                  intro v183 w63 ho hb hg hat
                  rw [← Ny182.out] at ho
                  have n0_ := Aside0.mk (blk_grown (g := gb163) (o := .cells #[.slice A0_0 l0_0.length c0_0, .slice A0_1 l0_1.length c0_1, .int .i64 a0_2] 26 (0, 0)) (by (with_reducible repeat (first | refine blk_drewN ?_ _ | refine blk_drew ?_ | refine blk_alloc ?_ _)); exact BK163.out) hg (Kd.S_ne HO176.out BK163.out (by decide)))
                  have n1_ := Aside0.mk (blk_grown (g := gb164) (o := .cells #[.slice none 0 0, .slice none 0 0, .int .i64 0] 26 (0, 0)) (by (with_reducible repeat (first | refine blk_drewN ?_ _ | refine blk_drew ?_ | refine blk_alloc ?_ _)); exact BK164.out) hg (Kd.S_ne HO176.out BK164.out (by decide)))
                  have n2_ := Aside0.mk (Kd.R_over' (by (with_reducible repeat (first | apply Kd.R_alloc | apply Kd.R_drewN | apply Kd.R_drew)); exact HO173.out) (Kd.S_typed (by (with_reducible repeat (first | apply Kd.S_alloc | apply Kd.S_drewN | apply Kd.S_drew)); exact HO176.out)) (by decide) hg)
                  have n3_ := Aside0.mk (blk_grown (g := gb178) (o := .cells #[.slice Ao54 t171.length co54, .slice Ao58 t174.length co58, .int .i64 t177] 26 (0, 0)) (by (with_reducible repeat (first | refine blk_drewN ?_ _ | refine blk_drew ?_ | refine blk_alloc ?_ _)); exact BK178.out) hg (Kd.S_ne HO176.out BK178.out (by decide)))
                  have n4_ := Aside0.mk (hb)
                  have n5_ := Aside0.mk (ho)
                  clear BK163
                  clear BK164
                  clear HO173
                  clear BK178
                  clear HB
                  clear HO176
                  clear HO181
                  have BK163 := n0_
                  have BK164 := n1_
                  have HO173 := n2_
                  have BK178 := n3_
                  have HB := n4_
                  have HO184 := n5_
                  clear n0_ n1_ n2_ n3_ n4_ n5_
                  clear ho hb hg hat
                  obtain ⟨Ao64, co64, eo64⟩ := Kd.S_slice HO184.out
                  (first | subst eo64 | (injection eo64 with f1_ f2_ f3_; have f4_ := f1_.symm; have f5_ := f3_.symm; clear f1_ f2_ f3_; subst f4_; subst f5_))
                  refine hK.out _ _ ⟨(blk_cell BK178.out 0).trans rfl, (blk_cell BK178.out 1).trans rfl, (blk_cell BK178.out 2).trans rfl, (blk_cell BK163.out 0).trans rfl, (blk_cell BK163.out 1).trans rfl, (blk_cell BK163.out 2).trans rfl⟩ (fun hHeld => ?_)
                  clear hK K
                  refine norm_ (a' := ?_) ?_ ?_
                  rotate_left
                  · show Act.put _ (some 62) _ = _
                    simp only [Act.put, List.setIfInBounds_toArray, List.set_cons_zero, List.set_cons_succ, i64_w, i32_w]
                    rfl
                  refine pure_ (i := 11) (N := some 63) (v := ?_) (a' := ?_) #[true, true, true, true, true, true, true, true, true, true, true, true, false] rfl rfl (any_of HT_.out (by kernel_rfl)) (fun _ _ _ h => h) (Or.inl ⟨by rfl, ?_⟩) ?_ ?_
                  rotate_left
                  · intro w'
                    go_simp
                    with_reducible rfl
                  rotate_left
                  · simp only [Act.put, List.setIfInBounds_toArray, List.set_cons_zero, List.set_cons_succ, i64_w, i32_w]
                    rfl
                  refine last_ (i := 12) (N := none) #[true, true, true, true, true, true, true, true, true, true, true, true, true] rfl rfl (one_of HT_.out (by kernel_rfl)) (by decide) (fun K hK => ?_)
                  have hs65 : w63.cell? ⟨gb178, 1, none⟩ = some (.slice Ao58 t174.length co58) := (blk_cell BK178.out 1).trans rfl
                  have hfs65 := blk_frozen BK178.out 1
                  have hns65_0 := NB163_178.out
                  have hns65_1 := NB164_178.out
                  have hms65_0 := NB178_163.out
                  have hms65_1 := NB178_164.out
                  refine skip_ (w1 := ?_) (by rfl) rfl ?_ ?_
                  rotate_left
                  · go_simp
                    rfl
                  refine hK.out _ _ ?_
                  clear hK K
                  refine done_ (done_of HT_.out (by kernel_rfl)) ?_
                  have hcz66_0 : w63.cell? ⟨gb178, 0, none⟩ = some (.slice Ao54 t171.length co54) := (blk_cell BK178.out 0).trans rfl
                  have hcz66_1 : w63.cell? ⟨gb178, 1, none⟩ = some (.slice Ao58 t174.length co58) := (blk_cell BK178.out 1).trans rfl
                  have hcz66_2 : w63.cell? ⟨gb178, 2, none⟩ = some (.int .i64 t177) := (blk_cell BK178.out 2).trans rfl
                  have hfz66_0 := blk_frozen BK178.out 0
                  have hfz66_1 := blk_frozen BK178.out 1
                  have hfz66_2 := blk_frozen BK178.out 2
                  have hcz67_0 : w63.cell? ⟨gb164, 0, none⟩ = some (.slice none 0 0) := (blk_cell BK164.out 0).trans rfl
                  have hcz67_1 : w63.cell? ⟨gb164, 1, none⟩ = some (.slice none 0 0) := (blk_cell BK164.out 1).trans rfl
                  have hcz67_2 : w63.cell? ⟨gb164, 2, none⟩ = some (.int .i64 0) := (blk_cell BK164.out 2).trans rfl
                  have hfz67_0 := blk_frozen BK164.out 0
                  have hfz67_1 := blk_frozen BK164.out 1
                  have hfz67_2 := blk_frozen BK164.out 2
                  try go_wp2
                  refine bodyPost_ret (results_ct rfl _ _ gb164 26 #[.slice Ao54 t171.length co54, .slice Ao64 y182.length co64, .int .i64 (wrap64 (t177 + 1))] (0, 0) _ rfl (by (with_reducible repeat (first | refine blk_drewN ?_ _ | refine blk_drew ?_ | refine blk_alloc ?_ _)); refine blk_put (cs := #[.slice Ao54 t171.length co54, .slice Ao64 y182.length co64, .int .i64 0]) ?_ 2 _ rfl; (with_reducible repeat (first | refine blk_drewN ?_ _ | refine blk_drew ?_ | refine blk_alloc ?_ _)); refine blk_put (cs := #[.slice Ao54 t171.length co54, .slice none 0 0, .int .i64 0]) ?_ 1 _ rfl; (with_reducible repeat (first | refine blk_drewN ?_ _ | refine blk_drew ?_ | refine blk_alloc ?_ _)); refine blk_put (cs := #[.slice none 0 0, .slice none 0 0, .int .i64 0]) ?_ 0 _ rfl; (with_reducible repeat (first | refine blk_drewN ?_ _ | refine blk_drew ?_ | refine blk_alloc ?_ _)); refine blk_far ?_ NB164_178.out _; (with_reducible repeat (first | refine blk_drewN ?_ _ | refine blk_drew ?_ | refine blk_alloc ?_ _)); refine blk_far ?_ NB164_178.out _; (with_reducible repeat (first | refine blk_drewN ?_ _ | refine blk_drew ?_ | refine blk_alloc ?_ _)); exact BK164.out) Try.underlying26 rfl (by kernel_rfl)) rfl ?_
                  exact ⟨_, _, by first | rfl | (simp [errW_none, errW_some] <;> rfl) | (simp [*, errW_none, errW_some] <;> rfl), by (with_reducible repeat (first | apply Kd.R_alloc | apply Kd.R_drewN | apply Kd.R_drew)); exact Kd.R_mono (Kd.R_far (p := ⟨gb164, 2, none⟩) (Kd.R_far (p := ⟨gb164, 1, none⟩) (Kd.R_far (p := ⟨gb164, 0, none⟩) (Kd.R_far (p := ⟨gb178, 2, none⟩) (Kd.R_far (p := ⟨gb178, 1, none⟩) (Kd.R_types (Kd.R_types HO173.out BK178.out (by decide)) BK164.out (by decide)) (fun _ hk => hk.1.2) (.slice Ao64 y182.length co64)) (fun _ hk => hk.1.2) (.int .i64 (wrap64 (t177 + 1)))) (fun _ hk => hk.2) (.slice Ao54 t171.length co54)) (fun _ hk => hk.2) (.slice Ao64 y182.length co64)) (fun _ hk => hk.2) (.int .i64 (wrap64 (t177 + 1)))) (fun _ hk => trivial), by (with_reducible repeat (first | apply Kd.S_alloc | apply Kd.S_drewN | apply Kd.S_drew)); exact Kd.S_mono (Kd.S_far (p := ⟨gb164, 2, none⟩) (Kd.S_far (p := ⟨gb164, 1, none⟩) (Kd.S_far (p := ⟨gb164, 0, none⟩) (Kd.S_far (p := ⟨gb178, 2, none⟩) (Kd.S_far (p := ⟨gb178, 1, none⟩) (Kd.S_types (Kd.S_types HO184.out BK178.out (by decide)) BK164.out (by decide)) (fun _ hk => hk.1.2) (.slice Ao64 y182.length co64)) (fun _ hk => hk.1.2) (.int .i64 (wrap64 (t177 + 1)))) (fun _ hk => hk.2) (.slice Ao54 t171.length co54)) (fun _ hk => hk.2) (.slice Ao64 y182.length co64)) (fun _ hk => hk.2) (.int .i64 (wrap64 (t177 + 1)))) (fun _ hk => hk.1.1), by repeat (first | (with_reducible first | exact HB.out | apply below_alloc | apply pw_below_drewN | apply below_drew1 | refine below_set ?_ GE163.out | refine below_set ?_ GE164.out | refine below_set ?_ GE178.out) | exact HB.out)⟩
                · rw [if_neg c46] at H
                  exact absurd H (by simp)
          · rw [if_neg c29] at H
            exact absurd H (by simp)
end Go.Proofs.Ytgmcmhlomfeldaa.Print
/-! ### ArRight -/
namespace Go.Proofs.Ytgmcmhlomfeldaa.Print
open Go.RowKit Go.Proofs.YtgmcmhlomfeldaaW.PrintWords Go.Proofs.YtgmcmhlomfeldaaW.PrintLast Go.Proofs.YtgmcmhlomfeldaaW.PrintMore
set_option linter.unusedSimpArgs false
set_option linter.unusedVariables false
theorem wrap_small (x : Int) (h0 : -9223372036854775808 ≤ x) (h1 : x ≤ 9223372036854775807) : wrap64 x = x := by unfold wrap64; omega
def batchB (n : Int) : Bool := decide (1 ≤ n) && decide (n ≤ 1099511627776)
theorem batch_is (n : Int) : arb_batch.f n = some (batchB n) := by
  unfold arb_batch.f batchB
  by_cases h : n ≥ 1
  · rw [if_pos h]
    have : 1 ≤ n := h
    simp [this]
  · rw [if_neg h]
    have : ¬ 1 ≤ n := h
    simp [this]
def risB (most : Int) : Int → List Int → Bool
  | _, [] => true
  | last, u :: t => decide (last < u) && decide (u < most) && risB most u t
def risingB (u : List Int) (most : Int) : Bool := risB most (-1) u && !u.isEmpty
def lastOf (u : List Int) : Nat → Int
  | 0 => -1
  | i + 1 => u.getD i 0
theorem ris_ge : ∀ (u : List Int) (most last : Int), -1 ≤ last → risB most last u = true → ∀ x ∈ u, last < x ∧ x < most
  | [], _, _, _, _ => by simp
  | y :: u, most, last, h0, h => by
    unfold risB at h
    simp only [Bool.and_eq_true, decide_eq_true_eq] at h
    have ih := ris_ge u most y (by omega) h.2
    intro x hx
    rcases List.mem_cons.1 hx with rfl | hx
    · omega
    · have := ih x hx
      omega
theorem rd_at (u : List Int) (i : Nat) (h : i < u.length) : rd u (i : Int) = u[i] := getD_at u _ i h
theorem rising_loop (u : List Int) (most : Int) (hl : u.length ≤ 1000000) : ∀ (f i K : Nat), u.length = i + f → f + 1 ≤ K → -1 ≤ lastOf u i → arb_rising.l0 K u most u (u.length : Int) (i : Int) = some (if risB most (lastOf u i) (u.drop i) = true then decide ((u.length : Int) > 0) else false) := by
  intro f
  induction f with
  | zero =>
    intro i K h1 hK h2
    obtain ⟨K, rfl⟩ : ∃ K', K = K' + 1 := ⟨K - 1, by omega⟩
    simp only [arb_rising.l0]
    rw [if_neg (by omega), List.drop_eq_nil_of_le (by omega)]
    rfl
  | succ f ih =>
    intro i K h1 hK h2
    obtain ⟨K, rfl⟩ : ∃ K', K = K' + 1 := ⟨K - 1, by omega⟩
    have hi : i < u.length := by omega
    have hw : wrap64 ((i : Int) + 1) = ((i + 1 : Nat) : Int) := by rw [wrap_small _ (by omega) (by omega)]; omega
    have hlast : lastOf u (i + 1) = u[i] := by show u.getD i 0 = _; rw [List.getD_eq_getElem?_getD, List.getElem?_eq_getElem hi]; rfl
    simp only [arb_rising.l0]
    rw [if_pos (by omega), if_pos (by omega), if_pos (by omega), rd_at u i hi, List.drop_eq_getElem_cons hi, hw]
    have hr : risB most (lastOf u i) (u[i] :: u.drop (i + 1)) = (decide (lastOf u i < u[i]) && decide (u[i] < most) && risB most u[i] (u.drop (i + 1))) := rfl
    rw [hr]
    by_cases h0 : u[i] < 0
    · rw [if_pos h0]
      by_cases hq : lastOf u i < u[i]
      · omega
      · simp [hq]
    rw [if_neg h0]
    by_cases h3 : u[i] ≥ most
    · rw [if_pos h3]
      have : ¬ u[i] < most := by omega
      simp [this]
    rw [if_neg h3]
    have h3' : u[i] < most := by omega
    have hstep := ih (i + 1) K (by omega) (by omega) (by rw [hlast]; omega)
    rw [hlast] at hstep
    rw [hstep]
    cases i with
    | zero =>
      have hl0 : lastOf u 0 = -1 := rfl
      have h4 : (-1 : Int) < u[0] := by omega
      rw [if_neg (by omega), hl0]
      simp [h4, h3']
    | succ i =>
      have e2 : rd u (wrap64 (((i + 1 : Nat) : Int) - 1)) = lastOf u (i + 1) := by
        rw [wrap_small _ (by omega) (by omega), show ((i + 1 : Nat) : Int) - 1 = (i : Int) by omega, rd_at u i (by omega)]
        show _ = u.getD i 0
        rw [List.getD_eq_getElem?_getD, List.getElem?_eq_getElem (by omega)]
        rfl
      rw [if_pos (by omega), e2, wrap_small (((i + 1 : Nat) : Int) - 1) (by omega) (by omega), if_pos (by omega), if_pos (by omega)]
      by_cases h5 : lastOf u (i + 1) ≥ u[i + 1]
      · rw [if_pos h5]
        have : ¬ lastOf u (i + 1) < u[i + 1] := by omega
        simp [this]
      · rw [if_neg h5]
        have : lastOf u (i + 1) < u[i + 1] := by omega
        simp [this, h3']
theorem rising_is (u : List Int) (most : Int) (hl : u.length ≤ 1000000) (K : Nat) (hK : u.length + 1 ≤ K) : arb_rising.f K u most = some (risingB u most) := by
  unfold arb_rising.f risingB
  have h := rising_loop u most hl u.length 0 K (by omega) hK (by show (-1 : Int) ≤ -1; omega)
  rw [List.drop_zero] at h
  have hl0 : lastOf u 0 = -1 := rfl
  rw [hl0] at h
  rw [show (0 : Int) = ((0 : Nat) : Int) from rfl, h]
  cases risB most (-1) u
  · rfl
  · cases u with
    | nil => rfl
    | cons x u => simp
def aboveB (o : List Int) (b unit : Int) : Bool := (o.drop unit.toNat).any (fun x => x == b)
theorem above_loop (o : List Int) (b : Int) (hl : o.length ≤ 1000000) (unit : Nat) : ∀ (f K : Nat), unit + f ≤ o.length → f + 1 ≤ K → arb_above.l0 K o b (unit : Int) (((unit + f : Nat) : Int) - 1) = some (((o.drop unit).take f).any (fun x => x == b)) := by
  intro f
  induction f with
  | zero =>
    intro K h1 hK
    obtain ⟨K, rfl⟩ : ∃ K', K = K' + 1 := ⟨K - 1, by omega⟩
    simp only [arb_above.l0]
    rw [if_neg (by omega)]
    rfl
  | succ f ih =>
    intro K h1 hK
    obtain ⟨K, rfl⟩ : ∃ K', K = K' + 1 := ⟨K - 1, by omega⟩
    have hi : unit + f < o.length := by omega
    have e : ((unit + (f + 1) : Nat) : Int) - 1 = ((unit + f : Nat) : Int) := by omega
    simp only [arb_above.l0]
    rw [e, if_pos (by omega), if_pos (by omega), if_pos (by omega), rd_at o (unit + f) hi, wrap_small _ (by omega) (by omega), ih K (by omega) (by omega)]
    have hd : f < (o.drop unit).length := by rw [List.length_drop]; omega
    rw [List.take_succ_eq_append_getElem hd, List.any_append]
    have hg : (o.drop unit)[f] = o[unit + f] := by rw [List.getElem_drop]
    rw [hg]
    by_cases hb : o[unit + f] = b
    · rw [if_pos hb]; simp [hb]
    · rw [if_neg hb]; simp [hb]
theorem above_is (o : List Int) (b unit : Int) (hl : o.length ≤ 1000000) (h0 : 0 ≤ unit) (h1 : unit ≤ o.length) (K : Nat) (hK : o.length + 1 ≤ K) : arb_above.f K o b unit = some (aboveB o b unit) := by
  obtain ⟨u, rfl⟩ := Int.eq_ofNat_of_zero_le h0
  unfold arb_above.f aboveB
  have h := above_loop o b hl u (o.length - u) K (by omega) (by omega)
  rw [show u + (o.length - u) = o.length by omega] at h
  rw [wrap_small _ (by omega) (by omega), h, Int.toNat_natCast]
  congr 2
  rw [List.take_of_length_le (by rw [List.length_drop]; omega)]
def wishesB (o : List Int) (nx : Int) : Int → List S37 → List S37 → Bool
  | _, _, [] => true
  | last, prev, w :: ws => decide (last < w.f3) && decide (w.f3 < nx) && batchB w.f0 && decide (0 ≤ w.f1) && decide (w.f1 < 24) && risingB w.f2 o.length && !aboveB o w.f0 (w.f2.getD 0 0) && decide (firstFrom (waitIs w.f0) 0 prev < 0) && wishesB o nx w.f3 (prev ++ [w]) ws
def rightB (o : List Int) (ws : List S37) (nx : Int) : Bool := decide (1 ≤ o.length) && decide (o.length ≤ 5) && batchB nx && o.all (fun b => b == 0 || batchB b) && wishesB o nx 0 [] ws
def lastT (ws : List S37) : Nat → Int
  | 0 => 0
  | i + 1 => (ws.getD i ⟨0, 0, [], 0⟩).f3
theorem right_l1 (o : List Int) (ws : List S37) (nx : Int) (ho : o.length ≤ 5) (ho1 : 1 ≤ o.length) (hl : ws.length ≤ 1000000) (hu : ∀ w ∈ ws, w.f2.length ≤ 1000) : ∀ (f i K : Nat), ws.length = i + f → 2 * f + 2000 ≤ K →
    arb_Right.l1 K (lastT ws i) ws (ws.length : Int) (i : Int) o ws nx = some (wishesB o nx (lastT ws i) (ws.take i) (ws.drop i)) := by
  intro f
  induction f with
  | zero =>
    intro i K h1 hK
    obtain ⟨K, rfl⟩ : ∃ K', K = K' + 1 := ⟨K - 1, by omega⟩
    simp only [arb_Right.l1]
    rw [if_neg (by omega), List.drop_eq_nil_of_le (by omega)]
    rfl
  | succ f ih =>
    intro i K h1 hK
    obtain ⟨K, rfl⟩ : ∃ K', K = K' + 1 + 1 := ⟨K - 2, by omega⟩
    have hi : i < ws.length := by omega
    have e : rd_T37 ws (i : Int) = ws[i] := getD_at ws _ i hi
    have hw : wrap64 ((i : Int) + 1) = ((i + 1 : Nat) : Int) := by rw [wrap_small _ (by omega) (by omega)]; omega
    have hlt : lastT ws (i + 1) = ws[i].f3 := by show (ws.getD i _).f3 = _; rw [List.getD_eq_getElem?_getD, List.getElem?_eq_getElem hi]; rfl
    have hun := hu _ (List.getElem_mem hi)
    have hstep := ih (i + 1) K (by omega) (by omega)
    rw [hlt, List.take_succ_eq_append_getElem hi] at hstep
    rw [List.drop_eq_getElem_cons hi]
    simp only [arb_Right.l1]
    rw [if_pos (by omega), if_pos (by omega), if_pos (by omega), e]
    generalize ws[i] = x at *
    have hj : ∀ b : Bool, arb_Right.j3 (K + 1) (i : Int) ws (ws.length : Int) (i : Int) b o ws nx x.f0 x.f1 x.f2 x.f3 = if b = true then some false else (if 0 < (x.f2.length : Int) then ((arb_above.f K o x.f0 (rd x.f2 0)).bind fun t136 => (if t136 = true then (some false) else (if firstFrom (waitIs x.f0) 0 (ws.take i) ≥ 0 then (some false) else some (wishesB o nx x.f3 (ws.take i ++ [x]) (ws.drop (i + 1)))))) else none) := by
      intro b
      simp only [arb_Right.j3]
      have hwt : arb_waits.f (ws.take ((i : Int)).toNat) x.f0 = some (firstFrom (waitIs x.f0) 0 (ws.take i)) := by
        unfold arb_waits.f
        rw [Int.toNat_natCast, if_pos (by rw [List.length_take]; omega)]
      rw [hwt, if_pos (by omega : (0 : Int) ≤ i), if_pos (by omega : (i : Int) ≤ ws.length), hw, hstep]
      rfl
    have hc : wishesB o nx (lastT ws i) (ws.take i) (x :: ws.drop (i + 1)) = (decide (lastT ws i < x.f3) && decide (x.f3 < nx) && batchB x.f0 && decide (0 ≤ x.f1) && decide (x.f1 < 24) && risingB x.f2 o.length && !aboveB o x.f0 (x.f2.getD 0 0) && decide (firstFrom (waitIs x.f0) 0 (ws.take i) < 0) && wishesB o nx x.f3 (ws.take i ++ [x]) (ws.drop (i + 1))) := rfl
    rw [hc]
    by_cases c1 : x.f3 ≤ lastT ws i
    · rw [if_pos c1, hj, if_pos rfl]
      have : ¬ lastT ws i < x.f3 := by omega
      simp [this]
    rw [if_neg c1]
    have c1' : lastT ws i < x.f3 := by omega
    by_cases c2 : x.f3 ≥ nx
    · rw [if_pos c2, hj, if_pos rfl]
      have : ¬ x.f3 < nx := by omega
      simp [this]
    rw [if_neg c2, batch_is]
    have c2' : x.f3 < nx := by omega
    simp only [Option.bind_some]
    cases c3 : batchB x.f0
    · rw [if_neg (by simp), hj, if_pos rfl]
      simp
    rw [if_pos rfl]
    by_cases c4 : x.f1 < 0
    · rw [if_pos c4, hj, if_pos rfl]
      have : ¬ 0 ≤ x.f1 := by omega
      simp [this]
    rw [if_neg c4]
    have c4' : 0 ≤ x.f1 := by omega
    by_cases c5 : x.f1 ≥ 24
    · rw [if_pos c5, hj, if_pos rfl]
      have : ¬ x.f1 < 24 := by omega
      simp [this]
    rw [if_neg c5, rising_is x.f2 _ (by omega) (K + 1) (by omega)]
    have c5' : x.f1 < 24 := by omega
    simp only [Option.bind_some]
    cases c6 : risingB x.f2 o.length
    · rw [hj, if_pos (show (!false) = true from rfl)]
      simp
    have c6' := c6
    unfold risingB at c6'
    rw [Bool.and_eq_true] at c6'
    have hpos : 0 < x.f2.length := by
      cases hx : x.f2 with
      | nil => rw [hx] at c6'; simp at c6'
      | cons y t => simp
    have hr := ris_ge x.f2 o.length (-1) (by omega) c6'.1 _ (List.getElem_mem hpos)
    have hrd : rd x.f2 0 = x.f2[0] := rd_at x.f2 0 hpos
    have hgd : x.f2.getD 0 0 = x.f2[0] := by rw [List.getD_eq_getElem?_getD, List.getElem?_eq_getElem hpos]; rfl
    rw [hj, if_neg (by simp), if_pos (by omega), hrd, above_is o x.f0 x.f2[0] (by omega) (by omega) (by omega) K (by omega), hgd]
    simp only [Option.bind_some]
    cases c7 : aboveB o x.f0 x.f2[0]
    · rw [if_neg (by simp)]
      by_cases c8 : firstFrom (waitIs x.f0) 0 (ws.take i) ≥ 0
      · rw [if_pos c8]
        have : ¬ firstFrom (waitIs x.f0) 0 (ws.take i) < 0 := by omega
        simp [this]
      · rw [if_neg c8]
        have c8' : firstFrom (waitIs x.f0) 0 (ws.take i) < 0 := by omega
        simp [c1', c2', c4', c5', c8']
    · rw [if_pos rfl]
      simp
theorem right_l0 (o : List Int) (ws : List S37) (nx : Int) (ho : o.length ≤ 5) (ho1 : 1 ≤ o.length) (hl : ws.length ≤ 1000000) (hu : ∀ w ∈ ws, w.f2.length ≤ 1000) : ∀ (f i K : Nat), o.length = i + f → f + 2 * ws.length + 2001 ≤ K →
    arb_Right.l0 K o (o.length : Int) (i : Int) o ws nx = some ((o.drop i).all (fun b => b == 0 || batchB b) && wishesB o nx 0 [] ws) := by
  intro f
  induction f with
  | zero =>
    intro i K h1 hK
    obtain ⟨K, rfl⟩ : ∃ K', K = K' + 1 := ⟨K - 1, by omega⟩
    simp only [arb_Right.l0]
    rw [if_neg (by omega), List.drop_eq_nil_of_le (by omega)]
    have h := right_l1 o ws nx ho ho1 hl hu ws.length 0 K (by omega) (by omega)
    rw [List.drop_zero, List.take_zero] at h
    rw [show (0 : Int) = ((0 : Nat) : Int) from rfl]
    rw [show lastT ws 0 = ((0 : Nat) : Int) from rfl] at h
    rw [h]
    rfl
  | succ f ih =>
    intro i K h1 hK
    obtain ⟨K, rfl⟩ : ∃ K', K = K' + 1 := ⟨K - 1, by omega⟩
    have hi : i < o.length := by omega
    have hw : wrap64 ((i : Int) + 1) = ((i + 1 : Nat) : Int) := by rw [wrap_small _ (by omega) (by omega)]; omega
    simp only [arb_Right.l0]
    rw [if_pos (by omega), if_pos (by omega), if_pos (by omega), rd_at o i hi, hw, ih (i + 1) K (by omega) (by omega), List.drop_eq_getElem_cons hi, List.all_cons]
    by_cases h0 : o[i] = 0
    · rw [if_pos h0]; simp [h0]
    · rw [if_neg h0, batch_is]
      simp only [Option.bind_some]
      have h0' : (o[i] == 0) = false := by rw [beq_eq_false_iff_ne]; exact h0
      rw [h0', Bool.false_or]
      cases batchB o[i]
      · rfl
      · rw [if_pos rfl, Bool.true_and]
theorem right_is (o : List Int) (ws : List S37) (nx : Int) (ho9 : o.length ≤ 1000000) (hl : ws.length ≤ 1000000) (hu : ∀ w ∈ ws, w.f2.length ≤ 1000) (K : Nat) (hK : 2 * ws.length + 2010 ≤ K) : arb_Right.f K o ws nx = some (rightB o ws nx) := by
  obtain ⟨K, rfl⟩ : ∃ K', K = K' + 1 := ⟨K - 1, by omega⟩
  unfold arb_Right.f rightB
  have hj : ∀ b : Bool, arb_Right.j0 (K + 1) b o ws nx = if b = true then some false else arb_Right.l0 K o (o.length : Int) 0 o ws nx := fun b => rfl
  by_cases h1 : (o.length : Int) < 1
  · rw [if_pos h1, hj, if_pos rfl]
    have : ¬ 1 ≤ o.length := by omega
    simp [this]
  rw [if_neg h1]
  have h1' : 1 ≤ o.length := by omega
  by_cases h5 : (o.length : Int) > 5
  · rw [if_pos h5, hj, if_pos rfl]
    have : ¬ o.length ≤ 5 := by omega
    simp [this]
  rw [if_neg h5, batch_is]
  have h5' : o.length ≤ 5 := by omega
  simp only [Option.bind_some]
  rw [hj]
  cases batchB nx
  · rw [if_pos (show (!false) = true from rfl)]; simp
  · rw [if_neg (by simp)]
    have h := right_l0 o ws nx h5' h1' hl hu o.length 0 K (by omega) (by omega)
    rw [List.drop_zero] at h
    rw [show (0 : Int) = ((0 : Nat) : Int) from rfl, h]
    simp [h1', h5']
end Go.Proofs.Ytgmcmhlomfeldaa.Print
