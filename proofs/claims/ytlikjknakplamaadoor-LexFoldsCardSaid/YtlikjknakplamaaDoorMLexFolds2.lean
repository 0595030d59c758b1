import Derived.Test.YtlikjknakplamaaDoorMLexFolds1
import Derived.Below
import Derived.ChangeOld
import Derived.Handed
import Derived.LaidLaws
import Derived.LaidOnce
import Derived.LaidSub
import Derived.Laws.RangeAny
import Derived.Lay
import Derived.Lib.LaidTab
import Derived.Lib.LaidU8T
import Derived.Lib.TrimUEq
import Derived.OpenShut
import Derived.PinnedBridge
import Derived.ProofKit
import Derived.SevenTiedAt
import Derived.Shelf.Lay
import Derived.ShutString
import Derived.SizedLaws
import Derived.Test.YtlikjknakplamaaDoorCards
import Derived.Test.YtlikjknakplamaaDoorRows
import Derived.Test.YtlikjknakplamaaDoorTie
import Derived.WalkKit
set_option linter.unusedVariables false
set_option linter.unusedSimpArgs false
namespace Go.Proofs.YtlikjknakplamaaDoorW.PrintWords
end Go.Proofs.YtlikjknakplamaaDoorW.PrintWords
namespace Go.Proofs.YtlikjknakplamaaDoorW.PrintLast
end Go.Proofs.YtlikjknakplamaaDoorW.PrintLast
namespace Go.Proofs.YtlikjknakplamaaDoorW.PrintMore
end Go.Proofs.YtlikjknakplamaaDoorW.PrintMore
/-! ### Print12 -/
namespace Go.Proofs.YtlikjknakplamaaDoor.Print
open Go.RowKit Go.Proofs.YtlikjknakplamaaDoorW.PrintWords Go.Proofs.YtlikjknakplamaaDoorW.PrintLast Go.Proofs.YtlikjknakplamaaDoorW.PrintMore
set_option linter.unusedVariables false
set_option linter.unusedSimpArgs false
mutual
def malthouselaw01_LexFolds.j0 : Nat → ByteArray → ByteArray → Bool → Bool → Option (Bool)
  | 0, _, _, _, _ => none
  | k + 1, x0, x1, x5, x16 => if x16 = true then (some x5) else ((lex_Fold.f x0).bind fun t264 => (if x5 = true then (if (t264.size : Int) = (x0.size : Int) then ((lex_Fold.f t264).bind fun t265 => (if t265.toList = t264.toList then (if x0.size + x1.size ≤ 9223372036854775807 then ((lex_Fold.f (x0 ++ x1)).bind fun t266 => ((lex_Fold.f x1).bind fun t267 => (if t264.size + t267.size ≤ 9223372036854775807 then (malthouselaw01_LexFolds.j1 k x0 t264 (t266.toList != (t264 ++ t267).toList)) else (none)))) else (none)) else (malthouselaw01_LexFolds.j1 k x0 t264 true))) else (malthouselaw01_LexFolds.j1 k x0 t264 true)) else (malthouselaw01_LexFolds.j1 k x0 t264 true)))
def malthouselaw01_LexFolds.j1 : Nat → ByteArray → ByteArray → Bool → Option (Bool)
  | 0, _, _, _ => none
  | k + 1, x0, x6, x45 => if x45 = true then (some false) else (malthouselaw01_LexFolds.l0 k x0 x6 0)
def malthouselaw01_LexFolds.l0 : Nat → ByteArray → ByteArray → Int → Option (Bool)
  | 0, _, _, _ => none
  | k + 1, x0, x6, x7 => if x7 < (x0.size : Int) then (if 0 ≤ x7 then (if x7 < (x6.size : Int) then (if (bt x6 x7) = (bt x0 x7) then (if (bt x6 x7) ≥ 65 then (if (bt x6 x7) ≤ 90 then (some false) else (malthouselaw01_LexFolds.l0 k x0 x6 (wrap64 (x7 + 1)))) else (malthouselaw01_LexFolds.l0 k x0 x6 (wrap64 (x7 + 1)))) else (if (bt x0 x7) < 65 then (some false) else (if (bt x0 x7) > 90 then (some false) else (if (bt x6 x7) = (((bt x0 x7) + 32) % 256) then (if (bt x6 x7) ≥ 65 then (if (bt x6 x7) ≤ 90 then (some false) else (malthouselaw01_LexFolds.l0 k x0 x6 (wrap64 (x7 + 1)))) else (malthouselaw01_LexFolds.l0 k x0 x6 (wrap64 (x7 + 1)))) else (some false))))) else (none)) else (none)) else (some true)
end
def malthouselaw01_LexFolds.f (k : Nat) (a0 : ByteArray) (a1 : ByteArray) : Option (Bool) := (malthouselaw01_awake.f).bind fun t263 => (if (a0.size : Int) > 5000 then (malthouselaw01_LexFolds.j0 k a0 a1 t263 true) else (malthouselaw01_LexFolds.j0 k a0 a1 t263 (decide ((a1.size : Int) > 5000))))
set_option maxHeartbeats 8000000 in
set_option maxRecDepth 100000 in
theorem malthouselaw01_LexFolds.calls (k : Nat) (a0 : ByteArray) (a1 : ByteArray) (r : Bool) (w : World) (hT : Tabs w) (h : malthouselaw01_LexFolds.f k a0 a1 = some r) :
    Calls Tryd.prog 9 #[.string a0, .string a1] w fun e w' => e = .returned (.bool r) ∧ Below w.heap.size w w' := by
  have HB := Aside0.mk (Below.refl w.heap.size w)
  have H : ((malthouselaw01_awake.f).bind fun t263 => (if (a0.size : Int) > 5000 then (malthouselaw01_LexFolds.j0 k a0 a1 t263 true) else (malthouselaw01_LexFolds.j0 k a0 a1 t263 (decide ((a1.size : Int) > 5000))))) = some r := h
  clear h
  replace H := Option.bind_eq_some_iff.mp H
  obtain ⟨t263, A30, H⟩ := H
  replace H : (if (a0.size : Int) > 5000 then (malthouselaw01_LexFolds.j0 k a0 a1 t263 true) else (malthouselaw01_LexFolds.j0 k a0 a1 t263 (decide ((a1.size : Int) > 5000)))) = some r := H
  have A3 := Aside0.mk A30
  clear A30
  have HC4 := Aside0.mk H
  clear H
  go_enter Tryd.func9, Tryd.ntmps9
  go_upto_region 2 with (first | (go_at_call 12; (with_reducible refine (malthouselaw01_awake.calls  t263 _ ?side1 A3.out).mono ?_); (case side1 => exact Tabs.below hT (by repeat (first | (with_reducible first | exact HB.out | apply below_alloc | apply pw_below_drewN | apply below_drew1) | exact HB.out))); rintro e w5 ⟨rfl, hb⟩; have n0_ := Aside0.mk (below_step (by repeat (first | (with_reducible first | exact HB.out | apply below_alloc | apply pw_below_drewN | apply below_drew1) | exact HB.out)) hb); clear HB; have HB := n0_; clear n0_; (try clear hb); (try clear hb2); (try clear hk); (try clear hi)))
  repeat (go_quiet (first | (go_at_call 12; (with_reducible refine (malthouselaw01_awake.calls  t263 _ ?side1 A3.out).mono ?_); (case side1 => exact Tabs.below hT (by repeat (first | (with_reducible first | exact HB.out | apply below_alloc | apply pw_below_drewN | apply below_drew1) | exact HB.out))); rintro e w5 ⟨rfl, hb⟩; have n0_ := Aside0.mk (below_step (by repeat (first | (with_reducible first | exact HB.out | apply below_alloc | apply pw_below_drewN | apply below_drew1) | exact HB.out)) hb); clear HB; have HB := n0_; clear n0_; (try clear hb); (try clear hb2); (try clear hk); (try clear hi))); go_upto_region 2 with (first | (go_at_call 12; (with_reducible refine (malthouselaw01_awake.calls  t263 _ ?side1 A3.out).mono ?_); (case side1 => exact Tabs.below hT (by repeat (first | (with_reducible first | exact HB.out | apply below_alloc | apply pw_below_drewN | apply below_drew1) | exact HB.out))); rintro e w5 ⟨rfl, hb⟩; have n0_ := Aside0.mk (below_step (by repeat (first | (with_reducible first | exact HB.out | apply below_alloc | apply pw_below_drewN | apply below_drew1) | exact HB.out)) hb); clear HB; have HB := n0_; clear n0_; (try clear hb); (try clear hb2); (try clear hk); (try clear hi))))
  (try simp only [Act.put, List.setIfInBounds_toArray, List.set_cons_zero, List.set_cons_succ])
  go_cut [16] (fun v16 wc => ∃ (kq : Nat) (x16_3 : Bool), v16 = .bool x16_3 ∧ Aside0 (malthouselaw01_LexFolds.j0 kq a0 a1 t263 x16_3 = some r) ∧ Aside0 (kq ≤ k) ∧ Aside0 (Below w.heap.size w wc))
  case first =>
    have H := HC4.out
    clear HC4
    by_cases c6 : (a0.size : Int) > 5000
    · rw [if_pos c6] at H
      have c6b0 : decide (5000 < (a0.size : Int)) = true := decide_eq_true c6
      have c6b1 : decide (5000 < a0.size) = true := decide_eq_true (by omega)
      clear c6
      (first | rw [c6b0] | (simp only [i64_w, i32_w]; rw [c6b0]) | skip)
      have H' := Aside0.mk H
      clear H
      go_wp2
      repeat (go_quiet (fail); try go_wp2)
      go_meet
      case rel => exact ⟨_, (true), (by first | rfl | (simp; done) | (simp [*]; done)), H', ⟨by first | omega | exact Nat.le_refl _⟩, ⟨by repeat (first | (with_reducible first | exact HB.out | apply below_alloc | apply pw_below_drewN | apply below_drew1) | exact HB.out)⟩⟩
    · rw [if_neg c6] at H
      have c6b0 : decide (5000 < (a0.size : Int)) = false := decide_eq_false c6
      have c6b1 : decide (5000 < a0.size) = false := decide_eq_false (by omega)
      clear c6
      (first | rw [c6b0] | (simp only [i64_w, i32_w]; rw [c6b0]) | skip)
      have H' := Aside0.mk H
      clear H
      go_wp2
      repeat (go_quiet (fail); try go_wp2)
      go_meet
      case rel => exact ⟨_, (decide ((a1.size : Int) > 5000)), (by first | rfl | (simp; done) | (simp [*]; done)), H', ⟨by first | omega | exact Nat.le_refl _⟩, ⟨by repeat (first | (with_reducible first | exact HB.out | apply below_alloc | apply pw_below_drewN | apply below_drew1) | exact HB.out)⟩⟩
  case rest =>
    clear HC4
    try clear p2
    try clear c6
    try clear c6b0
    try clear c6b1
    obtain ⟨kq, x16_3, rfl, HA, HJ3, HB⟩ := hcut
    cases kq with
    | zero => exact absurd HA.out (by simp [malthouselaw01_LexFolds.j0])
    | succ kj3 =>
      have H := HA.out
      clear HA
      simp only [malthouselaw01_LexFolds.j0] at H
      by_cases c7 : x16_3 = true
      · subst c7
        have H1 : (some t263) = some r := by rw [if_pos rfl] at H; exact H
        clear H
        have H := H1
        clear H1
        obtain rfl := Option.some.inj H
        go_wp2
        repeat (go_quiet (fail); try go_wp2)
        go_ret
        exact ⟨by first | rfl | (simp [errW_none, errW_some] <;> rfl) | (simp [*, errW_none, errW_some] <;> rfl), by repeat (first | (with_reducible first | exact HB.out | apply below_alloc | apply pw_below_drewN | apply below_drew1) | exact HB.out)⟩
      · replace c7 := Bool.eq_false_iff.mpr c7
        subst c7
        have H1 : ((lex_Fold.f a0).bind fun t264 => (if t263 = true then (if (t264.size : Int) = (a0.size : Int) then ((lex_Fold.f t264).bind fun t265 => (if t265.toList = t264.toList then (if a0.size + a1.size ≤ 9223372036854775807 then ((lex_Fold.f (a0 ++ a1)).bind fun t266 => ((lex_Fold.f a1).bind fun t267 => (if t264.size + t267.size ≤ 9223372036854775807 then (malthouselaw01_LexFolds.j1 kj3 a0 t264 (t266.toList != (t264 ++ t267).toList)) else (none)))) else (none)) else (malthouselaw01_LexFolds.j1 kj3 a0 t264 true))) else (malthouselaw01_LexFolds.j1 kj3 a0 t264 true)) else (malthouselaw01_LexFolds.j1 kj3 a0 t264 true))) = some r := by rw [if_neg (show ¬ (false = true) by decide)] at H; exact H
        clear H
        have H := H1
        clear H1
        replace H := Option.bind_eq_some_iff.mp H
        obtain ⟨t264, A80, H⟩ := H
        replace H : (if t263 = true then (if (t264.size : Int) = (a0.size : Int) then ((lex_Fold.f t264).bind fun t265 => (if t265.toList = t264.toList then (if a0.size + a1.size ≤ 9223372036854775807 then ((lex_Fold.f (a0 ++ a1)).bind fun t266 => ((lex_Fold.f a1).bind fun t267 => (if t264.size + t267.size ≤ 9223372036854775807 then (malthouselaw01_LexFolds.j1 kj3 a0 t264 (t266.toList != (t264 ++ t267).toList)) else (none)))) else (none)) else (malthouselaw01_LexFolds.j1 kj3 a0 t264 true))) else (malthouselaw01_LexFolds.j1 kj3 a0 t264 true)) else (malthouselaw01_LexFolds.j1 kj3 a0 t264 true)) = some r := H
        have A8 := Aside0.mk A80
        clear A80
        have HC9 := Aside0.mk H
        clear H
        go_upto_region 5 with (first | (go_at_call 23; (with_reducible refine (lex_Fold.calls a0 t264 _ A8.out).mono ?_); rintro e w10 ⟨rfl, hb⟩; have n0_ := Aside0.mk (below_step (by repeat (first | (with_reducible first | exact HB.out | apply below_alloc | apply pw_below_drewN | apply below_drew1) | exact HB.out)) hb); clear HB; have HB := n0_; clear n0_; (try clear hb); (try clear hb2); (try clear hk); (try clear hi)))
        repeat (go_quiet (first | (go_at_call 23; (with_reducible refine (lex_Fold.calls a0 t264 _ A8.out).mono ?_); rintro e w10 ⟨rfl, hb⟩; have n0_ := Aside0.mk (below_step (by repeat (first | (with_reducible first | exact HB.out | apply below_alloc | apply pw_below_drewN | apply below_drew1) | exact HB.out)) hb); clear HB; have HB := n0_; clear n0_; (try clear hb); (try clear hb2); (try clear hk); (try clear hi))); go_upto_region 5 with (first | (go_at_call 23; (with_reducible refine (lex_Fold.calls a0 t264 _ A8.out).mono ?_); rintro e w10 ⟨rfl, hb⟩; have n0_ := Aside0.mk (below_step (by repeat (first | (with_reducible first | exact HB.out | apply below_alloc | apply pw_below_drewN | apply below_drew1) | exact HB.out)) hb); clear HB; have HB := n0_; clear n0_; (try clear hb); (try clear hb2); (try clear hk); (try clear hi))))
        (try simp only [Act.put, List.setIfInBounds_toArray, List.set_cons_zero, List.set_cons_succ])
        go_cut [45] (fun v45 wc => ∃ (kq : Nat) (x45_8 : Bool), v45 = .bool x45_8 ∧ Aside0 (malthouselaw01_LexFolds.j1 kq a0 t264 x45_8 = some r) ∧ Aside0 (kq ≤ kj3) ∧ Aside0 (Below w.heap.size w wc))
        case first =>
          have H := HC9.out
          clear HC9
          by_cases c11 : t263 = true
          · subst c11
            have H1 : (if (t264.size : Int) = (a0.size : Int) then ((lex_Fold.f t264).bind fun t265 => (if t265.toList = t264.toList then (if a0.size + a1.size ≤ 9223372036854775807 then ((lex_Fold.f (a0 ++ a1)).bind fun t266 => ((lex_Fold.f a1).bind fun t267 => (if t264.size + t267.size ≤ 9223372036854775807 then (malthouselaw01_LexFolds.j1 kj3 a0 t264 (t266.toList != (t264 ++ t267).toList)) else (none)))) else (none)) else (malthouselaw01_LexFolds.j1 kj3 a0 t264 true))) else (malthouselaw01_LexFolds.j1 kj3 a0 t264 true)) = some r := by rw [if_pos rfl] at H; exact H
            clear H
            have H := H1
            clear H1
            by_cases c12 : (t264.size : Int) = (a0.size : Int)
            · rw [if_pos c12] at H
              have c12b0 : ((t264.size : Int) == (a0.size : Int)) = true := beq_iff_eq.mpr c12
              have c12b1 : ((t264.size : Int) != (a0.size : Int)) = false := bne_eq_false_iff_eq.mpr c12
              have c12b2 : (t264.size == a0.size) = true := by first | simpa using c12 | (simp at c12 ⊢; omega)
              clear c12
              (first | rw [c12b0] | (simp only [i64_w, i32_w]; rw [c12b0]) | skip)
              replace H := Option.bind_eq_some_iff.mp H
              obtain ⟨t265, A130, H⟩ := H
              replace H : (if t265.toList = t264.toList then (if a0.size + a1.size ≤ 9223372036854775807 then ((lex_Fold.f (a0 ++ a1)).bind fun t266 => ((lex_Fold.f a1).bind fun t267 => (if t264.size + t267.size ≤ 9223372036854775807 then (malthouselaw01_LexFolds.j1 kj3 a0 t264 (t266.toList != (t264 ++ t267).toList)) else (none)))) else (none)) else (malthouselaw01_LexFolds.j1 kj3 a0 t264 true)) = some r := H
              have A13 := Aside0.mk A130
              clear A130
              by_cases c14 : t265.toList = t264.toList
              · rw [if_pos c14] at H
                have c14b0 : (t265.toList == t264.toList) = true := beq_iff_eq.mpr c14
                have c14b1 : (t265.toList != t264.toList) = false := bne_eq_false_iff_eq.mpr c14
                clear c14
                by_cases c15 : a0.size + a1.size ≤ 9223372036854775807
                · rw [if_pos c15] at H
                  have c15b0 := eq_true c15
                  have c15b1 : decide (a0.size + a1.size ≤ 9223372036854775807) = true := decide_eq_true c15
                  try have c15b2 : (9223372036854775807 < a0.size + a1.size) = False := eq_false (Nat.not_lt.2 c15)
                  replace H := Option.bind_eq_some_iff.mp H
                  obtain ⟨t266, A160, H⟩ := H
                  replace H : ((lex_Fold.f a1).bind fun t267 => (if t264.size + t267.size ≤ 9223372036854775807 then (malthouselaw01_LexFolds.j1 kj3 a0 t264 (t266.toList != (t264 ++ t267).toList)) else (none))) = some r := H
                  have A16 := Aside0.mk A160
                  clear A160
                  replace H := Option.bind_eq_some_iff.mp H
                  obtain ⟨t267, A170, H⟩ := H
                  replace H : (if t264.size + t267.size ≤ 9223372036854775807 then (malthouselaw01_LexFolds.j1 kj3 a0 t264 (t266.toList != (t264 ++ t267).toList)) else (none)) = some r := H
                  have A17 := Aside0.mk A170
                  clear A170
                  by_cases c18 : t264.size + t267.size ≤ 9223372036854775807
                  · rw [if_pos c18] at H
                    have c18b0 := eq_true c18
                    have c18b1 : decide (t264.size + t267.size ≤ 9223372036854775807) = true := decide_eq_true c18
                    try have c18b2 : (9223372036854775807 < t264.size + t267.size) = False := eq_false (Nat.not_lt.2 c18)
                    have H' := Aside0.mk H
                    clear H
                    go_wp2_with (first | (go_at_call 23; (with_reducible refine (lex_Fold.calls t264 t265 _ A13.out).mono ?_); rintro e w19 ⟨rfl, hb⟩; have n0_ := Aside0.mk (below_step (by repeat (first | (with_reducible first | exact HB.out | apply below_alloc | apply pw_below_drewN | apply below_drew1) | exact HB.out)) hb); clear HB; have HB := n0_; clear n0_; (try clear hb); (try clear hb2); (try clear hk); (try clear hi)) | (go_at_call 23; (with_reducible refine (lex_Fold.calls (a0 ++ a1) t266 _ A16.out).mono ?_); rintro e w20 ⟨rfl, hb⟩; have n0_ := Aside0.mk (below_step (by repeat (first | (with_reducible first | exact HB.out | apply below_alloc | apply pw_below_drewN | apply below_drew1) | exact HB.out)) hb); clear HB; have HB := n0_; clear n0_; (try clear hb); (try clear hb2); (try clear hk); (try clear hi)) | (go_at_call 23; (with_reducible refine (lex_Fold.calls a1 t267 _ A17.out).mono ?_); rintro e w21 ⟨rfl, hb⟩; have n0_ := Aside0.mk (below_step (by repeat (first | (with_reducible first | exact HB.out | apply below_alloc | apply pw_below_drewN | apply below_drew1) | exact HB.out)) hb); clear HB; have HB := n0_; clear n0_; (try clear hb); (try clear hb2); (try clear hk); (try clear hi)))
                    repeat (go_quiet (first | (go_at_call 23; (with_reducible refine (lex_Fold.calls t264 t265 _ A13.out).mono ?_); rintro e w19 ⟨rfl, hb⟩; have n0_ := Aside0.mk (below_step (by repeat (first | (with_reducible first | exact HB.out | apply below_alloc | apply pw_below_drewN | apply below_drew1) | exact HB.out)) hb); clear HB; have HB := n0_; clear n0_; (try clear hb); (try clear hb2); (try clear hk); (try clear hi)) | (go_at_call 23; (with_reducible refine (lex_Fold.calls (a0 ++ a1) t266 _ A16.out).mono ?_); rintro e w20 ⟨rfl, hb⟩; have n0_ := Aside0.mk (below_step (by repeat (first | (with_reducible first | exact HB.out | apply below_alloc | apply pw_below_drewN | apply below_drew1) | exact HB.out)) hb); clear HB; have HB := n0_; clear n0_; (try clear hb); (try clear hb2); (try clear hk); (try clear hi)) | (go_at_call 23; (with_reducible refine (lex_Fold.calls a1 t267 _ A17.out).mono ?_); rintro e w21 ⟨rfl, hb⟩; have n0_ := Aside0.mk (below_step (by repeat (first | (with_reducible first | exact HB.out | apply below_alloc | apply pw_below_drewN | apply below_drew1) | exact HB.out)) hb); clear HB; have HB := n0_; clear n0_; (try clear hb); (try clear hb2); (try clear hk); (try clear hi))); try go_wp2_with (first | (go_at_call 23; (with_reducible refine (lex_Fold.calls t264 t265 _ A13.out).mono ?_); rintro e w19 ⟨rfl, hb⟩; have n0_ := Aside0.mk (below_step (by repeat (first | (with_reducible first | exact HB.out | apply below_alloc | apply pw_below_drewN | apply below_drew1) | exact HB.out)) hb); clear HB; have HB := n0_; clear n0_; (try clear hb); (try clear hb2); (try clear hk); (try clear hi)) | (go_at_call 23; (with_reducible refine (lex_Fold.calls (a0 ++ a1) t266 _ A16.out).mono ?_); rintro e w20 ⟨rfl, hb⟩; have n0_ := Aside0.mk (below_step (by repeat (first | (with_reducible first | exact HB.out | apply below_alloc | apply pw_below_drewN | apply below_drew1) | exact HB.out)) hb); clear HB; have HB := n0_; clear n0_; (try clear hb); (try clear hb2); (try clear hk); (try clear hi)) | (go_at_call 23; (with_reducible refine (lex_Fold.calls a1 t267 _ A17.out).mono ?_); rintro e w21 ⟨rfl, hb⟩; have n0_ := Aside0.mk (below_step (by repeat (first | (with_reducible first | exact HB.out | apply below_alloc | apply pw_below_drewN | apply below_drew1) | exact HB.out)) hb); clear HB; have HB := n0_; clear n0_; (try clear hb); (try clear hb2); (try clear hk); (try clear hi))))
                    go_meet
                    case rel => exact ⟨_, ((t266.toList != (t264 ++ t267).toList)), (by first | rfl | (simp; done) | (simp [*]; done)), H', ⟨by have := HJ3.out; first | omega | exact Nat.le_refl _⟩, ⟨by repeat (first | (with_reducible first | exact HB.out | apply below_alloc | apply pw_below_drewN | apply below_drew1) | exact HB.out)⟩⟩
                  · rw [if_neg c18] at H
                    exact absurd H (by simp)
                · rw [if_neg c15] at H
                  exact absurd H (by simp)
              · rw [if_neg c14] at H
                have c14b0 : (t265.toList == t264.toList) = false := beq_eq_false_iff_ne.mpr c14
                have c14b1 : (t265.toList != t264.toList) = true := bne_iff_ne.mpr c14
                have H' := Aside0.mk H
                clear H
                go_wp2_with (first | (go_at_call 23; (with_reducible refine (lex_Fold.calls t264 t265 _ A13.out).mono ?_); rintro e w22 ⟨rfl, hb⟩; have n0_ := Aside0.mk (below_step (by repeat (first | (with_reducible first | exact HB.out | apply below_alloc | apply pw_below_drewN | apply below_drew1) | exact HB.out)) hb); clear HB; have HB := n0_; clear n0_; (try clear hb); (try clear hb2); (try clear hk); (try clear hi)))
                repeat (go_quiet (first | (go_at_call 23; (with_reducible refine (lex_Fold.calls t264 t265 _ A13.out).mono ?_); rintro e w22 ⟨rfl, hb⟩; have n0_ := Aside0.mk (below_step (by repeat (first | (with_reducible first | exact HB.out | apply below_alloc | apply pw_below_drewN | apply below_drew1) | exact HB.out)) hb); clear HB; have HB := n0_; clear n0_; (try clear hb); (try clear hb2); (try clear hk); (try clear hi))); try go_wp2_with (first | (go_at_call 23; (with_reducible refine (lex_Fold.calls t264 t265 _ A13.out).mono ?_); rintro e w22 ⟨rfl, hb⟩; have n0_ := Aside0.mk (below_step (by repeat (first | (with_reducible first | exact HB.out | apply below_alloc | apply pw_below_drewN | apply below_drew1) | exact HB.out)) hb); clear HB; have HB := n0_; clear n0_; (try clear hb); (try clear hb2); (try clear hk); (try clear hi))))
                go_meet
                case rel => exact ⟨_, (true), (by first | rfl | (simp; done) | (simp [*]; done)), H', ⟨by have := HJ3.out; first | omega | exact Nat.le_refl _⟩, ⟨by repeat (first | (with_reducible first | exact HB.out | apply below_alloc | apply pw_below_drewN | apply below_drew1) | exact HB.out)⟩⟩
            · rw [if_neg c12] at H
              have c12b0 : ((t264.size : Int) == (a0.size : Int)) = false := beq_eq_false_iff_ne.mpr c12
              have c12b1 : ((t264.size : Int) != (a0.size : Int)) = true := bne_iff_ne.mpr c12
              have c12b2 : (t264.size == a0.size) = false := by first | simpa using c12 | (simp at c12 ⊢; omega)
              (first | rw [c12b0] | (simp only [i64_w, i32_w]; rw [c12b0]) | skip)
              have H' := Aside0.mk H
              clear H
              go_wp2
              repeat (go_quiet (fail); try go_wp2)
              go_meet
              case rel => exact ⟨_, (true), (by first | rfl | (simp; done) | (simp [*]; done)), H', ⟨by have := HJ3.out; first | omega | exact Nat.le_refl _⟩, ⟨by repeat (first | (with_reducible first | exact HB.out | apply below_alloc | apply pw_below_drewN | apply below_drew1) | exact HB.out)⟩⟩
          · replace c11 := Bool.eq_false_iff.mpr c11
            subst c11
            have H1 : (malthouselaw01_LexFolds.j1 kj3 a0 t264 true) = some r := by rw [if_neg (show ¬ (false = true) by decide)] at H; exact H
            clear H
            have H := H1
            clear H1
            have H' := Aside0.mk H
            clear H
            go_wp2
            repeat (go_quiet (fail); try go_wp2)
            go_meet
            case rel => exact ⟨_, (true), (by first | rfl | (simp; done) | (simp [*]; done)), H', ⟨by have := HJ3.out; first | omega | exact Nat.le_refl _⟩, ⟨by repeat (first | (with_reducible first | exact HB.out | apply below_alloc | apply pw_below_drewN | apply below_drew1) | exact HB.out)⟩⟩
        case rest =>
          clear HC9
          try clear c1
          try clear p2
          try clear c6
          try clear c6b0
          try clear c6b1
          try clear c7
          try clear c9
          try clear c11
          try clear c12
          try clear c12b0
          try clear c12b1
          try clear c12b2
          try clear c14
          try clear c14b0
          try clear c14b1
          try clear c15
          try clear c15b0
          try clear c15b1
          try clear c15b2
          try clear c18
          try clear c18b0
          try clear c18b1
          try clear c18b2
          try clear p2
          obtain ⟨kq, x45_8, rfl, HA, HJ8, HB⟩ := hcut
          cases kq with
          | zero => exact absurd HA.out (by simp [malthouselaw01_LexFolds.j1])
          | succ kj8 =>
            have H := HA.out
            clear HA
            simp only [malthouselaw01_LexFolds.j1] at H
            by_cases c23 : x45_8 = true
            · subst c23
              have H1 : (some false) = some r := by rw [if_pos rfl] at H; exact H
              clear H
              have H := H1
              clear H1
              obtain rfl := Option.some.inj H
              go_wp2
              repeat (go_quiet (fail); try go_wp2)
              go_ret
              exact ⟨by first | rfl | (simp [errW_none, errW_some] <;> rfl) | (simp [*, errW_none, errW_some] <;> rfl), by repeat (first | (with_reducible first | exact HB.out | apply below_alloc | apply pw_below_drewN | apply below_drew1) | exact HB.out)⟩
            · replace c23 := Bool.eq_false_iff.mpr c23
              subst c23
              have H1 : (malthouselaw01_LexFolds.l0 kj8 a0 t264 0) = some r := by rw [if_neg (show ¬ (false = true) by decide)] at H; exact H
              clear H
              have H := H1
              clear H1
              have H' := Aside0.mk H
              clear H
              go_wp2
              repeat (go_quiet (fail); try go_wp2)
              go_loopg [7] kj8 (fun kq v7 w' => ∃ (x7_3 : Int), v7 = .int .i64 x7_3 ∧ Aside0 (malthouselaw01_LexFolds.l0 kq a0 t264 x7_3 = some r) ∧ Aside0 (kq ≤ kj8) ∧ Aside0 (Below w.heap.size w w'))
              case atStart => exact ⟨(0), (by first | rfl | (simp; done) | (simp [*]; done)), H', ⟨Nat.le_refl _⟩, ⟨by repeat (first | (with_reducible first | exact HB.out | apply below_alloc | apply pw_below_drewN | apply below_drew1) | exact HB.out)⟩⟩
              case round =>
                clear H'
                try clear c1
                try clear c2
                try clear p2
                try clear c6
                try clear c6b0
                try clear c6b1
                try clear c7
                try clear c9
                try clear c11
                try clear c12
                try clear c12b0
                try clear c12b1
                try clear c12b2
                try clear c14
                try clear c14b0
                try clear c14b1
                try clear c15
                try clear c15b0
                try clear c15b1
                try clear c15b2
                try clear c18
                try clear c18b0
                try clear c18b1
                try clear c18b2
                try clear c23
                try clear p2
                obtain ⟨x7_3, rfl, HA, HK3, HB⟩ := hrel
                cases gk with
                | zero => exact absurd HA.out (by simp [malthouselaw01_LexFolds.l0])
                | succ k3 =>
                  have H := HA.out
                  clear HA
                  simp only [malthouselaw01_LexFolds.l0] at H
                  by_cases c24 : x7_3 < (a0.size : Int)
                  · rw [if_pos c24] at H
                    have c24b0 : decide (x7_3 < (a0.size : Int)) = true := decide_eq_true c24
                    clear c24
                    by_cases c25 : 0 ≤ x7_3
                    · rw [if_pos c25] at H
                      have c25b0 : decide (0 ≤ x7_3) = true := decide_eq_true c25
                      clear c25
                      by_cases c26 : x7_3 < (t264.size : Int)
                      · rw [if_pos c26] at H
                        have c26b0 : decide (x7_3 < (t264.size : Int)) = true := decide_eq_true c26
                        clear c26
                        by_cases c29 : (bt t264 x7_3) = (bt a0 x7_3)
                        · rw [if_pos c29] at H
                          have c29b0 : ((bt t264 x7_3) == (bt a0 x7_3)) = true := beq_iff_eq.mpr c29
                          have c29b1 : ((bt t264 x7_3) != (bt a0 x7_3)) = false := bne_eq_false_iff_eq.mpr c29
                          clear c29
                          by_cases c31 : (bt t264 x7_3) ≥ 65
                          · rw [if_pos c31] at H
                            have c31b0 : decide (65 ≤ (bt t264 x7_3)) = true := decide_eq_true c31
                            clear c31
                            by_cases c33 : (bt t264 x7_3) ≤ 90
                            · rw [if_pos c33] at H
                              have c33b0 : decide ((bt t264 x7_3) ≤ 90) = true := decide_eq_true c33
                              clear c33
                              obtain rfl := Option.some.inj H
                              have p27 : 0 ≤ (x7_3 : Int) := of_decide_eq_true (by first | (with_reducible assumption) | assumption)
                              have q27 : x7_3 < (t264.size : Int) := of_decide_eq_true (by first | (with_reducible assumption) | assumption)
                              have hx27 := bt_at t264 x7_3
                              replace p27 := eq_true p27
                              replace q27 := eq_true q27
                              have p28 : 0 ≤ (x7_3 : Int) := of_decide_eq_true (by first | (with_reducible assumption) | assumption)
                              have q28 : x7_3 < (a0.size : Int) := of_decide_eq_true (by first | (with_reducible assumption) | assumption)
                              have hx28 := bt_at a0 x7_3
                              replace p28 := eq_true p28
                              replace q28 := eq_true q28
                              have p30 : 0 ≤ (x7_3 : Int) := of_decide_eq_true (by first | (with_reducible assumption) | assumption)
                              have q30 : x7_3 < (t264.size : Int) := of_decide_eq_true (by first | (with_reducible assumption) | assumption)
                              have hx30 := bt_at t264 x7_3
                              replace p30 := eq_true p30
                              replace q30 := eq_true q30
                              have p32 : 0 ≤ (x7_3 : Int) := of_decide_eq_true (by first | (with_reducible assumption) | assumption)
                              have q32 : x7_3 < (t264.size : Int) := of_decide_eq_true (by first | (with_reducible assumption) | assumption)
                              have hx32 := bt_at t264 x7_3
                              replace p32 := eq_true p32
                              replace q32 := eq_true q32
                              go_wp2
                              repeat (go_quiet (fail); try go_wp2)
                              go_ret
                              exact ⟨by first | rfl | (simp [errW_none, errW_some] <;> rfl) | (simp [*, errW_none, errW_some] <;> rfl), by repeat (first | (with_reducible first | exact HB.out | apply below_alloc | apply pw_below_drewN | apply below_drew1) | exact HB.out)⟩
                            · rw [if_neg c33] at H
                              have c33b0 : decide ((bt t264 x7_3) ≤ 90) = false := decide_eq_false c33
                              clear c33
                              have H' := Aside0.mk H
                              clear H
                              have p27 : 0 ≤ (x7_3 : Int) := of_decide_eq_true (by first | (with_reducible assumption) | assumption)
                              have q27 : x7_3 < (t264.size : Int) := of_decide_eq_true (by first | (with_reducible assumption) | assumption)
                              have hx27 := bt_at t264 x7_3
                              replace p27 := eq_true p27
                              replace q27 := eq_true q27
                              have p28 : 0 ≤ (x7_3 : Int) := of_decide_eq_true (by first | (with_reducible assumption) | assumption)
                              have q28 : x7_3 < (a0.size : Int) := of_decide_eq_true (by first | (with_reducible assumption) | assumption)
                              have hx28 := bt_at a0 x7_3
                              replace p28 := eq_true p28
                              replace q28 := eq_true q28
                              have p30 : 0 ≤ (x7_3 : Int) := of_decide_eq_true (by first | (with_reducible assumption) | assumption)
                              have q30 : x7_3 < (t264.size : Int) := of_decide_eq_true (by first | (with_reducible assumption) | assumption)
                              have hx30 := bt_at t264 x7_3
                              replace p30 := eq_true p30
                              replace q30 := eq_true q30
                              have p32 : 0 ≤ (x7_3 : Int) := of_decide_eq_true (by first | (with_reducible assumption) | assumption)
                              have q32 : x7_3 < (t264.size : Int) := of_decide_eq_true (by first | (with_reducible assumption) | assumption)
                              have hx32 := bt_at t264 x7_3
                              replace p32 := eq_true p32
                              replace q32 := eq_true q32
                              go_wp2
                              repeat (go_quiet (fail); try go_wp2)
                              go_roundg k3
                              case measure => have := HJ3.out; have := HJ8.out; have := HK3.out; omega
                              case rel => exact ⟨(wrap64 (x7_3 + 1)), (by first | rfl | (simp; done) | (simp [*]; done)), H', ⟨by have := HJ3.out; have := HJ8.out; have := HK3.out; omega⟩, ⟨by repeat (first | (with_reducible first | exact HB.out | apply below_alloc | apply pw_below_drewN | apply below_drew1) | exact HB.out)⟩⟩
                          · rw [if_neg c31] at H
                            have c31b0 : decide (65 ≤ (bt t264 x7_3)) = false := decide_eq_false c31
                            clear c31
                            have H' := Aside0.mk H
                            clear H
                            have p27 : 0 ≤ (x7_3 : Int) := of_decide_eq_true (by first | (with_reducible assumption) | assumption)
                            have q27 : x7_3 < (t264.size : Int) := of_decide_eq_true (by first | (with_reducible assumption) | assumption)
                            have hx27 := bt_at t264 x7_3
                            replace p27 := eq_true p27
                            replace q27 := eq_true q27
                            have p28 : 0 ≤ (x7_3 : Int) := of_decide_eq_true (by first | (with_reducible assumption) | assumption)
                            have q28 : x7_3 < (a0.size : Int) := of_decide_eq_true (by first | (with_reducible assumption) | assumption)
                            have hx28 := bt_at a0 x7_3
                            replace p28 := eq_true p28
                            replace q28 := eq_true q28
                            have p30 : 0 ≤ (x7_3 : Int) := of_decide_eq_true (by first | (with_reducible assumption) | assumption)
                            have q30 : x7_3 < (t264.size : Int) := of_decide_eq_true (by first | (with_reducible assumption) | assumption)
                            have hx30 := bt_at t264 x7_3
                            replace p30 := eq_true p30
                            replace q30 := eq_true q30
                            go_wp2
                            repeat (go_quiet (fail); try go_wp2)
                            go_roundg k3
                            case measure => have := HJ3.out; have := HJ8.out; have := HK3.out; omega
                            case rel => exact ⟨(wrap64 (x7_3 + 1)), (by first | rfl | (simp; done) | (simp [*]; done)), H', ⟨by have := HJ3.out; have := HJ8.out; have := HK3.out; omega⟩, ⟨by repeat (first | (with_reducible first | exact HB.out | apply below_alloc | apply pw_below_drewN | apply below_drew1) | exact HB.out)⟩⟩
                        · rw [if_neg c29] at H
                          have c29b0 : ((bt t264 x7_3) == (bt a0 x7_3)) = false := beq_eq_false_iff_ne.mpr c29
                          have c29b1 : ((bt t264 x7_3) != (bt a0 x7_3)) = true := bne_iff_ne.mpr c29
                          by_cases c35 : (bt a0 x7_3) < 65
                          · rw [if_pos c35] at H
                            have c35b0 : decide ((bt a0 x7_3) < 65) = true := decide_eq_true c35
                            clear c35
                            obtain rfl := Option.some.inj H
                            have p27 : 0 ≤ (x7_3 : Int) := of_decide_eq_true (by first | (with_reducible assumption) | assumption)
                            have q27 : x7_3 < (t264.size : Int) := of_decide_eq_true (by first | (with_reducible assumption) | assumption)
                            have hx27 := bt_at t264 x7_3
                            replace p27 := eq_true p27
                            replace q27 := eq_true q27
                            have p28 : 0 ≤ (x7_3 : Int) := of_decide_eq_true (by first | (with_reducible assumption) | assumption)
                            have q28 : x7_3 < (a0.size : Int) := of_decide_eq_true (by first | (with_reducible assumption) | assumption)
                            have hx28 := bt_at a0 x7_3
                            replace p28 := eq_true p28
                            replace q28 := eq_true q28
                            have p34 : 0 ≤ (x7_3 : Int) := of_decide_eq_true (by first | (with_reducible assumption) | assumption)
                            have q34 : x7_3 < (a0.size : Int) := of_decide_eq_true (by first | (with_reducible assumption) | assumption)
                            have hx34 := bt_at a0 x7_3
                            replace p34 := eq_true p34
                            replace q34 := eq_true q34
                            go_wp2
                            repeat (go_quiet (fail); try go_wp2)
                            go_ret
                            exact ⟨by first | rfl | (simp [errW_none, errW_some] <;> rfl) | (simp [*, errW_none, errW_some] <;> rfl), by repeat (first | (with_reducible first | exact HB.out | apply below_alloc | apply pw_below_drewN | apply below_drew1) | exact HB.out)⟩
                          · rw [if_neg c35] at H
                            have c35b0 : decide ((bt a0 x7_3) < 65) = false := decide_eq_false c35
                            clear c35
                            by_cases c37 : (bt a0 x7_3) > 90
                            · rw [if_pos c37] at H
                              have c37b0 : decide (90 < (bt a0 x7_3)) = true := decide_eq_true c37
                              clear c37
                              obtain rfl := Option.some.inj H
                              have p27 : 0 ≤ (x7_3 : Int) := of_decide_eq_true (by first | (with_reducible assumption) | assumption)
                              have q27 : x7_3 < (t264.size : Int) := of_decide_eq_true (by first | (with_reducible assumption) | assumption)
                              have hx27 := bt_at t264 x7_3
                              replace p27 := eq_true p27
                              replace q27 := eq_true q27
                              have p28 : 0 ≤ (x7_3 : Int) := of_decide_eq_true (by first | (with_reducible assumption) | assumption)
                              have q28 : x7_3 < (a0.size : Int) := of_decide_eq_true (by first | (with_reducible assumption) | assumption)
                              have hx28 := bt_at a0 x7_3
                              replace p28 := eq_true p28
                              replace q28 := eq_true q28
                              have p34 : 0 ≤ (x7_3 : Int) := of_decide_eq_true (by first | (with_reducible assumption) | assumption)
                              have q34 : x7_3 < (a0.size : Int) := of_decide_eq_true (by first | (with_reducible assumption) | assumption)
                              have hx34 := bt_at a0 x7_3
                              replace p34 := eq_true p34
                              replace q34 := eq_true q34
                              have p36 : 0 ≤ (x7_3 : Int) := of_decide_eq_true (by first | (with_reducible assumption) | assumption)
                              have q36 : x7_3 < (a0.size : Int) := of_decide_eq_true (by first | (with_reducible assumption) | assumption)
                              have hx36 := bt_at a0 x7_3
                              replace p36 := eq_true p36
                              replace q36 := eq_true q36
                              go_wp2
                              repeat (go_quiet (fail); try go_wp2)
                              go_ret
                              exact ⟨by first | rfl | (simp [errW_none, errW_some] <;> rfl) | (simp [*, errW_none, errW_some] <;> rfl), by repeat (first | (with_reducible first | exact HB.out | apply below_alloc | apply pw_below_drewN | apply below_drew1) | exact HB.out)⟩
                            · rw [if_neg c37] at H
                              have c37b0 : decide (90 < (bt a0 x7_3)) = false := decide_eq_false c37
                              clear c37
                              by_cases c40 : (bt t264 x7_3) = (((bt a0 x7_3) + 32) % 256)
                              · rw [if_pos c40] at H
                                have c40b0 : ((bt t264 x7_3) == (((bt a0 x7_3) + 32) % 256)) = true := beq_iff_eq.mpr c40
                                have c40b1 : ((bt t264 x7_3) != (((bt a0 x7_3) + 32) % 256)) = false := bne_eq_false_iff_eq.mpr c40
                                clear c40
                                by_cases c42 : (bt t264 x7_3) ≥ 65
                                · rw [if_pos c42] at H
                                  have c42b0 : decide (65 ≤ (bt t264 x7_3)) = true := decide_eq_true c42
                                  clear c42
                                  by_cases c44 : (bt t264 x7_3) ≤ 90
                                  · rw [if_pos c44] at H
                                    have c44b0 : decide ((bt t264 x7_3) ≤ 90) = true := decide_eq_true c44
                                    clear c44
                                    obtain rfl := Option.some.inj H
                                    have p27 : 0 ≤ (x7_3 : Int) := of_decide_eq_true (by first | (with_reducible assumption) | assumption)
                                    have q27 : x7_3 < (t264.size : Int) := of_decide_eq_true (by first | (with_reducible assumption) | assumption)
                                    have hx27 := bt_at t264 x7_3
                                    replace p27 := eq_true p27
                                    replace q27 := eq_true q27
                                    have p28 : 0 ≤ (x7_3 : Int) := of_decide_eq_true (by first | (with_reducible assumption) | assumption)
                                    have q28 : x7_3 < (a0.size : Int) := of_decide_eq_true (by first | (with_reducible assumption) | assumption)
                                    have hx28 := bt_at a0 x7_3
                                    replace p28 := eq_true p28
                                    replace q28 := eq_true q28
                                    have p34 : 0 ≤ (x7_3 : Int) := of_decide_eq_true (by first | (with_reducible assumption) | assumption)
                                    have q34 : x7_3 < (a0.size : Int) := of_decide_eq_true (by first | (with_reducible assumption) | assumption)
                                    have hx34 := bt_at a0 x7_3
                                    replace p34 := eq_true p34
                                    replace q34 := eq_true q34
                                    have p36 : 0 ≤ (x7_3 : Int) := of_decide_eq_true (by first | (with_reducible assumption) | assumption)
                                    have q36 : x7_3 < (a0.size : Int) := of_decide_eq_true (by first | (with_reducible assumption) | assumption)
                                    have hx36 := bt_at a0 x7_3
                                    replace p36 := eq_true p36
                                    replace q36 := eq_true q36
                                    have p38 : 0 ≤ (x7_3 : Int) := of_decide_eq_true (by first | (with_reducible assumption) | assumption)
                                    have q38 : x7_3 < (t264.size : Int) := of_decide_eq_true (by first | (with_reducible assumption) | assumption)
                                    have hx38 := bt_at t264 x7_3
                                    replace p38 := eq_true p38
                                    replace q38 := eq_true q38
                                    have p39 : 0 ≤ (x7_3 : Int) := of_decide_eq_true (by first | (with_reducible assumption) | assumption)
                                    have q39 : x7_3 < (a0.size : Int) := of_decide_eq_true (by first | (with_reducible assumption) | assumption)
                                    have hx39 := bt_at a0 x7_3
                                    replace p39 := eq_true p39
                                    replace q39 := eq_true q39
                                    have p41 : 0 ≤ (x7_3 : Int) := of_decide_eq_true (by first | (with_reducible assumption) | assumption)
                                    have q41 : x7_3 < (t264.size : Int) := of_decide_eq_true (by first | (with_reducible assumption) | assumption)
                                    have hx41 := bt_at t264 x7_3
                                    replace p41 := eq_true p41
                                    replace q41 := eq_true q41
                                    have p43 : 0 ≤ (x7_3 : Int) := of_decide_eq_true (by first | (with_reducible assumption) | assumption)
                                    have q43 : x7_3 < (t264.size : Int) := of_decide_eq_true (by first | (with_reducible assumption) | assumption)
                                    have hx43 := bt_at t264 x7_3
                                    replace p43 := eq_true p43
                                    replace q43 := eq_true q43
                                    go_wp2
                                    repeat (go_quiet (fail); try go_wp2)
                                    go_ret
                                    exact ⟨by first | rfl | (simp [errW_none, errW_some] <;> rfl) | (simp [*, errW_none, errW_some] <;> rfl), by repeat (first | (with_reducible first | exact HB.out | apply below_alloc | apply pw_below_drewN | apply below_drew1) | exact HB.out)⟩
                                  · rw [if_neg c44] at H
                                    have c44b0 : decide ((bt t264 x7_3) ≤ 90) = false := decide_eq_false c44
                                    clear c44
                                    have H' := Aside0.mk H
                                    clear H
                                    have p27 : 0 ≤ (x7_3 : Int) := of_decide_eq_true (by first | (with_reducible assumption) | assumption)
                                    have q27 : x7_3 < (t264.size : Int) := of_decide_eq_true (by first | (with_reducible assumption) | assumption)
                                    have hx27 := bt_at t264 x7_3
                                    replace p27 := eq_true p27
                                    replace q27 := eq_true q27
                                    have p28 : 0 ≤ (x7_3 : Int) := of_decide_eq_true (by first | (with_reducible assumption) | assumption)
                                    have q28 : x7_3 < (a0.size : Int) := of_decide_eq_true (by first | (with_reducible assumption) | assumption)
                                    have hx28 := bt_at a0 x7_3
                                    replace p28 := eq_true p28
                                    replace q28 := eq_true q28
                                    have p34 : 0 ≤ (x7_3 : Int) := of_decide_eq_true (by first | (with_reducible assumption) | assumption)
                                    have q34 : x7_3 < (a0.size : Int) := of_decide_eq_true (by first | (with_reducible assumption) | assumption)
                                    have hx34 := bt_at a0 x7_3
                                    replace p34 := eq_true p34
                                    replace q34 := eq_true q34
                                    have p36 : 0 ≤ (x7_3 : Int) := of_decide_eq_true (by first | (with_reducible assumption) | assumption)
                                    have q36 : x7_3 < (a0.size : Int) := of_decide_eq_true (by first | (with_reducible assumption) | assumption)
                                    have hx36 := bt_at a0 x7_3
                                    replace p36 := eq_true p36
                                    replace q36 := eq_true q36
                                    have p38 : 0 ≤ (x7_3 : Int) := of_decide_eq_true (by first | (with_reducible assumption) | assumption)
                                    have q38 : x7_3 < (t264.size : Int) := of_decide_eq_true (by first | (with_reducible assumption) | assumption)
                                    have hx38 := bt_at t264 x7_3
                                    replace p38 := eq_true p38
                                    replace q38 := eq_true q38
                                    have p39 : 0 ≤ (x7_3 : Int) := of_decide_eq_true (by first | (with_reducible assumption) | assumption)
                                    have q39 : x7_3 < (a0.size : Int) := of_decide_eq_true (by first | (with_reducible assumption) | assumption)
                                    have hx39 := bt_at a0 x7_3
                                    replace p39 := eq_true p39
                                    replace q39 := eq_true q39
                                    have p41 : 0 ≤ (x7_3 : Int) := of_decide_eq_true (by first | (with_reducible assumption) | assumption)
                                    have q41 : x7_3 < (t264.size : Int) := of_decide_eq_true (by first | (with_reducible assumption) | assumption)
                                    have hx41 := bt_at t264 x7_3
                                    replace p41 := eq_true p41
                                    replace q41 := eq_true q41
                                    have p43 : 0 ≤ (x7_3 : Int) := of_decide_eq_true (by first | (with_reducible assumption) | assumption)
                                    have q43 : x7_3 < (t264.size : Int) := of_decide_eq_true (by first | (with_reducible assumption) | assumption)
                                    have hx43 := bt_at t264 x7_3
                                    replace p43 := eq_true p43
                                    replace q43 := eq_true q43
                                    go_wp2
                                    repeat (go_quiet (fail); try go_wp2)
                                    go_roundg k3
                                    case measure => have := HJ3.out; have := HJ8.out; have := HK3.out; omega
                                    case rel => exact ⟨(wrap64 (x7_3 + 1)), (by first | rfl | (simp; done) | (simp [*]; done)), H', ⟨by have := HJ3.out; have := HJ8.out; have := HK3.out; omega⟩, ⟨by repeat (first | (with_reducible first | exact HB.out | apply below_alloc | apply pw_below_drewN | apply below_drew1) | exact HB.out)⟩⟩
                                · rw [if_neg c42] at H
                                  have c42b0 : decide (65 ≤ (bt t264 x7_3)) = false := decide_eq_false c42
                                  clear c42
                                  have H' := Aside0.mk H
                                  clear H
                                  have p27 : 0 ≤ (x7_3 : Int) := of_decide_eq_true (by first | (with_reducible assumption) | assumption)
                                  have q27 : x7_3 < (t264.size : Int) := of_decide_eq_true (by first | (with_reducible assumption) | assumption)
                                  have hx27 := bt_at t264 x7_3
                                  replace p27 := eq_true p27
                                  replace q27 := eq_true q27
                                  have p28 : 0 ≤ (x7_3 : Int) := of_decide_eq_true (by first | (with_reducible assumption) | assumption)
                                  have q28 : x7_3 < (a0.size : Int) := of_decide_eq_true (by first | (with_reducible assumption) | assumption)
                                  have hx28 := bt_at a0 x7_3
                                  replace p28 := eq_true p28
                                  replace q28 := eq_true q28
                                  have p34 : 0 ≤ (x7_3 : Int) := of_decide_eq_true (by first | (with_reducible assumption) | assumption)
                                  have q34 : x7_3 < (a0.size : Int) := of_decide_eq_true (by first | (with_reducible assumption) | assumption)
                                  have hx34 := bt_at a0 x7_3
                                  replace p34 := eq_true p34
                                  replace q34 := eq_true q34
                                  have p36 : 0 ≤ (x7_3 : Int) := of_decide_eq_true (by first | (with_reducible assumption) | assumption)
                                  have q36 : x7_3 < (a0.size : Int) := of_decide_eq_true (by first | (with_reducible assumption) | assumption)
                                  have hx36 := bt_at a0 x7_3
                                  replace p36 := eq_true p36
                                  replace q36 := eq_true q36
                                  have p38 : 0 ≤ (x7_3 : Int) := of_decide_eq_true (by first | (with_reducible assumption) | assumption)
                                  have q38 : x7_3 < (t264.size : Int) := of_decide_eq_true (by first | (with_reducible assumption) | assumption)
                                  have hx38 := bt_at t264 x7_3
                                  replace p38 := eq_true p38
                                  replace q38 := eq_true q38
                                  have p39 : 0 ≤ (x7_3 : Int) := of_decide_eq_true (by first | (with_reducible assumption) | assumption)
                                  have q39 : x7_3 < (a0.size : Int) := of_decide_eq_true (by first | (with_reducible assumption) | assumption)
                                  have hx39 := bt_at a0 x7_3
                                  replace p39 := eq_true p39
                                  replace q39 := eq_true q39
                                  have p41 : 0 ≤ (x7_3 : Int) := of_decide_eq_true (by first | (with_reducible assumption) | assumption)
                                  have q41 : x7_3 < (t264.size : Int) := of_decide_eq_true (by first | (with_reducible assumption) | assumption)
                                  have hx41 := bt_at t264 x7_3
                                  replace p41 := eq_true p41
                                  replace q41 := eq_true q41
                                  go_wp2
                                  repeat (go_quiet (fail); try go_wp2)
                                  go_roundg k3
                                  case measure => have := HJ3.out; have := HJ8.out; have := HK3.out; omega
                                  case rel => exact ⟨(wrap64 (x7_3 + 1)), (by first | rfl | (simp; done) | (simp [*]; done)), H', ⟨by have := HJ3.out; have := HJ8.out; have := HK3.out; omega⟩, ⟨by repeat (first | (with_reducible first | exact HB.out | apply below_alloc | apply pw_below_drewN | apply below_drew1) | exact HB.out)⟩⟩
                              · rw [if_neg c40] at H
                                have c40b0 : ((bt t264 x7_3) == (((bt a0 x7_3) + 32) % 256)) = false := beq_eq_false_iff_ne.mpr c40
                                have c40b1 : ((bt t264 x7_3) != (((bt a0 x7_3) + 32) % 256)) = true := bne_iff_ne.mpr c40
                                obtain rfl := Option.some.inj H
                                have p27 : 0 ≤ (x7_3 : Int) := of_decide_eq_true (by first | (with_reducible assumption) | assumption)
                                have q27 : x7_3 < (t264.size : Int) := of_decide_eq_true (by first | (with_reducible assumption) | assumption)
                                have hx27 := bt_at t264 x7_3
                                replace p27 := eq_true p27
                                replace q27 := eq_true q27
                                have p28 : 0 ≤ (x7_3 : Int) := of_decide_eq_true (by first | (with_reducible assumption) | assumption)
                                have q28 : x7_3 < (a0.size : Int) := of_decide_eq_true (by first | (with_reducible assumption) | assumption)
                                have hx28 := bt_at a0 x7_3
                                replace p28 := eq_true p28
                                replace q28 := eq_true q28
                                have p34 : 0 ≤ (x7_3 : Int) := of_decide_eq_true (by first | (with_reducible assumption) | assumption)
                                have q34 : x7_3 < (a0.size : Int) := of_decide_eq_true (by first | (with_reducible assumption) | assumption)
                                have hx34 := bt_at a0 x7_3
                                replace p34 := eq_true p34
                                replace q34 := eq_true q34
                                have p36 : 0 ≤ (x7_3 : Int) := of_decide_eq_true (by first | (with_reducible assumption) | assumption)
                                have q36 : x7_3 < (a0.size : Int) := of_decide_eq_true (by first | (with_reducible assumption) | assumption)
                                have hx36 := bt_at a0 x7_3
                                replace p36 := eq_true p36
                                replace q36 := eq_true q36
                                have p38 : 0 ≤ (x7_3 : Int) := of_decide_eq_true (by first | (with_reducible assumption) | assumption)
                                have q38 : x7_3 < (t264.size : Int) := of_decide_eq_true (by first | (with_reducible assumption) | assumption)
                                have hx38 := bt_at t264 x7_3
                                replace p38 := eq_true p38
                                replace q38 := eq_true q38
                                have p39 : 0 ≤ (x7_3 : Int) := of_decide_eq_true (by first | (with_reducible assumption) | assumption)
                                have q39 : x7_3 < (a0.size : Int) := of_decide_eq_true (by first | (with_reducible assumption) | assumption)
                                have hx39 := bt_at a0 x7_3
                                replace p39 := eq_true p39
                                replace q39 := eq_true q39
                                go_wp2
                                repeat (go_quiet (fail); try go_wp2)
                                go_ret
                                exact ⟨by first | rfl | (simp [errW_none, errW_some] <;> rfl) | (simp [*, errW_none, errW_some] <;> rfl), by repeat (first | (with_reducible first | exact HB.out | apply below_alloc | apply pw_below_drewN | apply below_drew1) | exact HB.out)⟩
                      · rw [if_neg c26] at H
                        exact absurd H (by simp)
                    · rw [if_neg c25] at H
                      exact absurd H (by simp)
                  · rw [if_neg c24] at H
                    have c24b0 : decide (x7_3 < (a0.size : Int)) = false := decide_eq_false c24
                    clear c24
                    obtain rfl := Option.some.inj H
                    go_wp2
                    repeat (go_quiet (fail); try go_wp2)
                    go_ret
                    exact ⟨by first | rfl | (simp [errW_none, errW_some] <;> rfl) | (simp [*, errW_none, errW_some] <;> rfl), by repeat (first | (with_reducible first | exact HB.out | apply below_alloc | apply pw_below_drewN | apply below_drew1) | exact HB.out)⟩
end Go.Proofs.YtlikjknakplamaaDoor.Print
/-! ### NmPure -/
namespace Go.Proofs.YtlikjknakplamaaDoor.Print
open Go.RowKit Go.Proofs.YtlikjknakplamaaDoorW.PrintWords Go.Proofs.YtlikjknakplamaaDoorW.PrintLast Go.Proofs.YtlikjknakplamaaDoorW.PrintMore
set_option linter.unusedSimpArgs false
set_option linter.unusedVariables false
def byteAt (s : ByteArray) (i : Nat) : Nat := (s.get! i).toNat
theorem bt_byteAt (s : ByteArray) (i : Nat) (h : i < s.size) : bt s (i : Int) = byteAt s i := by
  unfold bt byteAt
  have e : s.get! i = s[i]'h := by have := get_at s i h; simpa using this
  rw [Int.toNat_natCast, dif_pos h, e]
theorem wrap_small (x : Int) (h0 : -9223372036854775808 ≤ x) (h1 : x ≤ 9223372036854775807) : wrap64 x = x := by unfold wrap64; omega
end Go.Proofs.YtlikjknakplamaaDoor.Print
/-! ### LxLaw1 -/
namespace Go.Proofs.YtlikjknakplamaaDoor.Print
open Go.RowKit Go.Proofs.YtlikjknakplamaaDoorW.PrintWords Go.Proofs.YtlikjknakplamaaDoorW.PrintLast Go.Proofs.YtlikjknakplamaaDoorW.PrintMore
set_option linter.unusedSimpArgs false
set_option linter.unusedVariables false
theorem foldB_facts : ∀ b : Fin 256, foldB (foldB (UInt8.ofNat b.val)) = foldB (UInt8.ofNat b.val) ∧ ((foldB (UInt8.ofNat b.val)).toNat < 65 ∨ 90 < (foldB (UInt8.ofNat b.val)).toNat) ∧ (foldB (UInt8.ofNat b.val) = UInt8.ofNat b.val ∨ (65 ≤ b.val ∧ b.val ≤ 90 ∧ (foldB (UInt8.ofNat b.val)).toNat = b.val + 32)) := by decide +kernel
theorem foldB_fact (b : UInt8) : foldB (foldB b) = foldB b ∧ ((foldB b).toNat < 65 ∨ 90 < (foldB b).toNat) ∧ (foldB b = b ∨ (65 ≤ b.toNat ∧ b.toNat ≤ 90 ∧ (foldB b).toNat = b.toNat + 32)) := by
  have h := foldB_facts ⟨b.toNat, b.toNat_lt⟩
  have e : UInt8.ofNat b.toNat = b := by simp
  simp only [e] at h
  exact h
theorem foldZ_list (s : ByteArray) : (foldZ s).data.toList = s.data.toList.map foldB := rfl
theorem foldZ_size (s : ByteArray) : (foldZ s).size = s.size := by
  show ((s.data.toList.map foldB).toArray).size = s.data.size
  simp
theorem foldZ_twice (s : ByteArray) : foldZ (foldZ s) = foldZ s := by
  unfold foldZ
  congr 2
  rw [List.map_map]
  refine List.map_congr_left fun b _ => (foldB_fact b).1
theorem foldZ_append (s t : ByteArray) : foldZ (s ++ t) = foldZ s ++ foldZ t := by
  apply ByteArray.ext
  apply Array.toList_inj.1
  rw [foldZ_list, ByteArray.data_append, ByteArray.data_append, Array.toList_append, Array.toList_append, List.map_append, foldZ_list, foldZ_list]
theorem bt_fold (s : ByteArray) (i : Nat) (h : i < s.size) : bt (foldZ s) (i : Int) = ((foldB (s.get! i)).toNat : Int) ∧ bt s (i : Int) = ((s.get! i).toNat : Int) := by
  have e1 := bt_byteAt (foldZ s) i (by rw [foldZ_size]; exact h)
  have e2 := bt_byteAt s i h
  refine ⟨?_, e2⟩
  rw [e1]
  unfold byteAt
  have hd : i < s.data.size := h
  have hd2 : i < (foldZ s).data.size := by show i < (foldZ s).size; rw [foldZ_size]; exact h
  simp only [ByteArray.get!]
  rw [getElem!_pos s.data i hd, getElem!_pos (foldZ s).data i hd2]
  simp [foldZ]
theorem folds_loop (s : ByteArray) (hs : s.size ≤ 1000000000) : ∀ (f i k : Nat), s.size ≤ i + f → i ≤ s.size → f < k → malthouselaw01_LexFolds.l0 k s (foldZ s) (i : Int) = some true := by
  intro f
  induction f with
  | zero =>
    intro i k h1 h2 hk
    obtain ⟨k, rfl⟩ : ∃ m, k = m + 1 := ⟨k - 1, by omega⟩
    rw [malthouselaw01_LexFolds.l0, if_neg (by omega)]
  | succ f ih =>
    intro i k h1 h2 hk
    obtain ⟨k, rfl⟩ : ∃ m, k = m + 1 := ⟨k - 1, by omega⟩
    rw [malthouselaw01_LexFolds.l0]
    by_cases hi : i < s.size
    · obtain ⟨e1, e2⟩ := bt_fold s i hi
      obtain ⟨_, q2, q3⟩ := foldB_fact (s.get! i)
      have hl := (foldB (s.get! i)).toNat_lt
      rw [if_pos (by omega), if_pos (by omega), if_pos (by rw [foldZ_size]; omega), e1, e2, wrap_small _ (by omega) (by omega), show (i : Int) + 1 = ((i + 1 : Nat) : Int) by omega, ih (i + 1) k (by omega) (by omega) (by omega)]
      rcases q3 with q3 | ⟨q3, q4, q5⟩
      · rw [q3] at q2 ⊢
        rw [if_pos rfl]
        by_cases h : ((s.get! i).toNat : Int) ≥ 65
        · rw [if_pos h, if_neg (by omega)]
        · rw [if_neg h]
      · rw [if_neg (by omega), if_neg (by omega), if_neg (by omega), if_pos (by omega)]
        by_cases h : ((foldB (s.get! i)).toNat : Int) ≥ 65
        · rw [if_pos h, if_neg (by omega)]
        · rw [if_neg h]
    · rw [if_neg (by omega)]
theorem fold_some (s : ByteArray) (h : s.size ≤ 1000000000) : lex_Fold.f s = some (foldZ s) := if_pos h
theorem lexFolds_pure (a0 a1 : ByteArray) : malthouselaw01_LexFolds.f 10000 a0 a1 = some true := by
  unfold malthouselaw01_LexFolds.f malthouselaw01_awake.f
  simp only [Option.bind_some]
  by_cases h0 : (a0.size : Int) > 5000
  · rw [if_pos h0]
    rfl
  · rw [if_neg h0]
    by_cases h1 : (a1.size : Int) > 5000
    · rw [decide_eq_true h1]
      rfl
    · rw [decide_eq_false h1]
      have e : ∀ k : Nat, 5002 < k → malthouselaw01_LexFolds.j0 k a0 a1 true false = some true := by
        intro k hk
        obtain ⟨k, rfl⟩ : ∃ m, k = m + 1 + 1 := ⟨k - 2, by omega⟩
        rw [malthouselaw01_LexFolds.j0, if_neg (by simp), fold_some a0 (by omega)]
        simp only [Option.bind_some, if_true]
        rw [if_pos (by rw [foldZ_size]), fold_some _ (by rw [foldZ_size]; omega)]
        simp only [Option.bind_some]
        rw [foldZ_twice, if_pos rfl, if_pos (by omega), fold_some _ (by rw [ByteArray.size_append]; omega), fold_some a1 (by omega)]
        simp only [Option.bind_some]
        rw [if_pos (by rw [foldZ_size, foldZ_size]; omega), foldZ_append]
        rw [malthouselaw01_LexFolds.j1, if_neg (by simp)]
        exact folds_loop a0 (by omega) a0.size 0 k (by omega) (by omega) (by omega)
      exact e 10000 (by omega)
end Go.Proofs.YtlikjknakplamaaDoor.Print
/-! ### LxWalk1 -/
namespace Go.Proofs.YtlikjknakplamaaDoor.Print
open Go.RowKit Go.Proofs.YtlikjknakplamaaDoorW.PrintWords Go.Proofs.YtlikjknakplamaaDoorW.PrintLast Go.Proofs.YtlikjknakplamaaDoorW.PrintMore
theorem lexFolds_walk (a0 a1 : ByteArray) (w : World) (w0 : a0.size ≤ 140737488351232) (w1 : a1.size ≤ 140737488351232) (hT : Tabs w) :
    Calls Tryd.prog 9 #[.string a0, .string a1] w fun e w' => e = .returned (.bool true) ∧ Below w.heap.size w w' :=
  malthouselaw01_LexFolds.calls 10000 a0 a1 true w hT (lexFolds_pure a0 a1)
end Go.Proofs.YtlikjknakplamaaDoor.Print
/-! ### Tied -/
namespace Go.Proofs.YtlikjknakplamaaDoor
open Go Go.RowKit Go.Shelf Go.Lib
set_option linter.unusedVariables false
theorem returnsInHanded_of_change_and_shaped {H : Type} {enc : TypeId × Value → H} {a : Assume} {C : Checked} {os : Os} {f : FuncId} {fn : Func} {s : ChangeSpec} {conds : List PathCond} {apart fresh handsOn again : Bool} {X : World → Array Value → Prop}
    (hX : ∀ (w w' : World) (args : Array Value), w.heap = w'.heap → X w args → X w' args)
    (own : ownKnob C.prog.godebug = none) (started : os.Started) (noInit : C.prog.inits.idxOf? f = none) (hfn : C.prog.funcs[f]? = some fn)
    (witness : ∃ (w : World) (tape : Tape) (i : Input), w.os = os ∧ (w.forCall tape i).Shaped C.prog ∧ i.vars = [] ∧ Input.okWide C.prog (w.forCall tape i) .any w.heap.size f i ∧
      ((s.pre enc C.prog fn conds apart (w.forCall tape i).memory i.args ∧ X (w.forCall tape i).memory i.args) ∧ sizedMet enc C.prog fn (OpenSpec.ofChange s) apart (w.forCall tape i).memory i.args) ∧ a.holds C.prog (lone (Frame.enter C.prog f i.args .normal) [] (w.forCall tape i)))
    (contract : ∀ (W : World) (base : Nat) (args : Array Value) (ds gs : List (DataW H)) (before : List MemPlace),
      (∀ (j : Nat) t v, fn.params[j]? = some t → args[j]? = some v → Value.okWide C.prog W .any base t v) →
      DataW.Whole enc C.prog fn.params.toList s.vars apart W args.toList ds gs before →
      conds.all (PathCond.test C.prog ⟨fn.params.toList, ds, s.plain.varTypes C.prog, gs⟩) = true →
      (DataW.weightsEach C.prog (fn.params.toList ++ s.plain.varTypes C.prog) (ds ++ gs)).all (· ≤ reachBytes) = true → X W args →
      W.ShapedOpen C.prog →
      a.holds C.prog (lone (Frame.enter C.prog f args .normal) [] W) →
      Calls C.prog f args W fun e W' => ∃ v, e = .returned v ∧ s.post enc C.prog fn apart fresh handsOn again W args v W') :
    ReturnsInHanded a C os f .any (fun w args => (s.pre enc C.prog fn conds apart w args ∧ X w args) ∧ sizedMet enc C.prog fn (OpenSpec.ofChange s) apart w args) (s.post enc C.prog fn apart fresh handsOn again) := by
  refine returnsInHanded_of_calls own started noInit witness ?_
  intro w tape i _ hsh _ hok hpre hholds
  obtain ⟨_, _, _, fn', hfn', _, _, _, _, hval⟩ := hok
  have e : fn' = fn := Option.some.inj (hfn'.symm.trans hfn)
  subst e
  obtain ⟨⟨⟨ds, gs, before, hw, hc⟩, hx⟩, hz⟩ := hpre
  have hw' := DataW.Whole.of_heap (w' := w.forCall tape i) (by rfl) hw
  refine (contract (w.forCall tape i) w.heap.size i.args ds gs before hval hw' hc (hz.weights hw) (hX _ _ _ (by rfl) hx) hsh hholds).mono fun e W' ⟨v, he, hp⟩ => ?_
  subst he
  exact ChangeSpec.post_blind hp
theorem tabs_of {W : World} (hL : laidMet Tryd.prog Rows.lexFoldsRow.laid W) (hsh : W.ShapedOpen Tryd.prog) : Tabs W := by
  refine ⟨?_, ?_, ?_⟩
  · exact utf8Tabs_of_readsT (U8Types.of196 Tryd.laysValid) ⟨by kernel_rfl, by kernel_rfl, by kernel_rfl, by kernel_rfl, by kernel_rfl, by kernel_rfl, by kernel_rfl⟩ (Pinned.utf8First_eq ▸ Lib.laidMet.reads hL (.tail _ (.tail _ (.tail _ (.tail _ (.head _)))))) ((show Rows.laid_unicode_utf8_acceptRanges = acceptData from rfl) ▸ Lib.laidMet.reads hL (.tail _ (.tail _ (.tail _ (.head _)))))
  · have h := laidMet.filter (fun x => x.1 == "internal/strconv.uint64pow10") hL
    exact tabIs_of_head (rest := []) (t := 84) (e := 59) (n := 20) (g := Tryd.laysM171_ren.g 17) pow_named (by kernel_rfl) (by kernel_rfl) (by kernel_rfl) (by kernel_rfl) (by kernel_rfl) (show laidMet Tryd.prog [("internal/strconv.uint64pow10", tabData .u64 pow10Tab)] W from h)
  · exact Tryd.laysM145.s1_3 W hsh
end Go.Proofs.YtlikjknakplamaaDoor
/-! ### LexFoldsRow -/
namespace Go.Proofs.YtlikjknakplamaaDoor.lexFolds
open Go.ChangeShapes Go.WideShapes Go.ChangeAt Go.RowKit Go.Shelf Go.Lib Go.Proofs.YtlikjknakplamaaDoor.Print
open Go.ChangeMaps (open_string shut_string)
set_option linter.unusedVariables false
set_option linter.unusedSimpArgs false
theorem own : ownKnob Tryd.prog.godebug = none := by kernel_rfl
set_option maxRecDepth 100000 in
theorem lifted (os : Os) (started : os.Started) (H : Type) (enc : TypeId × Value → H) :
    ReturnsInHanded {} Tryd.checked os 9 .any (fun w args => (Rows.lexFoldsSpec.pre enc Tryd.prog Tryd.f9 [] false w args ∧ laidMetH Tryd.prog Rows.lexFoldsRow.laid w) ∧ sizedMet enc Tryd.prog Tryd.f9 (OpenSpec.ofChange Rows.lexFoldsSpec) false w args) (Rows.lexFoldsSpec.post enc Tryd.prog Tryd.f9 false true false false) := by
  refine returnsInHanded_of_change_and_shaped (C := Tryd.checked) (X := fun w _ => laidMetH Tryd.prog Rows.lexFoldsRow.laid w) (fun _ _ _ hh h => h.of_heap hh) own started (by kernel_rfl) Tryd.func9
    (ChangeSpec.witness_shaped (enc := enc) (C := Tryd.checked) (os := os) (X := fun w _ => laidMetH Tryd.prog Rows.lexFoldsRow.laid w) false (World.laidAll Tryd.prog os Rows.lexFoldsRow.laid) #[.string ByteArray.empty, .string ByteArray.empty] 8 (World.laidAll_os _ _ _)
      (World.shaped_of_ZipB (by kernel_rfl) (by kernel_rfl)) (by kernel_rfl) (by kernel_rfl) (by kernel_rfl)
      (by rw [MakeChecks.laidMetH_plain _ _ _ (by kernel_rfl)]; exact laidMet_laidAll _ (by kernel_rfl) (by kernel_rfl))) ?_
  intro W base args ds gs before hval0 hW hcnd hsz0 hL0 hsh _
  have hL : laidMet Tryd.prog Rows.lexFoldsRow.laid W := by
    have h := hL0
    rw [MakeChecks.laidMetH_plain _ _ _ (by kernel_rfl)] at h
    exact h
  have hT : Tabs W := tabs_of (show laidMet Tryd.prog Rows.lexFoldsRow.laid W from hL) hsh
  have hsz : (DataW.weightsEach Tryd.prog (Tryd.f9.params.toList ++ Rows.lexFoldsSpec.plain.varTypes Tryd.prog) (ds ++ gs)).all (· ≤ reachBytes) = true := hsz0
  have hval : ∀ (j : Nat) t v, Tryd.f9.params[j]? = some t → args[j]? = some v → Value.okWide Tryd.prog W .any base t v := hval0
  have hW' := hW
  obtain ⟨p, q, hA0, hV, rfl, hfz, hnd⟩ := hW
  have hA : DataW.TrodAll enc Tryd.prog W 0 (fun _ => true) true Tryd.f9.params.toList args.toList ds p := hA0
  rw [Tryd.params9] at hA hval hsz
  obtain ⟨v0, vs0, d0, ds0, p0, q0, hargs, rfl, rfl, h0, r0⟩ := trodAll_cons hA
  obtain ⟨v1, vs1, d1, ds1, p1, q1, rfl, rfl, rfl, h1, r1⟩ := trodAll_cons r0
  obtain ⟨rfl, rfl, rfl⟩ := trodAll_nil r1
  obtain rfl : args = #[v0, v1] := by cases args; simp_all
  obtain ⟨rfl, rfl⟩ := trodVars_none hV
  obtain ⟨a0, rfl, rfl, rfl, y0⟩ := open_string Tryd.underlying9 (hval 0 9 v0 rfl rfl) h0
  have w0 : a0.size ≤ 140737488351232 := by
    have z := sized_string hsz (j := 0) (t := 9) rfl rfl
    rw [Array.length_toList] at z
    exact z
  obtain ⟨a1, rfl, rfl, rfl, y1⟩ := open_string Tryd.underlying9 (hval 1 9 v1 rfl rfl) h1
  have w1 : a1.size ≤ 140737488351232 := by
    have z := sized_string hsz (j := 1) (t := 9) rfl rfl
    rw [Array.length_toList] at z
    exact z
  clear hA0 hval0 hsz0 hsz
  refine (lexFolds_walk a0 a1 W w0 w1 hT).mono fun e W' ⟨he, bel⟩ => ?_
  subst he
  exact ⟨_, rfl, _, _, _, [], _, [], hW', trodAll_mk1 (shut_bool Tryd.underlying4 _), (trodAll_cons_mk (shut_string Tryd.underlying9 y0) (trodAll_cons_mk (shut_string Tryd.underlying9 y1) trodAll_mk0)), rfl, bel.frame _, fun h => by cases h⟩
theorem over : Rows.lexFoldsRow.holds Tryd.pinned (OpenSpec.ofChange Rows.lexFoldsSpec) :=
  OpenClaim.holds_of_wide 9 Tryd.f9 rfl rfl rfl rfl rfl rfl rfl ⟨rfl, rfl, rfl, rfl, rfl⟩ rfl rfl rfl rfl rfl (by kernel_rfl) Tryd.func9 (by kernel_rfl)
    (of_decide_eq_true (by kernel_rfl)) (by unfold Func.isWrapper; first | (rw [if_pos (by decide +kernel)]; kernel_rfl) | (rw [if_neg (by decide +kernel)]; exact ⟨rfl, rfl⟩))
    (fun os started H enc _ => lifted os started H enc)
theorem card_holds : Claim7.holds Tryd.pinned (.plain (OpenSpec.ofChange Rows.lexFoldsSpec)) Rows.lexFoldsCard :=
  Claim7.holds_tied_plain_at .later [] [.data, .data, .data, .data, .pinned] true (true, "2df379d0a8e382ae56a4a25da8425f329115bfa31b6102406861f16ecf271d0c") false over (fun _ h => by cases h) (by kernel_rfl) (fun _ h => by cases h) lexFolds_row_tie rfl ⟨rfl, rfl⟩ (by kernel_rfl) rfl
    (fun f fn hf hfn => by
      obtain rfl : f = 9 := Option.some.inj ((show Tryd.prog.funcNamed "malthouse/malthouselaw01.LexFolds" = some 9 by kernel_rfl).symm.trans hf) |>.symm
      obtain rfl : fn = Tryd.f9 := (Option.some.inj (Tryd.func9.symm.trans hfn)).symm
      exact ⟨by kernel_rfl, fun j t ht => by
        rw [Tryd.params9] at ht
        have hm : t ∈ [9, 9] := by simpa using Array.mem_of_getElem? ht
        have hall : ([9, 9].all fun u => !Tryd.prog.wantsStandIn u) = true := by kernel_rfl
        exact (show Tryd.prog.wantsStandIn t = false by simpa using List.all_eq_true.1 hall t hm)⟩)
    (by kernel_rfl)
theorem proved : Rows.LexFoldsCardSaid := card_holds
#print axioms proved
end Go.Proofs.YtlikjknakplamaaDoor.lexFolds
namespace Go.Proofs.YtlikjknakplamaaDoor
/-- The card, under a short name, for the claim. -/
theorem lexFolds_holds : Rows.LexFoldsCardSaid := lexFolds.proved
end Go.Proofs.YtlikjknakplamaaDoor
