import Derived.Test.YtejecmjajdhiiaaDoorLn3
import Derived.Below
import Derived.ChangeOld
import Derived.LaidLaws
import Derived.LaidOnce
import Derived.Lay
import Derived.Lib.LaidU8T
import Derived.OpenShut
import Derived.PinnedBridge
import Derived.ProofKit
import Derived.SevenTiedAt
import Derived.Shelf.Lay
import Derived.ShutString
import Derived.SizedLaws
import Derived.Test.YtejecmjajdhiiaaDoorCards
import Derived.Test.YtejecmjajdhiiaaDoorProg
import Derived.Test.YtejecmjajdhiiaaDoorRows
import Derived.Test.YtejecmjajdhiiaaDoorTie
import Derived.WalkKit
set_option linter.unusedVariables false
set_option linter.unusedSimpArgs false
namespace Go.Proofs.YtejecmjajdhiiaaDoorW.PrintWords
end Go.Proofs.YtejecmjajdhiiaaDoorW.PrintWords
namespace Go.Proofs.YtejecmjajdhiiaaDoorW.PrintLast
end Go.Proofs.YtejecmjajdhiiaaDoorW.PrintLast
namespace Go.Proofs.YtejecmjajdhiiaaDoorW.PrintMore
end Go.Proofs.YtejecmjajdhiiaaDoorW.PrintMore
/-! ### Print22 -/
namespace Go.Proofs.YtejecmjajdhiiaaDoor.Print
open Go.RowKit Go.Proofs.YtejecmjajdhiiaaDoorW.PrintWords Go.Proofs.YtejecmjajdhiiaaDoorW.PrintLast Go.Proofs.YtejecmjajdhiiaaDoorW.PrintMore
attribute [local go_sem] min_two
set_option linter.unusedVariables false
set_option linter.unusedSimpArgs false
mutual
def malthouselaw13_LedgerMoves.j0 : Nat → List (S25) → ByteArray → ByteArray → Int → Bool → Bool → Option (Bool)
  | 0, _, _, _, _, _, _ => none
  | k + 1, x0, x1, x2, x3, x9, x37 => if x37 = true then (some x9) else ((ledger_Move.f x0 x1 x2 x3).bind fun bt431 => ((ledger_Draw.f x0 x1 x3).bind fun bt435 => (if bt431.2 = 0 then (if bt435.2.2 = 0 then (malthouselaw13_LedgerMoves.l0 k x2 bt431.1 bt435.1 bt435.2.1 0) else (some false)) else (some ((bt431.1.length : Int) == 0)))))
def malthouselaw13_LedgerMoves.l0 : Nat → ByteArray → List (S25) → List (S25) → List (S37) → Int → Option (Bool)
  | 0, _, _, _, _, _ => none
  | k + 1, x2, x11, x13, x14, x16 => if x16 < (x14.length : Int) then (if 0 ≤ x16 then ((ledger_Charge.f x13 x2 ((rd_T37 x14 x16).f0) ((rd_T37 x14 x16).f1)).bind fun bt444 => (if bt444.2 = 0 then (malthouselaw13_LedgerMoves.l0 k x2 x11 bt444.1 x14 (wrap64 (x16 + 1))) else (some false))) else (none)) else ((malthouseref13_Same.f k x13 x11).bind fun t448 => (some t448))
end
def malthouselaw13_LedgerMoves.f (k : Nat) (l0 : List (S25)) (a1 : ByteArray) (a2 : ByteArray) (a3 : Int) : Option (Bool) := (malthouselaw13_awake.f).bind fun t429 => ((malthouseref13_Light.f k l0).bind fun t430 => (if t429 = true then (if t430 = true then (if (a1.size : Int) > 200 then (malthouselaw13_LedgerMoves.j0 k l0 a1 a2 a3 t429 true) else (malthouselaw13_LedgerMoves.j0 k l0 a1 a2 a3 t429 (decide ((a2.size : Int) > 200)))) else (malthouselaw13_LedgerMoves.j0 k l0 a1 a2 a3 t429 true)) else (malthouselaw13_LedgerMoves.j0 k l0 a1 a2 a3 t429 true)))
def malthouselaw13_LedgerMoves.T14 : Bool × List (List Nat × List Nat) := (true, [([], []), ([], []), ([], []), ([], []), ([2, 3], [2, 3]), ([4], [4]), ([5], [5]), ([], []), ([], []), ([7, 8], [7, 8]), ([9], [9]), ([10], [10]), ([0, 1, 6, 11], [0, 1, 6, 11]), ([12], [12]), ([13], [13]), ([13], [13]), ([14, 12, 0, 1, 2, 3, 4, 5, 6, 7, 8, 9, 10, 11, 12, 13, 14], [14]), ([15, 16, 0, 1, 2, 3, 4, 5, 6, 7, 8, 9, 10, 11, 12, 13, 14, 15, 16], [15])])
def malthouselaw13_LedgerMoves.B14 : List Nat := [0, 0, 0, 0, 12, 28, 60, 0, 0, 384, 896, 1920, 4095, 8191, 16383, 16383, 32767, 131071]
theorem malthouselaw13_LedgerMoves.tab14 : rtab .any (opsOf Tryd.f9 14) = malthouselaw13_LedgerMoves.T14 := by kernel_rfl
theorem malthouselaw13_LedgerMoves.bits14 : waitsOk malthouselaw13_LedgerMoves.T14.2 malthouselaw13_LedgerMoves.B14 = true := by kernel_rfl
set_option maxHeartbeats 8000000 in
set_option maxRecDepth 100000 in
theorem malthouselaw13_LedgerMoves.calls (k : Nat) (A0 : Option Addr) (c0 : Nat) (l0 : List (S25)) (a1 : ByteArray) (a2 : ByteArray) (a3 : Int) (r : Bool) (w : World) (hr0 : Kd.C k25 w A0 l0.length l0) (hc0 : l0.length ≤ c0) (hT : Tabs w) (h : malthouselaw13_LedgerMoves.f k l0 a1 a2 a3 = some r) :
    Calls Tryd.prog 9 #[.slice A0 l0.length c0, .string a1, .string a2, .int .i64 a3] w fun e w' => e = .returned (.bool r) ∧ Below w.heap.size w w' := by
  have HR0 := Aside0.mk hr0
  have HC0 := Aside0.mk hc0
  clear hr0 hc0
  have HB := Aside0.mk (Below.refl w.heap.size w)
  have H : ((malthouselaw13_awake.f).bind fun t429 => ((malthouseref13_Light.f k l0).bind fun t430 => (if t429 = true then (if t430 = true then (if (a1.size : Int) > 200 then (malthouselaw13_LedgerMoves.j0 k l0 a1 a2 a3 t429 true) else (malthouselaw13_LedgerMoves.j0 k l0 a1 a2 a3 t429 (decide ((a2.size : Int) > 200)))) else (malthouselaw13_LedgerMoves.j0 k l0 a1 a2 a3 t429 true)) else (malthouselaw13_LedgerMoves.j0 k l0 a1 a2 a3 t429 true)))) = some r := h
  clear h
  replace H := Option.bind_eq_some_iff.mp H
  obtain ⟨t429, A50, H⟩ := H
  replace H : ((malthouseref13_Light.f k l0).bind fun t430 => (if t429 = true then (if t430 = true then (if (a1.size : Int) > 200 then (malthouselaw13_LedgerMoves.j0 k l0 a1 a2 a3 t429 true) else (malthouselaw13_LedgerMoves.j0 k l0 a1 a2 a3 t429 (decide ((a2.size : Int) > 200)))) else (malthouselaw13_LedgerMoves.j0 k l0 a1 a2 a3 t429 true)) else (malthouselaw13_LedgerMoves.j0 k l0 a1 a2 a3 t429 true))) = some r := H
  have A5 := Aside0.mk A50
  clear A50
  replace H := Option.bind_eq_some_iff.mp H
  obtain ⟨t430, A60, H⟩ := H
  replace H : (if t429 = true then (if t430 = true then (if (a1.size : Int) > 200 then (malthouselaw13_LedgerMoves.j0 k l0 a1 a2 a3 t429 true) else (malthouselaw13_LedgerMoves.j0 k l0 a1 a2 a3 t429 (decide ((a2.size : Int) > 200)))) else (malthouselaw13_LedgerMoves.j0 k l0 a1 a2 a3 t429 true)) else (malthouselaw13_LedgerMoves.j0 k l0 a1 a2 a3 t429 true)) = some r := H
  have A6 := Aside0.mk A60
  clear A60
  have HC7 := Aside0.mk H
  clear H
  go_enter Tryd.func9, Tryd.ntmps9
  go_upto_region 3 with (first | ((with_reducible refine gate_callee (f := 10) rfl ?_); refine goesL_ (some 19) rfl rfl Tryd.func10 (by kernel_rfl) rfl #[] rfl (by (try simp only [List.map_toArray, List.map_cons, List.map_nil]); first | done | rfl | (simp only [List.length_drop, List.length_take]; rfl)) ?_; (with_reducible refine (malthouselaw13_awake.calls  t429 _ ?side1 A5.out).mono ?_); (case side1 => exact Tabs.below hT (by repeat (first | (with_reducible first | exact HB.out | apply below_alloc | apply pw_below_drewN | apply below_drew1) | exact HB.out))); rintro e w8 ⟨rfl, hb⟩; refine ⟨_, rfl, ?_⟩; have n0_ := Aside0.mk (below_step (by repeat (first | (with_reducible first | exact HB.out | apply below_alloc | apply pw_below_drewN | apply below_drew1) | exact HB.out)) hb); clear HB; have HB := n0_; clear n0_; (try clear hb); (try clear hb2); (try clear hk); (try clear hi)) | ((with_reducible refine gate_callee (f := 11) rfl ?_); refine goesL_ (some 21) rfl rfl Tryd.func11 (by kernel_rfl) rfl #[.slice A0 l0.length c0] rfl (by (try simp only [List.map_toArray, List.map_cons, List.map_nil]); first | done | rfl | (simp only [List.length_drop, List.length_take]; rfl)) ?_; (with_reducible refine (malthouseref13_Light.calls k _ _ l0 t430 _ ?side1 ?side2 A6.out).mono ?_); (case side1 => repeat (first | exact (Kd.C_below HR0.out HB.out) | (with_reducible refine Kd.C_alloc ?_ _) | (with_reducible refine Kd.C_drewN ?_ _) | (with_reducible refine Kd.C_drew ?_))); (case side2 => exact HC0.out); rintro e w' ⟨rfl, ⟨nd, rfl⟩⟩; refine ⟨_, rfl, ?_⟩))
  (try simp only [Act.put, List.setIfInBounds_toArray, List.set_cons_zero, List.set_cons_succ])
  go_cut [37] (fun v37 wc => ∃ (kq : Nat) (x37_6 : Bool), v37 = .bool x37_6 ∧ Aside0 (malthouselaw13_LedgerMoves.j0 kq l0 a1 a2 a3 t429 x37_6 = some r) ∧ Aside0 (kq ≤ k) ∧ Aside0 (Below w.heap.size w wc))
  case first =>
    have H := HC7.out
    clear HC7
    by_cases c9 : t429 = true
    · subst c9
      have H1 : (if t430 = true then (if (a1.size : Int) > 200 then (malthouselaw13_LedgerMoves.j0 k l0 a1 a2 a3 true true) else (malthouselaw13_LedgerMoves.j0 k l0 a1 a2 a3 true (decide ((a2.size : Int) > 200)))) else (malthouselaw13_LedgerMoves.j0 k l0 a1 a2 a3 true true)) = some r := by rw [if_pos rfl] at H; exact H
      clear H
      have H := H1
      clear H1
      by_cases c10 : t430 = true
      · subst c10
        have H1 : (if (a1.size : Int) > 200 then (malthouselaw13_LedgerMoves.j0 k l0 a1 a2 a3 true true) else (malthouselaw13_LedgerMoves.j0 k l0 a1 a2 a3 true (decide ((a2.size : Int) > 200)))) = some r := by rw [if_pos rfl] at H; exact H
        clear H
        have H := H1
        clear H1
        by_cases c11 : (a1.size : Int) > 200
        · rw [if_pos c11] at H
          have c11b0 : decide (200 < (a1.size : Int)) = true := decide_eq_true c11
          have c11b1 : decide (200 < a1.size) = true := decide_eq_true (by omega)
          clear c11
          (first | rw [c11b0] | (simp only [i64_w, i32_w]; rw [c11b0]) | skip)
          have H' := Aside0.mk H
          clear H
          go_wp2
          go_meet
          case rel => exact ⟨_, (true), (by first | rfl | (simp; done) | (simp [*]; done)), H', ⟨by first | omega | exact Nat.le_refl _⟩, ⟨by repeat (first | (with_reducible first | exact HB.out | apply below_alloc | apply pw_below_drewN | apply below_drew1) | exact HB.out)⟩⟩
        · rw [if_neg c11] at H
          have c11b0 : decide (200 < (a1.size : Int)) = false := decide_eq_false c11
          have c11b1 : decide (200 < a1.size) = false := decide_eq_false (by omega)
          clear c11
          (first | rw [c11b0] | (simp only [i64_w, i32_w]; rw [c11b0]) | skip)
          have H' := Aside0.mk H
          clear H
          go_wp2
          go_meet
          case rel => exact ⟨_, (decide ((a2.size : Int) > 200)), (by first | rfl | (simp; done) | (simp [*]; done)), H', ⟨by first | omega | exact Nat.le_refl _⟩, ⟨by repeat (first | (with_reducible first | exact HB.out | apply below_alloc | apply pw_below_drewN | apply below_drew1) | exact HB.out)⟩⟩
      · replace c10 := Bool.eq_false_iff.mpr c10
        subst c10
        have H1 : (malthouselaw13_LedgerMoves.j0 k l0 a1 a2 a3 true true) = some r := by rw [if_neg (show ¬ (false = true) by decide)] at H; exact H
        clear H
        have H := H1
        clear H1
        have H' := Aside0.mk H
        clear H
        go_wp2
        go_meet
        case rel => exact ⟨_, (true), (by first | rfl | (simp; done) | (simp [*]; done)), H', ⟨by first | omega | exact Nat.le_refl _⟩, ⟨by repeat (first | (with_reducible first | exact HB.out | apply below_alloc | apply pw_below_drewN | apply below_drew1) | exact HB.out)⟩⟩
    · replace c9 := Bool.eq_false_iff.mpr c9
      subst c9
      have H1 : (malthouselaw13_LedgerMoves.j0 k l0 a1 a2 a3 false true) = some r := by rw [if_neg (show ¬ (false = true) by decide)] at H; exact H
      clear H
      have H := H1
      clear H1
      have H' := Aside0.mk H
      clear H
      go_wp2
      go_meet
      case rel => exact ⟨_, (true), (by first | rfl | (simp; done) | (simp [*]; done)), H', ⟨by first | omega | exact Nat.le_refl _⟩, ⟨by repeat (first | (with_reducible first | exact HB.out | apply below_alloc | apply pw_below_drewN | apply below_drew1) | exact HB.out)⟩⟩
  case rest =>
    clear HC7
    try clear c1
    try clear p2
    try clear c9
    try clear c10
    try clear c11
    try clear c11b0
    try clear c11b1
    obtain ⟨kq, x37_6, rfl, HA, HJ6, HB⟩ := hcut
    cases kq with
    | zero => exact absurd HA.out (by simp [malthouselaw13_LedgerMoves.j0])
    | succ kj6 =>
      have H := HA.out
      clear HA
      simp only [malthouselaw13_LedgerMoves.j0] at H
      by_cases c12 : x37_6 = true
      · subst c12
        have H1 : (some t429) = some r := by rw [if_pos rfl] at H; exact H
        clear H
        have H := H1
        clear H1
        obtain rfl := Option.some.inj H
        go_wp2
        go_ret
        exact ⟨by first | rfl | (simp [errW_none, errW_some] <;> rfl) | (simp [*, errW_none, errW_some] <;> rfl), by repeat (first | (with_reducible first | exact HB.out | apply below_alloc | apply pw_below_drewN | apply below_drew1) | exact HB.out)⟩
      · replace c12 := Bool.eq_false_iff.mpr c12
        subst c12
        have H1 : ((ledger_Move.f l0 a1 a2 a3).bind fun bt431 => ((ledger_Draw.f l0 a1 a3).bind fun bt435 => (if bt431.2 = 0 then (if bt435.2.2 = 0 then (malthouselaw13_LedgerMoves.l0 kj6 a2 bt431.1 bt435.1 bt435.2.1 0) else (some false)) else (some ((bt431.1.length : Int) == 0))))) = some r := by rw [if_neg (show ¬ (false = true) by decide)] at H; exact H
        clear H
        have H := H1
        clear H1
        replace H := Option.bind_eq_some_iff.mp H
        obtain ⟨⟨t431, t434⟩, A130, H⟩ := H
        replace H : ((ledger_Draw.f l0 a1 a3).bind fun bt435 => (if t434 = 0 then (if bt435.2.2 = 0 then (malthouselaw13_LedgerMoves.l0 kj6 a2 t431 bt435.1 bt435.2.1 0) else (some false)) else (some ((t431.length : Int) == 0)))) = some r := H
        have A13 := Aside0.mk A130
        clear A130
        replace H := Option.bind_eq_some_iff.mp H
        obtain ⟨⟨t435, t438, t441⟩, A140, H⟩ := H
        replace H : (if t434 = 0 then (if t441 = 0 then (malthouselaw13_LedgerMoves.l0 kj6 a2 t431 t435 t438 0) else (some false)) else (some ((t431.length : Int) == 0))) = some r := H
        have A14 := Aside0.mk A140
        clear A140
        by_cases c15 : t434 = 0
        · rw [if_pos c15] at H
          have c15b0 : (t434 == 0) = true := beq_iff_eq.mpr c15
          have c15b1 : (t434 != 0) = false := bne_eq_false_iff_eq.mpr c15
          clear c15
          by_cases c16 : t441 = 0
          · rw [if_pos c16] at H
            have c16b0 : (t441 == 0) = true := beq_iff_eq.mpr c16
            have c16b1 : (t441 != 0) = false := bne_eq_false_iff_eq.mpr c16
            clear c16
            have H' := Aside0.mk H
            clear H
            go_wp2_with (first | ((with_reducible refine gate_callee (f := 26) rfl ?_); refine goesL_ (some 44) rfl rfl Tryd.func26 (by kernel_rfl) rfl #[.slice A0 l0.length c0, .string a1, .string a2, .int .i64 a3] rfl (by (try simp only [List.map_toArray, List.map_cons, List.map_nil]); first | done | rfl | (simp only [List.length_drop, List.length_take]; rfl)) ?_; (with_reducible refine (ledger_Move.calls _ _ l0 a1 a2 a3 t431 t434 _ ?side1 ?side2 ?side3 A13.out).mono ?_); (case side1 => repeat (first | exact (Kd.C_below HR0.out HB.out) | (with_reducible refine Kd.C_alloc ?_ _) | (with_reducible refine Kd.C_drewN ?_ _) | (with_reducible refine Kd.C_drew ?_))); (case side2 => exact HC0.out); (case side3 => exact Tabs.below hT (by repeat (first | (with_reducible first | exact HB.out | apply below_alloc | apply pw_below_drewN | apply below_drew1) | exact HB.out))); rintro e w17 ⟨v432, rfl, ho0, hb⟩; refine ⟨_, rfl, ?_⟩; have n0_ := Aside0.mk (Kd.V_lower (Kd.V_mono (ok' := fun k_ => True) ho0 (fun k_ hk_ => trivial)) (below_size (by repeat (first | (with_reducible first | exact HB.out | apply below_alloc | apply pw_below_drewN | apply below_drew1) | exact HB.out)))); have n1_ := Aside0.mk (below_step (by repeat (first | (with_reducible first | exact HB.out | apply below_alloc | apply pw_below_drewN | apply below_drew1) | exact HB.out)) hb); clear HB; have HO433 := n0_; have HB := n1_; clear n0_ n1_; (try clear hb); (try clear hb2); (try clear hk); (try clear hi); (try clear ho0)) | ((with_reducible refine gate_callee (f := 18) rfl ?_); refine goesL_ (some 51) rfl rfl Tryd.func18 (by kernel_rfl) rfl #[.slice A0 l0.length c0, .string a1, .int .i64 a3] rfl (by (try simp only [List.map_toArray, List.map_cons, List.map_nil]); first | done | rfl | (simp only [List.length_drop, List.length_take]; rfl)) ?_; (with_reducible refine (ledger_Draw.calls _ _ l0 a1 a3 t435 t438 t441 _ ?side1 ?side2 ?side3 A14.out).mono ?_); (case side1 => repeat (first | exact (Kd.C_below HR0.out HB.out) | (with_reducible refine Kd.C_alloc ?_ _) | (with_reducible refine Kd.C_drewN ?_ _) | (with_reducible refine Kd.C_drew ?_))); (case side2 => exact HC0.out); (case side3 => exact Tabs.below hT (by repeat (first | (with_reducible first | exact HB.out | apply below_alloc | apply pw_below_drewN | apply below_drew1) | exact HB.out))); rintro e w18 ⟨v436, v439, rfl, ho0, ho1, hb⟩; refine ⟨_, rfl, ?_⟩; have n0_ := Aside0.mk (Kd.V_elder' (by (with_reducible repeat (first | apply Kd.V_alloc | apply Kd.V_drewN | apply Kd.V_drew)); exact HO433.out) (Kd.R_base ho1) hb); have n1_ := Aside0.mk (Kd.V_lower (Kd.V_mono (ok' := fun k_ => some k_ ≠ (v439 : Value).ownBlock) ho0 (fun k_ hk_ => hk_.2)) (below_size (by repeat (first | (with_reducible first | exact HB.out | apply below_alloc | apply pw_below_drewN | apply below_drew1) | exact HB.out)))); have n2_ := Aside0.mk (Kd.R_lower (Kd.R_mono (ok' := fun k_ => True) ho1 (fun _ hk_ => trivial)) (below_size (by repeat (first | (with_reducible first | exact HB.out | apply below_alloc | apply pw_below_drewN | apply below_drew1) | exact HB.out)))); have n3_ := Aside0.mk (below_step (by repeat (first | (with_reducible first | exact HB.out | apply below_alloc | apply pw_below_drewN | apply below_drew1) | exact HB.out)) hb); clear HO433; clear HB; have HO433 := n0_; have HO437 := n1_; have HO440 := n2_; have HB := n3_; clear n0_ n1_ n2_ n3_; (try clear hb); (try clear hb2); (try clear hk); (try clear hi); (try clear ho0); (try clear ho1)))
            go_loopg [13, 16] kj6 (fun kq v13 v16 w' => ∃ (x13_2 : List (S25)) (x16_2 : Int), v16 = .int .i64 x16_2 ∧ Aside0 (malthouselaw13_LedgerMoves.l0 kq a2 t431 x13_2 t438 x16_2 = some r) ∧ Aside0 (kq ≤ kj6) ∧ Aside0 (Kd.V k25 25 w' w.heap.size (fun k_ => some k_ ≠ (v439 : Value).ownBlock) v432 t431) ∧ Aside0 (Kd.V k25 25 w' w.heap.size (fun k_ => some k_ ≠ (v439 : Value).ownBlock) v13 x13_2) ∧ Aside0 (Kd.R k37 37 w' w.heap.size (fun _ => True) v439 t438) ∧ Aside0 (Below w.heap.size w w'))
            case atStart => exact ⟨(t435), (0), (by first | rfl | (simp; done) | (simp [*]; done)), H', ⟨Nat.le_refl _⟩, ⟨by (with_reducible repeat (first | apply Kd.V_alloc | apply Kd.V_drewN | apply Kd.V_drew)); exact Kd.V_mono HO433.out (fun _ hk => hk.2)⟩, ⟨by (with_reducible repeat (first | apply Kd.V_alloc | apply Kd.V_drewN | apply Kd.V_drew)); exact HO437.out⟩, ⟨by (with_reducible repeat (first | apply Kd.R_alloc | apply Kd.R_drewN | apply Kd.R_drew)); exact HO440.out⟩, ⟨by repeat (first | (with_reducible first | exact HB.out | apply below_alloc | apply pw_below_drewN | apply below_drew1) | exact HB.out)⟩⟩
            case round =>
              clear H'
              try clear c1
              try clear c2
              try clear p2
              try clear c9
              try clear c10
              try clear c11
              try clear c11b0
              try clear c11b1
              try clear c12
              try clear c15
              try clear c15b0
              try clear c15b1
              try clear c16
              try clear c16b0
              try clear c16b1
              try clear c18
              try clear p2
              obtain ⟨x13_2, x16_2, rfl, HA, HK2, HO_11, HO_13, HO_14, HB⟩ := hrel
              cases gk with
              | zero => exact absurd HA.out (by simp [malthouselaw13_LedgerMoves.l0])
              | succ k2 =>
                have H := HA.out
                clear HA
                simp only [malthouselaw13_LedgerMoves.l0] at H
                by_cases c19 : x16_2 < (t438.length : Int)
                · rw [if_pos c19] at H
                  have c19b0 : decide (x16_2 < (t438.length : Int)) = true := decide_eq_true c19
                  clear c19
                  by_cases c20 : 0 ≤ x16_2
                  · rw [if_pos c20] at H
                    have c20b0 : decide (0 ≤ x16_2) = true := decide_eq_true c20
                    clear c20
                    replace H := Option.bind_eq_some_iff.mp H
                    obtain ⟨⟨t444, t445⟩, A210, H⟩ := H
                    replace H : (if t445 = 0 then (malthouselaw13_LedgerMoves.l0 k2 a2 t431 t444 t438 (wrap64 (x16_2 + 1))) else (some false)) = some r := H
                    have A21 := Aside0.mk A210
                    clear A210
                    by_cases c22 : t445 = 0
                    · rw [if_pos c22] at H
                      have c22b0 : (t445 == 0) = true := beq_iff_eq.mpr c22
                      have c22b1 : (t445 != 0) = false := bne_eq_false_iff_eq.mpr c22
                      clear c22
                      have H' := Aside0.mk H
                      clear H
                      obtain ⟨Ao23, co23, eo23⟩ := Kd.R_slice HO_14.out
                      subst eo23
                      try go_wp2
                      have n0_ := Aside0.mk (Kd.V_drew HO_11.out)
                      have n1_ := Aside0.mk (Kd.V_drew HO_13.out)
                      have n2_ := Aside0.mk (Kd.R_drew HO_14.out)
                      have n3_ := Aside0.mk (below_drew1 HB.out)
                      clear HO_11
                      clear HO_13
                      clear HO_14
                      clear HB
                      have HO_11 := n0_
                      have HO_13 := n1_
                      have HO_14 := n2_
                      have HB := n3_
                      clear n0_ n1_ n2_ n3_
                      have p442 : 0 ≤ (x16_2 : Int) := of_decide_eq_true (by first | (with_reducible assumption) | assumption)
                      have q442 : x16_2 < (t438.length : Int) := of_decide_eq_true (by first | (with_reducible assumption) | assumption)
                      obtain ⟨ad442, e442, hx442_0, hx442_1⟩ := at_T37 (Kd.R_reads' HO_14.out).2.2 x16_2 p442 q442
                      cases e442
                      replace p442 := eq_true p442
                      replace q442 := eq_true q442
                      have p443 : 0 ≤ (x16_2 : Int) := of_decide_eq_true (by first | (with_reducible assumption) | assumption)
                      have q443 : x16_2 < (t438.length : Int) := of_decide_eq_true (by first | (with_reducible assumption) | assumption)
                      obtain ⟨ad443, e443, hx443_0, hx443_1⟩ := at_T37 (Kd.R_reads' HO_14.out).2.2 x16_2 p443 q443
                      obtain rfl : ad442 = ad443 := (by injection e443)
                      replace p443 := eq_true p443
                      replace q443 := eq_true q443
                      obtain ⟨Ao25, co25, eo25⟩ := Kd.V_slice HO_13.out
                      (first | subst eo25 | (injection eo25 with f1_ f2_ f3_; have f4_ := f1_.symm; have f5_ := f3_.symm; clear f1_ f2_ f3_; subst f4_; subst f5_))
                      refine start_ (n := 18) (S := fun w' => w'.cell? (ad442.add ((x16_2).toNat * 2)) = some (.string ((rd_T37 t438 x16_2).f0)) ∧ w'.cell? ⟨(ad442.add ((x16_2).toNat * 2)).block, (ad442.add ((x16_2).toNat * 2)).off + 1, none⟩ = some (.int .i64 ((rd_T37 t438 x16_2).f1)) ∧ w'.cell? (ad442.add ((x16_2).toNat * 2)) = some (.string ((rd_T37 t438 x16_2).f0)) ∧ w'.cell? ⟨(ad442.add ((x16_2).toNat * 2)).block, (ad442.add ((x16_2).toNat * 2)).off + 1, none⟩ = some (.int .i64 ((rd_T37 t438 x16_2).f1))) (ds := []) #[false, false, false, false, false, false, false, false, false, false, false, false, false, false, false, false, false, false] (by kernel_rfl) rfl rfl ⟨hx442_0, hx442_1, hx443_0, hx443_1⟩ (fun hHeld => ?_); refine with_tabW malthouselaw13_LedgerMoves.tab14 malthouselaw13_LedgerMoves.bits14 (fun HT_ HW_ => ?_)
                      generalize wr.drew = w24 at HO_11 HO_13 HO_14 HB hx442_0 hx442_1 hx443_0 hx443_1 hHeld ⊢
                      refine pure_ (i := 0) (N := some 69) (v := ?_) (a' := ?_) #[true, false, false, false, false, false, false, false, false, false, false, false, false, false, false, false, false, false] rfl rfl (any_of HT_.out (by kernel_rfl)) (fun _ _ _ h => h) (Or.inl ⟨by rfl, ?_⟩) ?_ ?_
                      rotate_left
                      · intro w'
                        go_simp
                        with_reducible rfl
                      rotate_left
                      · simp only [Act.put, List.setIfInBounds_toArray, List.set_cons_zero, List.set_cons_succ, i64_w, i32_w]
                        rfl
                      refine pure_ (i := 1) (N := some 70) (v := ?_) (a' := ?_) #[true, true, false, false, false, false, false, false, false, false, false, false, false, false, false, false, false, false] rfl rfl (any_of HT_.out (by kernel_rfl)) (fun _ _ _ h => h) (Or.inl ⟨by rfl, ?_⟩) ?_ ?_
                      rotate_left
                      · intro w'
                        go_simp
                        with_reducible rfl
                      rotate_left
                      · simp only [Act.put, List.setIfInBounds_toArray, List.set_cons_zero, List.set_cons_succ, i64_w, i32_w]
                        rfl
                      refine pure_ (i := 2) (N := some 71) (v := ?_) (a' := ?_) #[true, true, true, false, false, false, false, false, false, false, false, false, false, false, false, false, false, false] rfl rfl (any_of HT_.out (by kernel_rfl)) (fun _ _ _ h => h) (Or.inl ⟨by rfl, ?_⟩) ?_ ?_
                      rotate_left
                      · intro w'
                        go_simp
                        with_reducible rfl
                      rotate_left
                      · simp only [Act.put, List.setIfInBounds_toArray, List.set_cons_zero, List.set_cons_succ, i64_w, i32_w]
                        rfl
                      refine pure_ (i := 3) (N := some 72) (v := ?_) (a' := ?_) #[true, true, true, true, false, false, false, false, false, false, false, false, false, false, false, false, false, false] rfl rfl (any_of HT_.out (by kernel_rfl)) (fun _ _ _ h => h) (Or.inl ⟨by rfl, ?_⟩) ?_ ?_
                      rotate_left
                      · intro w'
                        go_simp
                        with_reducible rfl
                      rotate_left
                      · simp only [Act.put, List.setIfInBounds_toArray, List.set_cons_zero, List.set_cons_succ, i64_w, i32_w]
                        rfl
                      refine pure_ (i := 4) (N := some 73) (v := ?_) (a' := ?_) #[true, true, true, true, true, false, false, false, false, false, false, false, false, false, false, false, false, false] rfl rfl (any_of HT_.out (by kernel_rfl)) (fun _ _ _ h => h) (Or.inl ⟨by rfl, ?_⟩) ?_ ?_
                      rotate_left
                      · intro w'
                        go_simp
                        with_reducible rfl
                      rotate_left
                      · simp only [Act.put, List.setIfInBounds_toArray, List.set_cons_zero, List.set_cons_succ, i64_w, i32_w]
                        rfl
                      refine pure_ (i := 5) (N := some 74) (v := ?_) (a' := ?_) #[true, true, true, true, true, true, false, false, false, false, false, false, false, false, false, false, false, false] rfl rfl (any_of HT_.out (by kernel_rfl)) (fun _ _ _ h => h) (Or.inl ⟨by rfl, ?_⟩) ?_ ?_
                      rotate_left
                      · intro w'
                        go_simp
                        with_reducible rfl
                      rotate_left
                      · simp only [Act.put, List.setIfInBounds_toArray, List.set_cons_zero, List.set_cons_succ, i64_w, i32_w]
                        rfl
                      refine pure_ (i := 7) (N := some 76) (v := ?_) (a' := ?_) #[true, true, true, true, true, true, false, true, false, false, false, false, false, false, false, false, false, false] rfl rfl (any_of HT_.out (by kernel_rfl)) (fun _ _ _ h => h) (Or.inl ⟨by rfl, ?_⟩) ?_ ?_
                      rotate_left
                      · intro w'
                        go_simp
                        with_reducible rfl
                      rotate_left
                      · simp only [Act.put, List.setIfInBounds_toArray, List.set_cons_zero, List.set_cons_succ, i64_w, i32_w]
                        rfl
                      refine pure_ (i := 8) (N := some 77) (v := ?_) (a' := ?_) #[true, true, true, true, true, true, false, true, true, false, false, false, false, false, false, false, false, false] rfl rfl (any_of HT_.out (by kernel_rfl)) (fun _ _ _ h => h) (Or.inl ⟨by rfl, ?_⟩) ?_ ?_
                      rotate_left
                      · intro w'
                        go_simp
                        with_reducible rfl
                      rotate_left
                      · simp only [Act.put, List.setIfInBounds_toArray, List.set_cons_zero, List.set_cons_succ, i64_w, i32_w]
                        rfl
                      refine pure_ (i := 9) (N := some 78) (v := ?_) (a' := ?_) #[true, true, true, true, true, true, false, true, true, true, false, false, false, false, false, false, false, false] rfl rfl (any_of HT_.out (by kernel_rfl)) (fun _ _ _ h => h) (Or.inl ⟨by rfl, ?_⟩) ?_ ?_
                      rotate_left
                      · intro w'
                        go_simp
                        with_reducible rfl
                      rotate_left
                      · simp only [Act.put, List.setIfInBounds_toArray, List.set_cons_zero, List.set_cons_succ, i64_w, i32_w]
                        rfl
                      refine pure_ (i := 10) (N := some 79) (v := ?_) (a' := ?_) #[true, true, true, true, true, true, false, true, true, true, true, false, false, false, false, false, false, false] rfl rfl (any_of HT_.out (by kernel_rfl)) (fun _ _ _ h => h) (Or.inl ⟨by rfl, ?_⟩) ?_ ?_
                      rotate_left
                      · intro w'
                        go_simp
                        with_reducible rfl
                      rotate_left
                      · simp only [Act.put, List.setIfInBounds_toArray, List.set_cons_zero, List.set_cons_succ, i64_w, i32_w]
                        rfl
                      refine take_ (i := 6) (N := some 75) (v := ?_) (a' := ?_) #[true, true, true, true, true, true, true, true, true, true, true, false, false, false, false, false, false, false] rfl rfl (take_ofW HT_.out HW_.out (by kernel_rfl)) (fun _ _ _ h => h) (Or.inl ⟨by rfl, ?_⟩) hHeld ?_ ?_
                      rotate_left
                      · rintro w' ⟨s0, s1, s2, s3⟩
                        go_simp
                        with_reducible rfl
                      rotate_left
                      · simp only [Act.put, List.setIfInBounds_toArray, List.set_cons_zero, List.set_cons_succ, i64_w, i32_w]
                        rfl
                      refine take_ (i := 11) (N := some 80) (v := ?_) (a' := ?_) #[true, true, true, true, true, true, true, true, true, true, true, true, false, false, false, false, false, false] rfl rfl (take_ofW HT_.out HW_.out (by kernel_rfl)) (fun _ _ _ h => h) (Or.inl ⟨by rfl, ?_⟩) hHeld ?_ ?_
                      rotate_left
                      · rintro w' ⟨s0, s1, s2, s3⟩
                        go_simp
                        with_reducible rfl
                      rotate_left
                      · simp only [Act.put, List.setIfInBounds_toArray, List.set_cons_zero, List.set_cons_succ, i64_w, i32_w]
                        rfl
                      refine one_ (i := 12) (N := some 81) #[true, true, true, true, true, true, true, true, true, true, true, true, true, false, false, false, false, false] rfl rfl (one_of HT_.out (by kernel_rfl)) (by decide) (fun K hK => ?_)
                      refine goes_ Tryd.func23 (by kernel_rfl) rfl #[.slice Ao25 x13_2.length co25, .string a2, .string ((rd_T37 t438 x16_2).f0), .int .i64 ((rd_T37 t438 x16_2).f1)] (by rfl) rfl rfl (by (try simp only [List.map_toArray, List.map_cons, List.map_nil]); first | done | rfl | (simp only [List.length_drop, List.length_take]; rfl)) ?_
                      with_reducible refine (ledger_Charge.calls _ _ x13_2 a2 ((rd_T37 t438 x16_2).f0) ((rd_T37 t438 x16_2).f1) t444 t445 _ ?side1 ?side2 ?side3 A21.out).mono ?_
                      (case side1 => repeat (first | exact (Kd.V_reads' HO_13.out).2.2 | (with_reducible refine Kd.C_alloc ?_ _) | (with_reducible refine Kd.C_drewN ?_ _) | (with_reducible refine Kd.C_drew ?_)))
                      (case side2 => exact (Kd.V_reads' HO_13.out).2.1)
                      (case side3 => exact Tabs.below hT (by repeat (first | (with_reducible first | exact HB.out | apply below_alloc | apply pw_below_drewN | apply below_drew1) | exact HB.out)))
                      rintro e w26 ⟨v446, rfl, ho0, hb⟩
                      have HS0_ := (hb.cell (World.block_lt_of_cell? _ _ (hHeld.1))).trans (hHeld.1)
                      have HS1_ := (hb.cell (World.block_lt_of_cell? _ _ (hHeld.2.1))).trans (hHeld.2.1)
                      have HS2_ := (hb.cell (World.block_lt_of_cell? _ _ (hHeld.2.2.1))).trans (hHeld.2.2.1)
                      have HS3_ := (hb.cell (World.block_lt_of_cell? _ _ (hHeld.2.2.2))).trans (hHeld.2.2.2)
                      refine ⟨_, rfl, ?_⟩
                      have n0_ := Aside0.mk (Kd.V_elder' (by (with_reducible repeat (first | apply Kd.V_alloc | apply Kd.V_drewN | apply Kd.V_drew)); exact HO_11.out) (Kd.S_base ho0) hb)
                      have n1_ := Aside0.mk (Kd.V_elder' (by (with_reducible repeat (first | apply Kd.V_alloc | apply Kd.V_drewN | apply Kd.V_drew)); exact HO_13.out) (Kd.S_base ho0) hb)
                      have n2_ := Aside0.mk (Kd.R_below (by (with_reducible repeat (first | apply Kd.R_alloc | apply Kd.R_drewN | apply Kd.R_drew)); exact HO_14.out) hb)
                      have n3_ := Aside0.mk (Kd.S_lower (Kd.S_new' ho0 (Kd.R_lt (by (with_reducible repeat (first | apply Kd.R_alloc | apply Kd.R_drewN | apply Kd.R_drew)); exact HO_14.out))) (below_size (by repeat (first | (with_reducible first | exact HB.out | apply below_alloc | apply pw_below_drewN | apply below_drew1) | exact HB.out))))
                      have n4_ := Aside0.mk (below_step (by repeat (first | (with_reducible first | exact HB.out | apply below_alloc | apply pw_below_drewN | apply below_drew1) | exact HB.out)) hb)
                      clear HO_11
                      clear HO_13
                      clear HO_14
                      clear HB
                      have HO_11 := n0_
                      have HO_13 := n1_
                      have HO_14 := n2_
                      have HO447 := n3_
                      have HB := n4_
                      clear n0_ n1_ n2_ n3_ n4_
                      (try clear hb)
                      (try clear hb2)
                      (try clear hk)
                      (try clear hi)
                      (try clear ho0)
                      refine hK.out _ _ ⟨HS0_, HS1_, HS2_, HS3_⟩ (fun hHeld => ?_)
                      clear hK K
                      refine norm_ (a' := ?_) ?_ ?_
                      rotate_left
                      · show Act.put _ (some 81) _ = _
                        simp only [Act.put, List.setIfInBounds_toArray, List.set_cons_zero, List.set_cons_succ, i64_w, i32_w]
                        rfl
                      refine pure_ (i := 13) (N := some 68) (v := ?_) (a' := ?_) #[true, true, true, true, true, true, true, true, true, true, true, true, true, true, false, false, false, false] rfl rfl (any_of HT_.out (by kernel_rfl)) (fun _ _ _ h => h) (Or.inl ⟨by rfl, ?_⟩) ?_ ?_
                      rotate_left
                      · intro w'
                        go_simp
                        with_reducible rfl
                      rotate_left
                      · simp only [Act.put, List.setIfInBounds_toArray, List.set_cons_zero, List.set_cons_succ, i64_w, i32_w]
                        rfl
                      refine pure_ (i := 14) (N := some 82) (v := ?_) (a' := ?_) #[true, true, true, true, true, true, true, true, true, true, true, true, true, true, true, false, false, false] rfl rfl (any_of HT_.out (by kernel_rfl)) (fun _ _ _ h => h) (Or.inl ⟨by rfl, ?_⟩) ?_ ?_
                      rotate_left
                      · intro w'
                        go_simp
                        with_reducible rfl
                      rotate_left
                      · simp only [Act.put, List.setIfInBounds_toArray, List.set_cons_zero, List.set_cons_succ, i64_w, i32_w]
                        rfl
                      refine pure_ (i := 15) (N := some 83) (v := ?_) (a' := ?_) #[true, true, true, true, true, true, true, true, true, true, true, true, true, true, true, true, false, false] rfl rfl (any_of HT_.out (by kernel_rfl)) (fun _ _ _ h => h) (Or.inl ⟨by rfl, ?_⟩) ?_ ?_
                      rotate_left
                      · intro w'
                        go_simp
                        with_reducible rfl
                      rotate_left
                      · simp only [Act.put, List.setIfInBounds_toArray, List.set_cons_zero, List.set_cons_succ, i64_w, i32_w]
                        rfl
                      refine pure_ (i := 16) (N := some 17) (v := ?_) (a' := ?_) #[true, true, true, true, true, true, true, true, true, true, true, true, true, true, true, true, true, false] rfl rfl (any_of HT_.out (by kernel_rfl)) (fun _ _ _ h => h) (Or.inl ⟨by rfl, ?_⟩) ?_ ?_
                      rotate_left
                      · intro w'
                        go_simp
                        with_reducible rfl
                      rotate_left
                      · simp only [Act.put, List.setIfInBounds_toArray, List.set_cons_zero, List.set_cons_succ, i64_w, i32_w]
                        rfl
                      refine pure_ (i := 17) (N := some 18) (v := ?_) (a' := ?_) #[true, true, true, true, true, true, true, true, true, true, true, true, true, true, true, true, true, true] rfl rfl (any_of HT_.out (by kernel_rfl)) (fun _ _ _ h => h) (Or.inl ⟨by rfl, ?_⟩) ?_ ?_
                      rotate_left
                      · intro w'
                        go_simp
                        with_reducible rfl
                      rotate_left
                      · simp only [Act.put, List.setIfInBounds_toArray, List.set_cons_zero, List.set_cons_succ, i64_w, i32_w]
                        rfl
                      refine done_ (done_of HT_.out (by kernel_rfl)) ?_
                      try go_wp2
                      go_roundg k2
                      case measure => have := HJ6.out; have := HK2.out; omega
                      case rel => exact ⟨(t444), (wrap64 (x16_2 + 1)), (by first | rfl | (simp; done) | (simp [*]; done)), H', ⟨by have := HJ6.out; have := HK2.out; omega⟩, ⟨by (with_reducible repeat (first | apply Kd.V_alloc | apply Kd.V_drewN | apply Kd.V_drew)); exact Kd.V_mono HO_11.out (fun _ hk => hk.1)⟩, ⟨Kd.S_V (by (with_reducible repeat (first | apply Kd.S_alloc | apply Kd.S_drewN | apply Kd.S_drew)); exact Kd.S_mono HO447.out (fun _ hk => hk.2))⟩, ⟨by (with_reducible repeat (first | apply Kd.R_alloc | apply Kd.R_drewN | apply Kd.R_drew)); exact HO_14.out⟩, ⟨by repeat (first | (with_reducible first | exact HB.out | apply below_alloc | apply pw_below_drewN | apply below_drew1) | exact HB.out)⟩⟩
                    · rw [if_neg c22] at H
                      have c22b0 : (t445 == 0) = false := beq_eq_false_iff_ne.mpr c22
                      have c22b1 : (t445 != 0) = true := bne_iff_ne.mpr c22
                      obtain rfl := Option.some.inj H
                      obtain ⟨Ao27, co27, eo27⟩ := Kd.R_slice HO_14.out
                      subst eo27
                      try go_wp2
                      have n0_ := Aside0.mk (Kd.V_drew HO_11.out)
                      have n1_ := Aside0.mk (Kd.V_drew HO_13.out)
                      have n2_ := Aside0.mk (Kd.R_drew HO_14.out)
                      have n3_ := Aside0.mk (below_drew1 HB.out)
                      clear HO_11
                      clear HO_13
                      clear HO_14
                      clear HB
                      have HO_11 := n0_
                      have HO_13 := n1_
                      have HO_14 := n2_
                      have HB := n3_
                      clear n0_ n1_ n2_ n3_
                      have p442 : 0 ≤ (x16_2 : Int) := of_decide_eq_true (by first | (with_reducible assumption) | assumption)
                      have q442 : x16_2 < (t438.length : Int) := of_decide_eq_true (by first | (with_reducible assumption) | assumption)
                      obtain ⟨ad442, e442, hx442_0, hx442_1⟩ := at_T37 (Kd.R_reads' HO_14.out).2.2 x16_2 p442 q442
                      cases e442
                      replace p442 := eq_true p442
                      replace q442 := eq_true q442
                      have p443 : 0 ≤ (x16_2 : Int) := of_decide_eq_true (by first | (with_reducible assumption) | assumption)
                      have q443 : x16_2 < (t438.length : Int) := of_decide_eq_true (by first | (with_reducible assumption) | assumption)
                      obtain ⟨ad443, e443, hx443_0, hx443_1⟩ := at_T37 (Kd.R_reads' HO_14.out).2.2 x16_2 p443 q443
                      obtain rfl : ad442 = ad443 := (by injection e443)
                      replace p443 := eq_true p443
                      replace q443 := eq_true q443
                      obtain ⟨Ao29, co29, eo29⟩ := Kd.V_slice HO_13.out
                      (first | subst eo29 | (injection eo29 with f1_ f2_ f3_; have f4_ := f1_.symm; have f5_ := f3_.symm; clear f1_ f2_ f3_; subst f4_; subst f5_))
                      refine start_ (n := 18) (S := fun w' => w'.cell? (ad442.add ((x16_2).toNat * 2)) = some (.string ((rd_T37 t438 x16_2).f0)) ∧ w'.cell? ⟨(ad442.add ((x16_2).toNat * 2)).block, (ad442.add ((x16_2).toNat * 2)).off + 1, none⟩ = some (.int .i64 ((rd_T37 t438 x16_2).f1)) ∧ w'.cell? (ad442.add ((x16_2).toNat * 2)) = some (.string ((rd_T37 t438 x16_2).f0)) ∧ w'.cell? ⟨(ad442.add ((x16_2).toNat * 2)).block, (ad442.add ((x16_2).toNat * 2)).off + 1, none⟩ = some (.int .i64 ((rd_T37 t438 x16_2).f1))) (ds := []) #[false, false, false, false, false, false, false, false, false, false, false, false, false, false, false, false, false, false] (by kernel_rfl) rfl rfl ⟨hx442_0, hx442_1, hx443_0, hx443_1⟩ (fun hHeld => ?_); refine with_tabW malthouselaw13_LedgerMoves.tab14 malthouselaw13_LedgerMoves.bits14 (fun HT_ HW_ => ?_)
                      generalize wr.drew = w28 at HO_11 HO_13 HO_14 HB hx442_0 hx442_1 hx443_0 hx443_1 hHeld ⊢
                      refine pure_ (i := 0) (N := some 69) (v := ?_) (a' := ?_) #[true, false, false, false, false, false, false, false, false, false, false, false, false, false, false, false, false, false] rfl rfl (any_of HT_.out (by kernel_rfl)) (fun _ _ _ h => h) (Or.inl ⟨by rfl, ?_⟩) ?_ ?_
                      rotate_left
                      · intro w'
                        go_simp
                        with_reducible rfl
                      rotate_left
                      · simp only [Act.put, List.setIfInBounds_toArray, List.set_cons_zero, List.set_cons_succ, i64_w, i32_w]
                        rfl
                      refine pure_ (i := 1) (N := some 70) (v := ?_) (a' := ?_) #[true, true, false, false, false, false, false, false, false, false, false, false, false, false, false, false, false, false] rfl rfl (any_of HT_.out (by kernel_rfl)) (fun _ _ _ h => h) (Or.inl ⟨by rfl, ?_⟩) ?_ ?_
                      rotate_left
                      · intro w'
                        go_simp
                        with_reducible rfl
                      rotate_left
                      · simp only [Act.put, List.setIfInBounds_toArray, List.set_cons_zero, List.set_cons_succ, i64_w, i32_w]
                        rfl
                      refine pure_ (i := 2) (N := some 71) (v := ?_) (a' := ?_) #[true, true, true, false, false, false, false, false, false, false, false, false, false, false, false, false, false, false] rfl rfl (any_of HT_.out (by kernel_rfl)) (fun _ _ _ h => h) (Or.inl ⟨by rfl, ?_⟩) ?_ ?_
                      rotate_left
                      · intro w'
                        go_simp
                        with_reducible rfl
                      rotate_left
                      · simp only [Act.put, List.setIfInBounds_toArray, List.set_cons_zero, List.set_cons_succ, i64_w, i32_w]
                        rfl
                      refine pure_ (i := 3) (N := some 72) (v := ?_) (a' := ?_) #[true, true, true, true, false, false, false, false, false, false, false, false, false, false, false, false, false, false] rfl rfl (any_of HT_.out (by kernel_rfl)) (fun _ _ _ h => h) (Or.inl ⟨by rfl, ?_⟩) ?_ ?_
                      rotate_left
                      · intro w'
                        go_simp
                        with_reducible rfl
                      rotate_left
                      · simp only [Act.put, List.setIfInBounds_toArray, List.set_cons_zero, List.set_cons_succ, i64_w, i32_w]
                        rfl
                      refine pure_ (i := 4) (N := some 73) (v := ?_) (a' := ?_) #[true, true, true, true, true, false, false, false, false, false, false, false, false, false, false, false, false, false] rfl rfl (any_of HT_.out (by kernel_rfl)) (fun _ _ _ h => h) (Or.inl ⟨by rfl, ?_⟩) ?_ ?_
                      rotate_left
                      · intro w'
                        go_simp
                        with_reducible rfl
                      rotate_left
                      · simp only [Act.put, List.setIfInBounds_toArray, List.set_cons_zero, List.set_cons_succ, i64_w, i32_w]
                        rfl
                      refine pure_ (i := 5) (N := some 74) (v := ?_) (a' := ?_) #[true, true, true, true, true, true, false, false, false, false, false, false, false, false, false, false, false, false] rfl rfl (any_of HT_.out (by kernel_rfl)) (fun _ _ _ h => h) (Or.inl ⟨by rfl, ?_⟩) ?_ ?_
                      rotate_left
                      · intro w'
                        go_simp
                        with_reducible rfl
                      rotate_left
                      · simp only [Act.put, List.setIfInBounds_toArray, List.set_cons_zero, List.set_cons_succ, i64_w, i32_w]
                        rfl
                      refine pure_ (i := 7) (N := some 76) (v := ?_) (a' := ?_) #[true, true, true, true, true, true, false, true, false, false, false, false, false, false, false, false, false, false] rfl rfl (any_of HT_.out (by kernel_rfl)) (fun _ _ _ h => h) (Or.inl ⟨by rfl, ?_⟩) ?_ ?_
                      rotate_left
                      · intro w'
                        go_simp
                        with_reducible rfl
                      rotate_left
                      · simp only [Act.put, List.setIfInBounds_toArray, List.set_cons_zero, List.set_cons_succ, i64_w, i32_w]
                        rfl
                      refine pure_ (i := 8) (N := some 77) (v := ?_) (a' := ?_) #[true, true, true, true, true, true, false, true, true, false, false, false, false, false, false, false, false, false] rfl rfl (any_of HT_.out (by kernel_rfl)) (fun _ _ _ h => h) (Or.inl ⟨by rfl, ?_⟩) ?_ ?_
                      rotate_left
                      · intro w'
                        go_simp
                        with_reducible rfl
                      rotate_left
                      · simp only [Act.put, List.setIfInBounds_toArray, List.set_cons_zero, List.set_cons_succ, i64_w, i32_w]
                        rfl
                      refine pure_ (i := 9) (N := some 78) (v := ?_) (a' := ?_) #[true, true, true, true, true, true, false, true, true, true, false, false, false, false, false, false, false, false] rfl rfl (any_of HT_.out (by kernel_rfl)) (fun _ _ _ h => h) (Or.inl ⟨by rfl, ?_⟩) ?_ ?_
                      rotate_left
                      · intro w'
                        go_simp
                        with_reducible rfl
                      rotate_left
                      · simp only [Act.put, List.setIfInBounds_toArray, List.set_cons_zero, List.set_cons_succ, i64_w, i32_w]
                        rfl
                      refine pure_ (i := 10) (N := some 79) (v := ?_) (a' := ?_) #[true, true, true, true, true, true, false, true, true, true, true, false, false, false, false, false, false, false] rfl rfl (any_of HT_.out (by kernel_rfl)) (fun _ _ _ h => h) (Or.inl ⟨by rfl, ?_⟩) ?_ ?_
                      rotate_left
                      · intro w'
                        go_simp
                        with_reducible rfl
                      rotate_left
                      · simp only [Act.put, List.setIfInBounds_toArray, List.set_cons_zero, List.set_cons_succ, i64_w, i32_w]
                        rfl
                      refine take_ (i := 6) (N := some 75) (v := ?_) (a' := ?_) #[true, true, true, true, true, true, true, true, true, true, true, false, false, false, false, false, false, false] rfl rfl (take_ofW HT_.out HW_.out (by kernel_rfl)) (fun _ _ _ h => h) (Or.inl ⟨by rfl, ?_⟩) hHeld ?_ ?_
                      rotate_left
                      · rintro w' ⟨s0, s1, s2, s3⟩
                        go_simp
                        with_reducible rfl
                      rotate_left
                      · simp only [Act.put, List.setIfInBounds_toArray, List.set_cons_zero, List.set_cons_succ, i64_w, i32_w]
                        rfl
                      refine take_ (i := 11) (N := some 80) (v := ?_) (a' := ?_) #[true, true, true, true, true, true, true, true, true, true, true, true, false, false, false, false, false, false] rfl rfl (take_ofW HT_.out HW_.out (by kernel_rfl)) (fun _ _ _ h => h) (Or.inl ⟨by rfl, ?_⟩) hHeld ?_ ?_
                      rotate_left
                      · rintro w' ⟨s0, s1, s2, s3⟩
                        go_simp
                        with_reducible rfl
                      rotate_left
                      · simp only [Act.put, List.setIfInBounds_toArray, List.set_cons_zero, List.set_cons_succ, i64_w, i32_w]
                        rfl
                      refine one_ (i := 12) (N := some 81) #[true, true, true, true, true, true, true, true, true, true, true, true, true, false, false, false, false, false] rfl rfl (one_of HT_.out (by kernel_rfl)) (by decide) (fun K hK => ?_)
                      refine goes_ Tryd.func23 (by kernel_rfl) rfl #[.slice Ao29 x13_2.length co29, .string a2, .string ((rd_T37 t438 x16_2).f0), .int .i64 ((rd_T37 t438 x16_2).f1)] (by rfl) rfl rfl (by (try simp only [List.map_toArray, List.map_cons, List.map_nil]); first | done | rfl | (simp only [List.length_drop, List.length_take]; rfl)) ?_
                      with_reducible refine (ledger_Charge.calls _ _ x13_2 a2 ((rd_T37 t438 x16_2).f0) ((rd_T37 t438 x16_2).f1) t444 t445 _ ?side1 ?side2 ?side3 A21.out).mono ?_
                      (case side1 => repeat (first | exact (Kd.V_reads' HO_13.out).2.2 | (with_reducible refine Kd.C_alloc ?_ _) | (with_reducible refine Kd.C_drewN ?_ _) | (with_reducible refine Kd.C_drew ?_)))
                      (case side2 => exact (Kd.V_reads' HO_13.out).2.1)
                      (case side3 => exact Tabs.below hT (by repeat (first | (with_reducible first | exact HB.out | apply below_alloc | apply pw_below_drewN | apply below_drew1) | exact HB.out)))
                      rintro e w30 ⟨v446, rfl, ho0, hb⟩
                      have HS0_ := (hb.cell (World.block_lt_of_cell? _ _ (hHeld.1))).trans (hHeld.1)
                      have HS1_ := (hb.cell (World.block_lt_of_cell? _ _ (hHeld.2.1))).trans (hHeld.2.1)
                      have HS2_ := (hb.cell (World.block_lt_of_cell? _ _ (hHeld.2.2.1))).trans (hHeld.2.2.1)
                      have HS3_ := (hb.cell (World.block_lt_of_cell? _ _ (hHeld.2.2.2))).trans (hHeld.2.2.2)
                      refine ⟨_, rfl, ?_⟩
                      have n0_ := Aside0.mk (Kd.V_elder' (by (with_reducible repeat (first | apply Kd.V_alloc | apply Kd.V_drewN | apply Kd.V_drew)); exact HO_11.out) (Kd.S_base ho0) hb)
                      have n1_ := Aside0.mk (Kd.V_elder' (by (with_reducible repeat (first | apply Kd.V_alloc | apply Kd.V_drewN | apply Kd.V_drew)); exact HO_13.out) (Kd.S_base ho0) hb)
                      have n2_ := Aside0.mk (Kd.R_below (by (with_reducible repeat (first | apply Kd.R_alloc | apply Kd.R_drewN | apply Kd.R_drew)); exact HO_14.out) hb)
                      have n3_ := Aside0.mk (Kd.S_lower (Kd.S_new' ho0 (Kd.R_lt (by (with_reducible repeat (first | apply Kd.R_alloc | apply Kd.R_drewN | apply Kd.R_drew)); exact HO_14.out))) (below_size (by repeat (first | (with_reducible first | exact HB.out | apply below_alloc | apply pw_below_drewN | apply below_drew1) | exact HB.out))))
                      have n4_ := Aside0.mk (below_step (by repeat (first | (with_reducible first | exact HB.out | apply below_alloc | apply pw_below_drewN | apply below_drew1) | exact HB.out)) hb)
                      clear HO_11
                      clear HO_13
                      clear HO_14
                      clear HB
                      have HO_11 := n0_
                      have HO_13 := n1_
                      have HO_14 := n2_
                      have HO447 := n3_
                      have HB := n4_
                      clear n0_ n1_ n2_ n3_ n4_
                      (try clear hb)
                      (try clear hb2)
                      (try clear hk)
                      (try clear hi)
                      (try clear ho0)
                      refine hK.out _ _ ⟨HS0_, HS1_, HS2_, HS3_⟩ (fun hHeld => ?_)
                      clear hK K
                      refine norm_ (a' := ?_) ?_ ?_
                      rotate_left
                      · show Act.put _ (some 81) _ = _
                        simp only [Act.put, List.setIfInBounds_toArray, List.set_cons_zero, List.set_cons_succ, i64_w, i32_w]
                        rfl
                      refine pure_ (i := 13) (N := some 68) (v := ?_) (a' := ?_) #[true, true, true, true, true, true, true, true, true, true, true, true, true, true, false, false, false, false] rfl rfl (any_of HT_.out (by kernel_rfl)) (fun _ _ _ h => h) (Or.inl ⟨by rfl, ?_⟩) ?_ ?_
                      rotate_left
                      · intro w'
                        go_simp
                        with_reducible rfl
                      rotate_left
                      · simp only [Act.put, List.setIfInBounds_toArray, List.set_cons_zero, List.set_cons_succ, i64_w, i32_w]
                        rfl
                      refine pure_ (i := 14) (N := some 82) (v := ?_) (a' := ?_) #[true, true, true, true, true, true, true, true, true, true, true, true, true, true, true, false, false, false] rfl rfl (any_of HT_.out (by kernel_rfl)) (fun _ _ _ h => h) (Or.inl ⟨by rfl, ?_⟩) ?_ ?_
                      rotate_left
                      · intro w'
                        go_simp
                        with_reducible rfl
                      rotate_left
                      · simp only [Act.put, List.setIfInBounds_toArray, List.set_cons_zero, List.set_cons_succ, i64_w, i32_w]
                        rfl
                      refine pure_ (i := 15) (N := some 83) (v := ?_) (a' := ?_) #[true, true, true, true, true, true, true, true, true, true, true, true, true, true, true, true, false, false] rfl rfl (any_of HT_.out (by kernel_rfl)) (fun _ _ _ h => h) (Or.inl ⟨by rfl, ?_⟩) ?_ ?_
                      rotate_left
                      · intro w'
                        go_simp
                        with_reducible rfl
                      rotate_left
                      · simp only [Act.put, List.setIfInBounds_toArray, List.set_cons_zero, List.set_cons_succ, i64_w, i32_w]
                        rfl
                      refine pure_ (i := 16) (N := some 17) (v := ?_) (a' := ?_) #[true, true, true, true, true, true, true, true, true, true, true, true, true, true, true, true, true, false] rfl rfl (any_of HT_.out (by kernel_rfl)) (fun _ _ _ h => h) (Or.inl ⟨by rfl, ?_⟩) ?_ ?_
                      rotate_left
                      · intro w'
                        go_simp
                        with_reducible rfl
                      rotate_left
                      · simp only [Act.put, List.setIfInBounds_toArray, List.set_cons_zero, List.set_cons_succ, i64_w, i32_w]
                        rfl
                      refine pure_ (i := 17) (N := some 18) (v := ?_) (a' := ?_) #[true, true, true, true, true, true, true, true, true, true, true, true, true, true, true, true, true, true] rfl rfl (any_of HT_.out (by kernel_rfl)) (fun _ _ _ h => h) (Or.inl ⟨by rfl, ?_⟩) ?_ ?_
                      rotate_left
                      · intro w'
                        go_simp
                        with_reducible rfl
                      rotate_left
                      · simp only [Act.put, List.setIfInBounds_toArray, List.set_cons_zero, List.set_cons_succ, i64_w, i32_w]
                        rfl
                      refine done_ (done_of HT_.out (by kernel_rfl)) ?_
                      try go_wp2
                      go_ret
                      exact ⟨by first | rfl | (simp [errW_none, errW_some] <;> rfl) | (simp [*, errW_none, errW_some] <;> rfl), by repeat (first | (with_reducible first | exact HB.out | apply below_alloc | apply pw_below_drewN | apply below_drew1) | exact HB.out)⟩
                  · rw [if_neg c20] at H
                    exact absurd H (by simp)
                · rw [if_neg c19] at H
                  have c19b0 : decide (x16_2 < (t438.length : Int)) = false := decide_eq_false c19
                  clear c19
                  replace H := Option.bind_eq_some_iff.mp H
                  obtain ⟨t448, A310, H⟩ := H
                  replace H : (some t448) = some r := H
                  have A31 := Aside0.mk A310
                  clear A310
                  obtain rfl := Option.some.inj H
                  obtain ⟨Ao32, co32, eo32⟩ := Kd.R_slice HO_14.out
                  subst eo32
                  obtain ⟨Ao33, co33, eo33⟩ := Kd.V_slice HO_13.out
                  subst eo33
                  obtain ⟨Ao34, co34, eo34⟩ := Kd.V_slice HO_11.out
                  subst eo34
                  go_wp2_with (first | ((with_reducible refine gate_callee (f := 19) rfl ?_); refine goesL_ (some 89) rfl rfl Tryd.func19 (by kernel_rfl) rfl #[.slice Ao33 x13_2.length co33, .slice Ao34 t431.length co34] rfl (by (try simp only [List.map_toArray, List.map_cons, List.map_nil]); first | done | rfl | (simp only [List.length_drop, List.length_take]; rfl)) ?_; (with_reducible refine (malthouseref13_Same.calls k2 _ _ x13_2 _ _ t431 t448 _ ?side1 ?side2 ?side3 ?side4 A31.out).mono ?_); (case side1 => repeat (first | exact (Kd.V_reads' HO_13.out).2.2 | (with_reducible refine Kd.C_alloc ?_ _) | (with_reducible refine Kd.C_drewN ?_ _) | (with_reducible refine Kd.C_drew ?_))); (case side2 => exact (Kd.V_reads' HO_13.out).2.1); (case side3 => repeat (first | exact (Kd.V_reads' HO_11.out).2.2 | (with_reducible refine Kd.C_alloc ?_ _) | (with_reducible refine Kd.C_drewN ?_ _) | (with_reducible refine Kd.C_drew ?_))); (case side4 => exact (Kd.V_reads' HO_11.out).2.1); rintro e w' ⟨rfl, ⟨nd, rfl⟩⟩; refine ⟨_, rfl, ?_⟩))
                  go_ret
                  exact ⟨by first | rfl | (simp [errW_none, errW_some] <;> rfl) | (simp [*, errW_none, errW_some] <;> rfl), by repeat (first | (with_reducible first | exact HB.out | apply below_alloc | apply pw_below_drewN | apply below_drew1) | exact HB.out)⟩
          · rw [if_neg c16] at H
            have c16b0 : (t441 == 0) = false := beq_eq_false_iff_ne.mpr c16
            have c16b1 : (t441 != 0) = true := bne_iff_ne.mpr c16
            obtain rfl := Option.some.inj H
            go_wp2_with (first | ((with_reducible refine gate_callee (f := 26) rfl ?_); refine goesL_ (some 44) rfl rfl Tryd.func26 (by kernel_rfl) rfl #[.slice A0 l0.length c0, .string a1, .string a2, .int .i64 a3] rfl (by (try simp only [List.map_toArray, List.map_cons, List.map_nil]); first | done | rfl | (simp only [List.length_drop, List.length_take]; rfl)) ?_; (with_reducible refine (ledger_Move.calls _ _ l0 a1 a2 a3 t431 t434 _ ?side1 ?side2 ?side3 A13.out).mono ?_); (case side1 => repeat (first | exact (Kd.C_below HR0.out HB.out) | (with_reducible refine Kd.C_alloc ?_ _) | (with_reducible refine Kd.C_drewN ?_ _) | (with_reducible refine Kd.C_drew ?_))); (case side2 => exact HC0.out); (case side3 => exact Tabs.below hT (by repeat (first | (with_reducible first | exact HB.out | apply below_alloc | apply pw_below_drewN | apply below_drew1) | exact HB.out))); rintro e w35 ⟨v432, rfl, ho0, hb⟩; refine ⟨_, rfl, ?_⟩; have n0_ := Aside0.mk (Kd.V_lower (Kd.V_mono (ok' := fun k_ => True) ho0 (fun k_ hk_ => trivial)) (below_size (by repeat (first | (with_reducible first | exact HB.out | apply below_alloc | apply pw_below_drewN | apply below_drew1) | exact HB.out)))); have n1_ := Aside0.mk (below_step (by repeat (first | (with_reducible first | exact HB.out | apply below_alloc | apply pw_below_drewN | apply below_drew1) | exact HB.out)) hb); clear HB; have HO433 := n0_; have HB := n1_; clear n0_ n1_; (try clear hb); (try clear hb2); (try clear hk); (try clear hi); (try clear ho0)) | ((with_reducible refine gate_callee (f := 18) rfl ?_); refine goesL_ (some 51) rfl rfl Tryd.func18 (by kernel_rfl) rfl #[.slice A0 l0.length c0, .string a1, .int .i64 a3] rfl (by (try simp only [List.map_toArray, List.map_cons, List.map_nil]); first | done | rfl | (simp only [List.length_drop, List.length_take]; rfl)) ?_; (with_reducible refine (ledger_Draw.calls _ _ l0 a1 a3 t435 t438 t441 _ ?side1 ?side2 ?side3 A14.out).mono ?_); (case side1 => repeat (first | exact (Kd.C_below HR0.out HB.out) | (with_reducible refine Kd.C_alloc ?_ _) | (with_reducible refine Kd.C_drewN ?_ _) | (with_reducible refine Kd.C_drew ?_))); (case side2 => exact HC0.out); (case side3 => exact Tabs.below hT (by repeat (first | (with_reducible first | exact HB.out | apply below_alloc | apply pw_below_drewN | apply below_drew1) | exact HB.out))); rintro e w36 ⟨v436, v439, rfl, ho0, ho1, hb⟩; refine ⟨_, rfl, ?_⟩; have n0_ := Aside0.mk (Kd.V_elder' (by (with_reducible repeat (first | apply Kd.V_alloc | apply Kd.V_drewN | apply Kd.V_drew)); exact HO433.out) (Kd.R_base ho1) hb); have n1_ := Aside0.mk (Kd.V_lower (Kd.V_mono (ok' := fun k_ => some k_ ≠ (v439 : Value).ownBlock) ho0 (fun k_ hk_ => hk_.2)) (below_size (by repeat (first | (with_reducible first | exact HB.out | apply below_alloc | apply pw_below_drewN | apply below_drew1) | exact HB.out)))); have n2_ := Aside0.mk (Kd.R_lower (Kd.R_mono (ok' := fun k_ => True) ho1 (fun _ hk_ => trivial)) (below_size (by repeat (first | (with_reducible first | exact HB.out | apply below_alloc | apply pw_below_drewN | apply below_drew1) | exact HB.out)))); have n3_ := Aside0.mk (below_step (by repeat (first | (with_reducible first | exact HB.out | apply below_alloc | apply pw_below_drewN | apply below_drew1) | exact HB.out)) hb); clear HO433; clear HB; have HO433 := n0_; have HO437 := n1_; have HO440 := n2_; have HB := n3_; clear n0_ n1_ n2_ n3_; (try clear hb); (try clear hb2); (try clear hk); (try clear hi); (try clear ho0); (try clear ho1)))
            go_ret
            exact ⟨by first | rfl | (simp [errW_none, errW_some] <;> rfl) | (simp [*, errW_none, errW_some] <;> rfl), by repeat (first | (with_reducible first | exact HB.out | apply below_alloc | apply pw_below_drewN | apply below_drew1) | exact HB.out)⟩
        · rw [if_neg c15] at H
          have c15b0 : (t434 == 0) = false := beq_eq_false_iff_ne.mpr c15
          have c15b1 : (t434 != 0) = true := bne_iff_ne.mpr c15
          obtain rfl := Option.some.inj H
          go_wp2_with (first | ((with_reducible refine gate_callee (f := 26) rfl ?_); refine goesL_ (some 44) rfl rfl Tryd.func26 (by kernel_rfl) rfl #[.slice A0 l0.length c0, .string a1, .string a2, .int .i64 a3] rfl (by (try simp only [List.map_toArray, List.map_cons, List.map_nil]); first | done | rfl | (simp only [List.length_drop, List.length_take]; rfl)) ?_; (with_reducible refine (ledger_Move.calls _ _ l0 a1 a2 a3 t431 t434 _ ?side1 ?side2 ?side3 A13.out).mono ?_); (case side1 => repeat (first | exact (Kd.C_below HR0.out HB.out) | (with_reducible refine Kd.C_alloc ?_ _) | (with_reducible refine Kd.C_drewN ?_ _) | (with_reducible refine Kd.C_drew ?_))); (case side2 => exact HC0.out); (case side3 => exact Tabs.below hT (by repeat (first | (with_reducible first | exact HB.out | apply below_alloc | apply pw_below_drewN | apply below_drew1) | exact HB.out))); rintro e w37 ⟨v432, rfl, ho0, hb⟩; refine ⟨_, rfl, ?_⟩; have n0_ := Aside0.mk (Kd.V_lower (Kd.V_mono (ok' := fun k_ => True) ho0 (fun k_ hk_ => trivial)) (below_size (by repeat (first | (with_reducible first | exact HB.out | apply below_alloc | apply pw_below_drewN | apply below_drew1) | exact HB.out)))); have n1_ := Aside0.mk (below_step (by repeat (first | (with_reducible first | exact HB.out | apply below_alloc | apply pw_below_drewN | apply below_drew1) | exact HB.out)) hb); clear HB; have HO433 := n0_; have HB := n1_; clear n0_ n1_; (try clear hb); (try clear hb2); (try clear hk); (try clear hi); (try clear ho0)) | ((with_reducible refine gate_callee (f := 18) rfl ?_); refine goesL_ (some 51) rfl rfl Tryd.func18 (by kernel_rfl) rfl #[.slice A0 l0.length c0, .string a1, .int .i64 a3] rfl (by (try simp only [List.map_toArray, List.map_cons, List.map_nil]); first | done | rfl | (simp only [List.length_drop, List.length_take]; rfl)) ?_; (with_reducible refine (ledger_Draw.calls _ _ l0 a1 a3 t435 t438 t441 _ ?side1 ?side2 ?side3 A14.out).mono ?_); (case side1 => repeat (first | exact (Kd.C_below HR0.out HB.out) | (with_reducible refine Kd.C_alloc ?_ _) | (with_reducible refine Kd.C_drewN ?_ _) | (with_reducible refine Kd.C_drew ?_))); (case side2 => exact HC0.out); (case side3 => exact Tabs.below hT (by repeat (first | (with_reducible first | exact HB.out | apply below_alloc | apply pw_below_drewN | apply below_drew1) | exact HB.out))); rintro e w38 ⟨v436, v439, rfl, ho0, ho1, hb⟩; refine ⟨_, rfl, ?_⟩; have n0_ := Aside0.mk (Kd.V_elder' (by (with_reducible repeat (first | apply Kd.V_alloc | apply Kd.V_drewN | apply Kd.V_drew)); exact HO433.out) (Kd.R_base ho1) hb); have n1_ := Aside0.mk (Kd.V_lower (Kd.V_mono (ok' := fun k_ => some k_ ≠ (v439 : Value).ownBlock) ho0 (fun k_ hk_ => hk_.2)) (below_size (by repeat (first | (with_reducible first | exact HB.out | apply below_alloc | apply pw_below_drewN | apply below_drew1) | exact HB.out)))); have n2_ := Aside0.mk (Kd.R_lower (Kd.R_mono (ok' := fun k_ => True) ho1 (fun _ hk_ => trivial)) (below_size (by repeat (first | (with_reducible first | exact HB.out | apply below_alloc | apply pw_below_drewN | apply below_drew1) | exact HB.out)))); have n3_ := Aside0.mk (below_step (by repeat (first | (with_reducible first | exact HB.out | apply below_alloc | apply pw_below_drewN | apply below_drew1) | exact HB.out)) hb); clear HO433; clear HB; have HO433 := n0_; have HO437 := n1_; have HO440 := n2_; have HB := n3_; clear n0_ n1_ n2_ n3_; (try clear hb); (try clear hb2); (try clear hk); (try clear hi); (try clear ho0); (try clear ho1); obtain ⟨Ao39, co39, eo39⟩ := Kd.V_slice HO433.out; subst eo39))
          go_ret
          exact ⟨by first | rfl | (simp [errW_none, errW_some] <;> rfl) | (simp [*, errW_none, errW_some] <;> rfl), by repeat (first | (with_reducible first | exact HB.out | apply below_alloc | apply pw_below_drewN | apply below_drew1) | exact HB.out)⟩
end Go.Proofs.YtejecmjajdhiiaaDoor.Print
/-! ### LgMvLaw -/
namespace Go.Proofs.YtejecmjajdhiiaaDoor.Print
open Go.RowKit Go.Proofs.YtejecmjajdhiiaaDoorW.PrintWords Go.Proofs.YtejecmjajdhiiaaDoorW.PrintLast Go.Proofs.YtejecmjajdhiiaaDoorW.PrintMore
set_option linter.unusedSimpArgs false
set_option linter.unusedVariables false
theorem any_false {α : Type} (p : α → Bool) (l : List α) : l.any p = false ↔ ∀ (j : Nat) (x : α), l[j]? = some x → p x = false := by
  rw [List.any_eq_false]
  constructor
  · intro h j x hx
    have := h x (List.mem_of_getElem? hx)
    simpa using this
  · intro h x hx
    obtain ⟨j, hj⟩ := List.mem_iff_getElem?.1 hx
    simp [h j x hj]
theorem many_mono {c : List S25} {k : Nat} {z : S25} {A B : List S37} (hk : k < c.length) (h : (c.set k (turned z A)).any manyLots = false) (hl : B.length ≤ A.length) : (c.set k (turned z B)).any manyLots = false := by
  rw [any_false] at h ⊢
  intro j x hx
  by_cases hj : j = k
  · subst hj
    rw [List.getElem?_set_self hk] at hx
    obtain rfl := Option.some.inj hx
    have := h j _ (List.getElem?_set_self hk)
    unfold manyLots at this ⊢
    have h2 := of_decide_eq_false this
    exact decide_eq_false (by show ¬ 5 < B.length; have h3 : ¬ 5 < A.length := h2; omega)
  · rw [List.getElem?_set_ne (Ne.symm hj)] at hx
    exact h j x (by rw [List.getElem?_set_ne (Ne.symm hj)]; exact hx)
theorem Lite.turn {l : List S25} (h : Lite l) {i : Nat} {x : S25} {m : List S37} (hx : l[i]? = some x) (hm : m.length ≤ 60) (hn : ∀ y ∈ m, y.f0.size ≤ 1000000000) : Lite (l.set i (turned x m)) := by
  refine ⟨by rw [List.length_set]; exact h.len, fun y hy => ?_⟩
  obtain ⟨j, hj⟩ := List.mem_iff_getElem?.1 hy
  by_cases hji : j = i
  · subst hji
    rw [List.getElem?_set_self (List.getElem?_eq_some_iff.1 hx).1] at hj
    obtain rfl := Option.some.inj hj
    have hx2 := h.all x (List.mem_of_getElem? hx)
    exact ⟨hx2.name, hx2.lo, hx2.hi, hm, hn⟩
  · rw [List.getElem?_set_ne (Ne.symm hji)] at hj
    exact h.all y (List.mem_of_getElem? hj)
theorem charge_ok {l : List S25} (hl : Lite l) (hg : Good l) {a b : ByteArray} {n : Int} {k : Nat} (hf : firstFrom (vesselIs a) 0 l = (k : Int)) {y : S25} (hy : l[k]? = some y) (hb : nameB b = true) (hbs : b.size ≤ 1000000000) (hn : 1 ≤ n) (hr : sumL y.f2 + n ≤ y.f1) (hm : (l.set k (turned y (pourM y.f2 ⟨b, n⟩))).any manyLots = false) :
    ledger_Charge.f l a b n = some (l.set k (turned y (pourM y.f2 ⟨b, n⟩)), 0) := by
  obtain ⟨v1, v2, v3⟩ := hg.all k y hy
  obtain ⟨q1, q2, q3, q4, q5⟩ := (vesB_iff y).1 v1
  have hs0 := fine_sum _ _ q4
  have e : rd_T25 l (k : Int) = y := by rw [show rd_T25 l (k : Int) = l[k]'(List.getElem?_eq_some_iff.1 hy).1 from getD_at l _ k _]; exact (List.getElem?_eq_some_iff.1 hy).2
  unfold ledger_Charge.f
  rw [if_pos (smallV_lite hl), check_lite hl, (good_iff l).2 hg]
  simp only [Option.bind_some]
  rw [if_pos trivial, lex_name_is b hbs, hb]
  simp only [Option.bind_some]
  rw [if_pos trivial, find_lite hl, hf]
  simp only [Option.bind_some]
  rw [if_neg (by omega), if_neg (by omega), e]
  unfold ledger_room.f
  rw [level_lite (hl.all y (List.mem_of_getElem? hy)), level_good hg hy]
  simp only [Option.bind_some]
  rw [wrap_small _ (by omega) (by omega), if_neg (by omega), if_pos (pourOk_good (x := ⟨b, n⟩) q4 (by omega) hn (by show n ≤ _; omega))]
  unfold outV
  rw [Int.toNat_natCast, hm, if_neg (by simp)]
theorem pours_grow : ∀ (o l : List S37), l.length ≤ (poursM l o).length
  | [], l => Nat.le_refl _
  | x :: o, l => Nat.le_trans (pour_grow x l) (pours_grow o (pourM l x))
theorem moves_loop (b : ByteArray) (out : List S37) (hol : out.length ≤ 1000) : ∀ (o : List S37) (j : Nat) (c : List S25) (k K : Nat) (z : S25), out.drop j = o → Lite c → Good c → c[k]? = some z → firstFrom (vesselIs b) 0 c = (k : Int) → (∀ y ∈ o, nameB y.f0 = true ∧ 1 ≤ y.f1 ∧ y.f0.size ≤ 1000000000) → sumL z.f2 + sumL o ≤ z.f1 →
    (c.set k (turned z (poursM z.f2 o))).any manyLots = false → o.length + 200 ≤ K → malthouselaw13_LedgerMoves.l0 K b (c.set k (turned z (poursM z.f2 o))) c out (j : Int) = some true := by
  intro o
  induction o with
  | nil =>
    intro j c k K z hd hl hg hz hf ho hs hm hK
    obtain ⟨K, rfl⟩ : ∃ K', K = K' + 1 := ⟨K - 1, by omega⟩
    simp only [malthouselaw13_LedgerMoves.l0]
    have hj : out.length ≤ j := by
      have := congrArg List.length hd
      simp only [List.length_drop, List.length_nil] at this
      omega
    rw [if_neg (by omega)]
    have e : c.set k (turned z (poursM z.f2 [])) = c := set_same hz
    rw [e, same_is 60 (by omega) c (by have := hl.len; omega) (fun x hx => (hl.all x hx).len) K (by have := hl.len; simp at hK; omega)]
    rfl
  | cons x o ih =>
    intro j c k K z hd hl hg hz hf ho hs hm hK
    obtain ⟨K, rfl⟩ : ∃ K', K = K' + 1 := ⟨K - 1, by omega⟩
    have hkl := (List.getElem?_eq_some_iff.1 hz).1
    have hjl : j < out.length := by
      have := congrArg List.length hd
      simp only [List.length_drop, List.length_cons] at this
      omega
    rw [List.drop_eq_getElem_cons hjl] at hd
    injection hd with hd1 hd2
    have e : rd_T37 out (j : Int) = x := by rw [show rd_T37 out (j : Int) = out[j] from getD_at out _ j hjl, hd1]
    obtain ⟨x1, x2, x3⟩ := ho x (by simp)
    obtain ⟨v1, v2, v3⟩ := hg.all k z hz
    obtain ⟨q1, q2, q3, q4, q5⟩ := (vesB_iff z).1 v1
    rw [sumL_cons] at hs
    have hso := (sumL_pos o (fun y hy => (ho y (by simp [hy])).2.1)).1
    have hgrow : (pourM z.f2 x).length ≤ (poursM z.f2 (x :: o)).length := pours_grow o (pourM z.f2 x)
    have hm1 : (c.set k (turned z (pourM z.f2 x))).any manyLots = false := many_mono hkl hm hgrow
    have hlen5 : (pourM z.f2 x).length ≤ 5 := by
      have := (any_false manyLots _).1 hm1 k _ (List.getElem?_set_self hkl)
      unfold manyLots at this
      have h2 := of_decide_eq_false this
      have h3 : ¬ 5 < (pourM z.f2 x).length := h2
      omega
    have hch := charge_ok hl hg hf hz (b := x.f0) (n := x.f1) x1 x3 x2 (by omega) hm1
    have hv' : vesB (turned z (pourM z.f2 x)) = true := (vesB_iff _).2 ⟨q1, q2, q3, pour_fine x x1 x2 z.f2 none q4 (by simp), by show sumL (pourM z.f2 x) ≤ z.f1; rw [pour_sum]; omega⟩
    have hl' := hl.turn hz (m := pourM z.f2 x) (by omega) (fun y hy => by
      rcases pour_names x z.f2 y hy with h | ⟨w, h1, h2⟩
      · rw [h]; exact x3
      · rw [← h2]; exact (hl.all z (List.mem_of_getElem? hz)).lots w h1)
    have hg' := hg.turn hz hv' hlen5
    have hz' : (c.set k (turned z (pourM z.f2 x)))[k]? = some (turned z (pourM z.f2 x)) := List.getElem?_set_self hkl
    have hset : (c.set k (turned z (pourM z.f2 x))).set k (turned (turned z (pourM z.f2 x)) (poursM (turned z (pourM z.f2 x)).f2 o)) = c.set k (turned z (poursM z.f2 (x :: o))) := by
      rw [List.set_set]
      rfl
    have := ih (j + 1) (c.set k (turned z (pourM z.f2 x))) k K (turned z (pourM z.f2 x)) hd2 hl' hg' hz' (by rw [firstFrom_names _ _ c 0 (names_turn _ hz)]; exact hf) (fun y hy => ho y (by simp [hy])) (by show sumL (pourM z.f2 x) + sumL o ≤ z.f1; rw [pour_sum]; omega) (by rw [hset]; exact hm) (by simp at hK; omega)
    rw [hset] at this
    simp only [malthouselaw13_LedgerMoves.l0]
    rw [if_pos (by omega), if_pos (by omega), e, hch]
    simp only [Option.bind_some]
    rw [if_pos trivial, wrap_small _ (by omega) (by omega), show (j : Int) + 1 = ((j + 1 : Nat) : Int) by omega]
    exact this
end Go.Proofs.YtejecmjajdhiiaaDoor.Print
/-! ### LgMvLaw2 -/
namespace Go.Proofs.YtejecmjajdhiiaaDoor.Print
open Go.RowKit Go.Proofs.YtejecmjajdhiiaaDoorW.PrintWords Go.Proofs.YtejecmjajdhiiaaDoorW.PrintLast Go.Proofs.YtejecmjajdhiiaaDoorW.PrintMore
set_option linter.unusedSimpArgs false
set_option linter.unusedVariables false
theorem firstFrom_at {l : List S25} {a : ByteArray} (h : ¬ firstFrom (vesselIs a) 0 l < 0) : ∃ (k : Nat) (x : S25), firstFrom (vesselIs a) 0 l = (k : Int) ∧ l[k]? = some x := by
  obtain ⟨k, hk⟩ := Int.eq_ofNat_of_zero_le (show 0 ≤ firstFrom (vesselIs a) 0 l by omega)
  obtain ⟨x, hx, _⟩ := firstFrom_spec (vesselIs a) l 0 k (by rw [hk]; simp)
  exact ⟨k, x, hk, hx⟩
theorem rd_at {l : List S25} {k : Nat} {x : S25} (hx : l[k]? = some x) : rd_T25 l (k : Int) = x := by
  rw [show rd_T25 l (k : Int) = l[k]'(List.getElem?_eq_some_iff.1 hx).1 from getD_at l _ k _]
  exact (List.getElem?_eq_some_iff.1 hx).2
theorem len_pos {l : List S37} (h : 1 ≤ sumL l) : 0 < l.length := by
  cases l with
  | nil => have : sumL ([] : List S37) = 0 := rfl; omega
  | cons x l => simp
theorem drawOk_good {l : List S25} (hg : Good l) {j : Nat} {x : S25} (hx : l[j]? = some x) {n : Int} (hn : 1 ≤ n) (hr : n ≤ sumL x.f2) : drawOk x.f2 n = true := by
  obtain ⟨q1, q2, q3, q4, q5⟩ := (vesB_iff x).1 (hg.all j x hx).1
  unfold drawOk
  rw [lots_good q4 (by omega)]
  have h1 : n ≤ 1125899906842624 := by omega
  have h2 : 0 < x.f2.length := len_pos (by omega)
  simp [h1]
  exact h2
theorem draw_val {l : List S25} (hl : Lite l) (hg : Good l) {a : ByteArray} {n : Int} {i : Nat} (hf : firstFrom (vesselIs a) 0 l = (i : Int)) {x : S25} (hx : l[i]? = some x) (hn : 1 ≤ n) (hr : n ≤ sumL x.f2) :
    ledger_Draw.f l a n = some (l.set i (turned x (takeM x.f2 n).1), (takeM x.f2 n).2, 0) := by
  unfold ledger_Draw.f
  rw [if_pos (smallV_lite hl), check_lite hl, (good_iff l).2 hg]
  simp only [Option.bind_some]
  rw [if_pos trivial, find_lite hl, hf]
  simp only [Option.bind_some]
  rw [if_neg (by omega), if_neg (by omega), rd_at hx, level_lite (hl.all x (List.mem_of_getElem? hx)), level_good hg hx]
  simp only [Option.bind_some]
  rw [if_neg (by omega), if_pos (drawOk_good hg hx hn hr), Int.toNat_natCast]
theorem draw_tot {l : List S25} (hl : Lite l) (a : ByteArray) (n : Int) : ∃ r, ledger_Draw.f l a n = some r := by
  by_cases hg : checkM l = 0
  · have hG := (good_iff l).1 hg
    by_cases hi : firstFrom (vesselIs a) 0 l < 0
    · refine ⟨([], [], 4), ?_⟩
      unfold ledger_Draw.f
      rw [if_pos (smallV_lite hl), check_lite hl, hg]
      simp only [Option.bind_some]
      rw [if_pos trivial, find_lite hl]
      simp only [Option.bind_some]
      rw [if_pos hi]
    · obtain ⟨i, x, hf, hx⟩ := firstFrom_at hi
      by_cases hn : n < 1
      · refine ⟨([], [], 130), ?_⟩
        unfold ledger_Draw.f
        rw [if_pos (smallV_lite hl), check_lite hl, hg]
        simp only [Option.bind_some]
        rw [if_pos trivial, find_lite hl]
        simp only [Option.bind_some]
        rw [if_neg hi, if_pos hn]
      · by_cases hr : sumL x.f2 < n
        · refine ⟨([], [], 130), ?_⟩
          unfold ledger_Draw.f
          rw [if_pos (smallV_lite hl), check_lite hl, hg]
          simp only [Option.bind_some]
          rw [if_pos trivial, find_lite hl, hf]
          simp only [Option.bind_some]
          rw [if_neg (by omega), if_neg hn, rd_at hx, level_lite (hl.all x (List.mem_of_getElem? hx)), level_good hG hx]
          simp only [Option.bind_some]
          rw [if_pos hr]
        · exact ⟨_, draw_val hl hG hf hx (by omega) (by omega)⟩
  · refine ⟨([], [], 1), ?_⟩
    unfold ledger_Draw.f
    rw [if_pos (smallV_lite hl), check_lite hl]
    simp only [Option.bind_some]
    rw [if_neg hg]
/-- Move's answers on such vessels: none, or the very lists. -/
theorem move_val {l : List S25} (hl : Lite l) (a b : ByteArray) (n : Int) : (∃ e, e ≠ 0 ∧ ledger_Move.f l a b n = some ([], e)) ∨
    (Good l ∧ 1 ≤ n ∧ ∃ (i k : Nat) (x y : S25), k ≠ i ∧ firstFrom (vesselIs a) 0 l = (i : Int) ∧ firstFrom (vesselIs b) 0 l = (k : Int) ∧ l[i]? = some x ∧ l[k]? = some y ∧ n ≤ sumL x.f2 ∧ sumL y.f2 + n ≤ y.f1 ∧ (movedM l i k x y n).any manyLots = false ∧ ledger_Move.f l a b n = some (movedM l i k x y n, 0)) := by
  unfold ledger_Move.f
  rw [if_pos (smallV_lite hl), check_lite hl]
  simp only [Option.bind_some]
  by_cases hg : checkM l = 0
  rotate_left
  · exact .inl ⟨1, by decide, by rw [if_neg hg]⟩
  have hG := (good_iff l).1 hg
  rw [if_pos hg]
  by_cases hab : a = b
  · exact .inl ⟨1, by decide, by rw [if_pos hab]⟩
  rw [if_neg hab, find_lite hl, find_lite hl]
  simp only [Option.bind_some]
  by_cases hi : firstFrom (vesselIs a) 0 l < 0
  · exact .inl ⟨4, by decide, by rw [if_pos hi]⟩
  by_cases hk : firstFrom (vesselIs b) 0 l < 0
  · exact .inl ⟨4, by decide, by rw [if_neg hi, if_pos hk]⟩
  by_cases hn : n < 1
  · exact .inl ⟨130, by decide, by rw [if_neg hi, if_neg hk, if_pos hn]⟩
  obtain ⟨i, x, hf, hx⟩ := firstFrom_at hi
  obtain ⟨k, y, hf2, hy⟩ := firstFrom_at hk
  have hne : k ≠ i := find_ne (l := l) (a := a) (b := b) (by rw [find_lite hl, hf]) (by rw [find_lite hl, hf2]) hab
  obtain ⟨p1, p2, p3, p4, p5⟩ := (vesB_iff x).1 (hG.all i x hx).1
  obtain ⟨q1, q2, q3, q4, q5⟩ := (vesB_iff y).1 (hG.all k y hy).1
  have hs0 := fine_sum _ _ q4
  rw [if_neg hi, if_neg hk, if_neg hn, hf, hf2, rd_at hx, rd_at hy, level_lite (hl.all x (List.mem_of_getElem? hx)), level_good hG hx]
  unfold ledger_room.f
  rw [level_lite (hl.all y (List.mem_of_getElem? hy)), level_good hG hy]
  simp only [Option.bind_some]
  by_cases hr : sumL x.f2 < n
  · exact .inl ⟨130, by decide, by rw [if_pos hr]⟩
  rw [if_neg hr, wrap_small _ (by omega) (by omega)]
  by_cases hq : y.f1 - sumL y.f2 < n
  · exact .inl ⟨130, by decide, by rw [if_pos hq]⟩
  rw [if_neg hq]
  have hts := takeM_sum x.f2 none n p4 (by omega) (by omega)
  have hout := takeM_out x.f2 none n p4
  have hmo : moveOk x y n = true := by
    unfold moveOk
    rw [drawOk_good hG hx (by omega) (by omega), poursOk_good _ _ q4 (fun z hz => ⟨(hout z hz).1, (hout z hz).2.1⟩) (by rw [hts.1]; omega)]
    have h1 := (hG.all i x hx).2.2
    have h2 := (hG.all k y hy).2.2
    simp
    omega
  rw [if_pos hmo, Int.toNat_natCast, Int.toNat_natCast]
  unfold outV
  cases hm : (movedM l i k x y n).any manyLots
  · exact .inr ⟨hG, by omega, i, k, x, y, hne, rfl, rfl, hx, hy, by omega, by omega, hm, by rw [if_neg (by simp)]⟩
  · exact .inl ⟨2, by decide, by rw [if_pos rfl]⟩
theorem moves_is (l : List S25) (hr : ∀ x ∈ l, -9223372036854775808 ≤ x.f1 ∧ x.f1 ≤ 9223372036854775807) (a b : ByteArray) (n : Int) : malthouselaw13_LedgerMoves.f 5000 l a b n = some true := by
  have hj : ∀ x37 x0 x1 x2 x3, x37 = true → malthouselaw13_LedgerMoves.j0 5000 x0 x1 x2 x3 true x37 = some true := by
    intro x37 x0 x1 x2 x3 h
    rw [show (5000 : Nat) = 4999 + 1 from rfl]
    simp only [malthouselaw13_LedgerMoves.j0]
    rw [if_pos h]
  have ha : malthouselaw13_awake.f = some true := rfl
  unfold malthouselaw13_LedgerMoves.f
  rw [ha, light_is l 5000 (by omega)]
  simp only [Option.bind_some, if_true]
  cases hL : lightM l
  · rw [if_neg (by simp)]
    exact hj _ _ _ _ _ rfl
  rw [if_pos rfl]
  by_cases h1 : (a.size : Int) > 200
  · rw [if_pos h1]
    exact hj _ _ _ _ _ rfl
  rw [if_neg h1]
  by_cases h2 : (b.size : Int) > 200
  · exact hj _ _ _ _ _ (decide_eq_true h2)
  rw [decide_eq_false h2, show (5000 : Nat) = 4999 + 1 from rfl]
  simp only [malthouselaw13_LedgerMoves.j0]
  rw [if_neg (by simp)]
  have hl := lite_of hL hr
  obtain ⟨d, hd⟩ := draw_tot hl a n
  rcases move_val hl a b n with ⟨e, he, hm⟩ | ⟨hG, hn, i, k, x, y, hne, hf, hf2, hx, hy, hs, hs2, hmm, hm⟩
  · rw [hm, hd]
    simp only [Option.bind_some]
    rw [if_neg he]
    rfl
  · rw [hm, draw_val hl hG hf hx hn hs]
    simp only [Option.bind_some]
    rw [if_pos trivial, if_pos trivial]
    obtain ⟨p1, p2, p3, p4, p5⟩ := (vesB_iff x).1 (hG.all i x hx).1
    obtain ⟨q1, q2, q3, q4, q5⟩ := (vesB_iff y).1 (hG.all k y hy).1
    have hts := takeM_sum x.f2 none n p4 (by omega) hs
    have hout := takeM_out x.f2 none n p4
    have hrest := takeM_rest x.f2 n
    have hx5 := (hG.all i x hx).2.2
    have hol := takeM_len x.f2 n
    have hlx := hl.all x (List.mem_of_getElem? hx)
    have hl' := hl.turn hx (m := (takeM x.f2 n).1) (by omega) (fun z hz => by obtain ⟨q, h1, h2⟩ := hrest.2 z hz; rw [← h2]; exact hlx.lots q h1)
    have hg' := hG.turn hx (m := (takeM x.f2 n).1) ((vesB_iff _).2 ⟨p1, p2, p3, takeM_fine x.f2 none n p4, by show sumL (takeM x.f2 n).1 ≤ x.f1; omega⟩) (by omega)
    have hy' : (l.set i (turned x (takeM x.f2 n).1))[k]? = some y := by rw [List.getElem?_set_ne (Ne.symm hne)]; exact hy
    have := moves_loop b (takeM x.f2 n).2 (by omega) (takeM x.f2 n).2 0 (l.set i (turned x (takeM x.f2 n).1)) k 4999 y rfl hl' hg' hy' (by rw [firstFrom_names _ _ l 0 (names_turn _ hx)]; exact hf2)
      (fun z hz => by obtain ⟨h1, h2, q, h3, h4⟩ := hout z hz; exact ⟨h1, h2, by rw [← h4]; exact hlx.lots q h3⟩) (by rw [hts.1]; omega) hmm (by omega)
    exact this
end Go.Proofs.YtejecmjajdhiiaaDoor.Print
/-! ### RdKd -/
namespace Go.Proofs.YtejecmjajdhiiaaDoor
open Go.RowKit Go.Proofs.YtejecmjajdhiiaaDoorW.PrintWords
/-- A row that came in, its elements turned. -/
theorem C_of_row {α β : Type} {n : Nat} {R : Rd α} {d : Kd β} (g : α → β) {w : World} {A : Option Addr} {xs : List α} (hn : d.sz = n) (hm : xs.length ≤ 9223372036854775807) (hx : rdRow n R w A xs) (hc : ∀ es x, es.length = n → R w es x → d.K w (g x) es) :
    Kd.C d w A (xs.map g).length (xs.map g) := by
  subst hn
  refine ⟨rfl, by rw [List.length_map]; omega, fun h0 => ?_⟩
  rw [List.length_map] at h0
  obtain ⟨ad, es, hA, _, _, _⟩ := hx 0 _ (List.getElem?_eq_getElem h0)
  refine ⟨ad, hA, fun j p hj => ?_⟩
  rw [List.getElem?_map] at hj
  cases hx' : xs[j]? with
  | none => rw [hx'] at hj; simp at hj
  | some x =>
    rw [hx'] at hj
    obtain rfl := Option.some.inj hj
    obtain ⟨ad', es', hA', hl, hcs, hR⟩ := hx j x hx'
    obtain rfl := Option.some.inj (hA.symm.trans hA')
    refine ⟨es', hl, hc es' x hl hR, fun i u hu => ?_⟩
    have := hcs i u hu
    rwa [Go.Deep.add_add] at this
/-- What holds of every element's reading. -/
theorem row_all {α : Type} {n : Nat} {R : Rd α} {w : World} {A : Option Addr} {xs : List α} (P : α → Prop) (hx : rdRow n R w A xs) (hc : ∀ es x, R w es x → P x) : ∀ x ∈ xs, P x := by
  intro x h
  obtain ⟨j, hj⟩ := List.getElem?_of_mem h
  obtain ⟨_, es, _, _, _, hR⟩ := hx j x hj
  exact hc es x hR
theorem len2 {es : List Value} (h : es.length = 2) : ∃ a b, es = [a, b] := by match es, h with | [a, b], _ => exact ⟨a, b, rfl⟩
theorem len3 {es : List Value} (h : es.length = 3) : ∃ a b c, es = [a, b, c] := by match es, h with | [a, b, c], _ => exact ⟨a, b, c, rfl⟩
end Go.Proofs.YtejecmjajdhiiaaDoor
/-! ### LgIn -/
namespace Go.Proofs.YtejecmjajdhiiaaDoor.Print
open Go.RowKit Go.Proofs.YtejecmjajdhiiaaDoorW.PrintWords Go.Proofs.YtejecmjajdhiiaaDoorW.PrintLast Go.Proofs.YtejecmjajdhiiaaDoorW.PrintMore
set_option linter.unusedSimpArgs false
set_option linter.unusedVariables false
abbrev LotR := ByteArray × Int × Unit
def rLot : Rd LotR := rdPair 1 rdStr (rdPair 1 (rdInt .i64) rdUnit)
def gLot (x : LotR) : S37 := ⟨x.1, x.2.1⟩
abbrev VesR := ByteArray × Int × List LotR × Unit
def rVes : Rd VesR := rdPair 1 rdStr (rdPair 1 (rdInt .i64) (rdPair 1 (rdSl 2 24 rLot) rdUnit))
def gVes (x : VesR) : S25 := ⟨x.1, x.2.1, x.2.2.1.map gLot⟩
section
variable {H : Type} (enc : TypeId × Value → H) (w : World)
theorem lot_opens : Opens enc Tryd.prog w 37 rLot := opens_struct Tryd.underlying37 (opens_cons rfl (by kernel_rfl) (opens_str Tryd.underlying9) (opens_cons rfl (by kernel_rfl) (opens_int Tryd.underlying3) opens_nil))
theorem ves_opens : Opens enc Tryd.prog w 25 rVes := opens_struct Tryd.underlying25 (opens_cons rfl (by kernel_rfl) (opens_str Tryd.underlying9) (opens_cons rfl (by kernel_rfl) (opens_int Tryd.underlying3) (opens_cons rfl (by kernel_rfl) (opens_sl Tryd.underlying23 (by kernel_rfl) (by kernel_rfl) (lot_opens enc w)) opens_nil)))
theorem vess_opens : Opens enc Tryd.prog w 22 (rdSl 3 48 rVes) := opens_sl Tryd.underlying22 (by kernel_rfl) (by kernel_rfl) (ves_opens enc w)
end
theorem lot_K {w : World} {es : List Value} {x : LotR} (hl : es.length = 2) (h : rLot w es x) : k37.K w (gLot x) es := by
  obtain ⟨a, b, rfl⟩ := len2 hl
  obtain ⟨⟨h1, _⟩, ⟨h2, _⟩, _⟩ := h
  simp at h1 h2
  subst h1 h2
  exact k37_mk w (gLot x)
theorem C_lotr {w : World} {A : Option Addr} {xs : List LotR} (hm : xs.length ≤ 9223372036854775807) (hx : rdRow 2 rLot w A xs) : Kd.C k37 w A (xs.map gLot).length (xs.map gLot) := C_of_row gLot rfl hm hx (fun _ _ hl h => lot_K hl h)
theorem ves_K {w : World} {es : List Value} {x : VesR} (hl : es.length = 3) (h : rVes w es x) : k25.K w (gVes x) es := by
  obtain ⟨a, b, c, rfl⟩ := len3 hl
  obtain ⟨⟨h1, _⟩, ⟨h2, _⟩, ⟨A0, c0, e1, hl1, _, hm1, hr1⟩, _⟩ := h
  simp at h1 h2 e1
  subst h1 h2 e1
  have k1 := C_lotr (by omega) hr1
  have e : x.2.2.1.length = (gVes x).f2.length := by show _ = (x.2.2.1.map gLot).length; rw [List.length_map]
  rw [e]
  exact k25_mk w (gVes x) (by rw [← e]; exact hl1) k1
theorem C_vesr {w : World} {A : Option Addr} {xs : List VesR} (hm : xs.length ≤ 9223372036854775807) (hx : rdRow 3 rVes w A xs) : Kd.C k25 w A (xs.map gVes).length (xs.map gVes) := C_of_row gVes rfl hm hx (fun _ _ hl h => ves_K hl h)
theorem wf_i64 {n : Int} (h : (Lit.int .i64 n).wf = true) : -9223372036854775808 ≤ n ∧ n ≤ 9223372036854775807 := by
  simp only [Lit.wf, Bool.and_eq_true, decide_eq_true_eq] at h
  exact ⟨h.1, h.2⟩
theorem ves_range {w : World} {A : Option Addr} {xs : List VesR} (hx : rdRow 3 rVes w A xs) : ∀ x ∈ xs.map gVes, -9223372036854775808 ≤ x.f1 ∧ x.f1 ≤ 9223372036854775807 := by
  intro x h
  obtain ⟨y, hy, rfl⟩ := List.mem_map.1 h
  refine row_all (fun y : VesR => -9223372036854775808 ≤ (gVes y).f1 ∧ (gVes y).f1 ≤ 9223372036854775807) hx (fun es z hz => ?_) y hy
  obtain ⟨_, ⟨_, h2⟩, _⟩ := hz
  exact wf_i64 h2
end Go.Proofs.YtejecmjajdhiiaaDoor.Print
/-! ### LgWalk7 -/
namespace Go.Proofs.YtejecmjajdhiiaaDoor.Print
open Go.RowKit Go.Proofs.YtejecmjajdhiiaaDoorW.PrintWords Go.Proofs.YtejecmjajdhiiaaDoorW.PrintLast Go.Proofs.YtejecmjajdhiiaaDoorW.PrintMore
set_option linter.unusedVariables false
theorem ledgerMoves_walk (A0 : Option Addr) (cap0 : Nat) (y0 : List VesR) (a1 a2 : ByteArray) (a3 : Int) (w : World) (hl0 : y0.length ≤ cap0) (hb0 : cap0 * 48 ≤ 140737488351232) (hr0 : rdRow 3 rVes w A0 y0) (w1 : a1.size ≤ 140737488351232) (w2 : a2.size ≤ 140737488351232) (w3 : (Lit.int .i64 a3).wf = true) (hT : Tabs w) :
    Calls Tryd.prog 9 #[.slice A0 y0.length cap0, .string a1, .string a2, .int .i64 a3] w fun e w' => e = .returned (.bool true) ∧ Below w.heap.size w w' := by
  have h := malthouselaw13_LedgerMoves.calls 5000 A0 cap0 (y0.map gVes) a1 a2 a3 true w (C_vesr (by omega) hr0) (by simpa using hl0) hT (moves_is _ (ves_range hr0) a1 a2 a3)
  rw [List.length_map] at h
  exact h
end Go.Proofs.YtejecmjajdhiiaaDoor.Print
/-! ### LedgerMovesRow -/
namespace Go.Proofs.YtejecmjajdhiiaaDoor.ledgerMoves
open Go.ChangeShapes Go.WideShapes Go.ChangeAt Go.RowKit Go.Shelf Go.Lib Go.Proofs.YtejecmjajdhiiaaDoor.Print
open Go.ChangeMaps (open_string shut_string)
set_option linter.unusedVariables false
set_option linter.unusedSimpArgs false
theorem own : ownKnob Tryd.prog.godebug = none := by kernel_rfl
theorem laidOut : laidOutB Tryd.prog = true := by kernel_rfl
set_option maxRecDepth 100000 in
theorem lifted (os : Os) (started : os.Started) (H : Type) (enc : TypeId × Value → H) :
    ReturnsInHanded {} Tryd.checked os 9 .any (fun w args => (Rows.ledgerMovesSpec.pre enc Tryd.prog Tryd.f9 [] false w args ∧ laidMetH Tryd.prog Rows.ledgerMovesRow.laid w) ∧ sizedMet enc Tryd.prog Tryd.f9 (OpenSpec.ofChange Rows.ledgerMovesSpec) false w args) (Rows.ledgerMovesSpec.post enc Tryd.prog Tryd.f9 false true false false) := by
  refine returnsInHanded_of_change_and (C := Tryd.checked) (X := fun w _ => laidMetH Tryd.prog Rows.ledgerMovesRow.laid w) (fun _ _ _ hh h => h.of_heap hh) own started (by kernel_rfl) Tryd.func9
    (ChangeSpec.witness_shaped (enc := enc) (C := Tryd.checked) (os := os) (X := fun w _ => laidMetH Tryd.prog Rows.ledgerMovesRow.laid w) false (World.laidAll Tryd.prog os Rows.ledgerMovesRow.laid) #[.slice none 0 0, .string ByteArray.empty, .string ByteArray.empty, .int .i64 0] 8 (World.laidAll_os _ _ _)
      (World.shaped_of_ZipB (by kernel_rfl) (by kernel_rfl)) (by kernel_rfl) (by kernel_rfl) (by kernel_rfl)
      (by rw [MakeChecks.laidMetH_plain _ _ _ (by kernel_rfl)]; exact laidMet_laidAll _ (by kernel_rfl) (by kernel_rfl))) ?_
  intro W base args ds gs before hval0 hW hcnd hsz0 hL0 _
  have hL : laidMet Tryd.prog Rows.ledgerMovesRow.laid W := by
    have h := hL0
    rw [MakeChecks.laidMetH_plain _ _ _ (by kernel_rfl)] at h
    exact h
  have hT : Tabs W := utf8Tabs_of_readsT (U8Types.of196 Tryd.laysValid) ⟨by kernel_rfl, by kernel_rfl, by kernel_rfl, by kernel_rfl, by kernel_rfl, by kernel_rfl, by kernel_rfl⟩ (Pinned.utf8First_eq ▸ Lib.laidMet.reads hL (.tail _ (.head _))) ((show Rows.laid_unicode_utf8_acceptRanges = acceptData from rfl) ▸ Lib.laidMet.reads hL (.head _))
  have hsz : (DataW.weightsEach Tryd.prog (Tryd.f9.params.toList ++ Rows.ledgerMovesSpec.plain.varTypes Tryd.prog) (ds ++ gs)).all (· ≤ reachBytes) = true := hsz0
  have hval : ∀ (j : Nat) t v, Tryd.f9.params[j]? = some t → args[j]? = some v → Value.okWide Tryd.prog W .any base t v := hval0
  have hW' := hW
  obtain ⟨p, q, hA0, hV, rfl, hfz, hnd⟩ := hW
  have hA : DataW.TrodAll enc Tryd.prog W 0 (fun _ => true) true Tryd.f9.params.toList args.toList ds p := hA0
  rw [Tryd.params9] at hA hval hsz
  obtain ⟨v0, vs0, d0, ds0, p0, q0, hargs, rfl, rfl, h0, r0⟩ := trodAll_cons hA
  obtain ⟨v1, vs1, d1, ds1, p1, q1, rfl, rfl, rfl, h1, r1⟩ := trodAll_cons r0
  obtain ⟨v2, vs2, d2, ds2, p2, q2, rfl, rfl, rfl, h2, r2⟩ := trodAll_cons r1
  obtain ⟨v3, vs3, d3, ds3, p3, q3, rfl, rfl, rfl, h3, r3⟩ := trodAll_cons r2
  obtain ⟨rfl, rfl, rfl⟩ := trodAll_nil r3
  obtain rfl : args = #[v0, v1, v2, v3] := by cases args; simp_all
  obtain ⟨rfl, rfl⟩ := trodVars_none hV
  have k0 := h0
  have lt0 : ∀ x ∈ p0, x.block < W.heap.size := by obtain ⟨m, hm⟩ := k0; exact DataW.trod_lt m _ _ _ hm
  obtain ⟨y0, r0_⟩ := opens_arg (vess_opens enc W) h0 (weights_each hsz (j := 0) (t := 22) rfl rfl)
  obtain ⟨A0, len0, cap0, rfl⟩ := okWide_slice Tryd.underlying22 (hval 0 22 v0 rfl rfl)
  obtain ⟨A0_, cap0_, e0, hl0, hb0, hm0, hr0⟩ := r0_
  simp only [Value.cells, List.cons.injEq, Value.slice.injEq, and_true] at e0
  obtain ⟨rfl, rfl, rfl⟩ := e0
  obtain ⟨a1, rfl, rfl, rfl, y1⟩ := open_string Tryd.underlying9 (hval 1 9 v1 rfl rfl) h1
  have w1 : a1.size ≤ 140737488351232 := by
    have z := sized_string hsz (j := 1) (t := 9) rfl rfl
    rw [Array.length_toList] at z
    exact z
  obtain ⟨a2, rfl, rfl, rfl, y2⟩ := open_string Tryd.underlying9 (hval 2 9 v2 rfl rfl) h2
  have w2 : a2.size ≤ 140737488351232 := by
    have z := sized_string hsz (j := 2) (t := 9) rfl rfl
    rw [Array.length_toList] at z
    exact z
  obtain ⟨a3, rfl, rfl, rfl, w3⟩ := open_int Tryd.underlying3 (hval 3 3 v3 rfl rfl) h3
  clear hA0 hval0 hsz0 hsz
  refine (ledgerMoves_walk A0 cap0 y0 a1 a2 a3 W hl0 hb0 hr0 w1 w2 w3 hT).mono fun e W' ⟨he, bel⟩ => ?_
  subst he
  exact ⟨_, rfl, _, _, _, [], _, [], hW', trodAll_mk1 (shut_bool Tryd.underlying4 _), (trodAll_cons_mk (Below.trod laidOut (by kernel_rfl) (of_decide_eq_true (by kernel_rfl)) k0 bel lt0) (trodAll_cons_mk (shut_string Tryd.underlying9 y1) (trodAll_cons_mk (shut_string Tryd.underlying9 y2) (trodAll_cons_mk (shut_int Tryd.underlying3 w3) trodAll_mk0)))), rfl, bel.frame _, fun h => by cases h⟩
theorem over : Rows.ledgerMovesRow.holds Tryd.pinned (OpenSpec.ofChange Rows.ledgerMovesSpec) :=
  OpenClaim.holds_of_wide 9 Tryd.f9 rfl rfl rfl rfl rfl rfl rfl ⟨rfl, rfl, rfl, rfl, rfl⟩ rfl rfl rfl rfl rfl (by kernel_rfl) Tryd.func9 (by kernel_rfl)
    (of_decide_eq_true (by kernel_rfl)) (by unfold Func.isWrapper; first | (rw [if_pos (by decide +kernel)]; kernel_rfl) | (rw [if_neg (by decide +kernel)]; exact ⟨rfl, rfl⟩))
    (fun os started H enc _ => lifted os started H enc)
theorem card_holds : Claim7.holds Tryd.pinned (.plain (OpenSpec.ofChange Rows.ledgerMovesSpec)) Rows.ledgerMovesCard :=
  Claim7.holds_tied_plain_at .later [] [.data, .pinned] true (true, "1e2c74985228763f400c529450084ef6c0ff92b2eeb5cdba4427b354947f12d5") false over (fun _ h => by cases h) (by kernel_rfl) (fun _ h => by cases h) ledgerMoves_row_tie rfl ⟨rfl, rfl⟩ (by kernel_rfl) rfl
    (fun f fn hf hfn => by
      obtain rfl : f = 9 := Option.some.inj ((show Tryd.prog.funcNamed "malthouse/malthouselaw13.LedgerMoves" = some 9 by kernel_rfl).symm.trans hf) |>.symm
      obtain rfl : fn = Tryd.f9 := (Option.some.inj (Tryd.func9.symm.trans hfn)).symm
      exact ⟨by kernel_rfl, fun j t ht => by
        rw [Tryd.params9] at ht
        have hm : t ∈ [22, 9, 9, 3] := by simpa using Array.mem_of_getElem? ht
        have hall : ([22, 9, 9, 3].all fun u => !Tryd.prog.wantsStandIn u) = true := by kernel_rfl
        exact (show Tryd.prog.wantsStandIn t = false by simpa using List.all_eq_true.1 hall t hm)⟩)
    (by kernel_rfl)
theorem proved : Rows.LedgerMovesCardSaid := card_holds
#print axioms proved
end Go.Proofs.YtejecmjajdhiiaaDoor.ledgerMoves
namespace Go.Proofs.YtejecmjajdhiiaaDoor
/-- The card, under a short name, for the claim. -/
theorem ledgerMoves_holds : Rows.LedgerMovesCardSaid := ledgerMoves.proved
end Go.Proofs.YtejecmjajdhiiaaDoor
/-! ### LgVal -/
namespace Go.Proofs.YtejecmjajdhiiaaDoor.Print
open Go.RowKit Go.Proofs.YtejecmjajdhiiaaDoorW.PrintWords Go.Proofs.YtejecmjajdhiiaaDoorW.PrintLast Go.Proofs.YtejecmjajdhiiaaDoorW.PrintMore
set_option linter.unusedSimpArgs false
set_option linter.unusedVariables false
/-- The vessel of that name, and where it stands. -/
def atV (l : List S25) (a : ByteArray) : Option (Nat × S25) :=
  if firstFrom (vesselIs a) 0 l < 0 then none else (l[(firstFrom (vesselIs a) 0 l).toNat]?).map fun x => ((firstFrom (vesselIs a) 0 l).toNat, x)
theorem at_cases (l : List S25) (a : ByteArray) : (firstFrom (vesselIs a) 0 l < 0 ∧ atV l a = none) ∨ ∃ (k : Nat) (x : S25), firstFrom (vesselIs a) 0 l = (k : Int) ∧ l[k]? = some x ∧ atV l a = some (k, x) := by
  by_cases h : firstFrom (vesselIs a) 0 l < 0
  · exact .inl ⟨h, if_pos h⟩
  · obtain ⟨k, x, h1, h2⟩ := firstFrom_at h
    refine .inr ⟨k, x, h1, h2, ?_⟩
    unfold atV
    rw [if_neg h, h1, Int.toNat_natCast, h2]
    rfl
def chargeV (l : List S25) (k : Nat) (y : S25) (b : ByteArray) (n : Int) : List S25 × Int :=
  if n < 1 ∨ y.f1 - sumL y.f2 < n then ([], 130) else if 5 < (pourM y.f2 ⟨b, n⟩).length then ([], 2) else (l.set k (turned y (pourM y.f2 ⟨b, n⟩)), 0)
def chargeA (l : List S25) (b : ByteArray) (n : Int) : Option (Nat × S25) → List S25 × Int
  | none => ([], 4)
  | some (k, y) => chargeV l k y b n
def chargeM (l : List S25) (a b : ByteArray) (n : Int) : List S25 × Int := if checkM l = 0 ∧ nameB b = true then chargeA l b n (atV l a) else ([], 1)
def drawV (l : List S25) (k : Nat) (y : S25) (n : Int) : List S25 × List S37 × Int :=
  if n < 1 ∨ sumL y.f2 < n then ([], [], 130) else (l.set k (turned y (takeM y.f2 n).1), (takeM y.f2 n).2, 0)
def drawA (l : List S25) (n : Int) : Option (Nat × S25) → List S25 × List S37 × Int
  | none => ([], [], 4)
  | some (k, y) => drawV l k y n
def drawM (l : List S25) (a : ByteArray) (n : Int) : List S25 × List S37 × Int := if checkM l = 0 then drawA l n (atV l a) else ([], [], 1)
theorem many_set {l : List S25} (hg : Good l) {k : Nat} (hk : k < l.length) (y : S25) (m : List S37) : (l.set k (turned y m)).any manyLots = decide (5 < m.length) := by
  by_cases h : 5 < m.length
  · rw [decide_eq_true h, List.any_eq_true]
    exact ⟨turned y m, List.mem_of_getElem? (List.getElem?_set_self hk), decide_eq_true h⟩
  · rw [decide_eq_false h, any_false]
    intro j x hx
    by_cases hj : j = k
    · subst hj
      rw [List.getElem?_set_self hk] at hx
      obtain rfl := Option.some.inj hx
      exact decide_eq_false h
    · rw [List.getElem?_set_ne (Ne.symm hj)] at hx
      have := (hg.all j x hx).2.2
      exact decide_eq_false (by omega)
theorem charge_value {l : List S25} (hl : Lite l) (a b : ByteArray) (n : Int) (hbs : b.size ≤ 1000000000) : ledger_Charge.f l a b n = some (chargeM l a b n) := by
  unfold chargeM
  by_cases hg : checkM l = 0
  rotate_left
  · rw [if_neg (fun h => hg h.1)]
    unfold ledger_Charge.f
    rw [if_pos (smallV_lite hl), check_lite hl]
    simp only [Option.bind_some]
    rw [if_neg hg]
  have hG := (good_iff l).1 hg
  by_cases hb : nameB b = true
  rotate_left
  · rw [if_neg (fun h => hb h.2)]
    unfold ledger_Charge.f
    rw [if_pos (smallV_lite hl), check_lite hl, hg]
    simp only [Option.bind_some]
    rw [if_pos trivial, lex_name_is b hbs]
    simp only [Option.bind_some]
    rw [if_neg hb]
  rw [if_pos ⟨hg, hb⟩]
  rcases at_cases l a with ⟨h1, h2⟩ | ⟨k, y, h1, h2, h3⟩
  · rw [h2]
    unfold ledger_Charge.f
    rw [if_pos (smallV_lite hl), check_lite hl, hg]
    simp only [Option.bind_some]
    rw [if_pos trivial, lex_name_is b hbs, hb]
    simp only [Option.bind_some]
    rw [if_pos trivial, find_lite hl]
    simp only [Option.bind_some]
    rw [if_pos h1]
    rfl
  · rw [h3]
    obtain ⟨q1, q2, q3, q4, q5⟩ := (vesB_iff y).1 (hG.all k y h2).1
    have hs0 := fine_sum _ _ q4
    have hkl := (List.getElem?_eq_some_iff.1 h2).1
    unfold ledger_Charge.f
    rw [if_pos (smallV_lite hl), check_lite hl, hg]
    simp only [Option.bind_some]
    rw [if_pos trivial, lex_name_is b hbs, hb]
    simp only [Option.bind_some]
    rw [if_pos trivial, find_lite hl, h1]
    simp only [Option.bind_some]
    rw [if_neg (by omega), rd_at h2]
    show _ = some (chargeV l k y b n)
    unfold chargeV
    by_cases hn : n < 1
    · rw [if_pos hn, if_pos (.inl hn)]
    rw [if_neg hn]
    unfold ledger_room.f
    rw [level_lite (hl.all y (List.mem_of_getElem? h2)), level_good hG h2]
    simp only [Option.bind_some]
    rw [wrap_small _ (by omega) (by omega)]
    by_cases hr : y.f1 - sumL y.f2 < n
    · rw [if_pos hr, if_pos (.inr hr)]
    rw [if_neg hr, if_neg (show ¬ (n < 1 ∨ y.f1 - sumL y.f2 < n) by omega), if_pos (pourOk_good (x := ⟨b, n⟩) q4 (by omega) (by show 1 ≤ n; omega) (by show n ≤ _; omega))]
    unfold outV
    rw [Int.toNat_natCast, many_set hG hkl]
    by_cases h5 : 5 < (pourM y.f2 ⟨b, n⟩).length
    · rw [if_pos (decide_eq_true h5), if_pos h5]
    · rw [if_neg (by simpa using h5), if_neg h5]
theorem draw_value {l : List S25} (hl : Lite l) (a : ByteArray) (n : Int) : ledger_Draw.f l a n = some (drawM l a n) := by
  unfold drawM
  by_cases hg : checkM l = 0
  rotate_left
  · rw [if_neg hg]
    unfold ledger_Draw.f
    rw [if_pos (smallV_lite hl), check_lite hl]
    simp only [Option.bind_some]
    rw [if_neg hg]
  have hG := (good_iff l).1 hg
  rw [if_pos hg]
  rcases at_cases l a with ⟨h1, h2⟩ | ⟨k, y, h1, h2, h3⟩
  · rw [h2]
    unfold ledger_Draw.f
    rw [if_pos (smallV_lite hl), check_lite hl, hg]
    simp only [Option.bind_some]
    rw [if_pos trivial, find_lite hl]
    simp only [Option.bind_some]
    rw [if_pos h1]
    rfl
  · rw [h3]
    show _ = some (drawV l k y n)
    unfold drawV
    by_cases hc : n < 1 ∨ sumL y.f2 < n
    · rw [if_pos hc]
      unfold ledger_Draw.f
      rw [if_pos (smallV_lite hl), check_lite hl, hg]
      simp only [Option.bind_some]
      rw [if_pos trivial, find_lite hl, h1]
      simp only [Option.bind_some]
      rw [if_neg (by omega), rd_at h2]
      by_cases hn : n < 1
      · rw [if_pos hn]
      rw [if_neg hn, level_lite (hl.all y (List.mem_of_getElem? h2)), level_good hG h2]
      simp only [Option.bind_some]
      rw [if_pos (by omega)]
    · rw [if_neg hc]
      exact draw_val hl hG h1 h2 (by omega) (by omega)
end Go.Proofs.YtejecmjajdhiiaaDoor.Print
/-! ### LgTwo -/
namespace Go.Proofs.YtejecmjajdhiiaaDoor.Print
open Go.RowKit Go.Proofs.YtejecmjajdhiiaaDoorW.PrintWords Go.Proofs.YtejecmjajdhiiaaDoorW.PrintLast Go.Proofs.YtejecmjajdhiiaaDoorW.PrintMore
set_option linter.unusedSimpArgs false
set_option linter.unusedVariables false
/-- One list of lots behind another; a lot that was parted is one again. -/
def joinO : List S37 → List S37 → List S37
  | [], b => b
  | [u], [] => [u]
  | [u], v :: t => if u.f0 = v.f0 then ⟨u.f0, u.f1 + v.f1⟩ :: t else u :: v :: t
  | u :: w :: a, b => u :: joinO (w :: a) b
theorem joinO_cons (u : S37) {a : List S37} (h : a ≠ []) (b : List S37) : joinO (u :: a) b = u :: joinO a b := by
  cases a with
  | nil => exact absurd rfl h
  | cons w a => rfl
theorem joinO_ne (u v : S37) (t : List S37) (h : u.f0 ≠ v.f0) : joinO [u] (v :: t) = u :: v :: t := if_neg h
theorem joinO_eq (u v : S37) (t : List S37) (h : u.f0 = v.f0) : joinO [u] (v :: t) = ⟨u.f0, u.f1 + v.f1⟩ :: t := if_pos h
theorem takeM_zero (l : List S37) : takeM l 0 = (l, []) := by
  cases l with
  | nil => rfl
  | cons x l => rw [takeM, if_neg (by omega)]
theorem takeM_part (x : S37) (l : List S37) (n : Int) (h1 : 1 ≤ n) (h2 : n < x.f1) : takeM (x :: l) n = (⟨x.f0, x.f1 - n⟩ :: l, [⟨x.f0, n⟩]) := by
  have hm : mn n x.f1 = n := by unfold mn; split <;> omega
  rw [takeM, if_pos (by omega), hm, if_neg (by omega)]
  unfold outL
  rw [hm]
theorem takeM_whole (x : S37) (l : List S37) (n : Int) (h0 : 1 ≤ x.f1) (h2 : x.f1 ≤ n) : takeM (x :: l) n = ((takeM l (n - x.f1)).1, x :: (takeM l (n - x.f1)).2) := by
  have hm : mn n x.f1 = x.f1 := by unfold mn; split <;> omega
  rw [takeM, if_pos (by omega), hm, if_pos (by omega)]
  unfold outL
  rw [hm]
theorem takeM_some (l : List S37) (p : Option ByteArray) (n : Int) (hf : fine p l = true) (h1 : 1 ≤ n) (h2 : n ≤ sumL l) : ∃ x t u o, l = x :: t ∧ (takeM l n).2 = u :: o ∧ u.f0 = x.f0 := by
  cases l with
  | nil => have : sumL ([] : List S37) = 0 := rfl; omega
  | cons x t =>
    obtain ⟨a, b, c, d⟩ := (fine_cons p x t).1 hf
    by_cases h : n < x.f1
    · rw [takeM_part x t n h1 h]
      exact ⟨x, t, _, _, rfl, rfl, rfl⟩
    · rw [takeM_whole x t n b (by omega)]
      exact ⟨x, t, _, _, rfl, rfl, rfl⟩
theorem take_two : ∀ (l : List S37) (p : Option ByteArray) (a b : Int), fine p l = true → 1 ≤ a → 1 ≤ b → a + b ≤ sumL l →
    (takeM (takeM l a).1 b).1 = (takeM l (a + b)).1 ∧ (takeM l (a + b)).2 = joinO (takeM l a).2 (takeM (takeM l a).1 b).2
  | [], p, a, b, _, h1, h2, h3 => by have : sumL ([] : List S37) = 0 := rfl; omega
  | x :: l, p, a, b, hf, h1, h2, h3 => by
    obtain ⟨q1, q2, q3, q4⟩ := (fine_cons p x l).1 hf
    rw [sumL_cons] at h3
    by_cases ha : a < x.f1
    · rw [takeM_part x l a h1 ha]
      by_cases hb : b < x.f1 - a
      · rw [takeM_part ⟨x.f0, x.f1 - a⟩ l b h2 hb, takeM_part x l (a + b) (by omega) (by omega)]
        refine ⟨?_, (joinO_eq (⟨x.f0, a⟩ : S37) ⟨x.f0, b⟩ [] rfl).symm⟩
        show (⟨x.f0, x.f1 - a - b⟩ : S37) :: l = ⟨x.f0, x.f1 - (a + b)⟩ :: l
        rw [show x.f1 - a - b = x.f1 - (a + b) by omega]
      · rw [takeM_whole ⟨x.f0, x.f1 - a⟩ l b (by show 1 ≤ x.f1 - a; omega) (by show x.f1 - a ≤ b; omega), takeM_whole x l (a + b) q2 (by omega)]
        have e : b - (x.f1 - a) = a + b - x.f1 := by omega
        refine ⟨?_, ?_⟩
        · show (takeM l (b - (x.f1 - a))).1 = _
          rw [e]
        · refine Eq.trans ?_ (joinO_eq (⟨x.f0, a⟩ : S37) ⟨x.f0, x.f1 - a⟩ (takeM l (b - (x.f1 - a))).2 rfl).symm
          show x :: (takeM l (a + b - x.f1)).2 = ⟨x.f0, a + (x.f1 - a)⟩ :: (takeM l (b - (x.f1 - a))).2
          rw [e, show a + (x.f1 - a) = x.f1 by omega]
    · rw [takeM_whole x l a q2 (by omega), takeM_whole x l (a + b) q2 (by omega)]
      by_cases he : a = x.f1
      · rw [he, Int.sub_self, takeM_zero, show x.f1 + b - x.f1 = b by omega]
        obtain ⟨y, t, u, o, e1, e2, e3⟩ := takeM_some l _ b q4 h2 (by omega)
        refine ⟨rfl, ?_⟩
        show x :: (takeM l b).2 = joinO [x] (takeM l b).2
        rw [e2, joinO_ne x u o]
        rw [e3]
        intro hx
        rw [e1] at q4
        exact ((fine_cons _ y t).1 q4).2.2.1 (by rw [hx])
      · obtain ⟨i1, i2⟩ := take_two l _ (a - x.f1) b q4 (by omega) h2 (by omega)
        obtain ⟨y, t, u, o, e1, e2, e3⟩ := takeM_some l _ (a - x.f1) q4 (by omega) (by omega)
        rw [show a + b - x.f1 = a - x.f1 + b by omega]
        refine ⟨i1, ?_⟩
        show x :: (takeM l (a - x.f1 + b)).2 = joinO (x :: (takeM l (a - x.f1)).2) _
        rw [joinO_cons x (by rw [e2]; simp), i2]
theorem joinO_last : ∀ (a : List S37) (v : S37) (t : List S37) (q : S37), a.getLast? = some q → joinO a (v :: t) = if q.f0 = v.f0 then a.set (a.length - 1) ⟨q.f0, q.f1 + v.f1⟩ ++ t else a ++ v :: t
  | [], v, t, q, h => by simp at h
  | [u], v, t, q, h => by
    obtain rfl : u = q := by simpa using h
    rfl
  | u :: w :: a, v, t, q, h => by
    rw [List.getLast?_cons_cons] at h
    have ih := joinO_last (w :: a) v t q h
    show u :: joinO (w :: a) (v :: t) = _
    rw [ih]
    split
    · rfl
    · rfl
theorem takeM_all : ∀ (l : List S37) (p : Option ByteArray), fine p l = true → takeM l (sumL l) = ([], l)
  | [], _, _ => rfl
  | x :: l, p, hf => by
    obtain ⟨q1, q2, q3, q4⟩ := (fine_cons p x l).1 hf
    have h0 := fine_sum l _ q4
    rw [sumL_cons, takeM_whole x l _ q2 (by omega), show x.f1 + sumL l - x.f1 = sumL l by omega, takeM_all l _ q4]
theorem at_self {l : List S25} (hg : Good l) {i : Nat} {x : S25} (hx : l[i]? = some x) : firstFrom (vesselIs x.f0) 0 l = (i : Int) ∧ atV l x.f0 = some (i, x) := by
  have h1 := (hg.all i x hx).2.1
  have hv : vesselIs x.f0 x = true := by unfold vesselIs; simp
  have h2 : ∀ (l : List S25) (k i : Nat), l[i]? = some x → firstFrom (vesselIs x.f0) k l ≤ ((k + i : Nat) : Int) ∧ 0 ≤ firstFrom (vesselIs x.f0) k l := by
    intro l
    induction l with
    | nil => intro k i h; simp at h
    | cons y l ih =>
      intro k i h
      unfold firstFrom
      by_cases hy : vesselIs x.f0 y = true
      · rw [if_pos hy]
        omega
      · rw [if_neg hy]
        cases i with
        | zero =>
          obtain rfl := Option.some.inj h
          exact absurd hv hy
        | succ i =>
          have := ih (k + 1) i h
          omega
  have h3 := h2 l 0 i hx
  have e : firstFrom (vesselIs x.f0) 0 l = (i : Int) := by omega
  refine ⟨e, ?_⟩
  unfold atV
  rw [if_neg (by omega), e, Int.toNat_natCast, hx]
  rfl
theorem at_turn {l : List S25} {i : Nat} {x : S25} (m : List S37) (a : ByteArray) (hx : l[i]? = some x) (ha : atV l a = some (i, x)) : atV (l.set i (turned x m)) a = some (i, turned x m) := by
  rcases at_cases l a with ⟨_, h2⟩ | ⟨k, y, h1, h2, h3⟩
  · rw [h2] at ha; cases ha
  · rw [h3] at ha
    obtain ⟨rfl, rfl⟩ : k = i ∧ y = x := by simpa using ha
    unfold atV
    rw [firstFrom_names _ _ l 0 (names_turn m hx), h1, if_neg (by omega), Int.toNat_natCast, List.getElem?_set_self (List.getElem?_eq_some_iff.1 hx).1]
    rfl
/-- A vessel that lost some grams stays such as may be. -/
theorem draw_good {l : List S25} (hl : Lite l) (hg : Good l) {i : Nat} {x : S25} (hx : l[i]? = some x) {n : Int} (h1 : 1 ≤ n) (h2 : n ≤ sumL x.f2) : Lite (l.set i (turned x (takeM x.f2 n).1)) ∧ Good (l.set i (turned x (takeM x.f2 n).1)) ∧ sumL (takeM x.f2 n).1 = sumL x.f2 - n ∧ sumL (takeM x.f2 n).2 = n ∧ fine none (takeM x.f2 n).1 = true := by
  obtain ⟨p1, p2, p3, p4, p5⟩ := (vesB_iff x).1 (hg.all i x hx).1
  have hts := takeM_sum x.f2 none n p4 (by omega) h2
  have hrest := takeM_rest x.f2 n
  have hx5 := (hg.all i x hx).2.2
  have hlx := hl.all x (List.mem_of_getElem? hx)
  have hf := takeM_fine x.f2 none n p4
  exact ⟨hl.turn hx (m := (takeM x.f2 n).1) (by omega) (fun z hz => by obtain ⟨q, h1, h2⟩ := hrest.2 z hz; rw [← h2]; exact hlx.lots q h1),
    hg.turn hx (m := (takeM x.f2 n).1) ((vesB_iff _).2 ⟨p1, p2, p3, hf, by show sumL (takeM x.f2 n).1 ≤ x.f1; omega⟩) (by omega), hts.2, hts.1, hf⟩
end Go.Proofs.YtejecmjajdhiiaaDoor.Print
/-! ### LgOrd -/
namespace Go.Proofs.YtejecmjajdhiiaaDoor.Print
open Go.RowKit Go.Proofs.YtejecmjajdhiiaaDoorW.PrintWords Go.Proofs.YtejecmjajdhiiaaDoorW.PrintLast Go.Proofs.YtejecmjajdhiiaaDoorW.PrintMore
set_option linter.unusedSimpArgs false
set_option linter.unusedVariables false
theorem Lite.nil : Lite [] := ⟨by simp, by simp⟩
theorem drawM_cases (l : List S25) (a : ByteArray) (n : Int) : (∃ e, e ≠ 0 ∧ drawM l a n = ([], [], e)) ∨
    (∃ (i : Nat) (x : S25), Good l ∧ l[i]? = some x ∧ atV l a = some (i, x) ∧ 1 ≤ n ∧ n ≤ sumL x.f2 ∧ drawM l a n = (l.set i (turned x (takeM x.f2 n).1), (takeM x.f2 n).2, 0)) := by
  unfold drawM
  by_cases hg : checkM l = 0
  rotate_left
  · exact .inl ⟨1, by decide, by rw [if_neg hg]⟩
  rw [if_pos hg]
  rcases at_cases l a with ⟨_, h⟩ | ⟨i, x, h1, h2, h3⟩
  · exact .inl ⟨4, by decide, by rw [h]; rfl⟩
  rw [h3]
  by_cases hc : n < 1 ∨ sumL x.f2 < n
  · exact .inl ⟨130, by decide, by show drawV l i x n = _; unfold drawV; rw [if_pos hc]⟩
  · exact .inr ⟨i, x, (good_iff l).1 hg, h2, rfl, by omega, by omega, by show drawV l i x n = _; unfold drawV; rw [if_neg hc]⟩
theorem drawM_at {l : List S25} (hg : Good l) {a : ByteArray} {n : Int} {i : Nat} {x : S25} (h : atV l a = some (i, x)) : drawM l a n = drawV l i x n := by
  unfold drawM
  rw [if_pos ((good_iff l).2 hg), h]
  rfl
theorem draw_lite {l : List S25} (hl : Lite l) (a : ByteArray) (n : Int) : Lite (drawM l a n).1 := by
  rcases drawM_cases l a n with ⟨e, _, h⟩ | ⟨i, x, hg, hx, _, h1, h2, h⟩
  · rw [h]; exact Lite.nil
  · rw [h]; exact (draw_good hl hg hx h1 h2).1
/-- What the law asks of the three draws. -/
structure OrderOk (D1 D2 D3 : List S25 × List S37 × Int) : Prop where
  no : ¬ (D1.2.2 = 0 ∧ D2.2.2 = 0) → D3.2.2 ≠ 0 ∧ D3.1 = [] ∧ D3.2.1 = []
  yes : D1.2.2 = 0 → D2.2.2 = 0 → D3.2.2 = 0 ∧ D2.1 = D3.1 ∧ ∃ (k : Nat) (q v : S37) (t : List S37), D1.2.1.length = k + 1 ∧ D1.2.1[k]? = some q ∧ D2.2.1 = v :: t ∧ k ≤ 10 ∧ t.length ≤ 10 ∧ -4611686018427387904 ≤ q.f1 + v.f1 ∧ q.f1 + v.f1 ≤ 4611686018427387904 ∧
    D3.2.1 = if q.f0 = v.f0 then D1.2.1.set k ⟨q.f0, q.f1 + v.f1⟩ ++ t else D1.2.1 ++ v :: t
theorem order_ok {l : List S25} (hl : Lite l) (s : ByteArray) (a b : Int) (ha : 1 ≤ a) (hb : 1 ≤ b) : OrderOk (drawM l s a) (drawM (drawM l s a).1 s b) (drawM l s (a + b)) := by
  rcases drawM_cases l s a with ⟨e, he, h⟩ | ⟨i, x, hg, hx, hat, h1, h2, h⟩
  · rw [h]
    refine ⟨fun _ => ?_, fun h0 => absurd h0 he⟩
    rcases drawM_cases l s (a + b) with ⟨e', he', h'⟩ | ⟨i, x, hg, hx, hat, h1, h2, h'⟩
    · rw [h']; exact ⟨he', rfl, rfl⟩
    · rw [drawM_at hg hat] at h
      unfold drawV at h
      rw [if_neg (by omega)] at h
      simp only [Prod.mk.injEq] at h
      exact absurd h.2.2.symm he
  · obtain ⟨g1, g2, g3, g4, g5⟩ := draw_good hl hg hx h1 h2
    rw [h, drawM_at hg hat]
    show OrderOk _ (drawM (l.set i (turned x (takeM x.f2 a).1)) s b) _
    rw [drawM_at g2 (at_turn _ s hx hat)]
    unfold drawV
    have e1 : sumL (turned x (takeM x.f2 a).1).f2 = sumL x.f2 - a := g3
    rw [e1]
    obtain ⟨p1, p2, p3, p4, p5⟩ := (vesB_iff x).1 (hg.all i x hx).1
    by_cases hs : sumL x.f2 < a + b
    · rw [if_pos (by omega), if_pos (by omega)]
      refine ⟨fun _ => ⟨by decide, rfl, rfl⟩, fun _ h0 => absurd h0 (by decide)⟩
    · rw [if_neg (by omega), if_neg (by omega)]
      refine ⟨fun h => absurd ⟨rfl, rfl⟩ h, fun _ _ => ⟨rfl, ?_, ?_⟩⟩
      · obtain ⟨t1, t2⟩ := take_two x.f2 none a b p4 ha hb (by omega)
        show ((l.set i (turned x (takeM x.f2 a).1)).set i (turned x (takeM (takeM x.f2 a).1 b).1)) = l.set i (turned x (takeM x.f2 (a + b)).1)
        rw [List.set_set, t1]
      · obtain ⟨t1, t2⟩ := take_two x.f2 none a b p4 ha hb (by omega)
        obtain ⟨_, _, u, o, _, e2, _⟩ := takeM_some x.f2 _ a p4 ha (by omega)
        obtain ⟨_, _, v, t, _, e3, _⟩ := takeM_some (takeM x.f2 a).1 _ b g5 hb (by omega)
        have hl1 := takeM_len x.f2 a
        have hl2 := takeM_len (takeM x.f2 a).1 b
        have hl3 := (takeM_rest x.f2 a).1
        have hx5 := (hg.all i x hx).2.2
        have hne : (takeM x.f2 a).2 ≠ [] := by rw [e2]; simp
        obtain ⟨k, hk⟩ : ∃ k, (takeM x.f2 a).2.length = k + 1 := ⟨o.length, by rw [e2]; rfl⟩
        obtain ⟨q, hq⟩ : ∃ q, (takeM x.f2 a).2[k]? = some q := ⟨_, List.getElem?_eq_getElem (by omega)⟩
        have hlast : (takeM x.f2 a).2.getLast? = some q := by rw [List.getLast?_eq_getElem?, hk, Nat.add_sub_cancel]; exact hq
        refine ⟨k, q, v, t, hk, hq, e3, by omega, by rw [e3] at hl2; simp at hl2; omega, ?_, ?_, ?_⟩
        · have := (takeM_out x.f2 none a p4 q (List.mem_of_getElem? hq)).2.1
          have := (takeM_out (takeM x.f2 a).1 none b g5 v (by rw [e3]; simp)).2.1
          omega
        · have z1 := (sumL_pos (takeM x.f2 a).2 (fun y hy => (takeM_out x.f2 none a p4 y hy).2.1)).2 q (List.mem_of_getElem? hq)
          have z2 := (sumL_pos (takeM (takeM x.f2 a).1 b).2 (fun y hy => (takeM_out (takeM x.f2 a).1 none b g5 y hy).2.1)).2 v (by rw [e3]; simp)
          have z3 := (takeM_sum (takeM x.f2 a).1 none b g5 (by omega) (by omega)).1
          omega
        · show (takeM x.f2 (a + b)).2 = if q.f0 = v.f0 then (takeM x.f2 a).2.set k ⟨q.f0, q.f1 + v.f1⟩ ++ t else (takeM x.f2 a).2 ++ v :: t
          rw [t2, e3, joinO_last _ v t q hlast, hk, Nat.add_sub_cancel]
def lotS : ByteArray := ⟨#[108, 111, 116]⟩
theorem lotS_name : nameB lotS = true := by kernel_rfl
/-- What LedgerRoom asks. -/
structure RoomOk (l : List S25) (i : Nat) (x : S25) : Prop where
  lo : 0 ≤ sumL x.f2
  hi : sumL x.f2 ≤ x.f1
  cap : 1 ≤ x.f1 ∧ x.f1 ≤ 1125899906842624
  level : levelM x = sumL x.f2
  over : chargeM l x.f0 lotS (x.f1 - sumL x.f2 + 1) = ([], 130)
  full : x.f1 - sumL x.f2 = 0 → chargeM l x.f0 lotS (x.f1 - sumL x.f2) = ([], 130)
  room : 0 < x.f1 - sumL x.f2 → (5 ≤ x.f2.length ∧ chargeM l x.f0 lotS (x.f1 - sumL x.f2) = ([], 2)) ∨ ∃ y, (chargeM l x.f0 lotS (x.f1 - sumL x.f2)) = (l.set i y, 0) ∧ levelM y = x.f1 ∧ LtV 60 y
  under : drawM l x.f0 (sumL x.f2 + 1) = ([], [], 130)
  none : sumL x.f2 = 0 → drawM l x.f0 (sumL x.f2) = ([], [], 130)
  all : 0 < sumL x.f2 → drawM l x.f0 (sumL x.f2) = (l.set i (turned x []), x.f2, 0)
theorem room_ok {l : List S25} (hl : Lite l) (hg : Good l) {i : Nat} {x : S25} (hx : l[i]? = some x) : RoomOk l i x := by
  obtain ⟨e1, e2⟩ := at_self hg hx
  obtain ⟨p1, p2, p3, p4, p5⟩ := (vesB_iff x).1 (hg.all i x hx).1
  have h0 := fine_sum _ _ p4
  have hx5 := (hg.all i x hx).2.2
  have hlx := hl.all x (List.mem_of_getElem? hx)
  have hc : ∀ n, chargeM l x.f0 lotS n = chargeV l i x lotS n := by
    intro n
    unfold chargeM
    rw [if_pos ⟨(good_iff l).2 hg, lotS_name⟩, e2]
    rfl
  refine ⟨h0, p5, ⟨p2, p3⟩, level_good hg hx, ?_, ?_, ?_, ?_, ?_, ?_⟩
  · rw [hc]; unfold chargeV; rw [if_pos (by omega)]
  · intro h; rw [hc]; unfold chargeV; rw [if_pos (by omega)]
  · intro h
    rw [hc]
    unfold chargeV
    rw [if_neg (by omega)]
    have hpl := pourM_length x.f2 ⟨lotS, x.f1 - sumL x.f2⟩
    by_cases h5 : 5 < (pourM x.f2 ⟨lotS, x.f1 - sumL x.f2⟩).length
    · exact .inl ⟨by omega, by rw [if_pos h5]⟩
    · refine .inr ⟨turned x (pourM x.f2 ⟨lotS, x.f1 - sumL x.f2⟩), by rw [if_neg h5], ?_, ?_⟩
      · have hf := pour_fine ⟨lotS, x.f1 - sumL x.f2⟩ lotS_name (by show 1 ≤ x.f1 - sumL x.f2; omega) x.f2 none p4 (by simp)
        have hs : sumL (pourM x.f2 ⟨lotS, x.f1 - sumL x.f2⟩) = x.f1 := by rw [pour_sum]; show sumL x.f2 + (x.f1 - sumL x.f2) = x.f1; omega
        have hg2 := hg.turn hx (m := pourM x.f2 ⟨lotS, x.f1 - sumL x.f2⟩) ((vesB_iff _).2 ⟨p1, p2, p3, hf, by show sumL (pourM x.f2 ⟨lotS, x.f1 - sumL x.f2⟩) ≤ x.f1; omega⟩) (by omega)
        rw [level_good hg2 (List.getElem?_set_self (List.getElem?_eq_some_iff.1 hx).1)]
        exact hs
      · refine ⟨hlx.name, hlx.lo, hlx.hi, by show (pourM x.f2 ⟨lotS, x.f1 - sumL x.f2⟩).length ≤ 60; omega, fun y hy => ?_⟩
        rcases pour_names _ x.f2 y hy with h | ⟨z, h1, h2⟩
        · rw [h]; show lotS.size ≤ _; decide
        · rw [← h2]; exact hlx.lots z h1
  · rw [drawM_at hg e2]; unfold drawV; rw [if_pos (by omega)]
  · intro h; rw [drawM_at hg e2]; unfold drawV; rw [if_pos (by omega)]
  · intro h
    rw [drawM_at hg e2]
    unfold drawV
    rw [if_neg (by omega), takeM_all x.f2 none p4]
end Go.Proofs.YtejecmjajdhiiaaDoor.Print
/-! ### LgCon -/
namespace Go.Proofs.YtejecmjajdhiiaaDoor.Print
open Go.RowKit Go.Proofs.YtejecmjajdhiiaaDoorW.PrintWords Go.Proofs.YtejecmjajdhiiaaDoorW.PrintLast Go.Proofs.YtejecmjajdhiiaaDoorW.PrintMore
set_option linter.unusedSimpArgs false
set_option linter.unusedVariables false
/-- Vessels that can be read. -/
def VAt (w : World) (A : Option Addr) (c : Nat) (l : List S25) : Prop := l.length ≤ c ∧ Kd.C k25 w A l.length l
def LAt (w : World) (A : Option Addr) (c : Nat) (l : List S37) : Prop := l.length ≤ c ∧ Kd.C k37 w A l.length l
theorem VAt.only {w w' : World} {A : Option Addr} {c : Nat} {l : List S25} (h : VAt w A c l) (ho : Only [] w w') : VAt w' A c l := ⟨h.1, Kd.C_below h.2 ho.nil_below⟩
theorem LAt.only {w w' : World} {A : Option Addr} {c : Nat} {l : List S37} (h : LAt w A c l) (ho : Only [] w w') : LAt w' A c l := ⟨h.1, Kd.C_below h.2 ho.nil_below⟩
theorem VAt.elem {w : World} {A : Option Addr} {c : Nat} {l : List S25} (h : VAt w A c l) {i : Nat} {x : S25} (hx : l[i]? = some x) :
    ∃ ad A2 c2, A = some ad ∧ LAt w A2 c2 x.f2 ∧ CellsAt w (ad.add (i * 3)) [.string x.f0, .int .i64 x.f1, .slice A2 x.f2.length c2] := by
  obtain ⟨hi, rfl⟩ := List.getElem?_eq_some_iff.1 hx
  obtain ⟨ad, cs, rfl, _, hK, hcs⟩ := Kd.C_cells h.2 i hi
  obtain ⟨A2, c2, rfl, hl2, hk2⟩ := k25_open hK
  exact ⟨ad, A2, c2, rfl, ⟨hl2, hk2⟩, hcs⟩
section
variable {w : World} {A B : Option Addr} {c d : Nat} {l m : List S25}
theorem awake_c (w : World) (hT : Tabs w) : Calls Tryd.prog 10 #[] w fun e w' => e = .returned (.bool true) ∧ Only [] w w' :=
  (malthouselaw13_awake.calls true w hT rfl).mono fun _ _ h => ⟨h.1, .of_below h.2⟩
theorem light_c (h : VAt w A c l) : Calls Tryd.prog 11 #[.slice A l.length c] w fun e w' => e = .returned (.bool (lightM l)) ∧ Only [] w w' :=
  (malthouseref13_Light.calls 5000 A c l _ w h.2 h.1 (light_is l 5000 (by omega))).mono fun _ _ h => ⟨h.1, .of_below h.2.below⟩
theorem check_c (h : VAt w A c l) (hT : Tabs w) (hl : Lite l) : Calls Tryd.prog 12 #[.slice A l.length c] w fun e w' => e = .returned (.int .i64 (checkM l)) ∧ Only [] w w' :=
  (ledger_Check.calls 100000 A c l _ w h.2 h.1 hT (check_lite hl)).mono fun _ _ h => ⟨h.1, .of_below h.2⟩
theorem level_c {A2 : Option Addr} {c2 : Nat} {x : S25} (h : LAt w A2 c2 x.f2) (hT : Tabs w) (hl : LtV 60 x) : Calls Tryd.prog 16 #[.agg #[.string x.f0, .int .i64 x.f1, .slice A2 x.f2.length c2]] w fun e w' => e = .returned (.int .i64 (levelM x)) ∧ Only [] w w' :=
  (ledger_Level.calls 100000 x.f0 x.f1 (fun k_ => k_ < w.heap.size) A2 c2 x.f2 _ w (Kd.V_mk h.1 (Kd.C_F k37_heap h.2)) hT (level_lite hl)).mono fun _ _ h => ⟨h.1, .of_below h.2⟩
theorem charge_c (h : VAt w A c l) (hT : Tabs w) (hl : Lite l) (a b : ByteArray) (n : Int) (hb : b.size ≤ 1000000000) :
    Calls Tryd.prog 23 #[.slice A l.length c, .string a, .string b, .int .i64 n] w fun e w' => ∃ B d, e = .returned (.tuple #[.slice B (chargeM l a b n).1.length d, .int .i64 (chargeM l a b n).2]) ∧ VAt w' B d (chargeM l a b n).1 ∧ Only [] w w' := by
  have h1 := charge_value hl a b n hb
  generalize chargeM l a b n = R at *
  obtain ⟨r1, r2⟩ := R
  refine (ledger_Charge.calls A c l a b n r1 r2 w h.2 h.1 hT h1).mono ?_
  rintro e w' ⟨v, rfl, hS, hb2⟩
  obtain ⟨B, d, rfl, h3, h4⟩ := Kd.S_reads hS
  exact ⟨B, d, rfl, ⟨h3, h4⟩, .of_below hb2⟩
/-- A row of lots of one's own, its cells told. -/
theorem lots_own {w : World} {base : Nat} {ok : Nat → Prop} {v : Value} {o : List S37} (h : Kd.R k37 37 w base ok v o) : w.ownsRow base 37 2 v o.length (lotRow o) := by
  obtain ⟨_, inner, ho, hr⟩ := h
  have e : inner = lotRow o := reps_flat lotCells 2 (fun _ => rfl) (fun x cs h => k37_open (k37.K_of_M h)) hr
  rw [← e]
  exact ho
theorem draw_c (h : VAt w A c l) (hT : Tabs w) (hl : Lite l) (a : ByteArray) (n : Int) :
    Calls Tryd.prog 18 #[.slice A l.length c, .string a, .int .i64 n] w fun e w' => ∃ B d C q, e = .returned (.tuple #[.slice B (drawM l a n).1.length d, .slice C (drawM l a n).2.1.length q, .int .i64 (drawM l a n).2.2]) ∧ VAt w' B d (drawM l a n).1 ∧
      (LAt w' C q (drawM l a n).2.1 ∧ w'.ownsRow w.heap.size 37 2 (.slice C (drawM l a n).2.1.length q) (drawM l a n).2.1.length (lotRow (drawM l a n).2.1)) ∧ Only [] w w' := by
  have h1 := draw_value hl a n
  generalize drawM l a n = R at *
  obtain ⟨r1, r2, r3⟩ := R
  refine (ledger_Draw.calls A c l a n r1 r2 r3 w h.2 h.1 hT h1).mono ?_
  rintro e w' ⟨v, u, rfl, ⟨B, d, rfl, h3, hF⟩, hR, hb2⟩
  have h5 := lots_own hR
  obtain ⟨C, q, rfl, h6, h7⟩ := Kd.R_reads hR
  exact ⟨B, d, C, q, rfl, ⟨h3, Kd.F_now hF⟩, ⟨⟨h6, h7⟩, h5⟩, .of_below hb2⟩
theorem same_c (h : VAt w A c l) (k : VAt w B d l) (hl : Lite l) : Calls Tryd.prog 19 #[.slice A l.length c, .slice B l.length d] w fun e w' => e = .returned (.bool true) ∧ Only [] w w' :=
  (malthouseref13_Same.calls 1000 A c l B d l _ w h.2 h.1 k.2 k.1 (same_is 60 (by omega) l (by have := hl.len; omega) (fun x hx => (hl.all x hx).len) 1000 (by have := hl.len; omega))).mono fun _ _ h => ⟨h.1, .of_below h.2.below⟩
theorem lots_c {l : List S37} (h : LAt w A c l) (k : LAt w B d l) (hl : l.length ≤ 1000) : Calls Tryd.prog 20 #[.slice A l.length c, .slice B l.length d] w fun e w' => e = .returned (.bool true) ∧ Only [] w w' :=
  (malthouseref13_Lots.calls 2000 A c l B d l true w h.2 h.1 k.2 k.1 (by unfold malthouseref13_Lots.f; rw [if_pos rfl]; exact lots_refl l (by omega) l.length 0 2000 (by omega) (by omega))).mono fun _ _ h => ⟨h.1, .of_below h.2.below⟩
end
end Go.Proofs.YtejecmjajdhiiaaDoor.Print
/-! ### LgWalk4 -/
namespace Go.Proofs.YtejecmjajdhiiaaDoor.Print
open Go.RowKit Go.Proofs.YtejecmjajdhiiaaDoorW.PrintWords Go.Proofs.YtejecmjajdhiiaaDoorW.PrintLast Go.Proofs.YtejecmjajdhiiaaDoorW.PrintMore
set_option linter.unusedSimpArgs false
set_option linter.unusedVariables false
theorem own_LAt {w : World} {base : Nat} {A : Option Addr} {c : Nat} {o : List S37} (h : w.ownsRow base 37 2 (.slice A o.length c) o.length (lotRow o)) (hm : o.length ≤ 1000000000) : LAt w A c o := by
  obtain ⟨A', c', e, h1⟩ := ownsRow_len h
  obtain ⟨rfl, rfl⟩ : A = A' ∧ c = c' := by simpa using e
  exact ⟨h1, C_lots hm (fun h0 => ownsRow_at h h0)⟩
theorem lot_at {w : World} {base g c : Nat} {o : List S37} (h : w.ownsRow base 37 2 (.slice (some ⟨g, 0, none⟩) o.length c) o.length (lotRow o)) {k : Nat} {q : S37} (hq : o[k]? = some q) : w.cell? ⟨g, k * 2, none⟩ = some (.string q.f0) ∧ w.cell? ⟨g, k * 2 + 1, none⟩ = some (.int .i64 q.f1) :=
  ⟨ownsRow_get h (flat_get lotCells 2 (fun _ => rfl) (k := 0) hq rfl), ownsRow_get h (flat_get lotCells 2 (fun _ => rfl) (k := 1) hq rfl)⟩
theorem own_frozen {w : World} {base : Nat} {e : TypeId} {size n c g : Nat} {xs : List Value} (h : w.ownsRow base e size (.slice (some ⟨g, 0, none⟩) n c) n xs) (j : Nat) : w.frozen? ⟨g, j, none⟩ = false := by
  rcases h.2 with ⟨h1, _⟩ | ⟨g', cap, cur, hv, hb, hg, hn, hm, hs, ht⟩
  · cases h1
  · obtain ⟨rfl, rfl⟩ : g = g' ∧ c = cap := by simpa using hv
    exact frozen_of_row w g j _ _ hg
theorem size_lot : (Tryd.prog.info? 37).map (·.size) = some 2 := by kernel_rfl
/-- What is behind the first element. -/
theorem lots_rest {w : World} {base g c : Nat} {v : S37} {t : List S37} (h : w.ownsRow base 37 2 (.slice (some ⟨g, 0, none⟩) (v :: t).length c) (v :: t).length (lotRow (v :: t))) (hc : t.length + 1 ≤ c) : 0 < t.length → ∃ ad, cutN (some ⟨g, 0, none⟩) 1 c 2 = some ad ∧ CellsAt w ad (lotRow t) := by
  intro h0
  refine ⟨⟨g, 2, none⟩, by rw [cutN_at g 0 1 c 2 (by omega)], fun j u hj => ?_⟩
  have e : (⟨g, 2, none⟩ : Addr).add j = ⟨g, 2 + j, none⟩ := by unfold Addr.add; split <;> simp_all
  rw [e]
  refine ownsRow_get h ?_
  show (lotCells v ++ lotRow t)[2 + j]? = some u
  rw [List.getElem?_append_right (by show 2 ≤ 2 + j; omega), show 2 + j - (lotCells v).length = j by show 2 + j - 2 = j; omega]
  exact hj
set_option maxHeartbeats 8000000 in
set_option maxRecDepth 100000 in
theorem orders_any (A0 : Option Addr) (c0 : Nat) (l0 : List S25) (sv : ByteArray) (a b : Int) (w : World) (h0 : VAt w A0 c0 l0) (hT : Tabs w) (hr : ∀ x ∈ l0, -9223372036854775808 ≤ x.f1 ∧ x.f1 ≤ 9223372036854775807) :
    Calls Tryd.prog 4 #[.slice A0 l0.length c0, .string sv, .int .i64 a, .int .i64 b] w fun e w' => e = .returned (.bool true) ∧ Below w.heap.size w w' := by
  have HV := Lib.hid h0
  have HT := Lib.hid hT
  have HR := Lib.hid hr
  have HAW := Lib.hid (awake_c w hT)
  obtain ⟨lb, hb⟩ : ∃ b, lightM l0 = b := ⟨_, rfl⟩
  have HB := Lib.hid hb
  have HLI := Lib.hid (show ∀ W, Only [] w W → Calls Tryd.prog 11 #[.slice A0 l0.length c0] W fun e w' => e = .returned (.bool lb) ∧ Only [] W w' from fun W h => hb ▸ light_c (h0.only h))
  clear h0 hT hr hb
  go_enter Tryd.func4, Tryd.ntmps4
  go_wp2_with (go_at_call 10; refine HAW.out.mono ?_; rintro e w1 ⟨rfl, h1⟩; have HS1 := Lib.hid h1; clear h1; refine (fun (h : Hid _) => h.out) ?_)
  refine Lib.hid ?_
  go_wp2_with (go_at_call 11; refine (HLI.out w1 HS1.out).mono ?_; rintro e w2 ⟨rfl, h2⟩; have HS2 := Lib.hid (HS1.out.trans h2); clear h2; refine (fun (h : Hid _) => h.out) ?_)
  refine Lib.hid ?_
  clear HAW HLI HS1
  cases lb
  · go_wp2
    go_ret
    exact ⟨rfl, HS2.out.nil_below⟩
  by_cases g1 : (200 : Int) < sv.size
  · go_wp2
    go_ret
    exact ⟨rfl, HS2.out.nil_below⟩
  by_cases g2 : a < 1
  · have g1' : (sv.size : Int) ≤ 200 := by omega
    go_wp2
    go_ret
    exact ⟨rfl, HS2.out.nil_below⟩
  by_cases g3 : b < 1
  · have g1' : (sv.size : Int) ≤ 200 := by omega
    have g2' : 1 ≤ a := by omega
    go_wp2
    go_ret
    exact ⟨rfl, HS2.out.nil_below⟩
  by_cases g4 : 1125899906842624 < a
  · have g1' : (sv.size : Int) ≤ 200 := by omega
    have g2' : 1 ≤ a := by omega
    have g3' : 1 ≤ b := by omega
    go_wp2
    go_ret
    exact ⟨rfl, HS2.out.nil_below⟩
  by_cases g5 : 1125899906842624 < b
  · have g1' : (sv.size : Int) ≤ 200 := by omega
    have g2' : 1 ≤ a := by omega
    have g3' : 1 ≤ b := by omega
    have g4' : a ≤ 1125899906842624 := by omega
    go_wp2
    go_ret
    exact ⟨rfl, HS2.out.nil_below⟩
  have g1' : (sv.size : Int) ≤ 200 := by omega
  have g2' : 1 ≤ a := by omega
  have g3' : 1 ≤ b := by omega
  have g4' : a ≤ 1125899906842624 := by omega
  have g5' : b ≤ 1125899906842624 := by omega
  clear g1 g2 g3 g4 g5
  have hL : Lite l0 := lite_of HB.out HR.out
  have HL := Lib.hid hL
  have HD1 := Lib.hid (draw_c (HV.out.only HS2.out) (HT.out.below HS2.out.nil_below) hL sv a)
  have HOK := Lib.hid (order_ok hL sv a b g2' g3')
  have HL2 := Lib.hid (draw_lite hL sv a)
  have HL3 := Lib.hid (draw_lite HL2.out sv b)
  clear hL HB HR
  go_wp2_with (go_at_call 18; refine HD1.out.mono ?_; rintro e w3 ⟨B3, d3, C3, q3, rfl, hV, ⟨_, hO⟩, ho⟩; have HV3 := Lib.hid hV; have HS := Lib.hid (((St.nil w2).made ho hO)); have HS3 := Lib.hid (HS2.out.trans ho); clear hV hO ho; refine (fun (h : Hid _) => h.out) ?_)
  refine Lib.hid ?_
  clear HD1
  have HD2 := Lib.hid (draw_c HV3.out (HT.out.below HS3.out.nil_below) HL2.out sv b)
  clear HV3
  go_wp2_with (go_at_call 18; refine HD2.out.mono ?_; rintro e w4 ⟨B4, d4, C4, q4, rfl, hV, ⟨_, hO⟩, ho⟩; have HV4 := Lib.hid hV; replace HS := Lib.hid (HS.out.made ho hO); have HS4 := Lib.hid (HS3.out.trans ho); clear hV hO ho; refine (fun (h : Hid _) => h.out) ?_)
  refine Lib.hid ?_
  clear HD2 HS3
  have HD3 := Lib.hid (draw_c (HV.out.only HS4.out) (HT.out.below HS4.out.nil_below) HL.out sv (a + b))
  go_wp2_with (go_at_call 18; refine HD3.out.mono ?_; rintro e w5 ⟨B5, d5, C5, q5, rfl, hV, ⟨_, hO⟩, ho⟩; have HV5 := Lib.hid hV; replace HV4 := Lib.hid (HV4.out.only ho); replace HS := Lib.hid (HS.out.made ho hO); have HS5 := Lib.hid (HS4.out.trans ho); clear hV hO ho; refine (fun (h : Hid _) => h.out) ?_)
  refine Lib.hid ?_
  clear HD3 HS4 HL2 HV
  generalize drawM l0 sv (a + b) = D3 at *
  generalize drawM (drawM l0 sv a).1 sv b = D2 at *
  generalize drawM l0 sv a = D1 at *
  obtain ⟨m1, o1, e1⟩ := D1
  obtain ⟨m2, o2, e2⟩ := D2
  obtain ⟨m3, o3, e3⟩ := D3
  dsimp only at *
  by_cases he1 : e1 = 0
  rotate_left
  · obtain ⟨x1, rfl, rfl⟩ := HOK.out.no (fun h => he1 h.1)
    have x1 : ¬ e3 = 0 := x1
    have hb3 : (e3 != 0) = true := bne_iff_ne.2 x1
    simp only [List.length_nil]
    go_wp2
    go_ret
    exact ⟨rfl, HS5.out.nil_below⟩
  subst he1
  by_cases he2 : e2 = 0
  rotate_left
  · obtain ⟨x1, rfl, rfl⟩ := HOK.out.no (fun h => he2 h.2)
    have x1 : ¬ e3 = 0 := x1
    have hb3 : (e3 != 0) = true := bne_iff_ne.2 x1
    simp only [List.length_nil]
    go_wp2
    go_ret
    exact ⟨rfl, HS5.out.nil_below⟩
  subst he2
  obtain ⟨rfl, rfl, k, q, v, t, n1, n2, rfl, n3, n4, n5, n6, n7⟩ := HOK.out.yes rfl rfl
  clear HOK
  have n1 : o1.length = k + 1 := n1
  have HQ := Lib.hid (show o1[k]? = some q from n2)
  have HO3 := Lib.hid n7
  obtain ⟨gA, cA, hgA, hcA⟩ := ownsRow_some (HS.out.row 0 rfl) (by omega)
  obtain ⟨rfl, rfl⟩ : C3 = some ⟨gA, 0, none⟩ ∧ q3 = cA := by simpa using hgA
  obtain ⟨gB, cB, hgB, hcB⟩ := ownsRow_some (HS.out.row 1 rfl) (by simp)
  obtain ⟨rfl, rfl⟩ : C4 = some ⟨gB, 0, none⟩ ∧ q4 = cB := by simpa using hgB
  clear hgA hgB n2 n7
  obtain ⟨qn, qg⟩ := q
  obtain ⟨vn, vg⟩ := v
  dsimp only at n5 n6 HO3
  have HSM := Lib.hid (same_c HV4.out HV5.out HL3.out)
  have hn1 : ¬ o1.length = 0 := by omega
  have hn2 : ¬ ((⟨vn, vg⟩ : S37) :: t).length = 0 := by simp
  go_wp2_with (go_at_call 19; refine HSM.out.mono ?_; rintro e w6 ⟨rfl, h6⟩; have HS6 := Lib.hid (HS5.out.trans h6); replace HS := Lib.hid (HS.out.keep h6); clear h6; refine (fun (h : Hid _) => h.out) ?_)
  refine Lib.hid ?_
  clear HSM HV4 HV5 HS5
  have hk0 : (0 : Int) ≤ k := by omega
  have hz1 : ((k : Int) + 1 == 0) = false := by rw [beq_eq_false_iff_ne]; omega
  have hz2 : ((t.length : Int) + 1 == 0) = false := by rw [beq_eq_false_iff_ne]; omega
  have hkA : (k : Int) < (k : Int) + 1 := by omega
  have h0B : (0 : Int) < (t.length : Int) + 1 := by omega
  have HRA := Lib.hid (lot_at (HS.out.row 0 rfl) HQ.out)
  have HRB := Lib.hid (lot_at (o := ⟨vn, vg⟩ :: t) (HS.out.row 1 rfl) (k := 0) rfl)
  have hwr : IntKind.i64.wrap (k : Int) = k := by unfold IntKind.wrap; simp [IntKind.bits, IntKind.signed]; omega
  go_wp2
  refine L.grow_start [] 11 ((0, true, false) :: (1, true, false) :: (2, true, false) :: (3, true, false) :: (4, true, false) :: (5, true, false) :: (6, true, true) :: (7, true, true) :: (8, true, true) :: (9, true, true) :: (10, true, true) :: []) (by kernel_rfl) (([], [12], some 117) :: ([], [21], some 118) :: ([1], [118], some 119) :: ([0, 2], [117, 119], some 120) :: ([3], [120], some 121) :: ([4], [121], some 122) :: ([], [15], some 123) :: ([6], [123], some 124) :: ([7], [124], some 125) :: ([8], [125], some 126) :: ([5, 9], [122, 126], some 127) :: []) (by kernel_rfl) (by kernel_rfl) (n := 11) rfl (by kernel_rfl) (fun _ _ _ _ _ h => h) (fun wg hog => ?_)
  refine L.growe_start (N := 151) (by rfl) ?_
  have z1 : ∀ w', Only [] wg w' → w'.cell? ⟨gA, k * 2, none⟩ = some (.string qn) := fun w' h => (hog.trans h).cell HRA.out.1 (by simp)
  have z2 : ∀ w', Only [] wg w' → w'.cell? ⟨gB, 0, none⟩ = some (.string vn) := fun w' h => (hog.trans h).cell (by simpa using HRB.out.1) (by simp)
  have HG := Lib.hid hog
  clear hog
  iterate 3 (first | (refine L.ge_off rfl rfl rfl (by rfl) ?_) | (refine L.ge_move rfl rfl rfl (by rfl) rfl (by simp [L.evE, L.lk, Act.eval, hwr]; rfl) ?_) | (refine L.ge_pick rfl rfl rfl (by rfl) rfl (by simp [L.evE, L.lk, Act.eval, hwr]; rfl) (by simp [L.evE, L.lk, Act.eval, hwr]; rfl) ?_) | (refine L.ge_val rfl rfl rfl (by rfl) (by intro w' hw'; simp [execOp, L.evE, L.lk, Act.eval, hwr]; go_simp; rfl) ?_))
  iterate 8 (first | (refine L.ge_off rfl rfl rfl (by rfl) ?_) | (refine L.ge_move rfl rfl rfl (by rfl) rfl (by simp [L.evE, L.lk, Act.eval]; rfl) ?_) | (refine L.ge_pick rfl rfl rfl (by rfl) rfl (by simp [L.evE, L.lk, Act.eval]; rfl) (by simp [L.evE, L.lk, Act.eval]; rfl) ?_) | (refine L.ge_val rfl rfl rfl (by rfl) (by intro w' hw'; simp [execOp, L.evE, L.lk, Act.eval]; go_simp; rfl) ?_))
  refine L.ge_done ?_
  simp only [L.puts, Act.put, goInt, List.setIfInBounds_toArray, List.set_cons_zero, List.set_cons_succ]
  clear z1 z2
  replace HS := Lib.hid (HS.out.keep HG.out)
  replace HS6 := Lib.hid (HS6.out.trans HG.out)
  replace HRA := Lib.hid (And.intro (HG.out.cell HRA.out.1 (by simp)) (HG.out.cell HRA.out.2 (by simp)))
  replace HRB := Lib.hid (And.intro (HG.out.cell HRB.out.1 (by simp)) (HG.out.cell HRB.out.2 (by simp)))
  clear HG
  by_cases hqv : qn = vn
  · rw [if_pos hqv] at HO3
    have hqe : (qn.toList == vn.toList) = true := by rw [hqv]; exact beq_self_eq_true _
    rw [hqe]
    clear hqv hqe
    have hwr2 : IntKind.i64.wrap (qg + vg) = qg + vg := by unfold IntKind.wrap; simp [IntKind.bits, IntKind.signed]; omega
    go_wp2
    refine L.grow_start [] 16 ((0, true, false) :: (1, true, false) :: (2, true, false) :: (3, true, false) :: (4, true, false) :: (5, true, false) :: (6, true, false) :: (7, true, false) :: (8, true, false) :: (9, true, true) :: (10, true, true) :: (11, true, true) :: (12, true, true) :: (13, true, true) :: (14, true, true) :: (15, true, true) :: (16, false, true) :: []) (by kernel_rfl) (([], [12], some 128) :: ([], [21], some 129) :: ([1], [129], some 130) :: ([], [12], some 131) :: ([], [21], some 132) :: ([4], [132], some 133) :: ([3, 5], [131, 133], some 134) :: ([6], [134], some 135) :: ([7], [135], some 136) :: ([], [15], some 137) :: ([9], [137], some 138) :: ([10], [138], some 139) :: ([11], [139], some 140) :: ([8, 12], [136, 140], some 141) :: ([0, 2, 0, 1, 2, 3, 4, 5, 6, 7, 8, 9, 10, 11, 12, 13], [128, 130], some 142) :: ([14, 0, 1, 2, 3, 4, 5, 6, 7, 8, 9, 10, 11, 12, 13], [142], some 143) :: ([15, 13, 0, 1, 2, 3, 4, 5, 6, 7, 8, 9, 10, 11, 12, 13], [143, 141], none) :: []) (by kernel_rfl) (by kernel_rfl) (n := 17) rfl (by kernel_rfl) (fun _ _ _ _ _ h => h) (fun wg2 hog => ?_)
    refine L.growe_start (N := 151) (by rfl) ?_
    have z3 : ∀ w', Only [] wg2 w' → w'.cell? ⟨gA, k * 2 + 1, none⟩ = some (.int .i64 qg) := fun w' h => (hog.trans h).cell HRA.out.2 (by simp)
    have z4 : ∀ w', Only [] wg2 w' → w'.cell? ⟨gB, 1, none⟩ = some (.int .i64 vg) := fun w' h => (hog.trans h).cell (by simpa using HRB.out.2) (by simp)
    have z5 := z3 wg2 (Only.refl _ _)
    have z6 := own_frozen ((HS.out.keep hog).row 0 rfl) (k * 2 + 1)
    have HG := Lib.hid hog
    clear hog
    iterate 16 (first | (refine L.ge_off rfl rfl rfl (by rfl) ?_) | (refine L.ge_move rfl rfl rfl (by rfl) rfl (by simp [L.evE, L.lk, Act.eval, hwr, hwr2]; rfl) ?_) | (refine L.ge_pick rfl rfl rfl (by rfl) rfl (by simp [L.evE, L.lk, Act.eval, hwr, hwr2]; rfl) (by simp [L.evE, L.lk, Act.eval, hwr, hwr2]; rfl) ?_) | (refine L.ge_val rfl rfl rfl (by rfl) (by intro w' hw'; simp [execOp, L.evE, L.lk, Act.eval, hwr, hwr2]; go_simp; rfl) ?_))
    refine L.ge_last (w' := wg2.setCell ⟨gA, k * 2 + 1, none⟩ (.int .i64 (qg + vg))) rfl rfl (by rfl) (by simp [execOp, L.evE, L.lk, Act.eval, hwr2]; go_simp) ?_
    simp only [L.puts, Act.put, goInt, List.setIfInBounds_toArray, List.set_cons_zero, List.set_cons_succ]
    clear z3 z4 z5 z6
    replace HS := Lib.hid ((HS.out.keep HG.out).pokeRow 0 rfl (k * 2 + 1) (.int .i64 (qg + vg)))
    have hst : (lotRow o1).set (k * 2 + 1) (.int .i64 (qg + vg)) = lotRow (o1.set k ⟨qn, qg + vg⟩) := flat_set lotCells 2 (fun _ => rfl) o1 k 1 ⟨qn, qg⟩ ⟨qn, qg + vg⟩ _ HQ.out rfl (by omega)
    rw [hst] at HS
    clear hst HG
    have hol : (o1.set k ⟨qn, qg + vg⟩).length = k + 1 := by rw [List.length_set]; exact n1
    generalize wg2.setCell ⟨gA, k * 2 + 1, none⟩ (.int .i64 (qg + vg)) = w7 at *
    generalize o1.set k ⟨qn, qg + vg⟩ = o1 at *
    have HRW := Lib.hid (show w7.ownsRow w2.heap.size 37 2 (.slice (some ⟨gA, 0, none⟩) (k + 1) q3) (k + 1) (lotRow o1) from n1 ▸ HS.out.row 0 rfl)
    have HRT := Lib.hid (lots_rest (HS.out.row 1 rfl) hcB)
    have hcB1 : t.length + 1 ≤ q4 := hcB
    generalize hcut : cutN (some ⟨gB, 0, none⟩) 1 q4 2 = A7 at *
    go_wp2_with (first
      | (with_reducible refine wpList_cutN 37 2 Tryd.underlying23 size_lot (some ⟨gB, 0, none⟩) (t.length + 1) q4 rfl 1 (t.length + 1) q4 (bounds_l _ (t.length + 1) q4 _ _ 1 rfl (by omega)) ?_; rw [hcut, Nat.add_sub_cancel])
      | (at_builtin; refine wpList_append_row rfl _ _ 23 rfl w2.heap.size 37 2 24 (.agg #[.string ⟨#[]⟩, .int .i64 0]) Tryd.underlying23 infoLt rfl (by omega) (.slice (some ⟨gA, 0, none⟩) (k + 1) q3) (k + 1) _ rfl HRW.out A7 t.length (q4 - 1) (lotRow t) rfl (lotRow_length _) HRT.out (lotRow_one _) (by unfold maxLen; omega) (by omega) HS.out.le ?_; intro A8 c8 w8 hown ho hblk; have HO8 := Lib.hid hown; have HS8 := Lib.hid (HS.out.grow 0 rfl ho hown hblk); clear hown ho hblk; refine (fun (h : Hid _) => h.out) ?_))
    refine Lib.hid ?_
    clear HRW HRT
    have hall : o3.length = k + 1 + t.length := by rw [HO3.out, List.length_append]; first | omega | (simp only [List.length_cons]; omega)
    have HLT := Lib.hid (own_LAt (o := o3) (HS8.out.row 2 rfl) (by omega))
    have HLO := Lib.hid (lots_c (l := o3) (A := A8) (c := c8) (by
      have := HO8.out
      rw [← lotRow_append, ← HO3.out, ← hall] at this
      exact own_LAt this (by omega)) HLT.out (by omega))
    rw [hall] at HLO
    replace HS6 := Lib.hid (HS2.out.trans HS8.out.only)
    go_wp2_with (go_at_call 20; refine HLO.out.mono ?_; rintro e w9 ⟨rfl, h9⟩; have HS9 := Lib.hid (HS6.out.trans h9); clear h9)
    go_ret
    exact ⟨rfl, HS9.out.nil_below⟩
  · rw [if_neg hqv] at HO3
    have hqc : (qn.toList == vn.toList) = false := by rw [bytes_beq, decide_eq_false hqv]
    rw [hqc]
    clear hqc hqv
    have HRW := Lib.hid (show wg.ownsRow w2.heap.size 37 2 (.slice (some ⟨gA, 0, none⟩) (k + 1) q3) (k + 1) (lotRow o1) from n1 ▸ HS.out.row 0 rfl)
    have HRT := Lib.hid (show 0 < t.length + 1 → ∃ ad, (some ⟨gB, 0, none⟩ : Option Addr) = some ad ∧ CellsAt wg ad (lotRow (⟨vn, vg⟩ :: t)) from fun _ => ownsRow_at (HS.out.row 1 rfl) (by simp))
    go_wp2_with (at_builtin; refine wpList_append_row rfl _ _ 23 rfl w2.heap.size 37 2 24 (.agg #[.string ⟨#[]⟩, .int .i64 0]) Tryd.underlying23 infoLt rfl (by omega) (.slice (some ⟨gA, 0, none⟩) (k + 1) q3) (k + 1) _ rfl HRW.out (some ⟨gB, 0, none⟩) (t.length + 1) q4 (lotRow (⟨vn, vg⟩ :: t)) rfl (lotRow_length _) HRT.out (lotRow_one _) (by unfold maxLen; omega) (by omega) HS.out.le ?_; intro A8 c8 w8 hown ho hblk; have HO8 := Lib.hid hown; have HS8 := Lib.hid (HS.out.grow 0 rfl ho hown hblk); clear hown ho hblk; refine (fun (h : Hid _) => h.out) ?_)
    refine Lib.hid ?_
    clear HRW HRT
    have hall : o3.length = k + 1 + (t.length + 1) := by rw [HO3.out, List.length_append]; first | omega | (simp only [List.length_cons]; omega)
    have HLT := Lib.hid (own_LAt (o := o3) (HS8.out.row 2 rfl) (by omega))
    have HLO := Lib.hid (lots_c (l := o3) (A := A8) (c := c8) (by
      have := HO8.out
      rw [← lotRow_append, ← HO3.out, ← hall] at this
      exact own_LAt this (by omega)) HLT.out (by omega))
    rw [hall] at HLO
    replace HS6 := Lib.hid (HS2.out.trans HS8.out.only)
    go_wp2_with (go_at_call 20; refine HLO.out.mono ?_; rintro e w9 ⟨rfl, h9⟩; have HS9 := Lib.hid (HS6.out.trans h9); clear h9)
    go_ret
    exact ⟨rfl, HS9.out.nil_below⟩
end Go.Proofs.YtejecmjajdhiiaaDoor.Print
/-! ### LgWalk5 -/
namespace Go.Proofs.YtejecmjajdhiiaaDoor.Print
open Go.RowKit Go.Proofs.YtejecmjajdhiiaaDoorW.PrintWords Go.Proofs.YtejecmjajdhiiaaDoorW.PrintLast Go.Proofs.YtejecmjajdhiiaaDoorW.PrintMore
set_option linter.unusedSimpArgs false
set_option linter.unusedVariables false
theorem cell_f0 {w : World} {ad : Addr} {k n : Nat} {cs : List Value} {u : Value} (h : CellsAt w (ad.add (k * n)) cs) (hu : cs[0]? = some u) : w.cell? (ad.add (k * n)) = some u := cellsAt_head h hu
theorem cell_fj {w : World} {ad : Addr} {k n : Nat} {cs : List Value} {u : Value} (h : CellsAt w (ad.add (k * n)) cs) (j : Nat) (hj : 0 < j) (hu : cs[j]? = some u) : w.cell? ⟨(ad.add (k * n)).block, (ad.add (k * n)).off + j, none⟩ = some u := cellsAt_field h j hj hu
set_option maxHeartbeats 8000000 in
set_option maxRecDepth 100000 in
theorem room_any (A0 : Option Addr) (c0 : Nat) (l0 : List S25) (i : Int) (w : World) (h0 : VAt w A0 c0 l0) (hT : Tabs w) (hr : ∀ x ∈ l0, -9223372036854775808 ≤ x.f1 ∧ x.f1 ≤ 9223372036854775807) :
    Calls Tryd.prog 8 #[.slice A0 l0.length c0, .int .i64 i] w fun e w' => e = .returned (.bool true) ∧ Below w.heap.size w w' := by
  have HV := Lib.hid h0
  have HT := Lib.hid hT
  have HR := Lib.hid hr
  have HAW := Lib.hid (awake_c w hT)
  obtain ⟨b, hb⟩ : ∃ b, lightM l0 = b := ⟨_, rfl⟩
  have HB := Lib.hid hb
  have HLI := Lib.hid (show ∀ W, Only [] w W → Calls Tryd.prog 11 #[.slice A0 l0.length c0] W fun e w' => e = .returned (.bool b) ∧ Only [] W w' from fun W h => hb ▸ light_c (h0.only h))
  clear h0 hT hr hb
  go_enter Tryd.func8, Tryd.ntmps8
  go_wp2_with (go_at_call 10; refine HAW.out.mono ?_; rintro e w1 ⟨rfl, h1⟩; have HS1 := Lib.hid h1; clear h1; refine (fun (h : Hid _) => h.out) ?_)
  refine Lib.hid ?_
  go_wp2_with (go_at_call 11; refine (HLI.out w1 HS1.out).mono ?_; rintro e w2 ⟨rfl, h2⟩; have HS2 := Lib.hid (HS1.out.trans h2); clear h2; refine (fun (h : Hid _) => h.out) ?_)
  refine Lib.hid ?_
  clear HAW HLI HS1
  cases b
  · go_wp2
    go_ret
    exact ⟨rfl, HS2.out.nil_below⟩
  by_cases hi0 : i < 0
  · go_wp2
    go_ret
    exact ⟨rfl, HS2.out.nil_below⟩
  have hi0' : (0 : Int) ≤ i := by omega
  by_cases hi1 : (l0.length : Int) ≤ i
  · go_wp2
    go_ret
    exact ⟨rfl, HS2.out.nil_below⟩
  obtain ⟨k, rfl⟩ := Int.eq_ofNat_of_zero_le hi0'
  have hk : k < l0.length := by omega
  have hkk : (k : Int) < l0.length := by omega
  clear hi0 hi0' hi1
  have hk0 : (0 : Int) ≤ k := by omega
  have hL : Lite l0 := lite_of HB.out HR.out
  have HL := Lib.hid hL
  obtain ⟨c, hc⟩ : ∃ c, checkM l0 = c := ⟨_, rfl⟩
  have HC := Lib.hid hc
  have HCK := Lib.hid (show ∀ W, Only [] w W → Calls Tryd.prog 12 #[.slice A0 l0.length c0] W fun e w' => e = .returned (.int .i64 c) ∧ Only [] W w' from fun W h => hc ▸ check_c (HV.out.only h) (HT.out.below h.nil_below) hL)
  clear hc hL HB HR
  by_cases hc0 : c = 0
  rotate_left
  · have hcb : (c != 0) = true := bne_iff_ne.2 hc0
    go_wp2_with (go_at_call 12; refine (HCK.out w2 HS2.out).mono ?_; rintro e w3 ⟨rfl, h3⟩; have HS3 := Lib.hid (HS2.out.trans h3); clear h3)
    go_ret
    exact ⟨rfl, HS3.out.nil_below⟩
  subst hc0
  go_wp2_with (go_at_call 12; refine (HCK.out w2 HS2.out).mono ?_; rintro e w3 ⟨rfl, h3⟩; have HS3 := Lib.hid (HS2.out.trans h3); clear h3; refine (fun (h : Hid _) => h.out) ?_)
  refine Lib.hid ?_
  clear HCK HS2
  have hG := (good_iff l0).1 HC.out
  obtain ⟨x, hx⟩ : ∃ x, l0[k]? = some x := ⟨_, List.getElem?_eq_getElem hk⟩
  obtain ⟨ad, A2, c2, rfl, hLA, hcs⟩ := HV.out.elem hx
  obtain ⟨k1, k2, ⟨k3, k4⟩, k5, k6, k7, k8, k9, k10, k11⟩ := room_ok HL.out hG hx
  have hlx := HL.out.all x (List.mem_of_getElem? hx)
  have HX := Lib.hid hx
  obtain ⟨nm, cp, lo⟩ := x
  dsimp only at k1 k2 k3 k4 k5 k6 k7 k8 k9 k10 k11 hLA hcs
  have HLA := Lib.hid hLA
  have HCS := Lib.hid (show ∀ W, Only [] w W → CellsAt W (ad.add (k * 3)) [.string nm, .int .i64 cp, .slice A2 lo.length c2] from fun W h => hcs.only h (by simp))
  have HLN := Lib.hid (show lo.length ≤ 60 from hlx.len)
  generalize hs : sumL lo = s at *
  have HLV := Lib.hid (show ∀ W, Only [] w W → Calls Tryd.prog 16 #[.agg #[.string nm, .int .i64 cp, .slice A2 lo.length c2]] W fun e w' => e = .returned (.int .i64 s) ∧ Only [] W w' from fun W h => by
    have := level_c (x := ⟨nm, cp, lo⟩) (HLA.out.only h) (HT.out.below h.nil_below) hlx
    rw [k5] at this
    exact this)
  have HC1 := Lib.hid (show ∀ W, Only [] w W → Calls Tryd.prog 23 #[.slice (some ad) l0.length c0, .string nm, .string ⟨#[108, 111, 116]⟩, .int .i64 (cp - s + 1)] W fun e w' => ∃ B d, e = .returned (.tuple #[.slice B 0 d, .int .i64 130]) ∧ Only [] W w' from fun W h => by
    refine (charge_c (HV.out.only h) (HT.out.below h.nil_below) HL.out nm lotS (cp - s + 1) (by decide)).mono ?_
    rintro e w' ⟨B, d, he, _, ho⟩
    rw [k6] at he
    exact ⟨B, d, he, ho⟩)
  have HC2 := Lib.hid (show ∀ W, Only [] w W → Calls Tryd.prog 23 #[.slice (some ad) l0.length c0, .string nm, .string ⟨#[108, 111, 116]⟩, .int .i64 (cp - s)] W fun e w' => ∃ B d, e = .returned (.tuple #[.slice B (chargeM l0 nm lotS (cp - s)).1.length d, .int .i64 (chargeM l0 nm lotS (cp - s)).2]) ∧ VAt w' B d (chargeM l0 nm lotS (cp - s)).1 ∧ Only [] W w' from fun W h => charge_c (HV.out.only h) (HT.out.below h.nil_below) HL.out nm lotS (cp - s) (by decide))
  have HD1 := Lib.hid (show ∀ W, Only [] w W → Calls Tryd.prog 18 #[.slice (some ad) l0.length c0, .string nm, .int .i64 (s + 1)] W fun e w' => ∃ B d C q, e = .returned (.tuple #[.slice B 0 d, .slice C 0 q, .int .i64 130]) ∧ Only [] W w' from fun W h => by
    refine (draw_c (HV.out.only h) (HT.out.below h.nil_below) HL.out nm (s + 1)).mono ?_
    rintro e w' ⟨B, d, C, q, he, _, _, ho⟩
    rw [k9] at he
    exact ⟨B, d, C, q, he, ho⟩)
  have HD2 := Lib.hid (show ∀ W, Only [] w W → Calls Tryd.prog 18 #[.slice (some ad) l0.length c0, .string nm, .int .i64 s] W fun e w' => ∃ B d C q, e = .returned (.tuple #[.slice B (drawM l0 nm s).1.length d, .slice C (drawM l0 nm s).2.1.length q, .int .i64 (drawM l0 nm s).2.2]) ∧ VAt w' B d (drawM l0 nm s).1 ∧ LAt w' C q (drawM l0 nm s).2.1 ∧ Only [] W w' from fun W h => by
    refine (draw_c (HV.out.only h) (HT.out.below h.nil_below) HL.out nm s).mono ?_
    rintro e w' ⟨B, d, C, q, he, hB, ⟨hC, _⟩, ho⟩
    exact ⟨B, d, C, q, he, hB, hC, ho⟩)
  have HRC := Lib.hid (show (cp - s = 0 ∧ chargeM l0 nm lotS (cp - s) = ([], 130)) ∨ (0 < cp - s ∧ 5 ≤ lo.length ∧ chargeM l0 nm lotS (cp - s) = ([], 2)) ∨ (0 < cp - s ∧ ∃ y, chargeM l0 nm lotS (cp - s) = (l0.set k y, 0) ∧ levelM y = cp ∧ LtV 60 y) from by
    by_cases h : cp - s = 0
    · exact .inl ⟨h, k7 h⟩
    · rcases k8 (by omega) with ⟨p, q⟩ | p
      · exact .inr (.inl ⟨by omega, p, q⟩)
      · exact .inr (.inr ⟨by omega, p⟩))
  have HRD := Lib.hid (show (s = 0 ∧ drawM l0 nm s = ([], [], 130)) ∨ (0 < s ∧ drawM l0 nm s = (l0.set k ⟨nm, cp, []⟩, lo, 0)) from by
    by_cases h : s = 0
    · exact .inl ⟨h, k10 h⟩
    · exact .inr ⟨by omega, k11 (by omega)⟩)
  generalize chargeM l0 nm lotS (cp - s) = RC at *
  generalize drawM l0 nm s = RD at *
  obtain ⟨r1, r2⟩ := RC
  obtain ⟨q1, q2, q3⟩ := RD
  dsimp only at HC2 HD2
  clear k5 k6 k7 k8 k9 k10 k11 hlx hLA hcs hG hx HC hs
  have HS3' := HS3
  go_wp2_with (first
    | (with_reducible refine wpList_load_at rfl 25 (.tmp 47) rfl (ad.add (k * 3)) rfl _ _ (HCS.out w3 HS3.out) Tryd.underlying25 rfl (by kernel_rfl) ?_)
    | (go_at_call 16; refine (HLV.out w3 HS3.out).mono ?_; rintro e w4 ⟨rfl, h4⟩; have HS4 := Lib.hid (HS3.out.trans h4); clear h4; refine (fun (h : Hid _) => h.out) ?_))
  refine Lib.hid ?_
  clear HLV HS3 HS3'
  have m0 := cell_f0 (HCS.out w4 HS4.out) rfl
  have m1 := cell_fj (HCS.out w4 HS4.out) 1 (by omega) rfl
  go_wp2_with (go_at_call 23; refine (HC1.out w4 HS4.out).mono ?_; rintro e w5 ⟨B5, d5, rfl, h5⟩; have HS5 := Lib.hid (HS4.out.trans h5); clear h5; refine (fun (h : Hid _) => h.out) ?_)
  refine Lib.hid ?_
  clear HC1 HS4 m0 m1
  have m0 := cell_f0 (HCS.out w5 HS5.out) rfl
  go_wp2_with (go_at_call 23; refine (HC2.out w5 HS5.out).mono ?_; rintro e w6 ⟨B6, d6, rfl, hV6, h6⟩; have HS6 := Lib.hid (HS5.out.trans h6); have HV6 := Lib.hid hV6; clear h6 hV6; refine (fun (h : Hid _) => h.out) ?_)
  refine Lib.hid ?_
  clear HC2 HS5 m0
  have m0 := cell_f0 (HCS.out w6 HS6.out) rfl
  go_wp2_with (go_at_call 18; refine (HD1.out w6 HS6.out).mono ?_; rintro e w7 ⟨B7, d7, C7, e7, rfl, h7⟩; have HS7 := Lib.hid (HS6.out.trans h7); replace HV6 := Lib.hid (HV6.out.only h7); clear h7; refine (fun (h : Hid _) => h.out) ?_)
  refine Lib.hid ?_
  clear HD1 HS6 m0
  have m0 := cell_f0 (HCS.out w7 HS7.out) rfl
  go_wp2_with (go_at_call 18; refine (HD2.out w7 HS7.out).mono ?_; rintro e w8 ⟨B8, d8, C8, e8, rfl, hV8, hL8, h8⟩; have HS8 := Lib.hid (HS7.out.trans h8); replace HV6 := Lib.hid (HV6.out.only h8); have HV8 := Lib.hid hV8; have HL8 := Lib.hid hL8; clear h8 hV8 hL8; refine (fun (h : Hid _) => h.out) ?_)
  refine Lib.hid ?_
  clear HD2 HS7 m0
  have hs9 : s ≤ 1125899906842624 := by omega
  rcases HRC.out with hrc | hrc | hrc
  · as_aux_lemma =>
    obtain ⟨hrm, he⟩ := hrc
    simp only [Prod.mk.injEq] at he
    obtain ⟨rfl, rfl⟩ := he
    clear HV6
    have m2 := cell_fj (HCS.out w8 HS8.out) 2 (by omega) rfl
    go_wp2
    refine L.grow_start [] 15 ((0, true, true) :: (1, true, true) :: (2, true, true) :: (3, true, false) :: (4, true, false) :: (5, true, false) :: (6, true, false) :: (8, true, false) :: (9, true, false) :: (10, true, false) :: (11, true, false) :: (12, true, false) :: (7, true, true) :: (13, true, true) :: (14, true, true) :: []) (by kernel_rfl) (([], [12], some 138) :: ([0], [138], some 139) :: ([1], [139], some 140) :: ([2], [11, 140], some 141) :: ([2], [1, 140], some 142) :: ([3, 4, 2], [141, 142, 140], some 143) :: ([5, 2], [143, 140], some 144) :: ([6, 2, 2], [144, 140], some 145) :: ([2], [0, 140], some 146) :: ([2], [1, 140], some 147) :: ([8, 9, 2], [146, 147, 140], some 148) :: ([10, 2], [148, 140], some 149) :: ([11, 2], [149, 140], some 150) :: ([7, 12, 2], [145, 150, 140], some 151) :: ([2, 13], [140, 151], some 152) :: []) (by kernel_rfl) (by kernel_rfl) (n := 15) rfl (by kernel_rfl) (fun _ _ _ _ _ h => h) (fun wg hog => ?_)
    refine L.growe_start (N := 178) (by rfl) ?_
    have HSX := Lib.hid (HS8.out.trans hog)
    have HVX := Lib.hid (HV8.out.only hog)
    have HLX := Lib.hid (HL8.out.only hog)
    clear hog HV8 HL8 HS8 m2
    iterate 15 (first | (refine L.ge_off rfl rfl rfl (by rfl) ?_) | (refine L.ge_move rfl rfl rfl (by rfl) rfl (by simp [L.evE, L.lk, Act.eval]; rfl) ?_) | (refine L.ge_pick rfl rfl rfl (by rfl) rfl (by simp [L.evE, L.lk, Act.eval]; rfl) (by simp [L.evE, L.lk, Act.eval]; rfl) ?_) | (refine L.ge_val rfl rfl rfl (by rfl) (by intro w' hw'; simp [execOp, L.evE, L.lk, Act.eval]; go_simp; rfl) ?_))
    refine L.ge_done ?_
    simp only [L.puts, Act.put, goInt, List.setIfInBounds_toArray, List.set_cons_zero, List.set_cons_succ]
    rcases HRD.out with hsd | hsd
    · exact absurd hsd.1 (by omega)
    · obtain ⟨hs0, hq⟩ := hsd
      simp only [Prod.mk.injEq] at hq
      obtain ⟨rfl, rfl, rfl⟩ := hq
      have hs1 : ¬ s = 0 := by omega
      have m2 := cell_fj (HCS.out wg HSX.out) 2 (by omega) rfl
      have hk' : (k : Int) < (l0.set k (⟨nm, cp, []⟩ : S25)).length := by rw [List.length_set]; exact hkk
      obtain ⟨adn, A9, c9, rfl, _, hcn⟩ := HVX.out.elem (i := k) (x := ⟨nm, cp, []⟩) (by rw [List.getElem?_set_self hk])
      have HCN := Lib.hid hcn
      have HLO := Lib.hid (lots_c HLX.out (HLA.out.only HSX.out) (by have := HLN.out; omega))
      clear hcn
      go_wp2_with (go_at_call 20; refine HLO.out.mono ?_; rintro e W9 ⟨rfl, h9⟩; have HS9 := Lib.hid (HSX.out.trans h9); have n2 := cell_fj (HCN.out.only h9 (by simp)) 2 (by omega) rfl; clear h9; refine (fun (h : Hid _) => h.out) ?_)
      refine Lib.hid ?_
      clear HLO m2
      go_wp2
      go_ret
      exact ⟨rfl, HS9.out.nil_below⟩
  · as_aux_lemma =>
    obtain ⟨hrm, h5, he⟩ := hrc
    simp only [Prod.mk.injEq] at he
    obtain ⟨rfl, rfl⟩ := he
    have h5' : (5 : Int) ≤ lo.length := by omega
    have hrm1 : ¬ cp - s = 0 := by omega
    clear HV6
    have m2 := cell_fj (HCS.out w8 HS8.out) 2 (by omega) rfl
    go_wp2
    refine L.grow_start [] 15 ((0, true, true) :: (1, true, true) :: (2, true, true) :: (3, true, false) :: (4, true, false) :: (5, true, false) :: (6, true, false) :: (8, true, false) :: (9, true, false) :: (10, true, false) :: (11, true, false) :: (12, true, false) :: (7, true, true) :: (13, true, true) :: (14, true, true) :: []) (by kernel_rfl) (([], [12], some 138) :: ([0], [138], some 139) :: ([1], [139], some 140) :: ([2], [11, 140], some 141) :: ([2], [1, 140], some 142) :: ([3, 4, 2], [141, 142, 140], some 143) :: ([5, 2], [143, 140], some 144) :: ([6, 2, 2], [144, 140], some 145) :: ([2], [0, 140], some 146) :: ([2], [1, 140], some 147) :: ([8, 9, 2], [146, 147, 140], some 148) :: ([10, 2], [148, 140], some 149) :: ([11, 2], [149, 140], some 150) :: ([7, 12, 2], [145, 150, 140], some 151) :: ([2, 13], [140, 151], some 152) :: []) (by kernel_rfl) (by kernel_rfl) (n := 15) rfl (by kernel_rfl) (fun _ _ _ _ _ h => h) (fun wg hog => ?_)
    refine L.growe_start (N := 178) (by rfl) ?_
    have HSX := Lib.hid (HS8.out.trans hog)
    have HVX := Lib.hid (HV8.out.only hog)
    have HLX := Lib.hid (HL8.out.only hog)
    clear hog HV8 HL8 HS8 m2
    iterate 15 (first | (refine L.ge_off rfl rfl rfl (by rfl) ?_) | (refine L.ge_move rfl rfl rfl (by rfl) rfl (by simp [L.evE, L.lk, Act.eval]; rfl) ?_) | (refine L.ge_pick rfl rfl rfl (by rfl) rfl (by simp [L.evE, L.lk, Act.eval]; rfl) (by simp [L.evE, L.lk, Act.eval]; rfl) ?_) | (refine L.ge_val rfl rfl rfl (by rfl) (by intro w' hw'; simp [execOp, L.evE, L.lk, Act.eval]; go_simp; rfl) ?_))
    refine L.ge_done ?_
    simp only [L.puts, Act.put, goInt, List.setIfInBounds_toArray, List.set_cons_zero, List.set_cons_succ]
    rcases HRD.out with hsd | hsd
    · obtain ⟨rfl, hq⟩ := hsd
      simp only [Prod.mk.injEq] at hq
      obtain ⟨rfl, rfl, rfl⟩ := hq
      go_wp2
      go_ret
      exact ⟨rfl, HSX.out.nil_below⟩
    · obtain ⟨hs0, hq⟩ := hsd
      simp only [Prod.mk.injEq] at hq
      obtain ⟨rfl, rfl, rfl⟩ := hq
      have hs1 : ¬ s = 0 := by omega
      have m2 := cell_fj (HCS.out wg HSX.out) 2 (by omega) rfl
      have hk' : (k : Int) < (l0.set k (⟨nm, cp, []⟩ : S25)).length := by rw [List.length_set]; exact hkk
      obtain ⟨adn, A9, c9, rfl, _, hcn⟩ := HVX.out.elem (i := k) (x := ⟨nm, cp, []⟩) (by rw [List.getElem?_set_self hk])
      have HCN := Lib.hid hcn
      have HLO := Lib.hid (lots_c HLX.out (HLA.out.only HSX.out) (by have := HLN.out; omega))
      clear hcn
      go_wp2_with (go_at_call 20; refine HLO.out.mono ?_; rintro e W9 ⟨rfl, h9⟩; have HS9 := Lib.hid (HSX.out.trans h9); have n2 := cell_fj (HCN.out.only h9 (by simp)) 2 (by omega) rfl; clear h9; refine (fun (h : Hid _) => h.out) ?_)
      refine Lib.hid ?_
      clear HLO m2
      go_wp2
      go_ret
      exact ⟨rfl, HS9.out.nil_below⟩
  · as_aux_lemma =>
    obtain ⟨hrm, y, he, hy1, hy2⟩ := hrc
    simp only [Prod.mk.injEq] at he
    obtain ⟨rfl, rfl⟩ := he
    have hrm1 : ¬ cp - s = 0 := by omega
    have hk' : (k : Int) < (l0.set k y).length := by rw [List.length_set]; exact hkk
    have m1 := cell_fj (HCS.out w8 HS8.out) 1 (by omega) rfl
    obtain ⟨adm, A9, c9, rfl, hLm, hcm⟩ := HV6.out.elem (i := k) (x := y) (by rw [List.getElem?_set_self hk])
    have HCM := Lib.hid hcm
    have HLM := Lib.hid (show ∀ W, Only [] w8 W → Calls Tryd.prog 16 #[.agg #[.string y.f0, .int .i64 y.f1, .slice A9 y.f2.length c9]] W fun e w' => e = .returned (.int .i64 cp) ∧ Only [] W w' from fun W h => by
      have := level_c (hLm.only h) (HT.out.below (HS8.out.trans h).nil_below) hy2
      rw [hy1] at this
      exact this)
    clear hcm hLm hy1 hy2
    go_wp2
    refine L.grow_start [] 15 ((0, true, true) :: (1, true, true) :: (2, true, true) :: (3, true, false) :: (4, true, false) :: (5, true, false) :: (6, true, false) :: (8, true, false) :: (9, true, false) :: (10, true, false) :: (11, true, false) :: (12, true, false) :: (7, true, true) :: (13, true, true) :: (14, true, true) :: []) (by kernel_rfl) (([], [12], some 138) :: ([0], [138], some 139) :: ([1], [139], some 140) :: ([2], [11, 140], some 141) :: ([2], [1, 140], some 142) :: ([3, 4, 2], [141, 142, 140], some 143) :: ([5, 2], [143, 140], some 144) :: ([6, 2, 2], [144, 140], some 145) :: ([2], [0, 140], some 146) :: ([2], [1, 140], some 147) :: ([8, 9, 2], [146, 147, 140], some 148) :: ([10, 2], [148, 140], some 149) :: ([11, 2], [149, 140], some 150) :: ([7, 12, 2], [145, 150, 140], some 151) :: ([2, 13], [140, 151], some 152) :: []) (by kernel_rfl) (by kernel_rfl) (n := 15) rfl (by kernel_rfl) (fun _ _ _ _ _ h => h) (fun wg hog => ?_)
    refine L.growe_start (N := 178) (by rfl) ?_
    have HG := Lib.hid hog
    have z1 : ∀ w', Only [] wg w' → w'.cell? ⟨(ad.add (k * 3)).block, (ad.add (k * 3)).off + 1, none⟩ = some (.int .i64 cp) := fun w' h => cell_fj (HCS.out w' (HS8.out.trans (HG.out.trans h))) 1 (by omega) rfl
    clear hog m1
    iterate 6 (first | (refine L.ge_off rfl rfl rfl (by rfl) ?_) | (refine L.ge_move rfl rfl rfl (by rfl) rfl (by simp [L.evE, L.lk, Act.eval]; rfl) ?_) | (refine L.ge_pick rfl rfl rfl (by rfl) rfl (by simp [L.evE, L.lk, Act.eval]; rfl) (by simp [L.evE, L.lk, Act.eval]; rfl) ?_) | (refine L.ge_val rfl rfl rfl (by rfl) (by intro w' hw'; simp [execOp, L.evE, L.lk, Act.eval]; go_simp; rfl) ?_))
    refine ge_load_at rfl rfl rfl (by rfl) _ _ rfl (adm.add (k * 3)) (by simp [L.evE, L.lk, Act.eval]) _ _ (fun w' h => HCM.out.only (HG.out.trans h) (by simp)) Tryd.underlying25 rfl (by kernel_rfl) ?_
    iterate 5 (first | (refine L.ge_off rfl rfl rfl (by rfl) ?_) | (refine L.ge_move rfl rfl rfl (by rfl) rfl (by simp [L.evE, L.lk, Act.eval]; rfl) ?_) | (refine L.ge_pick rfl rfl rfl (by rfl) rfl (by simp [L.evE, L.lk, Act.eval]; rfl) (by simp [L.evE, L.lk, Act.eval]; rfl) ?_) | (refine L.ge_val rfl rfl rfl (by rfl) (by intro w' hw'; simp [execOp, L.evE, L.lk, Act.eval]; go_simp; rfl) ?_))
    refine L.ge_call rfl rfl rfl (by rfl) rfl (by simp [L.evE, L.lk, Act.eval]; rfl) (by go_simp) ?_
    refine (HLM.out wg HG.out).mono ?_
    rintro e wc ⟨rfl, hc⟩
    refine ⟨_, rfl, hc, ?_⟩
    have HSX := Lib.hid (HS8.out.trans (HG.out.trans hc))
    have HVX := Lib.hid (HV8.out.only (HG.out.trans hc))
    have HLX := Lib.hid (HL8.out.only (HG.out.trans hc))
    clear hc HV8 HL8 z1 HS8 HLM HG HCM HV6
    iterate 2 (first | (refine L.ge_off rfl rfl rfl (by rfl) ?_) | (refine L.ge_move rfl rfl rfl (by rfl) rfl (by simp [L.evE, L.lk, Act.eval]; rfl) ?_) | (refine L.ge_pick rfl rfl rfl (by rfl) rfl (by simp [L.evE, L.lk, Act.eval]; rfl) (by simp [L.evE, L.lk, Act.eval]; rfl) ?_) | (refine L.ge_val rfl rfl rfl (by rfl) (by intro w' hw'; simp [execOp, L.evE, L.lk, Act.eval]; go_simp; rfl) ?_))
    refine L.ge_done ?_
    simp only [L.puts, Act.put, goInt, List.setIfInBounds_toArray, List.set_cons_zero, List.set_cons_succ]
    rcases HRD.out with hsd | hsd
    · obtain ⟨rfl, hq⟩ := hsd
      simp only [Prod.mk.injEq] at hq
      obtain ⟨rfl, rfl, rfl⟩ := hq
      go_wp2
      go_ret
      exact ⟨rfl, HSX.out.nil_below⟩
    · obtain ⟨hs0, hq⟩ := hsd
      simp only [Prod.mk.injEq] at hq
      obtain ⟨rfl, rfl, rfl⟩ := hq
      have hs1 : ¬ s = 0 := by omega
      have m2 := cell_fj (HCS.out wc HSX.out) 2 (by omega) rfl
      have hk' : (k : Int) < (l0.set k (⟨nm, cp, []⟩ : S25)).length := by rw [List.length_set]; exact hkk
      obtain ⟨adn, A9, c9, rfl, _, hcn⟩ := HVX.out.elem (i := k) (x := ⟨nm, cp, []⟩) (by rw [List.getElem?_set_self hk])
      have HCN := Lib.hid hcn
      have HLO := Lib.hid (lots_c HLX.out (HLA.out.only HSX.out) (by have := HLN.out; omega))
      clear hcn
      go_wp2_with (go_at_call 20; refine HLO.out.mono ?_; rintro e W9 ⟨rfl, h9⟩; have HS9 := Lib.hid (HSX.out.trans h9); have n2 := cell_fj (HCN.out.only h9 (by simp)) 2 (by omega) rfl; clear h9; refine (fun (h : Hid _) => h.out) ?_)
      refine Lib.hid ?_
      clear HLO m2
      go_wp2
      go_ret
      exact ⟨rfl, HS9.out.nil_below⟩
end Go.Proofs.YtejecmjajdhiiaaDoor.Print
/-! ### LgWalkB -/
namespace Go.Proofs.YtejecmjajdhiiaaDoor.Print
open Go.RowKit Go.Proofs.YtejecmjajdhiiaaDoorW.PrintWords Go.Proofs.YtejecmjajdhiiaaDoorW.PrintLast Go.Proofs.YtejecmjajdhiiaaDoorW.PrintMore
set_option linter.unusedVariables false
theorem vess_at {A0 : Option Addr} {cap0 : Nat} {y0 : List VesR} {w : World} (hl0 : y0.length ≤ cap0) (hb0 : cap0 * 48 ≤ 140737488351232) (hr0 : rdRow 3 rVes w A0 y0) : VAt w A0 cap0 (y0.map gVes) := ⟨by simpa using hl0, C_vesr (by omega) hr0⟩
theorem ledgerOrder_walk (A0 : Option Addr) (cap0 : Nat) (y0 : List VesR) (a1 : ByteArray) (a2 a3 : Int) (w : World) (hl0 : y0.length ≤ cap0) (hb0 : cap0 * 48 ≤ 140737488351232) (hr0 : rdRow 3 rVes w A0 y0) (w1 : a1.size ≤ 140737488351232) (w2 : (Lit.int .i64 a2).wf = true) (w3 : (Lit.int .i64 a3).wf = true) (hT : Tabs w) :
    Calls Tryd.prog 4 #[.slice A0 y0.length cap0, .string a1, .int .i64 a2, .int .i64 a3] w fun e w' => e = .returned (.bool true) ∧ Below w.heap.size w w' := by
  have h := orders_any A0 cap0 (y0.map gVes) a1 a2 a3 w (vess_at hl0 hb0 hr0) hT (ves_range hr0)
  rw [List.length_map] at h
  exact h
theorem ledgerRoom_walk (A0 : Option Addr) (cap0 : Nat) (y0 : List VesR) (a1 : Int) (w : World) (hl0 : y0.length ≤ cap0) (hb0 : cap0 * 48 ≤ 140737488351232) (hr0 : rdRow 3 rVes w A0 y0) (w1 : (Lit.int .i64 a1).wf = true) (hT : Tabs w) :
    Calls Tryd.prog 8 #[.slice A0 y0.length cap0, .int .i64 a1] w fun e w' => e = .returned (.bool true) ∧ Below w.heap.size w w' := by
  have h := room_any A0 cap0 (y0.map gVes) a1 w (vess_at hl0 hb0 hr0) hT (ves_range hr0)
  rw [List.length_map] at h
  exact h
end Go.Proofs.YtejecmjajdhiiaaDoor.Print
/-! ### LedgerOrderRow -/
namespace Go.Proofs.YtejecmjajdhiiaaDoor.ledgerOrder
open Go.ChangeShapes Go.WideShapes Go.ChangeAt Go.RowKit Go.Shelf Go.Lib Go.Proofs.YtejecmjajdhiiaaDoor.Print
open Go.ChangeMaps (open_string shut_string)
set_option linter.unusedVariables false
set_option linter.unusedSimpArgs false
theorem own : ownKnob Tryd.prog.godebug = none := by kernel_rfl
theorem laidOut : laidOutB Tryd.prog = true := by kernel_rfl
set_option maxRecDepth 100000 in
theorem lifted (os : Os) (started : os.Started) (H : Type) (enc : TypeId × Value → H) :
    ReturnsInHanded {} Tryd.checked os 4 .any (fun w args => (Rows.ledgerOrderSpec.pre enc Tryd.prog Tryd.f4 [] false w args ∧ laidMetH Tryd.prog Rows.ledgerOrderRow.laid w) ∧ sizedMet enc Tryd.prog Tryd.f4 (OpenSpec.ofChange Rows.ledgerOrderSpec) false w args) (Rows.ledgerOrderSpec.post enc Tryd.prog Tryd.f4 false true false false) := by
  refine returnsInHanded_of_change_and (C := Tryd.checked) (X := fun w _ => laidMetH Tryd.prog Rows.ledgerOrderRow.laid w) (fun _ _ _ hh h => h.of_heap hh) own started (by kernel_rfl) Tryd.func4
    (ChangeSpec.witness_shaped (enc := enc) (C := Tryd.checked) (os := os) (X := fun w _ => laidMetH Tryd.prog Rows.ledgerOrderRow.laid w) false (World.laidAll Tryd.prog os Rows.ledgerOrderRow.laid) #[.slice none 0 0, .string ByteArray.empty, .int .i64 0, .int .i64 0] 8 (World.laidAll_os _ _ _)
      (World.shaped_of_ZipB (by kernel_rfl) (by kernel_rfl)) (by kernel_rfl) (by kernel_rfl) (by kernel_rfl)
      (by rw [MakeChecks.laidMetH_plain _ _ _ (by kernel_rfl)]; exact laidMet_laidAll _ (by kernel_rfl) (by kernel_rfl))) ?_
  intro W base args ds gs before hval0 hW hcnd hsz0 hL0 _
  have hL : laidMet Tryd.prog Rows.ledgerOrderRow.laid W := by
    have h := hL0
    rw [MakeChecks.laidMetH_plain _ _ _ (by kernel_rfl)] at h
    exact h
  have hT : Tabs W := utf8Tabs_of_readsT (U8Types.of196 Tryd.laysValid) ⟨by kernel_rfl, by kernel_rfl, by kernel_rfl, by kernel_rfl, by kernel_rfl, by kernel_rfl, by kernel_rfl⟩ (Pinned.utf8First_eq ▸ Lib.laidMet.reads hL (.tail _ (.head _))) ((show Rows.laid_unicode_utf8_acceptRanges = acceptData from rfl) ▸ Lib.laidMet.reads hL (.head _))
  have hsz : (DataW.weightsEach Tryd.prog (Tryd.f4.params.toList ++ Rows.ledgerOrderSpec.plain.varTypes Tryd.prog) (ds ++ gs)).all (· ≤ reachBytes) = true := hsz0
  have hval : ∀ (j : Nat) t v, Tryd.f4.params[j]? = some t → args[j]? = some v → Value.okWide Tryd.prog W .any base t v := hval0
  have hW' := hW
  obtain ⟨p, q, hA0, hV, rfl, hfz, hnd⟩ := hW
  have hA : DataW.TrodAll enc Tryd.prog W 0 (fun _ => true) true Tryd.f4.params.toList args.toList ds p := hA0
  rw [Tryd.params4] at hA hval hsz
  obtain ⟨v0, vs0, d0, ds0, p0, q0, hargs, rfl, rfl, h0, r0⟩ := trodAll_cons hA
  obtain ⟨v1, vs1, d1, ds1, p1, q1, rfl, rfl, rfl, h1, r1⟩ := trodAll_cons r0
  obtain ⟨v2, vs2, d2, ds2, p2, q2, rfl, rfl, rfl, h2, r2⟩ := trodAll_cons r1
  obtain ⟨v3, vs3, d3, ds3, p3, q3, rfl, rfl, rfl, h3, r3⟩ := trodAll_cons r2
  obtain ⟨rfl, rfl, rfl⟩ := trodAll_nil r3
  obtain rfl : args = #[v0, v1, v2, v3] := by cases args; simp_all
  obtain ⟨rfl, rfl⟩ := trodVars_none hV
  have k0 := h0
  have lt0 : ∀ x ∈ p0, x.block < W.heap.size := by obtain ⟨m, hm⟩ := k0; exact DataW.trod_lt m _ _ _ hm
  obtain ⟨y0, r0_⟩ := opens_arg (vess_opens enc W) h0 (weights_each hsz (j := 0) (t := 22) rfl rfl)
  obtain ⟨A0, len0, cap0, rfl⟩ := okWide_slice Tryd.underlying22 (hval 0 22 v0 rfl rfl)
  obtain ⟨A0_, cap0_, e0, hl0, hb0, hm0, hr0⟩ := r0_
  simp only [Value.cells, List.cons.injEq, Value.slice.injEq, and_true] at e0
  obtain ⟨rfl, rfl, rfl⟩ := e0
  obtain ⟨a1, rfl, rfl, rfl, y1⟩ := open_string Tryd.underlying9 (hval 1 9 v1 rfl rfl) h1
  have w1 : a1.size ≤ 140737488351232 := by
    have z := sized_string hsz (j := 1) (t := 9) rfl rfl
    rw [Array.length_toList] at z
    exact z
  obtain ⟨a2, rfl, rfl, rfl, w2⟩ := open_int Tryd.underlying3 (hval 2 3 v2 rfl rfl) h2
  obtain ⟨a3, rfl, rfl, rfl, w3⟩ := open_int Tryd.underlying3 (hval 3 3 v3 rfl rfl) h3
  clear hA0 hval0 hsz0 hsz
  refine (ledgerOrder_walk A0 cap0 y0 a1 a2 a3 W hl0 hb0 hr0 w1 w2 w3 hT).mono fun e W' ⟨he, bel⟩ => ?_
  subst he
  exact ⟨_, rfl, _, _, _, [], _, [], hW', trodAll_mk1 (shut_bool Tryd.underlying4 _), (trodAll_cons_mk (Below.trod laidOut (by kernel_rfl) (of_decide_eq_true (by kernel_rfl)) k0 bel lt0) (trodAll_cons_mk (shut_string Tryd.underlying9 y1) (trodAll_cons_mk (shut_int Tryd.underlying3 w2) (trodAll_cons_mk (shut_int Tryd.underlying3 w3) trodAll_mk0)))), rfl, bel.frame _, fun h => by cases h⟩
theorem over : Rows.ledgerOrderRow.holds Tryd.pinned (OpenSpec.ofChange Rows.ledgerOrderSpec) :=
  OpenClaim.holds_of_wide 4 Tryd.f4 rfl rfl rfl rfl rfl rfl rfl ⟨rfl, rfl, rfl, rfl, rfl⟩ rfl rfl rfl rfl rfl (by kernel_rfl) Tryd.func4 (by kernel_rfl)
    (of_decide_eq_true (by kernel_rfl)) (by unfold Func.isWrapper; first | (rw [if_pos (by decide +kernel)]; kernel_rfl) | (rw [if_neg (by decide +kernel)]; exact ⟨rfl, rfl⟩))
    (fun os started H enc _ => lifted os started H enc)
theorem card_holds : Claim7.holds Tryd.pinned (.plain (OpenSpec.ofChange Rows.ledgerOrderSpec)) Rows.ledgerOrderCard :=
  Claim7.holds_tied_plain_at .later [] [.data, .pinned] true (true, "1e2c74985228763f400c529450084ef6c0ff92b2eeb5cdba4427b354947f12d5") false over (fun _ h => by cases h) (by kernel_rfl) (fun _ h => by cases h) ledgerOrder_row_tie rfl ⟨rfl, rfl⟩ (by kernel_rfl) rfl
    (fun f fn hf hfn => by
      obtain rfl : f = 4 := Option.some.inj ((show Tryd.prog.funcNamed "malthouse/malthouselaw13.LedgerOrder" = some 4 by kernel_rfl).symm.trans hf) |>.symm
      obtain rfl : fn = Tryd.f4 := (Option.some.inj (Tryd.func4.symm.trans hfn)).symm
      exact ⟨by kernel_rfl, fun j t ht => by
        rw [Tryd.params4] at ht
        have hm : t ∈ [22, 9, 3, 3] := by simpa using Array.mem_of_getElem? ht
        have hall : ([22, 9, 3, 3].all fun u => !Tryd.prog.wantsStandIn u) = true := by kernel_rfl
        exact (show Tryd.prog.wantsStandIn t = false by simpa using List.all_eq_true.1 hall t hm)⟩)
    (by kernel_rfl)
theorem proved : Rows.LedgerOrderCardSaid := card_holds
#print axioms proved
end Go.Proofs.YtejecmjajdhiiaaDoor.ledgerOrder
namespace Go.Proofs.YtejecmjajdhiiaaDoor
/-- The card, under a short name, for the claim. -/
theorem ledgerOrder_holds : Rows.LedgerOrderCardSaid := ledgerOrder.proved
end Go.Proofs.YtejecmjajdhiiaaDoor
/-! ### LedgerRoomRow -/
namespace Go.Proofs.YtejecmjajdhiiaaDoor.ledgerRoom
open Go.ChangeShapes Go.WideShapes Go.ChangeAt Go.RowKit Go.Shelf Go.Lib Go.Proofs.YtejecmjajdhiiaaDoor.Print
open Go.ChangeMaps (open_string shut_string)
set_option linter.unusedVariables false
set_option linter.unusedSimpArgs false
theorem own : ownKnob Tryd.prog.godebug = none := by kernel_rfl
theorem laidOut : laidOutB Tryd.prog = true := by kernel_rfl
set_option maxRecDepth 100000 in
theorem lifted (os : Os) (started : os.Started) (H : Type) (enc : TypeId × Value → H) :
    ReturnsInHanded {} Tryd.checked os 8 .any (fun w args => (Rows.ledgerRoomSpec.pre enc Tryd.prog Tryd.f8 [] false w args ∧ laidMetH Tryd.prog Rows.ledgerRoomRow.laid w) ∧ sizedMet enc Tryd.prog Tryd.f8 (OpenSpec.ofChange Rows.ledgerRoomSpec) false w args) (Rows.ledgerRoomSpec.post enc Tryd.prog Tryd.f8 false true false false) := by
  refine returnsInHanded_of_change_and (C := Tryd.checked) (X := fun w _ => laidMetH Tryd.prog Rows.ledgerRoomRow.laid w) (fun _ _ _ hh h => h.of_heap hh) own started (by kernel_rfl) Tryd.func8
    (ChangeSpec.witness_shaped (enc := enc) (C := Tryd.checked) (os := os) (X := fun w _ => laidMetH Tryd.prog Rows.ledgerRoomRow.laid w) false (World.laidAll Tryd.prog os Rows.ledgerRoomRow.laid) #[.slice none 0 0, .int .i64 0] 8 (World.laidAll_os _ _ _)
      (World.shaped_of_ZipB (by kernel_rfl) (by kernel_rfl)) (by kernel_rfl) (by kernel_rfl) (by kernel_rfl)
      (by rw [MakeChecks.laidMetH_plain _ _ _ (by kernel_rfl)]; exact laidMet_laidAll _ (by kernel_rfl) (by kernel_rfl))) ?_
  intro W base args ds gs before hval0 hW hcnd hsz0 hL0 _
  have hL : laidMet Tryd.prog Rows.ledgerRoomRow.laid W := by
    have h := hL0
    rw [MakeChecks.laidMetH_plain _ _ _ (by kernel_rfl)] at h
    exact h
  have hT : Tabs W := utf8Tabs_of_readsT (U8Types.of196 Tryd.laysValid) ⟨by kernel_rfl, by kernel_rfl, by kernel_rfl, by kernel_rfl, by kernel_rfl, by kernel_rfl, by kernel_rfl⟩ (Pinned.utf8First_eq ▸ Lib.laidMet.reads hL (.tail _ (.head _))) ((show Rows.laid_unicode_utf8_acceptRanges = acceptData from rfl) ▸ Lib.laidMet.reads hL (.head _))
  have hsz : (DataW.weightsEach Tryd.prog (Tryd.f8.params.toList ++ Rows.ledgerRoomSpec.plain.varTypes Tryd.prog) (ds ++ gs)).all (· ≤ reachBytes) = true := hsz0
  have hval : ∀ (j : Nat) t v, Tryd.f8.params[j]? = some t → args[j]? = some v → Value.okWide Tryd.prog W .any base t v := hval0
  have hW' := hW
  obtain ⟨p, q, hA0, hV, rfl, hfz, hnd⟩ := hW
  have hA : DataW.TrodAll enc Tryd.prog W 0 (fun _ => true) true Tryd.f8.params.toList args.toList ds p := hA0
  rw [Tryd.params8] at hA hval hsz
  obtain ⟨v0, vs0, d0, ds0, p0, q0, hargs, rfl, rfl, h0, r0⟩ := trodAll_cons hA
  obtain ⟨v1, vs1, d1, ds1, p1, q1, rfl, rfl, rfl, h1, r1⟩ := trodAll_cons r0
  obtain ⟨rfl, rfl, rfl⟩ := trodAll_nil r1
  obtain rfl : args = #[v0, v1] := by cases args; simp_all
  obtain ⟨rfl, rfl⟩ := trodVars_none hV
  have k0 := h0
  have lt0 : ∀ x ∈ p0, x.block < W.heap.size := by obtain ⟨m, hm⟩ := k0; exact DataW.trod_lt m _ _ _ hm
  obtain ⟨y0, r0_⟩ := opens_arg (vess_opens enc W) h0 (weights_each hsz (j := 0) (t := 22) rfl rfl)
  obtain ⟨A0, len0, cap0, rfl⟩ := okWide_slice Tryd.underlying22 (hval 0 22 v0 rfl rfl)
  obtain ⟨A0_, cap0_, e0, hl0, hb0, hm0, hr0⟩ := r0_
  simp only [Value.cells, List.cons.injEq, Value.slice.injEq, and_true] at e0
  obtain ⟨rfl, rfl, rfl⟩ := e0
  obtain ⟨a1, rfl, rfl, rfl, w1⟩ := open_int Tryd.underlying3 (hval 1 3 v1 rfl rfl) h1
  clear hA0 hval0 hsz0 hsz
  refine (ledgerRoom_walk A0 cap0 y0 a1 W hl0 hb0 hr0 w1 hT).mono fun e W' ⟨he, bel⟩ => ?_
  subst he
  exact ⟨_, rfl, _, _, _, [], _, [], hW', trodAll_mk1 (shut_bool Tryd.underlying4 _), (trodAll_cons_mk (Below.trod laidOut (by kernel_rfl) (of_decide_eq_true (by kernel_rfl)) k0 bel lt0) (trodAll_cons_mk (shut_int Tryd.underlying3 w1) trodAll_mk0)), rfl, bel.frame _, fun h => by cases h⟩
theorem over : Rows.ledgerRoomRow.holds Tryd.pinned (OpenSpec.ofChange Rows.ledgerRoomSpec) :=
  OpenClaim.holds_of_wide 8 Tryd.f8 rfl rfl rfl rfl rfl rfl rfl ⟨rfl, rfl, rfl, rfl, rfl⟩ rfl rfl rfl rfl rfl (by kernel_rfl) Tryd.func8 (by kernel_rfl)
    (of_decide_eq_true (by kernel_rfl)) (by unfold Func.isWrapper; first | (rw [if_pos (by decide +kernel)]; kernel_rfl) | (rw [if_neg (by decide +kernel)]; exact ⟨rfl, rfl⟩))
    (fun os started H enc _ => lifted os started H enc)
theorem card_holds : Claim7.holds Tryd.pinned (.plain (OpenSpec.ofChange Rows.ledgerRoomSpec)) Rows.ledgerRoomCard :=
  Claim7.holds_tied_plain_at .later [] [.data, .pinned] true (true, "1e2c74985228763f400c529450084ef6c0ff92b2eeb5cdba4427b354947f12d5") false over (fun _ h => by cases h) (by kernel_rfl) (fun _ h => by cases h) ledgerRoom_row_tie rfl ⟨rfl, rfl⟩ (by kernel_rfl) rfl
    (fun f fn hf hfn => by
      obtain rfl : f = 8 := Option.some.inj ((show Tryd.prog.funcNamed "malthouse/malthouselaw13.LedgerRoom" = some 8 by kernel_rfl).symm.trans hf) |>.symm
      obtain rfl : fn = Tryd.f8 := (Option.some.inj (Tryd.func8.symm.trans hfn)).symm
      exact ⟨by kernel_rfl, fun j t ht => by
        rw [Tryd.params8] at ht
        have hm : t ∈ [22, 3] := by simpa using Array.mem_of_getElem? ht
        have hall : ([22, 3].all fun u => !Tryd.prog.wantsStandIn u) = true := by kernel_rfl
        exact (show Tryd.prog.wantsStandIn t = false by simpa using List.all_eq_true.1 hall t hm)⟩)
    (by kernel_rfl)
theorem proved : Rows.LedgerRoomCardSaid := card_holds
#print axioms proved
end Go.Proofs.YtejecmjajdhiiaaDoor.ledgerRoom
namespace Go.Proofs.YtejecmjajdhiiaaDoor
/-- The card, under a short name, for the claim. -/
theorem ledgerRoom_holds : Rows.LedgerRoomCardSaid := ledgerRoom.proved
end Go.Proofs.YtejecmjajdhiiaaDoor
