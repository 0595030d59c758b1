import Derived.Test.YtghpmpjoedbpcaaDoorJn2
import Derived.Below
import Derived.ChangeOld
import Derived.LaidLaws
import Derived.LaidOnce
import Derived.Lay
import Derived.Lib.LaidU8T
import Derived.OpenShut
import Derived.PinnedBridge
import Derived.ProofKit
import Derived.SevenTiedAt
import Derived.Shelf.Lay
import Derived.ShutString
import Derived.SizedLaws
import Derived.Test.YtghpmpjoedbpcaaDoorCards
import Derived.Test.YtghpmpjoedbpcaaDoorProg
import Derived.Test.YtghpmpjoedbpcaaDoorRows
import Derived.Test.YtghpmpjoedbpcaaDoorTie
import Derived.WalkKit
set_option linter.unusedVariables false
set_option linter.unusedSimpArgs false
namespace Go.Proofs.YtghpmpjoedbpcaaDoorW.PrintWords
end Go.Proofs.YtghpmpjoedbpcaaDoorW.PrintWords
namespace Go.Proofs.YtghpmpjoedbpcaaDoorW.PrintLast
end Go.Proofs.YtghpmpjoedbpcaaDoorW.PrintLast
namespace Go.Proofs.YtghpmpjoedbpcaaDoorW.PrintMore
end Go.Proofs.YtghpmpjoedbpcaaDoorW.PrintMore
/-! ### Print5 -/
namespace Go.Proofs.YtghpmpjoedbpcaaDoor.Print
open Go.RowKit Go.Proofs.YtghpmpjoedbpcaaDoorW.PrintWords Go.Proofs.YtghpmpjoedbpcaaDoorW.PrintLast Go.Proofs.YtghpmpjoedbpcaaDoorW.PrintMore
attribute [local go_sem] min2_int min_two
set_option linter.unusedVariables false
set_option linter.unusedSimpArgs false
attribute [local go_sem high] eqA27
mutual
def malthouselaw18_JournalParts.j0 : Nat → Bool → Bool → List (S27) → List (S35) → Int → Option (Bool)
  | 0, _, _, _, _, _ => none
  | k + 1, x3, x22, x142000, x142001, x142002 => if x22 = true then (some x3) else (malthouselaw18_JournalParts.l0 k 0 x142000 x142001 x142002)
def malthouselaw18_JournalParts.l0 : Nat → Int → List (S27) → List (S35) → Int → Option (Bool)
  | 0, _, _, _, _ => none
  | k + 1, x5, x142000, x142001, x142002 => if x5 < (x142000.length : Int) then (if 0 ≤ x5 then ((journal_Of.f x142000 x142001 x142002 ((rd_T27 x142000 x5).f1)).bind fun t146 => (malthouselaw18_JournalParts.l1 k x5 t146 0 0 x142000 x142001 x142002)) else (none)) else (some true)
def malthouselaw18_JournalParts.l1 : Nat → Int → List (S27) → Int → Int → List (S27) → List (S35) → Int → Option (Bool)
  | 0, _, _, _, _, _, _, _ => none
  | k + 1, x5, x6, x7, x8, x142000, x142001, x142002 => if x8 < (x142000.length : Int) then (if 0 ≤ x8 then (if 0 ≤ x5 then (if x5 < (x142000.length : Int) then (if ((rd_T27 x142000 x8).f1) = ((rd_T27 x142000 x5).f1) then (if x7 ≥ (x6.length : Int) then (some false) else (if 0 ≤ x7 then (if x7 < (x6.length : Int) then (if (!(((rd_T27 x6 x7).f0) == ((rd_T27 x142000 x8).f0)) || (!(((rd_T27 x6 x7).f1) == ((rd_T27 x142000 x8).f1)) || (!(((rd_T27 x6 x7).f2) == ((rd_T27 x142000 x8).f2)) || (!((((rd_T27 x6 x7).f3).toList) == (((rd_T27 x142000 x8).f3).toList)) || (!(((rd_T27 x6 x7).f4) == ((rd_T27 x142000 x8).f4)) || (!(((rd_T27 x6 x7).f5) == ((rd_T27 x142000 x8).f5)))))))) = true then (some false) else (malthouselaw18_JournalParts.l1 k x5 x6 (wrap64 (x7 + 1)) (wrap64 (x8 + 1)) x142000 x142001 x142002)) else (none)) else (none))) else (malthouselaw18_JournalParts.l1 k x5 x6 x7 (wrap64 (x8 + 1)) x142000 x142001 x142002)) else (none)) else (none)) else (none)) else (if x7 = (x6.length : Int) then (malthouselaw18_JournalParts.l0 k (wrap64 (x5 + 1)) x142000 x142001 x142002) else (some false))
end
def malthouselaw18_JournalParts.f (k : Nat) (l0_0 : List (S27)) (l0_1 : List (S35)) (a0_2 : Int) : Option (Bool) := (malthouselaw18_awake.f).bind fun t142 => ((malthouseref18_Light.f k l0_0 l0_1 a0_2).bind fun t143 => (if t142 = true then (if t143 = true then ((journal_Right.f l0_0 l0_1 a0_2).bind fun t144 => (malthouselaw18_JournalParts.j0 k t142 (!t144) l0_0 l0_1 a0_2)) else (malthouselaw18_JournalParts.j0 k t142 true l0_0 l0_1 a0_2)) else (malthouselaw18_JournalParts.j0 k t142 true l0_0 l0_1 a0_2)))
def malthouselaw18_JournalParts.T8 : Bool × List (List Nat × List Nat) := (true, [([], []), ([], []), ([1], [1]), ([], []), ([2, 3], [2, 3]), ([4], [4]), ([5], [5]), ([0, 6], [0, 6]), ([7, 7, 0, 1, 2, 3, 4, 5, 6, 7], [7])])
def malthouselaw18_JournalParts.B8 : List Nat := [0, 0, 2, 0, 14, 30, 62, 127, 255]
theorem malthouselaw18_JournalParts.tab8 : rtab .any (opsOf Tryd.f4 8) = malthouselaw18_JournalParts.T8 := by kernel_rfl
theorem malthouselaw18_JournalParts.bits8 : waitsOk malthouselaw18_JournalParts.T8.2 malthouselaw18_JournalParts.B8 = true := by kernel_rfl
def malthouselaw18_JournalParts.T13 : Bool × List (List Nat × List Nat) := (true, [([], []), ([0], [0]), ([], []), ([1, 2], [1, 2]), ([3], [3]), ([4], [4]), ([], []), ([6], [6]), ([], []), ([7, 8], [7, 8]), ([9], [9]), ([10], [10]), ([5, 11], [5, 11])])
def malthouselaw18_JournalParts.B13 : List Nat := [0, 1, 0, 7, 15, 31, 0, 64, 0, 448, 960, 1984, 4095]
theorem malthouselaw18_JournalParts.tab13 : rtab .any (opsOf Tryd.f4 13) = malthouselaw18_JournalParts.T13 := by kernel_rfl
theorem malthouselaw18_JournalParts.bits13 : waitsOk malthouselaw18_JournalParts.T13.2 malthouselaw18_JournalParts.B13 = true := by kernel_rfl
def malthouselaw18_JournalParts.T14 : Bool × List (List Nat × List Nat) := (true, [([], []), ([], []), ([1], [1]), ([0, 2], [0, 2]), ([3], [3]), ([4], [4]), ([4], [4]), ([5, 6, 4], [4, 5, 6]), ([7, 4], [4, 7]), ([4], [4]), ([9, 4], [4, 9]), ([4], [4]), ([10, 11, 4], [4, 10, 11]), ([12, 4], [4, 12]), ([8, 13, 4], [4, 8, 13]), ([4, 14], [4, 14])])
def malthouselaw18_JournalParts.B14 : List Nat := [0, 0, 2, 7, 15, 31, 31, 127, 255, 31, 543, 31, 3615, 7711, 16383, 32767]
theorem malthouselaw18_JournalParts.tab14 : rtab .any (opsOf Tryd.f4 14) = malthouselaw18_JournalParts.T14 := by kernel_rfl
theorem malthouselaw18_JournalParts.bits14 : waitsOk malthouselaw18_JournalParts.T14.2 malthouselaw18_JournalParts.B14 = true := by kernel_rfl
set_option maxHeartbeats 8000000 in
set_option maxRecDepth 100000 in
theorem malthouselaw18_JournalParts.calls (k : Nat) (A0_0 : Option Addr) (c0_0 : Nat) (l0_0 : List (S27)) (A0_1 : Option Addr) (c0_1 : Nat) (l0_1 : List (S35)) (a0_2 : Int) (r : Bool) (w : World) (hr0_0 : Kd.C k27 w A0_0 l0_0.length l0_0) (hc0_0 : l0_0.length ≤ c0_0) (hr0_1 : Kd.C k35 w A0_1 l0_1.length l0_1) (hc0_1 : l0_1.length ≤ c0_1) (hT : Tabs w) (h : malthouselaw18_JournalParts.f k l0_0 l0_1 a0_2 = some r) :
    Calls Tryd.prog 4 #[.agg #[.slice A0_0 l0_0.length c0_0, .slice A0_1 l0_1.length c0_1, .int .i64 a0_2]] w fun e w' => e = .returned (.bool r) ∧ Below w.heap.size w w' := by
  have hu25 := Tryd.underlying25
  have hu27 := Tryd.underlying27
  have HR0_0 := Aside0.mk hr0_0
  have HC0_0 := Aside0.mk hc0_0
  clear hr0_0 hc0_0
  have HR0_1 := Aside0.mk hr0_1
  have HC0_1 := Aside0.mk hc0_1
  clear hr0_1 hc0_1
  have HB := Aside0.mk (Below.refl w.heap.size w)
  have H : ((malthouselaw18_awake.f).bind fun t142 => ((malthouseref18_Light.f k l0_0 l0_1 a0_2).bind fun t143 => (if t142 = true then (if t143 = true then ((journal_Right.f l0_0 l0_1 a0_2).bind fun t144 => (malthouselaw18_JournalParts.j0 k t142 (!t144) l0_0 l0_1 a0_2)) else (malthouselaw18_JournalParts.j0 k t142 true l0_0 l0_1 a0_2)) else (malthouselaw18_JournalParts.j0 k t142 true l0_0 l0_1 a0_2)))) = some r := h
  clear h
  replace H := Option.bind_eq_some_iff.mp H
  obtain ⟨t142, A20, H⟩ := H
  replace H : ((malthouseref18_Light.f k l0_0 l0_1 a0_2).bind fun t143 => (if t142 = true then (if t143 = true then ((journal_Right.f l0_0 l0_1 a0_2).bind fun t144 => (malthouselaw18_JournalParts.j0 k t142 (!t144) l0_0 l0_1 a0_2)) else (malthouselaw18_JournalParts.j0 k t142 true l0_0 l0_1 a0_2)) else (malthouselaw18_JournalParts.j0 k t142 true l0_0 l0_1 a0_2))) = some r := H
  have A2 := Aside0.mk A20
  clear A20
  replace H := Option.bind_eq_some_iff.mp H
  obtain ⟨t143, A30, H⟩ := H
  replace H : (if t142 = true then (if t143 = true then ((journal_Right.f l0_0 l0_1 a0_2).bind fun t144 => (malthouselaw18_JournalParts.j0 k t142 (!t144) l0_0 l0_1 a0_2)) else (malthouselaw18_JournalParts.j0 k t142 true l0_0 l0_1 a0_2)) else (malthouselaw18_JournalParts.j0 k t142 true l0_0 l0_1 a0_2)) = some r := H
  have A3 := Aside0.mk A30
  clear A30
  have HC4 := Aside0.mk H
  clear H
  go_enter Tryd.func4, Tryd.ntmps4
  go_upto_region 3 with (first | ((with_reducible refine gate_dst (N := 1) rfl ?_); refine box_event ?hg (N := 1) ?hd (cs := #[.slice A0_0 l0_0.length c0_0, .slice A0_1 l0_1.length c0_1, .int .i64 a0_2]) (t := 25) ?hr ?_; (case hd => rfl); (case hg => rfl); (case hr => first | (go_simp; done) | (go_simp; rfl)); intro gb141 hg w5 hbox hb; have n0_ := Aside0.mk (below_step (by repeat (first | (with_reducible first | exact HB.out | apply below_alloc | apply pw_below_drewN | apply below_drew1) | exact HB.out)) hb); have n1_ := Aside0.mk (hbox); have n2_ := Aside0.mk ((by rw [hg]; exact (below_size (by repeat (first | (with_reducible first | exact HB.out | apply below_alloc | apply pw_below_drewN | apply below_drew1) | exact HB.out))) : w.heap.size ≤ gb141)); have n3_ := Aside0.mk ((by rw [hg]; exact (below_size (by repeat (first | (with_reducible first | exact HB.out | apply below_alloc | apply pw_below_drewN | apply below_drew1) | exact HB.out))) : w.heap.size ≤ gb141)); clear HB; have HB := n0_; have BK141 := n1_; have GW141 := n2_; have GE141 := n3_; clear n0_ n1_ n2_ n3_; clear hb hbox hg) | ((with_reducible refine gate_callee (f := 8) rfl ?_); refine goesL_ (some 9) rfl rfl Tryd.func8 (by kernel_rfl) rfl #[] rfl (by (try simp only [List.map_toArray, List.map_cons, List.map_nil]); first | done | rfl | (simp only [List.length_drop, List.length_take]; rfl)) ?_; (with_reducible refine (malthouselaw18_awake.calls  t142 _ ?side1 A2.out).mono ?_); (case side1 => exact Tabs.below hT (by repeat (first | (with_reducible first | exact HB.out | apply below_alloc | apply pw_below_drewN | apply below_drew1 | refine below_set ?_ GE141.out) | exact HB.out))); rintro e w6 ⟨rfl, hb⟩; refine ⟨_, rfl, ?_⟩; have n0_ := Aside0.mk (blk_below (g := gb141) (o := .cells #[.slice A0_0 l0_0.length c0_0, .slice A0_1 l0_1.length c0_1, .int .i64 a0_2] 25 (0, 0)) (by (with_reducible repeat (first | refine blk_drewN ?_ _ | refine blk_drew ?_ | refine blk_alloc ?_ _)); exact BK141.out) hb); have n1_ := Aside0.mk (below_step (by repeat (first | (with_reducible first | exact HB.out | apply below_alloc | apply pw_below_drewN | apply below_drew1 | refine below_set ?_ GE141.out) | exact HB.out)) hb); clear BK141; clear HB; have BK141 := n0_; have HB := n1_; clear n0_ n1_; (try clear hb); (try clear hb2); (try clear hk); (try clear hi); have hcz7_0 : w6.cell? ⟨gb141, 0, none⟩ = some (.slice A0_0 l0_0.length c0_0) := (blk_cell BK141.out 0).trans rfl; have hcz7_1 : w6.cell? ⟨gb141, 1, none⟩ = some (.slice A0_1 l0_1.length c0_1) := (blk_cell BK141.out 1).trans rfl; have hcz7_2 : w6.cell? ⟨gb141, 2, none⟩ = some (.int .i64 a0_2) := (blk_cell BK141.out 2).trans rfl; have hfz7_0 := blk_frozen BK141.out 0; have hfz7_1 := blk_frozen BK141.out 1; have hfz7_2 := blk_frozen BK141.out 2) | ((with_reducible refine gate_callee (f := 9) rfl ?_); refine goesL_ (some 11) rfl rfl Tryd.func9 (by kernel_rfl) rfl #[.agg #[.slice A0_0 l0_0.length c0_0, .slice A0_1 l0_1.length c0_1, .int .i64 a0_2]] rfl (by (try simp only [List.map_toArray, List.map_cons, List.map_nil]); first | done | rfl | (simp only [List.length_drop, List.length_take]; rfl)) ?_; (with_reducible refine (malthouseref18_Light.calls k _ _ l0_0 _ _ l0_1 a0_2 t143 _ ?side1 ?side2 ?side3 ?side4 A3.out).mono ?_); (case side1 => repeat (first | exact (Kd.C_below HR0_0.out HB.out) | (with_reducible refine Kd.C_alloc ?_ _) | (with_reducible refine Kd.C_drewN ?_ _) | (with_reducible refine Kd.C_drew ?_))); (case side2 => exact HC0_0.out); (case side3 => repeat (first | exact (Kd.C_below HR0_1.out HB.out) | (with_reducible refine Kd.C_alloc ?_ _) | (with_reducible refine Kd.C_drewN ?_ _) | (with_reducible refine Kd.C_drew ?_))); (case side4 => exact HC0_1.out); rintro e w8 ⟨rfl, hb⟩; refine ⟨_, rfl, ?_⟩; have n0_ := Aside0.mk (blk_below (g := gb141) (o := .cells #[.slice A0_0 l0_0.length c0_0, .slice A0_1 l0_1.length c0_1, .int .i64 a0_2] 25 (0, 0)) (by (with_reducible repeat (first | refine blk_drewN ?_ _ | refine blk_drew ?_ | refine blk_alloc ?_ _)); exact BK141.out) hb); have n1_ := Aside0.mk (below_step (by repeat (first | (with_reducible first | exact HB.out | apply below_alloc | apply pw_below_drewN | apply below_drew1 | refine below_set ?_ GE141.out) | exact HB.out)) hb); clear BK141; clear HB; have BK141 := n0_; have HB := n1_; clear n0_ n1_; (try clear hb); (try clear hb2); (try clear hk); (try clear hi)))
  (try simp only [Act.put, List.setIfInBounds_toArray, List.set_cons_zero, List.set_cons_succ])
  go_cut [22] (fun v22 wc => ∃ (kq : Nat) (x22_3 : Bool), v22 = .bool x22_3 ∧ Aside0 (malthouselaw18_JournalParts.j0 kq t142 x22_3 l0_0 l0_1 a0_2 = some r) ∧ Aside0 (kq ≤ k) ∧ Aside0 (wc.heap[gb141]? = some (.cells #[(.slice A0_0 l0_0.length c0_0), (.slice A0_1 l0_1.length c0_1), .int .i64 a0_2] 25 (0, 0))) ∧ Aside0 (Below w.heap.size w wc))
  case first =>
    have H := HC4.out
    clear HC4
    by_cases c9 : t142 = true
    · subst c9
      have H1 : (if t143 = true then ((journal_Right.f l0_0 l0_1 a0_2).bind fun t144 => (malthouselaw18_JournalParts.j0 k true (!t144) l0_0 l0_1 a0_2)) else (malthouselaw18_JournalParts.j0 k true true l0_0 l0_1 a0_2)) = some r := by rw [if_pos rfl] at H; exact H
      clear H
      have H := H1
      clear H1
      by_cases c10 : t143 = true
      · subst c10
        have H1 : ((journal_Right.f l0_0 l0_1 a0_2).bind fun t144 => (malthouselaw18_JournalParts.j0 k true (!t144) l0_0 l0_1 a0_2)) = some r := by rw [if_pos rfl] at H; exact H
        clear H
        have H := H1
        clear H1
        replace H := Option.bind_eq_some_iff.mp H
        obtain ⟨t144, A110, H⟩ := H
        replace H : (malthouselaw18_JournalParts.j0 k true (!t144) l0_0 l0_1 a0_2) = some r := H
        have A11 := Aside0.mk A110
        clear A110
        have H' := Aside0.mk H
        clear H
        have hcz12_0 : w8.cell? ⟨gb141, 0, none⟩ = some (.slice A0_0 l0_0.length c0_0) := (blk_cell BK141.out 0).trans rfl
        have hcz12_1 : w8.cell? ⟨gb141, 1, none⟩ = some (.slice A0_1 l0_1.length c0_1) := (blk_cell BK141.out 1).trans rfl
        have hcz12_2 : w8.cell? ⟨gb141, 2, none⟩ = some (.int .i64 a0_2) := (blk_cell BK141.out 2).trans rfl
        have hfz12_0 := blk_frozen BK141.out 0
        have hfz12_1 := blk_frozen BK141.out 1
        have hfz12_2 := blk_frozen BK141.out 2
        go_wp2_with (first | (go_at_call 14; (with_reducible refine (journal_Right.calls _ _ l0_0 _ _ l0_1 a0_2 t144 _ ?side1 ?side2 ?side3 ?side4 ?side5 A11.out).mono ?_); (case side1 => repeat (first | exact (Kd.C_below HR0_0.out HB.out) | (with_reducible refine Kd.C_alloc ?_ _) | (with_reducible refine Kd.C_drewN ?_ _) | (with_reducible refine Kd.C_drew ?_))); (case side2 => exact HC0_0.out); (case side3 => repeat (first | exact (Kd.C_below HR0_1.out HB.out) | (with_reducible refine Kd.C_alloc ?_ _) | (with_reducible refine Kd.C_drewN ?_ _) | (with_reducible refine Kd.C_drew ?_))); (case side4 => exact HC0_1.out); (case side5 => exact Tabs.below hT (by repeat (first | (with_reducible first | exact HB.out | apply below_alloc | apply pw_below_drewN | apply below_drew1 | refine below_set ?_ GE141.out) | exact HB.out))); rintro e w13 ⟨rfl, hb⟩; have n0_ := Aside0.mk (blk_below (g := gb141) (o := .cells #[.slice A0_0 l0_0.length c0_0, .slice A0_1 l0_1.length c0_1, .int .i64 a0_2] 25 (0, 0)) (by (with_reducible repeat (first | refine blk_drewN ?_ _ | refine blk_drew ?_ | refine blk_alloc ?_ _)); exact BK141.out) hb); have n1_ := Aside0.mk (below_step (by repeat (first | (with_reducible first | exact HB.out | apply below_alloc | apply pw_below_drewN | apply below_drew1 | refine below_set ?_ GE141.out) | exact HB.out)) hb); clear BK141; clear HB; have BK141 := n0_; have HB := n1_; clear n0_ n1_; (try clear hb); (try clear hb2); (try clear hk); (try clear hi)))
        go_meet
        case rel => exact ⟨_, (!t144), (by first | rfl | (simp; done) | (simp [*]; done)), H', ⟨by first | omega | exact Nat.le_refl _⟩, ⟨by (with_reducible repeat (first | refine blk_drewN ?_ _ | refine blk_drew ?_ | refine blk_alloc ?_ _)); exact BK141.out⟩, ⟨by repeat (first | (with_reducible first | exact HB.out | apply below_alloc | apply pw_below_drewN | apply below_drew1 | refine below_set ?_ GE141.out) | exact HB.out)⟩⟩
      · replace c10 := Bool.eq_false_iff.mpr c10
        subst c10
        have H1 : (malthouselaw18_JournalParts.j0 k true true l0_0 l0_1 a0_2) = some r := by rw [if_neg (show ¬ (false = true) by decide)] at H; exact H
        clear H
        have H := H1
        clear H1
        have H' := Aside0.mk H
        clear H
        go_wp2
        go_meet
        case rel => exact ⟨_, (true), (by first | rfl | (simp; done) | (simp [*]; done)), H', ⟨by first | omega | exact Nat.le_refl _⟩, ⟨by (with_reducible repeat (first | refine blk_drewN ?_ _ | refine blk_drew ?_ | refine blk_alloc ?_ _)); exact BK141.out⟩, ⟨by repeat (first | (with_reducible first | exact HB.out | apply below_alloc | apply pw_below_drewN | apply below_drew1 | refine below_set ?_ GE141.out) | exact HB.out)⟩⟩
    · replace c9 := Bool.eq_false_iff.mpr c9
      subst c9
      have H1 : (malthouselaw18_JournalParts.j0 k false true l0_0 l0_1 a0_2) = some r := by rw [if_neg (show ¬ (false = true) by decide)] at H; exact H
      clear H
      have H := H1
      clear H1
      have H' := Aside0.mk H
      clear H
      go_wp2
      go_meet
      case rel => exact ⟨_, (true), (by first | rfl | (simp; done) | (simp [*]; done)), H', ⟨by first | omega | exact Nat.le_refl _⟩, ⟨by (with_reducible repeat (first | refine blk_drewN ?_ _ | refine blk_drew ?_ | refine blk_alloc ?_ _)); exact BK141.out⟩, ⟨by repeat (first | (with_reducible first | exact HB.out | apply below_alloc | apply pw_below_drewN | apply below_drew1 | refine below_set ?_ GE141.out) | exact HB.out)⟩⟩
  case rest =>
    clear HC4
    try clear c1
    try clear p2
    try clear c4
    try clear c8
    try clear c9
    try clear c10
    try clear hcz12_0
    try clear hcz12_1
    try clear hcz12_2
    try clear hcz7_0
    try clear hcz7_1
    try clear hcz7_2
    try clear hfz12_0
    try clear hfz12_1
    try clear hfz12_2
    try clear hfz7_0
    try clear hfz7_1
    try clear hfz7_2
    obtain ⟨kq, x22_3, rfl, HA, HJ3, BK141, HB⟩ := hcut
    cases kq with
    | zero => exact absurd HA.out (by simp [malthouselaw18_JournalParts.j0])
    | succ kj3 =>
      have H := HA.out
      clear HA
      simp only [malthouselaw18_JournalParts.j0] at H
      by_cases c14 : x22_3 = true
      · subst c14
        have H1 : (some t142) = some r := by rw [if_pos rfl] at H; exact H
        clear H
        have H := H1
        clear H1
        obtain rfl := Option.some.inj H
        go_wp2
        go_ret
        exact ⟨by first | rfl | (simp [errW_none, errW_some] <;> rfl) | (simp [*, errW_none, errW_some] <;> rfl), by repeat (first | (with_reducible first | exact HB.out | apply below_alloc | apply pw_below_drewN | apply below_drew1 | refine below_set ?_ GE141.out) | exact HB.out)⟩
      · replace c14 := Bool.eq_false_iff.mpr c14
        subst c14
        have H1 : (malthouselaw18_JournalParts.l0 kj3 0 l0_0 l0_1 a0_2) = some r := by rw [if_neg (show ¬ (false = true) by decide)] at H; exact H
        clear H
        have H := H1
        clear H1
        have H' := Aside0.mk H
        clear H
        go_wp2
        go_loopg [5] kj3 (fun kq v5 w' => ∃ (x5_2 : Int), v5 = .int .i64 x5_2 ∧ Aside0 (malthouselaw18_JournalParts.l0 kq x5_2 l0_0 l0_1 a0_2 = some r) ∧ Aside0 (kq ≤ kj3) ∧ Aside0 (w'.heap[gb141]? = some (.cells #[(.slice A0_0 l0_0.length c0_0), (.slice A0_1 l0_1.length c0_1), .int .i64 a0_2] 25 (0, 0))) ∧ Aside0 (Below w.heap.size w w'))
        case atStart => exact ⟨(0), (by first | rfl | (simp; done) | (simp [*]; done)), H', ⟨Nat.le_refl _⟩, ⟨by (with_reducible repeat (first | refine blk_drewN ?_ _ | refine blk_drew ?_ | refine blk_alloc ?_ _)); exact BK141.out⟩, ⟨by repeat (first | (with_reducible first | exact HB.out | apply below_alloc | apply pw_below_drewN | apply below_drew1 | refine below_set ?_ GE141.out) | exact HB.out)⟩⟩
        case round =>
          clear H'
          try clear c1
          try clear p2
          try clear c4
          try clear c8
          try clear c9
          try clear c10
          try clear c14
          try clear hcz12_0
          try clear hcz12_1
          try clear hcz12_2
          try clear hcz7_0
          try clear hcz7_1
          try clear hcz7_2
          try clear hfz12_0
          try clear hfz12_1
          try clear hfz12_2
          try clear hfz7_0
          try clear hfz7_1
          try clear hfz7_2
          try clear p2
          obtain ⟨x5_2, rfl, HA, HK2, BK141, HB⟩ := hrel
          cases gk with
          | zero => exact absurd HA.out (by simp [malthouselaw18_JournalParts.l0])
          | succ k2 =>
            have H := HA.out
            clear HA
            simp only [malthouselaw18_JournalParts.l0] at H
            by_cases c15 : x5_2 < (l0_0.length : Int)
            · rw [if_pos c15] at H
              have c15b0 : decide (x5_2 < (l0_0.length : Int)) = true := decide_eq_true c15
              clear c15
              by_cases c16 : 0 ≤ x5_2
              · rw [if_pos c16] at H
                have c16b0 : decide (0 ≤ x5_2) = true := decide_eq_true c16
                clear c16
                replace H := Option.bind_eq_some_iff.mp H
                obtain ⟨t146, A170, H⟩ := H
                replace H : (malthouselaw18_JournalParts.l1 k2 x5_2 t146 0 0 l0_0 l0_1 a0_2) = some r := H
                have A17 := Aside0.mk A170
                clear A170
                have H' := Aside0.mk H
                clear H
                have hcz18_0 : wr.cell? ⟨gb141, 0, none⟩ = some (.slice A0_0 l0_0.length c0_0) := (blk_cell BK141.out 0).trans rfl
                have hcz18_1 : wr.cell? ⟨gb141, 1, none⟩ = some (.slice A0_1 l0_1.length c0_1) := (blk_cell BK141.out 1).trans rfl
                have hcz18_2 : wr.cell? ⟨gb141, 2, none⟩ = some (.int .i64 a0_2) := (blk_cell BK141.out 2).trans rfl
                have hfz18_0 := blk_frozen BK141.out 0
                have hfz18_1 := blk_frozen BK141.out 1
                have hfz18_2 := blk_frozen BK141.out 2
                try go_wp2
                have n0_ := Aside0.mk (blk_drew BK141.out)
                have n1_ := Aside0.mk (below_drew1 HB.out)
                clear BK141
                clear HB
                have BK141 := n0_
                have HB := n1_
                clear n0_ n1_
                have p145 : 0 ≤ (x5_2 : Int) := of_decide_eq_true (by first | (with_reducible assumption) | assumption)
                have q145 : x5_2 < (l0_0.length : Int) := of_decide_eq_true (by first | (with_reducible assumption) | assumption)
                obtain ⟨ad145, e145, hx145_0, hx145_1, hx145_2, hx145_3, hx145_4, hx145_5⟩ := at_T27 HR0_0.out x5_2 p145 q145
                have hw145_5 := hx145_5
                have hw145_4 := hx145_4
                have hw145_3 := hx145_3
                have hw145_2 := hx145_2
                have hw145_1 := hx145_1
                have hw145_0 := hx145_0
                cases e145
                replace hx145_0 := (HB.out.cell (World.block_lt_of_cell? w _ hx145_0)).trans hx145_0
                replace hx145_1 := (HB.out.cell (World.block_lt_of_cell? w _ hx145_1)).trans hx145_1
                replace hx145_2 := (HB.out.cell (World.block_lt_of_cell? w _ hx145_2)).trans hx145_2
                replace hx145_3 := (HB.out.cell (World.block_lt_of_cell? w _ hx145_3)).trans hx145_3
                replace hx145_4 := (HB.out.cell (World.block_lt_of_cell? w _ hx145_4)).trans hx145_4
                replace hx145_5 := (HB.out.cell (World.block_lt_of_cell? w _ hx145_5)).trans hx145_5
                replace p145 := eq_true p145
                replace q145 := eq_true q145
                refine start_ (n := 9) (S := fun w' => w'.cell? ⟨gb141, 0, none⟩ = some (.slice (some ad145) l0_0.length c0_0) ∧ w'.cell? ⟨gb141, 1, none⟩ = some (.slice A0_1 l0_1.length c0_1) ∧ w'.cell? ⟨gb141, 2, none⟩ = some (.int .i64 a0_2) ∧ w'.cell? (ad145.add ((x5_2).toNat * 6)) = some (.int .i64 ((rd_T27 l0_0 x5_2).f0)) ∧ w'.cell? ⟨(ad145.add ((x5_2).toNat * 6)).block, (ad145.add ((x5_2).toNat * 6)).off + 1, none⟩ = some (.int .i64 ((rd_T27 l0_0 x5_2).f1)) ∧ w'.cell? ⟨(ad145.add ((x5_2).toNat * 6)).block, (ad145.add ((x5_2).toNat * 6)).off + 2, none⟩ = some (.int .i64 ((rd_T27 l0_0 x5_2).f2)) ∧ w'.cell? ⟨(ad145.add ((x5_2).toNat * 6)).block, (ad145.add ((x5_2).toNat * 6)).off + 3, none⟩ = some (.string ((rd_T27 l0_0 x5_2).f3)) ∧ w'.cell? ⟨(ad145.add ((x5_2).toNat * 6)).block, (ad145.add ((x5_2).toNat * 6)).off + 4, none⟩ = some (.int .i64 ((rd_T27 l0_0 x5_2).f4)) ∧ w'.cell? ⟨(ad145.add ((x5_2).toNat * 6)).block, (ad145.add ((x5_2).toNat * 6)).off + 5, none⟩ = some (.int .i64 ((rd_T27 l0_0 x5_2).f5))) (ds := []) #[false, false, false, false, false, false, false, false, false] (by kernel_rfl) rfl rfl ⟨(blk_cell BK141.out 0).trans rfl, (blk_cell BK141.out 1).trans rfl, (blk_cell BK141.out 2).trans rfl, ((HB.out.cell (World.block_lt_of_cell? w _ hw145_0)).trans hw145_0), ((HB.out.cell (World.block_lt_of_cell? w _ hw145_1)).trans hw145_1), ((HB.out.cell (World.block_lt_of_cell? w _ hw145_2)).trans hw145_2), ((HB.out.cell (World.block_lt_of_cell? w _ hw145_3)).trans hw145_3), ((HB.out.cell (World.block_lt_of_cell? w _ hw145_4)).trans hw145_4), ((HB.out.cell (World.block_lt_of_cell? w _ hw145_5)).trans hw145_5)⟩ (fun hHeld => ?_); refine with_tabW malthouselaw18_JournalParts.tab8 malthouselaw18_JournalParts.bits8 (fun HT_ HW_ => ?_)
                generalize wr.drew = w19 at BK141 HB hx145_0 hx145_1 hx145_2 hx145_3 hx145_4 hx145_5 hHeld ⊢
                refine pure_ (i := 1) (N := some 32) (v := ?_) (a' := ?_) #[false, true, false, false, false, false, false, false, false] rfl rfl (any_of HT_.out (by kernel_rfl)) (fun _ _ _ h => h) (Or.inl ⟨by rfl, ?_⟩) ?_ ?_
                rotate_left
                · intro w'
                  go_simp
                  with_reducible rfl
                rotate_left
                · simp only [Act.put, List.setIfInBounds_toArray, List.set_cons_zero, List.set_cons_succ, i64_w, i32_w]
                  rfl
                refine pure_ (i := 3) (N := some 34) (v := ?_) (a' := ?_) #[false, true, false, true, false, false, false, false, false] rfl rfl (any_of HT_.out (by kernel_rfl)) (fun _ _ _ h => h) (Or.inl ⟨by rfl, ?_⟩) ?_ ?_
                rotate_left
                · intro w'
                  go_simp
                  with_reducible rfl
                rotate_left
                · simp only [Act.put, List.setIfInBounds_toArray, List.set_cons_zero, List.set_cons_succ, i64_w, i32_w]
                  rfl
                refine take_ (i := 0) (N := some 31) (v := ?_) (a' := ?_) #[true, true, false, true, false, false, false, false, false] rfl rfl (take_ofW HT_.out HW_.out (by kernel_rfl)) (fun _ _ _ h => h) (Or.inl ⟨by rfl, ?_⟩) hHeld ?_ ?_
                rotate_left
                · rintro w' ⟨s0, s1, s2, s3, s4, s5, s6, s7, s8⟩
                  go_simp
                  with_reducible rfl
                rotate_left
                · simp only [Act.put, List.setIfInBounds_toArray, List.set_cons_zero, List.set_cons_succ, i64_w, i32_w]
                  rfl
                refine take_ (i := 2) (N := some 33) (v := ?_) (a' := ?_) #[true, true, true, true, false, false, false, false, false] rfl rfl (take_ofW HT_.out HW_.out (by kernel_rfl)) (fun _ _ _ h => h) (Or.inl ⟨by rfl, ?_⟩) hHeld ?_ ?_
                rotate_left
                · rintro w' ⟨s0, s1, s2, s3, s4, s5, s6, s7, s8⟩
                  go_simp
                  with_reducible rfl
                rotate_left
                · simp only [Act.put, List.setIfInBounds_toArray, List.set_cons_zero, List.set_cons_succ, i64_w, i32_w]
                  rfl
                refine pure_ (i := 4) (N := some 35) (v := ?_) (a' := ?_) #[true, true, true, true, true, false, false, false, false] rfl rfl (any_of HT_.out (by kernel_rfl)) (fun _ _ _ h => h) (Or.inl ⟨by rfl, ?_⟩) ?_ ?_
                rotate_left
                · intro w'
                  go_simp
                  with_reducible rfl
                rotate_left
                · simp only [Act.put, List.setIfInBounds_toArray, List.set_cons_zero, List.set_cons_succ, i64_w, i32_w]
                  rfl
                refine pure_ (i := 5) (N := some 36) (v := ?_) (a' := ?_) #[true, true, true, true, true, true, false, false, false] rfl rfl (any_of HT_.out (by kernel_rfl)) (fun _ _ _ h => h) (Or.inl ⟨by rfl, ?_⟩) ?_ ?_
                rotate_left
                · intro w'
                  go_simp
                  with_reducible rfl
                rotate_left
                · simp only [Act.put, List.setIfInBounds_toArray, List.set_cons_zero, List.set_cons_succ, i64_w, i32_w]
                  rfl
                refine take_ (i := 6) (N := some 37) (v := ?_) (a' := ?_) #[true, true, true, true, true, true, true, false, false] rfl rfl (take_ofW HT_.out HW_.out (by kernel_rfl)) (fun _ _ _ h => h) (Or.inl ⟨by rfl, ?_⟩) hHeld ?_ ?_
                rotate_left
                · rintro w' ⟨s0, s1, s2, s3, s4, s5, s6, s7, s8⟩
                  go_simp
                  with_reducible rfl
                rotate_left
                · simp only [Act.put, List.setIfInBounds_toArray, List.set_cons_zero, List.set_cons_succ, i64_w, i32_w]
                  rfl
                refine one_ (i := 7) (N := some 38) #[true, true, true, true, true, true, true, true, false] rfl rfl (one_of HT_.out (by kernel_rfl)) (by decide) (fun K hK => ?_)
                refine goes_ Tryd.func15 (by kernel_rfl) rfl #[.agg #[.slice (some ad145) l0_0.length c0_0, .slice A0_1 l0_1.length c0_1, .int .i64 a0_2], .int .i64 ((rd_T27 l0_0 x5_2).f1)] (by rfl) rfl rfl (by (try simp only [List.map_toArray, List.map_cons, List.map_nil]); first | done | rfl | (simp only [List.length_drop, List.length_take]; rfl)) ?_
                with_reducible refine (journal_Of.calls _ _ l0_0 _ _ l0_1 a0_2 ((rd_T27 l0_0 x5_2).f1) t146 _ ?side1 ?side2 ?side3 ?side4 ?side5 A17.out).mono ?_
                (case side1 => repeat (first | exact (Kd.C_below HR0_0.out HB.out) | (with_reducible refine Kd.C_alloc ?_ _) | (with_reducible refine Kd.C_drewN ?_ _) | (with_reducible refine Kd.C_drew ?_)))
                (case side2 => exact HC0_0.out)
                (case side3 => repeat (first | exact (Kd.C_below HR0_1.out HB.out) | (with_reducible refine Kd.C_alloc ?_ _) | (with_reducible refine Kd.C_drewN ?_ _) | (with_reducible refine Kd.C_drew ?_)))
                (case side4 => exact HC0_1.out)
                (case side5 => exact Tabs.below hT (by repeat (first | (with_reducible first | exact HB.out | apply below_alloc | apply pw_below_drewN | apply below_drew1 | refine below_set ?_ GE141.out) | exact HB.out)))
                rintro e w20 ⟨v147, rfl, ho0, hb⟩
                refine ⟨_, rfl, ?_⟩
                have n0_ := Aside0.mk (Kd.R_lower ho0 (below_size (by repeat (first | (with_reducible first | exact HB.out | apply below_alloc | apply pw_below_drewN | apply below_drew1 | refine below_set ?_ GE141.out) | exact HB.out))))
                have n1_ := Aside0.mk (blk_below (g := gb141) (o := .cells #[.slice (some ad145) l0_0.length c0_0, .slice A0_1 l0_1.length c0_1, .int .i64 a0_2] 25 (0, 0)) (by (with_reducible repeat (first | refine blk_drewN ?_ _ | refine blk_drew ?_ | refine blk_alloc ?_ _)); exact BK141.out) hb)
                have n2_ := Aside0.mk (below_step (by repeat (first | (with_reducible first | exact HB.out | apply below_alloc | apply pw_below_drewN | apply below_drew1 | refine below_set ?_ GE141.out) | exact HB.out)) hb)
                clear BK141
                clear HB
                have HO148 := n0_
                have BK141 := n1_
                have HB := n2_
                clear n0_ n1_ n2_
                (try clear hb)
                (try clear hb2)
                (try clear hk)
                (try clear hi)
                (try clear ho0)
                refine hK.out _ _ ⟨(blk_cell BK141.out 0).trans rfl, (blk_cell BK141.out 1).trans rfl, (blk_cell BK141.out 2).trans rfl, ((HB.out.cell (World.block_lt_of_cell? w _ hw145_0)).trans hw145_0), ((HB.out.cell (World.block_lt_of_cell? w _ hw145_1)).trans hw145_1), ((HB.out.cell (World.block_lt_of_cell? w _ hw145_2)).trans hw145_2), ((HB.out.cell (World.block_lt_of_cell? w _ hw145_3)).trans hw145_3), ((HB.out.cell (World.block_lt_of_cell? w _ hw145_4)).trans hw145_4), ((HB.out.cell (World.block_lt_of_cell? w _ hw145_5)).trans hw145_5)⟩ (fun hHeld => ?_)
                clear hK K
                refine norm_ (a' := ?_) ?_ ?_
                rotate_left
                · show Act.put _ (some 38) _ = _
                  simp only [Act.put, List.setIfInBounds_toArray, List.set_cons_zero, List.set_cons_succ, i64_w, i32_w]
                  rfl
                refine pure_ (i := 8) (N := some 6) (v := ?_) (a' := ?_) #[true, true, true, true, true, true, true, true, true] rfl rfl (any_of HT_.out (by kernel_rfl)) (fun _ _ _ h => h) (Or.inl ⟨by rfl, ?_⟩) ?_ ?_
                rotate_left
                · intro w'
                  go_simp
                  with_reducible rfl
                rotate_left
                · simp only [Act.put, List.setIfInBounds_toArray, List.set_cons_zero, List.set_cons_succ, i64_w, i32_w]
                  rfl
                refine done_ (done_of HT_.out (by kernel_rfl)) ?_
                try go_wp2
                go_loopg [7, 8] k2 (fun kq v7 v8 w' => ∃ (x7_3 : Int) (x8_3 : Int), v7 = .int .i64 x7_3 ∧ v8 = .int .i64 x8_3 ∧ Aside0 (malthouselaw18_JournalParts.l1 kq x5_2 t146 x7_3 x8_3 l0_0 l0_1 a0_2 = some r) ∧ Aside0 (kq ≤ k2) ∧ Aside0 (Kd.R k27 27 w' w.heap.size (fun _ => True) v147 t146) ∧ Aside0 (w'.heap[gb141]? = some (.cells #[(.slice (some ad145) l0_0.length c0_0), (.slice A0_1 l0_1.length c0_1), .int .i64 a0_2] 25 (0, 0))) ∧ Aside0 (Below w.heap.size w w'))
                case atStart => exact ⟨(0), (0), (by first | rfl | (simp; done) | (simp [*]; done)), (by first | rfl | (simp; done) | (simp [*]; done)), H', ⟨Nat.le_refl _⟩, ⟨by (with_reducible repeat (first | apply Kd.R_alloc | apply Kd.R_drewN | apply Kd.R_drew)); exact HO148.out⟩, ⟨by (with_reducible repeat (first | refine blk_drewN ?_ _ | refine blk_drew ?_ | refine blk_alloc ?_ _)); exact BK141.out⟩, ⟨by repeat (first | (with_reducible first | exact HB.out | apply below_alloc | apply pw_below_drewN | apply below_drew1 | refine below_set ?_ GE141.out) | exact HB.out)⟩⟩
                case round =>
                  clear H'
                  try clear c1
                  try clear p1
                  try clear q1
                  try clear hx1
                  try clear p2
                  try clear c4
                  try clear c8
                  try clear c9
                  try clear c10
                  try clear c14
                  try clear p14
                  try clear q14
                  try clear hx14
                  try clear c15
                  try clear c15b0
                  try clear c16
                  try clear c16b0
                  try clear hcz12_0
                  try clear hcz12_1
                  try clear hcz12_2
                  try clear hcz18_0
                  try clear hcz18_1
                  try clear hcz18_2
                  try clear hcz7_0
                  try clear hcz7_1
                  try clear hcz7_2
                  try clear hfz12_0
                  try clear hfz12_1
                  try clear hfz12_2
                  try clear hfz18_0
                  try clear hfz18_1
                  try clear hfz18_2
                  try clear hfz7_0
                  try clear hfz7_1
                  try clear hfz7_2
                  try clear hx145_0
                  try clear hx145_1
                  try clear hx145_2
                  try clear hx145_3
                  try clear hx145_4
                  try clear hx145_5
                  try clear p145
                  try clear p2
                  try clear q145
                  obtain ⟨x7_3, x8_3, rfl, rfl, HA, HK3, HO_6, BK141, HB⟩ := hrel
                  cases gk with
                  | zero => exact absurd HA.out (by simp [malthouselaw18_JournalParts.l1])
                  | succ k3 =>
                    have H := HA.out
                    clear HA
                    simp only [malthouselaw18_JournalParts.l1] at H
                    by_cases c21 : x8_3 < (l0_0.length : Int)
                    · rw [if_pos c21] at H
                      have c21b0 : decide (x8_3 < (l0_0.length : Int)) = true := decide_eq_true c21
                      clear c21
                      by_cases c22 : 0 ≤ x8_3
                      · rw [if_pos c22] at H
                        have c22b0 : decide (0 ≤ x8_3) = true := decide_eq_true c22
                        clear c22
                        by_cases c23 : 0 ≤ x5_2
                        · rw [if_pos c23] at H
                          have c23b0 : decide (0 ≤ x5_2) = true := decide_eq_true c23
                          clear c23
                          by_cases c24 : x5_2 < (l0_0.length : Int)
                          · rw [if_pos c24] at H
                            have c24b0 : decide (x5_2 < (l0_0.length : Int)) = true := decide_eq_true c24
                            clear c24
                            by_cases c25 : ((rd_T27 l0_0 x8_3).f1) = ((rd_T27 l0_0 x5_2).f1)
                            · rw [if_pos c25] at H
                              have c25b0 : (((rd_T27 l0_0 x8_3).f1) == ((rd_T27 l0_0 x5_2).f1)) = true := beq_iff_eq.mpr c25
                              have c25b1 : (((rd_T27 l0_0 x8_3).f1) != ((rd_T27 l0_0 x5_2).f1)) = false := bne_eq_false_iff_eq.mpr c25
                              clear c25
                              by_cases c26 : x7_3 ≥ (t146.length : Int)
                              · rw [if_pos c26] at H
                                have c26b0 : decide ((t146.length : Int) ≤ x7_3) = true := decide_eq_true c26
                                clear c26
                                obtain rfl := Option.some.inj H
                                have hcz27_0 : wr.cell? ⟨gb141, 0, none⟩ = some (.slice (some ad145) l0_0.length c0_0) := (blk_cell BK141.out 0).trans rfl
                                have hcz27_1 : wr.cell? ⟨gb141, 1, none⟩ = some (.slice A0_1 l0_1.length c0_1) := (blk_cell BK141.out 1).trans rfl
                                have hcz27_2 : wr.cell? ⟨gb141, 2, none⟩ = some (.int .i64 a0_2) := (blk_cell BK141.out 2).trans rfl
                                have hfz27_0 := blk_frozen BK141.out 0
                                have hfz27_1 := blk_frozen BK141.out 1
                                have hfz27_2 := blk_frozen BK141.out 2
                                try go_wp2
                                have n0_ := Aside0.mk (Kd.R_drew HO_6.out)
                                have n1_ := Aside0.mk (blk_drew BK141.out)
                                have n2_ := Aside0.mk (below_drew1 HB.out)
                                clear HO_6
                                clear BK141
                                clear HB
                                have HO_6 := n0_
                                have BK141 := n1_
                                have HB := n2_
                                clear n0_ n1_ n2_
                                have p149 : 0 ≤ (x8_3 : Int) := of_decide_eq_true (by first | (with_reducible assumption) | assumption)
                                have q149 : x8_3 < (l0_0.length : Int) := of_decide_eq_true (by first | (with_reducible assumption) | assumption)
                                obtain ⟨ad149, e149, hx149_0, hx149_1, hx149_2, hx149_3, hx149_4, hx149_5⟩ := at_T27 HR0_0.out x8_3 p149 q149
                                have hw149_5 := hx149_5
                                have hw149_4 := hx149_4
                                have hw149_3 := hx149_3
                                have hw149_2 := hx149_2
                                have hw149_1 := hx149_1
                                have hw149_0 := hx149_0
                                obtain rfl : ad145 = ad149 := (by injection e149)
                                replace hx149_0 := (HB.out.cell (World.block_lt_of_cell? w _ hx149_0)).trans hx149_0
                                replace hx149_1 := (HB.out.cell (World.block_lt_of_cell? w _ hx149_1)).trans hx149_1
                                replace hx149_2 := (HB.out.cell (World.block_lt_of_cell? w _ hx149_2)).trans hx149_2
                                replace hx149_3 := (HB.out.cell (World.block_lt_of_cell? w _ hx149_3)).trans hx149_3
                                replace hx149_4 := (HB.out.cell (World.block_lt_of_cell? w _ hx149_4)).trans hx149_4
                                replace hx149_5 := (HB.out.cell (World.block_lt_of_cell? w _ hx149_5)).trans hx149_5
                                replace p149 := eq_true p149
                                replace q149 := eq_true q149
                                have p150 : 0 ≤ (x5_2 : Int) := of_decide_eq_true (by first | (with_reducible assumption) | assumption)
                                have q150 : x5_2 < (l0_0.length : Int) := of_decide_eq_true (by first | (with_reducible assumption) | assumption)
                                obtain ⟨ad150, e150, hx150_0, hx150_1, hx150_2, hx150_3, hx150_4, hx150_5⟩ := at_T27 HR0_0.out x5_2 p150 q150
                                have hw150_5 := hx150_5
                                have hw150_4 := hx150_4
                                have hw150_3 := hx150_3
                                have hw150_2 := hx150_2
                                have hw150_1 := hx150_1
                                have hw150_0 := hx150_0
                                obtain rfl : ad145 = ad150 := (by injection e150)
                                replace hx150_0 := (HB.out.cell (World.block_lt_of_cell? w _ hx150_0)).trans hx150_0
                                replace hx150_1 := (HB.out.cell (World.block_lt_of_cell? w _ hx150_1)).trans hx150_1
                                replace hx150_2 := (HB.out.cell (World.block_lt_of_cell? w _ hx150_2)).trans hx150_2
                                replace hx150_3 := (HB.out.cell (World.block_lt_of_cell? w _ hx150_3)).trans hx150_3
                                replace hx150_4 := (HB.out.cell (World.block_lt_of_cell? w _ hx150_4)).trans hx150_4
                                replace hx150_5 := (HB.out.cell (World.block_lt_of_cell? w _ hx150_5)).trans hx150_5
                                replace p150 := eq_true p150
                                replace q150 := eq_true q150
                                refine start_ (n := 13) (S := fun w' => w'.cell? ⟨gb141, 0, none⟩ = some (.slice (some ad145) l0_0.length c0_0) ∧ w'.cell? ⟨gb141, 1, none⟩ = some (.slice A0_1 l0_1.length c0_1) ∧ w'.cell? ⟨gb141, 2, none⟩ = some (.int .i64 a0_2) ∧ w'.cell? (ad145.add ((x8_3).toNat * 6)) = some (.int .i64 ((rd_T27 l0_0 x8_3).f0)) ∧ w'.cell? ⟨(ad145.add ((x8_3).toNat * 6)).block, (ad145.add ((x8_3).toNat * 6)).off + 1, none⟩ = some (.int .i64 ((rd_T27 l0_0 x8_3).f1)) ∧ w'.cell? ⟨(ad145.add ((x8_3).toNat * 6)).block, (ad145.add ((x8_3).toNat * 6)).off + 2, none⟩ = some (.int .i64 ((rd_T27 l0_0 x8_3).f2)) ∧ w'.cell? ⟨(ad145.add ((x8_3).toNat * 6)).block, (ad145.add ((x8_3).toNat * 6)).off + 3, none⟩ = some (.string ((rd_T27 l0_0 x8_3).f3)) ∧ w'.cell? ⟨(ad145.add ((x8_3).toNat * 6)).block, (ad145.add ((x8_3).toNat * 6)).off + 4, none⟩ = some (.int .i64 ((rd_T27 l0_0 x8_3).f4)) ∧ w'.cell? ⟨(ad145.add ((x8_3).toNat * 6)).block, (ad145.add ((x8_3).toNat * 6)).off + 5, none⟩ = some (.int .i64 ((rd_T27 l0_0 x8_3).f5)) ∧ w'.cell? (ad145.add ((x5_2).toNat * 6)) = some (.int .i64 ((rd_T27 l0_0 x5_2).f0)) ∧ w'.cell? ⟨(ad145.add ((x5_2).toNat * 6)).block, (ad145.add ((x5_2).toNat * 6)).off + 1, none⟩ = some (.int .i64 ((rd_T27 l0_0 x5_2).f1)) ∧ w'.cell? ⟨(ad145.add ((x5_2).toNat * 6)).block, (ad145.add ((x5_2).toNat * 6)).off + 2, none⟩ = some (.int .i64 ((rd_T27 l0_0 x5_2).f2)) ∧ w'.cell? ⟨(ad145.add ((x5_2).toNat * 6)).block, (ad145.add ((x5_2).toNat * 6)).off + 3, none⟩ = some (.string ((rd_T27 l0_0 x5_2).f3)) ∧ w'.cell? ⟨(ad145.add ((x5_2).toNat * 6)).block, (ad145.add ((x5_2).toNat * 6)).off + 4, none⟩ = some (.int .i64 ((rd_T27 l0_0 x5_2).f4)) ∧ w'.cell? ⟨(ad145.add ((x5_2).toNat * 6)).block, (ad145.add ((x5_2).toNat * 6)).off + 5, none⟩ = some (.int .i64 ((rd_T27 l0_0 x5_2).f5))) (ds := []) #[false, false, false, false, false, false, false, false, false, false, false, false, false] (by kernel_rfl) rfl rfl ⟨(blk_cell BK141.out 0).trans rfl, (blk_cell BK141.out 1).trans rfl, (blk_cell BK141.out 2).trans rfl, ((HB.out.cell (World.block_lt_of_cell? w _ hw149_0)).trans hw149_0), ((HB.out.cell (World.block_lt_of_cell? w _ hw149_1)).trans hw149_1), ((HB.out.cell (World.block_lt_of_cell? w _ hw149_2)).trans hw149_2), ((HB.out.cell (World.block_lt_of_cell? w _ hw149_3)).trans hw149_3), ((HB.out.cell (World.block_lt_of_cell? w _ hw149_4)).trans hw149_4), ((HB.out.cell (World.block_lt_of_cell? w _ hw149_5)).trans hw149_5), ((HB.out.cell (World.block_lt_of_cell? w _ hw150_0)).trans hw150_0), ((HB.out.cell (World.block_lt_of_cell? w _ hw150_1)).trans hw150_1), ((HB.out.cell (World.block_lt_of_cell? w _ hw150_2)).trans hw150_2), ((HB.out.cell (World.block_lt_of_cell? w _ hw150_3)).trans hw150_3), ((HB.out.cell (World.block_lt_of_cell? w _ hw150_4)).trans hw150_4), ((HB.out.cell (World.block_lt_of_cell? w _ hw150_5)).trans hw150_5)⟩ (fun hHeld => ?_); refine with_tabW malthouselaw18_JournalParts.tab13 malthouselaw18_JournalParts.bits13 (fun HT_ HW_ => ?_)
                                generalize wr.drew = w28 at HO_6 BK141 HB hx149_0 hx149_1 hx149_2 hx149_3 hx149_4 hx149_5 hx150_0 hx150_1 hx150_2 hx150_3 hx150_4 hx150_5 hHeld ⊢
                                refine pure_ (i := 0) (N := some 46) (v := ?_) (a' := ?_) #[true, false, false, false, false, false, false, false, false, false, false, false, false] rfl rfl (any_of HT_.out (by kernel_rfl)) (fun _ _ _ h => h) (Or.inl ⟨by rfl, ?_⟩) ?_ ?_
                                rotate_left
                                · intro w'
                                  go_simp
                                  with_reducible rfl
                                rotate_left
                                · simp only [Act.put, List.setIfInBounds_toArray, List.set_cons_zero, List.set_cons_succ, i64_w, i32_w]
                                  rfl
                                refine pure_ (i := 2) (N := some 48) (v := ?_) (a' := ?_) #[true, false, true, false, false, false, false, false, false, false, false, false, false] rfl rfl (any_of HT_.out (by kernel_rfl)) (fun _ _ _ h => h) (Or.inl ⟨by rfl, ?_⟩) ?_ ?_
                                rotate_left
                                · intro w'
                                  go_simp
                                  with_reducible rfl
                                rotate_left
                                · simp only [Act.put, List.setIfInBounds_toArray, List.set_cons_zero, List.set_cons_succ, i64_w, i32_w]
                                  rfl
                                refine pure_ (i := 6) (N := some 52) (v := ?_) (a' := ?_) #[true, false, true, false, false, false, true, false, false, false, false, false, false] rfl rfl (any_of HT_.out (by kernel_rfl)) (fun _ _ _ h => h) (Or.inl ⟨by rfl, ?_⟩) ?_ ?_
                                rotate_left
                                · intro w'
                                  go_simp
                                  with_reducible rfl
                                rotate_left
                                · simp only [Act.put, List.setIfInBounds_toArray, List.set_cons_zero, List.set_cons_succ, i64_w, i32_w]
                                  rfl
                                refine pure_ (i := 8) (N := some 54) (v := ?_) (a' := ?_) #[true, false, true, false, false, false, true, false, true, false, false, false, false] rfl rfl (any_of HT_.out (by kernel_rfl)) (fun _ _ _ h => h) (Or.inl ⟨by rfl, ?_⟩) ?_ ?_
                                rotate_left
                                · intro w'
                                  go_simp
                                  with_reducible rfl
                                rotate_left
                                · simp only [Act.put, List.setIfInBounds_toArray, List.set_cons_zero, List.set_cons_succ, i64_w, i32_w]
                                  rfl
                                refine take_ (i := 1) (N := some 47) (v := ?_) (a' := ?_) #[true, true, true, false, false, false, true, false, true, false, false, false, false] rfl rfl (take_ofW HT_.out HW_.out (by kernel_rfl)) (fun _ _ _ h => h) (Or.inl ⟨by rfl, ?_⟩) hHeld ?_ ?_
                                rotate_left
                                · rintro w' ⟨s0, s1, s2, s3, s4, s5, s6, s7, s8, s9, s10, s11, s12, s13, s14⟩
                                  go_simp
                                  with_reducible rfl
                                rotate_left
                                · simp only [Act.put, List.setIfInBounds_toArray, List.set_cons_zero, List.set_cons_succ, i64_w, i32_w]
                                  rfl
                                refine pure_ (i := 3) (N := some 49) (v := ?_) (a' := ?_) #[true, true, true, true, false, false, true, false, true, false, false, false, false] rfl rfl (any_of HT_.out (by kernel_rfl)) (fun _ _ _ h => h) (Or.inl ⟨by rfl, ?_⟩) ?_ ?_
                                rotate_left
                                · intro w'
                                  go_simp
                                  with_reducible rfl
                                rotate_left
                                · simp only [Act.put, List.setIfInBounds_toArray, List.set_cons_zero, List.set_cons_succ, i64_w, i32_w]
                                  rfl
                                refine pure_ (i := 4) (N := some 50) (v := ?_) (a' := ?_) #[true, true, true, true, true, false, true, false, true, false, false, false, false] rfl rfl (any_of HT_.out (by kernel_rfl)) (fun _ _ _ h => h) (Or.inl ⟨by rfl, ?_⟩) ?_ ?_
                                rotate_left
                                · intro w'
                                  go_simp
                                  with_reducible rfl
                                rotate_left
                                · simp only [Act.put, List.setIfInBounds_toArray, List.set_cons_zero, List.set_cons_succ, i64_w, i32_w]
                                  rfl
                                refine take_ (i := 5) (N := some 51) (v := ?_) (a' := ?_) #[true, true, true, true, true, true, true, false, true, false, false, false, false] rfl rfl (take_ofW HT_.out HW_.out (by kernel_rfl)) (fun _ _ _ h => h) (Or.inl ⟨by rfl, ?_⟩) hHeld ?_ ?_
                                rotate_left
                                · rintro w' ⟨s0, s1, s2, s3, s4, s5, s6, s7, s8, s9, s10, s11, s12, s13, s14⟩
                                  go_simp
                                  with_reducible rfl
                                rotate_left
                                · simp only [Act.put, List.setIfInBounds_toArray, List.set_cons_zero, List.set_cons_succ, i64_w, i32_w]
                                  rfl
                                refine take_ (i := 7) (N := some 53) (v := ?_) (a' := ?_) #[true, true, true, true, true, true, true, true, true, false, false, false, false] rfl rfl (take_ofW HT_.out HW_.out (by kernel_rfl)) (fun _ _ _ h => h) (Or.inl ⟨by rfl, ?_⟩) hHeld ?_ ?_
                                rotate_left
                                · rintro w' ⟨s0, s1, s2, s3, s4, s5, s6, s7, s8, s9, s10, s11, s12, s13, s14⟩
                                  go_simp
                                  with_reducible rfl
                                rotate_left
                                · simp only [Act.put, List.setIfInBounds_toArray, List.set_cons_zero, List.set_cons_succ, i64_w, i32_w]
                                  rfl
                                refine pure_ (i := 9) (N := some 55) (v := ?_) (a' := ?_) #[true, true, true, true, true, true, true, true, true, true, false, false, false] rfl rfl (any_of HT_.out (by kernel_rfl)) (fun _ _ _ h => h) (Or.inl ⟨by rfl, ?_⟩) ?_ ?_
                                rotate_left
                                · intro w'
                                  go_simp
                                  with_reducible rfl
                                rotate_left
                                · simp only [Act.put, List.setIfInBounds_toArray, List.set_cons_zero, List.set_cons_succ, i64_w, i32_w]
                                  rfl
                                refine pure_ (i := 10) (N := some 56) (v := ?_) (a' := ?_) #[true, true, true, true, true, true, true, true, true, true, true, false, false] rfl rfl (any_of HT_.out (by kernel_rfl)) (fun _ _ _ h => h) (Or.inl ⟨by rfl, ?_⟩) ?_ ?_
                                rotate_left
                                · intro w'
                                  go_simp
                                  with_reducible rfl
                                rotate_left
                                · simp only [Act.put, List.setIfInBounds_toArray, List.set_cons_zero, List.set_cons_succ, i64_w, i32_w]
                                  rfl
                                refine take_ (i := 11) (N := some 57) (v := ?_) (a' := ?_) #[true, true, true, true, true, true, true, true, true, true, true, true, false] rfl rfl (take_ofW HT_.out HW_.out (by kernel_rfl)) (fun _ _ _ h => h) (Or.inl ⟨by rfl, ?_⟩) hHeld ?_ ?_
                                rotate_left
                                · rintro w' ⟨s0, s1, s2, s3, s4, s5, s6, s7, s8, s9, s10, s11, s12, s13, s14⟩
                                  go_simp
                                  with_reducible rfl
                                rotate_left
                                · simp only [Act.put, List.setIfInBounds_toArray, List.set_cons_zero, List.set_cons_succ, i64_w, i32_w]
                                  rfl
                                refine pure_ (i := 12) (N := some 58) (v := ?_) (a' := ?_) #[true, true, true, true, true, true, true, true, true, true, true, true, true] rfl rfl (any_of HT_.out (by kernel_rfl)) (fun _ _ _ h => h) (Or.inl ⟨by rfl, ?_⟩) ?_ ?_
                                rotate_left
                                · intro w'
                                  go_simp
                                  with_reducible rfl
                                rotate_left
                                · simp only [Act.put, List.setIfInBounds_toArray, List.set_cons_zero, List.set_cons_succ, i64_w, i32_w]
                                  rfl
                                refine done_ (done_of HT_.out (by kernel_rfl)) ?_
                                try go_wp2
                                have n0_ := Aside0.mk (Kd.R_drew HO_6.out)
                                have n1_ := Aside0.mk (blk_drew BK141.out)
                                have n2_ := Aside0.mk (below_drew1 HB.out)
                                clear HO_6
                                clear BK141
                                clear HB
                                have HO_6 := n0_
                                have BK141 := n1_
                                have HB := n2_
                                clear n0_ n1_ n2_
                                obtain ⟨Ao30, co30, eo30⟩ := Kd.R_slice HO_6.out
                                (first | subst eo30 | (injection eo30 with f1_ f2_ f3_; have f4_ := f1_.symm; have f5_ := f3_.symm; clear f1_ f2_ f3_; subst f4_; subst f5_))
                                refine start_ (n := 16) (S := fun w' => True) (ds := []) #[false, false, false, false, false, false, false, false, false, false, false, false, false, false, false, false] (by kernel_rfl) rfl rfl trivial (fun hHeld => ?_); refine with_tabW malthouselaw18_JournalParts.tab14 malthouselaw18_JournalParts.bits14 (fun HT_ HW_ => ?_)
                                generalize w28.drew = w29 at HO_6 BK141 HB hHeld ⊢
                                refine pure_ (i := 0) (N := some 59) (v := ?_) (a' := ?_) #[true, false, false, false, false, false, false, false, false, false, false, false, false, false, false, false] rfl rfl (any_of HT_.out (by kernel_rfl)) (fun _ _ _ h => h) (Or.inl ⟨by rfl, ?_⟩) ?_ ?_
                                rotate_left
                                · intro w'
                                  go_simp
                                  with_reducible rfl
                                rotate_left
                                · simp only [Act.put, List.setIfInBounds_toArray, List.set_cons_zero, List.set_cons_succ, i64_w, i32_w]
                                  rfl
                                refine pure_ (i := 1) (N := some 60) (v := ?_) (a' := ?_) #[true, true, false, false, false, false, false, false, false, false, false, false, false, false, false, false] rfl rfl (any_of HT_.out (by kernel_rfl)) (fun _ _ _ h => h) (Or.inl ⟨by rfl, ?_⟩) ?_ ?_
                                rotate_left
                                · intro w'
                                  go_simp
                                  with_reducible rfl
                                rotate_left
                                · simp only [Act.put, List.setIfInBounds_toArray, List.set_cons_zero, List.set_cons_succ, i64_w, i32_w]
                                  rfl
                                refine pure_ (i := 2) (N := some 61) (v := ?_) (a' := ?_) #[true, true, true, false, false, false, false, false, false, false, false, false, false, false, false, false] rfl rfl (any_of HT_.out (by kernel_rfl)) (fun _ _ _ h => h) (Or.inl ⟨by rfl, ?_⟩) ?_ ?_
                                rotate_left
                                · intro w'
                                  go_simp
                                  with_reducible rfl
                                rotate_left
                                · simp only [Act.put, List.setIfInBounds_toArray, List.set_cons_zero, List.set_cons_succ, i64_w, i32_w]
                                  rfl
                                refine pure_ (i := 3) (N := some 62) (v := ?_) (a' := ?_) #[true, true, true, true, false, false, false, false, false, false, false, false, false, false, false, false] rfl rfl (any_of HT_.out (by kernel_rfl)) (fun _ _ _ h => h) (Or.inl ⟨by rfl, ?_⟩) ?_ ?_
                                rotate_left
                                · intro w'
                                  go_simp
                                  with_reducible rfl
                                rotate_left
                                · simp only [Act.put, List.setIfInBounds_toArray, List.set_cons_zero, List.set_cons_succ, i64_w, i32_w]
                                  rfl
                                refine pure_ (i := 4) (N := some 63) (v := ?_) (a' := ?_) #[true, true, true, true, true, false, false, false, false, false, false, false, false, false, false, false] rfl rfl (any_of HT_.out (by kernel_rfl)) (fun _ _ _ h => h) (Or.inl ⟨by rfl, ?_⟩) ?_ ?_
                                rotate_left
                                · intro w'
                                  go_simp
                                  with_reducible rfl
                                rotate_left
                                · simp only [Act.put, List.setIfInBounds_toArray, List.set_cons_zero, List.set_cons_succ, i64_w, i32_w]
                                  rfl
                                refine pure_ (i := 5) (N := some 64) (v := undef) (a' := ?_) #[true, true, true, true, true, true, false, false, false, false, false, false, false, false, false, false] rfl rfl (any_of HT_.out (by kernel_rfl)) (fun _ _ _ h => h) (Or.inr ⟨by rfl, rfl⟩) ?_ ?_
                                rotate_left
                                · simp only [Act.put, List.setIfInBounds_toArray, List.set_cons_zero, List.set_cons_succ, i64_w, i32_w]
                                  rfl
                                refine pure_ (i := 6) (N := some 65) (v := undef) (a' := ?_) #[true, true, true, true, true, true, true, false, false, false, false, false, false, false, false, false] rfl rfl (any_of HT_.out (by kernel_rfl)) (fun _ _ _ h => h) (Or.inr ⟨by rfl, rfl⟩) ?_ ?_
                                rotate_left
                                · simp only [Act.put, List.setIfInBounds_toArray, List.set_cons_zero, List.set_cons_succ, i64_w, i32_w]
                                  rfl
                                refine pure_ (i := 7) (N := some 66) (v := undef) (a' := ?_) #[true, true, true, true, true, true, true, true, false, false, false, false, false, false, false, false] rfl rfl (any_of HT_.out (by kernel_rfl)) (fun _ _ _ h => h) (Or.inr ⟨by rfl, rfl⟩) ?_ ?_
                                rotate_left
                                · simp only [Act.put, List.setIfInBounds_toArray, List.set_cons_zero, List.set_cons_succ, i64_w, i32_w]
                                  rfl
                                refine pure_ (i := 8) (N := some 67) (v := undef) (a' := ?_) #[true, true, true, true, true, true, true, true, true, false, false, false, false, false, false, false] rfl rfl (any_of HT_.out (by kernel_rfl)) (fun _ _ _ h => h) (Or.inr ⟨by rfl, rfl⟩) ?_ ?_
                                rotate_left
                                · simp only [Act.put, List.setIfInBounds_toArray, List.set_cons_zero, List.set_cons_succ, i64_w, i32_w]
                                  rfl
                                refine pure_ (i := 9) (N := some 68) (v := undef) (a' := ?_) #[true, true, true, true, true, true, true, true, true, true, false, false, false, false, false, false] rfl rfl (any_of HT_.out (by kernel_rfl)) (fun _ _ _ h => h) (Or.inr ⟨by rfl, rfl⟩) ?_ ?_
                                rotate_left
                                · simp only [Act.put, List.setIfInBounds_toArray, List.set_cons_zero, List.set_cons_succ, i64_w, i32_w]
                                  rfl
                                refine pure_ (i := 10) (N := some 69) (v := undef) (a' := ?_) #[true, true, true, true, true, true, true, true, true, true, true, false, false, false, false, false] rfl rfl (any_of HT_.out (by kernel_rfl)) (fun _ _ _ h => h) (Or.inr ⟨by rfl, rfl⟩) ?_ ?_
                                rotate_left
                                · simp only [Act.put, List.setIfInBounds_toArray, List.set_cons_zero, List.set_cons_succ, i64_w, i32_w]
                                  rfl
                                refine pure_ (i := 11) (N := some 70) (v := undef) (a' := ?_) #[true, true, true, true, true, true, true, true, true, true, true, true, false, false, false, false] rfl rfl (any_of HT_.out (by kernel_rfl)) (fun _ _ _ h => h) (Or.inr ⟨by rfl, rfl⟩) ?_ ?_
                                rotate_left
                                · simp only [Act.put, List.setIfInBounds_toArray, List.set_cons_zero, List.set_cons_succ, i64_w, i32_w]
                                  rfl
                                refine pure_ (i := 12) (N := some 71) (v := undef) (a' := ?_) #[true, true, true, true, true, true, true, true, true, true, true, true, true, false, false, false] rfl rfl (any_of HT_.out (by kernel_rfl)) (fun _ _ _ h => h) (Or.inr ⟨by rfl, rfl⟩) ?_ ?_
                                rotate_left
                                · simp only [Act.put, List.setIfInBounds_toArray, List.set_cons_zero, List.set_cons_succ, i64_w, i32_w]
                                  rfl
                                refine pure_ (i := 13) (N := some 72) (v := undef) (a' := ?_) #[true, true, true, true, true, true, true, true, true, true, true, true, true, true, false, false] rfl rfl (any_of HT_.out (by kernel_rfl)) (fun _ _ _ h => h) (Or.inr ⟨by rfl, rfl⟩) ?_ ?_
                                rotate_left
                                · simp only [Act.put, List.setIfInBounds_toArray, List.set_cons_zero, List.set_cons_succ, i64_w, i32_w]
                                  rfl
                                refine pure_ (i := 14) (N := some 73) (v := undef) (a' := ?_) #[true, true, true, true, true, true, true, true, true, true, true, true, true, true, true, false] rfl rfl (any_of HT_.out (by kernel_rfl)) (fun _ _ _ h => h) (Or.inr ⟨by rfl, rfl⟩) ?_ ?_
                                rotate_left
                                · simp only [Act.put, List.setIfInBounds_toArray, List.set_cons_zero, List.set_cons_succ, i64_w, i32_w]
                                  rfl
                                refine pure_ (i := 15) (N := some 74) (v := ?_) (a' := ?_) #[true, true, true, true, true, true, true, true, true, true, true, true, true, true, true, true] rfl rfl (any_of HT_.out (by kernel_rfl)) (fun _ _ _ h => h) (Or.inl ⟨by rfl, ?_⟩) ?_ ?_
                                rotate_left
                                · intro w'
                                  go_simp
                                  with_reducible rfl
                                rotate_left
                                · simp only [Act.put, List.setIfInBounds_toArray, List.set_cons_zero, List.set_cons_succ, i64_w, i32_w]
                                  rfl
                                refine done_ (done_of HT_.out (by kernel_rfl)) ?_
                                try go_wp2
                                go_ret
                                exact ⟨by first | rfl | (simp [errW_none, errW_some] <;> rfl) | (simp [*, errW_none, errW_some] <;> rfl), by repeat (first | (with_reducible first | exact HB.out | apply below_alloc | apply pw_below_drewN | apply below_drew1 | refine below_set ?_ GE141.out) | exact HB.out)⟩
                              · rw [if_neg c26] at H
                                have c26b0 : decide ((t146.length : Int) ≤ x7_3) = false := decide_eq_false c26
                                clear c26
                                by_cases c31 : 0 ≤ x7_3
                                · rw [if_pos c31] at H
                                  have c31b0 : decide (0 ≤ x7_3) = true := decide_eq_true c31
                                  clear c31
                                  by_cases c32 : x7_3 < (t146.length : Int)
                                  · rw [if_pos c32] at H
                                    have c32b0 : decide (x7_3 < (t146.length : Int)) = true := decide_eq_true c32
                                    clear c32
                                    by_cases c33 : (!(((rd_T27 t146 x7_3).f0) == ((rd_T27 l0_0 x8_3).f0)) || (!(((rd_T27 t146 x7_3).f1) == ((rd_T27 l0_0 x8_3).f1)) || (!(((rd_T27 t146 x7_3).f2) == ((rd_T27 l0_0 x8_3).f2)) || (!((((rd_T27 t146 x7_3).f3).toList) == (((rd_T27 l0_0 x8_3).f3).toList)) || (!(((rd_T27 t146 x7_3).f4) == ((rd_T27 l0_0 x8_3).f4)) || (!(((rd_T27 t146 x7_3).f5) == ((rd_T27 l0_0 x8_3).f5)))))))) = true
                                    · rw [if_pos c33] at H
                                      have c33b0 : (!(((rd_T27 t146 x7_3).f0) == ((rd_T27 l0_0 x8_3).f0)) || (!(((rd_T27 t146 x7_3).f1) == ((rd_T27 l0_0 x8_3).f1)) || (!(((rd_T27 t146 x7_3).f2) == ((rd_T27 l0_0 x8_3).f2)) || (!((((rd_T27 t146 x7_3).f3).toList) == (((rd_T27 l0_0 x8_3).f3).toList)) || (!(((rd_T27 t146 x7_3).f4) == ((rd_T27 l0_0 x8_3).f4)) || (!(((rd_T27 t146 x7_3).f5) == ((rd_T27 l0_0 x8_3).f5)))))))) = true := c33
                                      clear c33
                                      obtain rfl := Option.some.inj H
                                      have hcz34_0 : wr.cell? ⟨gb141, 0, none⟩ = some (.slice (some ad145) l0_0.length c0_0) := (blk_cell BK141.out 0).trans rfl
                                      have hcz34_1 : wr.cell? ⟨gb141, 1, none⟩ = some (.slice A0_1 l0_1.length c0_1) := (blk_cell BK141.out 1).trans rfl
                                      have hcz34_2 : wr.cell? ⟨gb141, 2, none⟩ = some (.int .i64 a0_2) := (blk_cell BK141.out 2).trans rfl
                                      have hfz34_0 := blk_frozen BK141.out 0
                                      have hfz34_1 := blk_frozen BK141.out 1
                                      have hfz34_2 := blk_frozen BK141.out 2
                                      try go_wp2
                                      have n0_ := Aside0.mk (Kd.R_drew HO_6.out)
                                      have n1_ := Aside0.mk (blk_drew BK141.out)
                                      have n2_ := Aside0.mk (below_drew1 HB.out)
                                      clear HO_6
                                      clear BK141
                                      clear HB
                                      have HO_6 := n0_
                                      have BK141 := n1_
                                      have HB := n2_
                                      clear n0_ n1_ n2_
                                      have p149 : 0 ≤ (x8_3 : Int) := of_decide_eq_true (by first | (with_reducible assumption) | assumption)
                                      have q149 : x8_3 < (l0_0.length : Int) := of_decide_eq_true (by first | (with_reducible assumption) | assumption)
                                      obtain ⟨ad149, e149, hx149_0, hx149_1, hx149_2, hx149_3, hx149_4, hx149_5⟩ := at_T27 HR0_0.out x8_3 p149 q149
                                      have hw149_5 := hx149_5
                                      have hw149_4 := hx149_4
                                      have hw149_3 := hx149_3
                                      have hw149_2 := hx149_2
                                      have hw149_1 := hx149_1
                                      have hw149_0 := hx149_0
                                      obtain rfl : ad145 = ad149 := (by injection e149)
                                      replace hx149_0 := (HB.out.cell (World.block_lt_of_cell? w _ hx149_0)).trans hx149_0
                                      replace hx149_1 := (HB.out.cell (World.block_lt_of_cell? w _ hx149_1)).trans hx149_1
                                      replace hx149_2 := (HB.out.cell (World.block_lt_of_cell? w _ hx149_2)).trans hx149_2
                                      replace hx149_3 := (HB.out.cell (World.block_lt_of_cell? w _ hx149_3)).trans hx149_3
                                      replace hx149_4 := (HB.out.cell (World.block_lt_of_cell? w _ hx149_4)).trans hx149_4
                                      replace hx149_5 := (HB.out.cell (World.block_lt_of_cell? w _ hx149_5)).trans hx149_5
                                      replace p149 := eq_true p149
                                      replace q149 := eq_true q149
                                      have p150 : 0 ≤ (x5_2 : Int) := of_decide_eq_true (by first | (with_reducible assumption) | assumption)
                                      have q150 : x5_2 < (l0_0.length : Int) := of_decide_eq_true (by first | (with_reducible assumption) | assumption)
                                      obtain ⟨ad150, e150, hx150_0, hx150_1, hx150_2, hx150_3, hx150_4, hx150_5⟩ := at_T27 HR0_0.out x5_2 p150 q150
                                      have hw150_5 := hx150_5
                                      have hw150_4 := hx150_4
                                      have hw150_3 := hx150_3
                                      have hw150_2 := hx150_2
                                      have hw150_1 := hx150_1
                                      have hw150_0 := hx150_0
                                      obtain rfl : ad145 = ad150 := (by injection e150)
                                      replace hx150_0 := (HB.out.cell (World.block_lt_of_cell? w _ hx150_0)).trans hx150_0
                                      replace hx150_1 := (HB.out.cell (World.block_lt_of_cell? w _ hx150_1)).trans hx150_1
                                      replace hx150_2 := (HB.out.cell (World.block_lt_of_cell? w _ hx150_2)).trans hx150_2
                                      replace hx150_3 := (HB.out.cell (World.block_lt_of_cell? w _ hx150_3)).trans hx150_3
                                      replace hx150_4 := (HB.out.cell (World.block_lt_of_cell? w _ hx150_4)).trans hx150_4
                                      replace hx150_5 := (HB.out.cell (World.block_lt_of_cell? w _ hx150_5)).trans hx150_5
                                      replace p150 := eq_true p150
                                      replace q150 := eq_true q150
                                      refine start_ (n := 13) (S := fun w' => w'.cell? ⟨gb141, 0, none⟩ = some (.slice (some ad145) l0_0.length c0_0) ∧ w'.cell? ⟨gb141, 1, none⟩ = some (.slice A0_1 l0_1.length c0_1) ∧ w'.cell? ⟨gb141, 2, none⟩ = some (.int .i64 a0_2) ∧ w'.cell? (ad145.add ((x8_3).toNat * 6)) = some (.int .i64 ((rd_T27 l0_0 x8_3).f0)) ∧ w'.cell? ⟨(ad145.add ((x8_3).toNat * 6)).block, (ad145.add ((x8_3).toNat * 6)).off + 1, none⟩ = some (.int .i64 ((rd_T27 l0_0 x8_3).f1)) ∧ w'.cell? ⟨(ad145.add ((x8_3).toNat * 6)).block, (ad145.add ((x8_3).toNat * 6)).off + 2, none⟩ = some (.int .i64 ((rd_T27 l0_0 x8_3).f2)) ∧ w'.cell? ⟨(ad145.add ((x8_3).toNat * 6)).block, (ad145.add ((x8_3).toNat * 6)).off + 3, none⟩ = some (.string ((rd_T27 l0_0 x8_3).f3)) ∧ w'.cell? ⟨(ad145.add ((x8_3).toNat * 6)).block, (ad145.add ((x8_3).toNat * 6)).off + 4, none⟩ = some (.int .i64 ((rd_T27 l0_0 x8_3).f4)) ∧ w'.cell? ⟨(ad145.add ((x8_3).toNat * 6)).block, (ad145.add ((x8_3).toNat * 6)).off + 5, none⟩ = some (.int .i64 ((rd_T27 l0_0 x8_3).f5)) ∧ w'.cell? (ad145.add ((x5_2).toNat * 6)) = some (.int .i64 ((rd_T27 l0_0 x5_2).f0)) ∧ w'.cell? ⟨(ad145.add ((x5_2).toNat * 6)).block, (ad145.add ((x5_2).toNat * 6)).off + 1, none⟩ = some (.int .i64 ((rd_T27 l0_0 x5_2).f1)) ∧ w'.cell? ⟨(ad145.add ((x5_2).toNat * 6)).block, (ad145.add ((x5_2).toNat * 6)).off + 2, none⟩ = some (.int .i64 ((rd_T27 l0_0 x5_2).f2)) ∧ w'.cell? ⟨(ad145.add ((x5_2).toNat * 6)).block, (ad145.add ((x5_2).toNat * 6)).off + 3, none⟩ = some (.string ((rd_T27 l0_0 x5_2).f3)) ∧ w'.cell? ⟨(ad145.add ((x5_2).toNat * 6)).block, (ad145.add ((x5_2).toNat * 6)).off + 4, none⟩ = some (.int .i64 ((rd_T27 l0_0 x5_2).f4)) ∧ w'.cell? ⟨(ad145.add ((x5_2).toNat * 6)).block, (ad145.add ((x5_2).toNat * 6)).off + 5, none⟩ = some (.int .i64 ((rd_T27 l0_0 x5_2).f5))) (ds := []) #[false, false, false, false, false, false, false, false, false, false, false, false, false] (by kernel_rfl) rfl rfl ⟨(blk_cell BK141.out 0).trans rfl, (blk_cell BK141.out 1).trans rfl, (blk_cell BK141.out 2).trans rfl, ((HB.out.cell (World.block_lt_of_cell? w _ hw149_0)).trans hw149_0), ((HB.out.cell (World.block_lt_of_cell? w _ hw149_1)).trans hw149_1), ((HB.out.cell (World.block_lt_of_cell? w _ hw149_2)).trans hw149_2), ((HB.out.cell (World.block_lt_of_cell? w _ hw149_3)).trans hw149_3), ((HB.out.cell (World.block_lt_of_cell? w _ hw149_4)).trans hw149_4), ((HB.out.cell (World.block_lt_of_cell? w _ hw149_5)).trans hw149_5), ((HB.out.cell (World.block_lt_of_cell? w _ hw150_0)).trans hw150_0), ((HB.out.cell (World.block_lt_of_cell? w _ hw150_1)).trans hw150_1), ((HB.out.cell (World.block_lt_of_cell? w _ hw150_2)).trans hw150_2), ((HB.out.cell (World.block_lt_of_cell? w _ hw150_3)).trans hw150_3), ((HB.out.cell (World.block_lt_of_cell? w _ hw150_4)).trans hw150_4), ((HB.out.cell (World.block_lt_of_cell? w _ hw150_5)).trans hw150_5)⟩ (fun hHeld => ?_); refine with_tabW malthouselaw18_JournalParts.tab13 malthouselaw18_JournalParts.bits13 (fun HT_ HW_ => ?_)
                                      generalize wr.drew = w35 at HO_6 BK141 HB hx149_0 hx149_1 hx149_2 hx149_3 hx149_4 hx149_5 hx150_0 hx150_1 hx150_2 hx150_3 hx150_4 hx150_5 hHeld ⊢
                                      refine pure_ (i := 0) (N := some 46) (v := ?_) (a' := ?_) #[true, false, false, false, false, false, false, false, false, false, false, false, false] rfl rfl (any_of HT_.out (by kernel_rfl)) (fun _ _ _ h => h) (Or.inl ⟨by rfl, ?_⟩) ?_ ?_
                                      rotate_left
                                      · intro w'
                                        go_simp
                                        with_reducible rfl
                                      rotate_left
                                      · simp only [Act.put, List.setIfInBounds_toArray, List.set_cons_zero, List.set_cons_succ, i64_w, i32_w]
                                        rfl
                                      refine pure_ (i := 2) (N := some 48) (v := ?_) (a' := ?_) #[true, false, true, false, false, false, false, false, false, false, false, false, false] rfl rfl (any_of HT_.out (by kernel_rfl)) (fun _ _ _ h => h) (Or.inl ⟨by rfl, ?_⟩) ?_ ?_
                                      rotate_left
                                      · intro w'
                                        go_simp
                                        with_reducible rfl
                                      rotate_left
                                      · simp only [Act.put, List.setIfInBounds_toArray, List.set_cons_zero, List.set_cons_succ, i64_w, i32_w]
                                        rfl
                                      refine pure_ (i := 6) (N := some 52) (v := ?_) (a' := ?_) #[true, false, true, false, false, false, true, false, false, false, false, false, false] rfl rfl (any_of HT_.out (by kernel_rfl)) (fun _ _ _ h => h) (Or.inl ⟨by rfl, ?_⟩) ?_ ?_
                                      rotate_left
                                      · intro w'
                                        go_simp
                                        with_reducible rfl
                                      rotate_left
                                      · simp only [Act.put, List.setIfInBounds_toArray, List.set_cons_zero, List.set_cons_succ, i64_w, i32_w]
                                        rfl
                                      refine pure_ (i := 8) (N := some 54) (v := ?_) (a' := ?_) #[true, false, true, false, false, false, true, false, true, false, false, false, false] rfl rfl (any_of HT_.out (by kernel_rfl)) (fun _ _ _ h => h) (Or.inl ⟨by rfl, ?_⟩) ?_ ?_
                                      rotate_left
                                      · intro w'
                                        go_simp
                                        with_reducible rfl
                                      rotate_left
                                      · simp only [Act.put, List.setIfInBounds_toArray, List.set_cons_zero, List.set_cons_succ, i64_w, i32_w]
                                        rfl
                                      refine take_ (i := 1) (N := some 47) (v := ?_) (a' := ?_) #[true, true, true, false, false, false, true, false, true, false, false, false, false] rfl rfl (take_ofW HT_.out HW_.out (by kernel_rfl)) (fun _ _ _ h => h) (Or.inl ⟨by rfl, ?_⟩) hHeld ?_ ?_
                                      rotate_left
                                      · rintro w' ⟨s0, s1, s2, s3, s4, s5, s6, s7, s8, s9, s10, s11, s12, s13, s14⟩
                                        go_simp
                                        with_reducible rfl
                                      rotate_left
                                      · simp only [Act.put, List.setIfInBounds_toArray, List.set_cons_zero, List.set_cons_succ, i64_w, i32_w]
                                        rfl
                                      refine pure_ (i := 3) (N := some 49) (v := ?_) (a' := ?_) #[true, true, true, true, false, false, true, false, true, false, false, false, false] rfl rfl (any_of HT_.out (by kernel_rfl)) (fun _ _ _ h => h) (Or.inl ⟨by rfl, ?_⟩) ?_ ?_
                                      rotate_left
                                      · intro w'
                                        go_simp
                                        with_reducible rfl
                                      rotate_left
                                      · simp only [Act.put, List.setIfInBounds_toArray, List.set_cons_zero, List.set_cons_succ, i64_w, i32_w]
                                        rfl
                                      refine pure_ (i := 4) (N := some 50) (v := ?_) (a' := ?_) #[true, true, true, true, true, false, true, false, true, false, false, false, false] rfl rfl (any_of HT_.out (by kernel_rfl)) (fun _ _ _ h => h) (Or.inl ⟨by rfl, ?_⟩) ?_ ?_
                                      rotate_left
                                      · intro w'
                                        go_simp
                                        with_reducible rfl
                                      rotate_left
                                      · simp only [Act.put, List.setIfInBounds_toArray, List.set_cons_zero, List.set_cons_succ, i64_w, i32_w]
                                        rfl
                                      refine take_ (i := 5) (N := some 51) (v := ?_) (a' := ?_) #[true, true, true, true, true, true, true, false, true, false, false, false, false] rfl rfl (take_ofW HT_.out HW_.out (by kernel_rfl)) (fun _ _ _ h => h) (Or.inl ⟨by rfl, ?_⟩) hHeld ?_ ?_
                                      rotate_left
                                      · rintro w' ⟨s0, s1, s2, s3, s4, s5, s6, s7, s8, s9, s10, s11, s12, s13, s14⟩
                                        go_simp
                                        with_reducible rfl
                                      rotate_left
                                      · simp only [Act.put, List.setIfInBounds_toArray, List.set_cons_zero, List.set_cons_succ, i64_w, i32_w]
                                        rfl
                                      refine take_ (i := 7) (N := some 53) (v := ?_) (a' := ?_) #[true, true, true, true, true, true, true, true, true, false, false, false, false] rfl rfl (take_ofW HT_.out HW_.out (by kernel_rfl)) (fun _ _ _ h => h) (Or.inl ⟨by rfl, ?_⟩) hHeld ?_ ?_
                                      rotate_left
                                      · rintro w' ⟨s0, s1, s2, s3, s4, s5, s6, s7, s8, s9, s10, s11, s12, s13, s14⟩
                                        go_simp
                                        with_reducible rfl
                                      rotate_left
                                      · simp only [Act.put, List.setIfInBounds_toArray, List.set_cons_zero, List.set_cons_succ, i64_w, i32_w]
                                        rfl
                                      refine pure_ (i := 9) (N := some 55) (v := ?_) (a' := ?_) #[true, true, true, true, true, true, true, true, true, true, false, false, false] rfl rfl (any_of HT_.out (by kernel_rfl)) (fun _ _ _ h => h) (Or.inl ⟨by rfl, ?_⟩) ?_ ?_
                                      rotate_left
                                      · intro w'
                                        go_simp
                                        with_reducible rfl
                                      rotate_left
                                      · simp only [Act.put, List.setIfInBounds_toArray, List.set_cons_zero, List.set_cons_succ, i64_w, i32_w]
                                        rfl
                                      refine pure_ (i := 10) (N := some 56) (v := ?_) (a' := ?_) #[true, true, true, true, true, true, true, true, true, true, true, false, false] rfl rfl (any_of HT_.out (by kernel_rfl)) (fun _ _ _ h => h) (Or.inl ⟨by rfl, ?_⟩) ?_ ?_
                                      rotate_left
                                      · intro w'
                                        go_simp
                                        with_reducible rfl
                                      rotate_left
                                      · simp only [Act.put, List.setIfInBounds_toArray, List.set_cons_zero, List.set_cons_succ, i64_w, i32_w]
                                        rfl
                                      refine take_ (i := 11) (N := some 57) (v := ?_) (a' := ?_) #[true, true, true, true, true, true, true, true, true, true, true, true, false] rfl rfl (take_ofW HT_.out HW_.out (by kernel_rfl)) (fun _ _ _ h => h) (Or.inl ⟨by rfl, ?_⟩) hHeld ?_ ?_
                                      rotate_left
                                      · rintro w' ⟨s0, s1, s2, s3, s4, s5, s6, s7, s8, s9, s10, s11, s12, s13, s14⟩
                                        go_simp
                                        with_reducible rfl
                                      rotate_left
                                      · simp only [Act.put, List.setIfInBounds_toArray, List.set_cons_zero, List.set_cons_succ, i64_w, i32_w]
                                        rfl
                                      refine pure_ (i := 12) (N := some 58) (v := ?_) (a' := ?_) #[true, true, true, true, true, true, true, true, true, true, true, true, true] rfl rfl (any_of HT_.out (by kernel_rfl)) (fun _ _ _ h => h) (Or.inl ⟨by rfl, ?_⟩) ?_ ?_
                                      rotate_left
                                      · intro w'
                                        go_simp
                                        with_reducible rfl
                                      rotate_left
                                      · simp only [Act.put, List.setIfInBounds_toArray, List.set_cons_zero, List.set_cons_succ, i64_w, i32_w]
                                        rfl
                                      refine done_ (done_of HT_.out (by kernel_rfl)) ?_
                                      try go_wp2
                                      have n0_ := Aside0.mk (Kd.R_drew HO_6.out)
                                      have n1_ := Aside0.mk (blk_drew BK141.out)
                                      have n2_ := Aside0.mk (below_drew1 HB.out)
                                      clear HO_6
                                      clear BK141
                                      clear HB
                                      have HO_6 := n0_
                                      have BK141 := n1_
                                      have HB := n2_
                                      clear n0_ n1_ n2_
                                      obtain ⟨Ao37, co37, eo37⟩ := Kd.R_slice HO_6.out
                                      (first | subst eo37 | (injection eo37 with f1_ f2_ f3_; have f4_ := f1_.symm; have f5_ := f3_.symm; clear f1_ f2_ f3_; subst f4_; subst f5_))
                                      have p151 : 0 ≤ (x7_3 : Int) := of_decide_eq_true (by first | (with_reducible assumption) | assumption)
                                      have q151 : x7_3 < (t146.length : Int) := of_decide_eq_true (by first | (with_reducible assumption) | assumption)
                                      obtain ⟨ad151, e151, hx151_0, hx151_1, hx151_2, hx151_3, hx151_4, hx151_5⟩ := at_T27 (Kd.R_reads' HO_6.out).2.2 x7_3 p151 q151
                                      cases e151
                                      replace p151 := eq_true p151
                                      replace q151 := eq_true q151
                                      have p152 : 0 ≤ (x8_3 : Int) := of_decide_eq_true (by first | (with_reducible assumption) | assumption)
                                      have q152 : x8_3 < (l0_0.length : Int) := of_decide_eq_true (by first | (with_reducible assumption) | assumption)
                                      obtain ⟨ad152, e152, hx152_0, hx152_1, hx152_2, hx152_3, hx152_4, hx152_5⟩ := at_T27 HR0_0.out x8_3 p152 q152
                                      have hw152_5 := hx152_5
                                      have hw152_4 := hx152_4
                                      have hw152_3 := hx152_3
                                      have hw152_2 := hx152_2
                                      have hw152_1 := hx152_1
                                      have hw152_0 := hx152_0
                                      obtain rfl : ad145 = ad152 := (by injection e152)
                                      replace hx152_0 := (HB.out.cell (World.block_lt_of_cell? w _ hx152_0)).trans hx152_0
                                      replace hx152_1 := (HB.out.cell (World.block_lt_of_cell? w _ hx152_1)).trans hx152_1
                                      replace hx152_2 := (HB.out.cell (World.block_lt_of_cell? w _ hx152_2)).trans hx152_2
                                      replace hx152_3 := (HB.out.cell (World.block_lt_of_cell? w _ hx152_3)).trans hx152_3
                                      replace hx152_4 := (HB.out.cell (World.block_lt_of_cell? w _ hx152_4)).trans hx152_4
                                      replace hx152_5 := (HB.out.cell (World.block_lt_of_cell? w _ hx152_5)).trans hx152_5
                                      replace p152 := eq_true p152
                                      replace q152 := eq_true q152
                                      refine start_ (n := 16) (S := fun w' => w'.cell? ⟨gb141, 0, none⟩ = some (.slice (some ad145) l0_0.length c0_0) ∧ w'.cell? ⟨gb141, 1, none⟩ = some (.slice A0_1 l0_1.length c0_1) ∧ w'.cell? ⟨gb141, 2, none⟩ = some (.int .i64 a0_2) ∧ w'.cell? (ad151.add ((x7_3).toNat * 6)) = some (.int .i64 ((rd_T27 t146 x7_3).f0)) ∧ w'.cell? ⟨(ad151.add ((x7_3).toNat * 6)).block, (ad151.add ((x7_3).toNat * 6)).off + 1, none⟩ = some (.int .i64 ((rd_T27 t146 x7_3).f1)) ∧ w'.cell? ⟨(ad151.add ((x7_3).toNat * 6)).block, (ad151.add ((x7_3).toNat * 6)).off + 2, none⟩ = some (.int .i64 ((rd_T27 t146 x7_3).f2)) ∧ w'.cell? ⟨(ad151.add ((x7_3).toNat * 6)).block, (ad151.add ((x7_3).toNat * 6)).off + 3, none⟩ = some (.string ((rd_T27 t146 x7_3).f3)) ∧ w'.cell? ⟨(ad151.add ((x7_3).toNat * 6)).block, (ad151.add ((x7_3).toNat * 6)).off + 4, none⟩ = some (.int .i64 ((rd_T27 t146 x7_3).f4)) ∧ w'.cell? ⟨(ad151.add ((x7_3).toNat * 6)).block, (ad151.add ((x7_3).toNat * 6)).off + 5, none⟩ = some (.int .i64 ((rd_T27 t146 x7_3).f5)) ∧ w'.cell? (ad145.add ((x8_3).toNat * 6)) = some (.int .i64 ((rd_T27 l0_0 x8_3).f0)) ∧ w'.cell? ⟨(ad145.add ((x8_3).toNat * 6)).block, (ad145.add ((x8_3).toNat * 6)).off + 1, none⟩ = some (.int .i64 ((rd_T27 l0_0 x8_3).f1)) ∧ w'.cell? ⟨(ad145.add ((x8_3).toNat * 6)).block, (ad145.add ((x8_3).toNat * 6)).off + 2, none⟩ = some (.int .i64 ((rd_T27 l0_0 x8_3).f2)) ∧ w'.cell? ⟨(ad145.add ((x8_3).toNat * 6)).block, (ad145.add ((x8_3).toNat * 6)).off + 3, none⟩ = some (.string ((rd_T27 l0_0 x8_3).f3)) ∧ w'.cell? ⟨(ad145.add ((x8_3).toNat * 6)).block, (ad145.add ((x8_3).toNat * 6)).off + 4, none⟩ = some (.int .i64 ((rd_T27 l0_0 x8_3).f4)) ∧ w'.cell? ⟨(ad145.add ((x8_3).toNat * 6)).block, (ad145.add ((x8_3).toNat * 6)).off + 5, none⟩ = some (.int .i64 ((rd_T27 l0_0 x8_3).f5))) (ds := []) #[false, false, false, false, false, false, false, false, false, false, false, false, false, false, false, false] (by kernel_rfl) rfl rfl ⟨(blk_cell BK141.out 0).trans rfl, (blk_cell BK141.out 1).trans rfl, (blk_cell BK141.out 2).trans rfl, hx151_0, hx151_1, hx151_2, hx151_3, hx151_4, hx151_5, ((HB.out.cell (World.block_lt_of_cell? w _ hw152_0)).trans hw152_0), ((HB.out.cell (World.block_lt_of_cell? w _ hw152_1)).trans hw152_1), ((HB.out.cell (World.block_lt_of_cell? w _ hw152_2)).trans hw152_2), ((HB.out.cell (World.block_lt_of_cell? w _ hw152_3)).trans hw152_3), ((HB.out.cell (World.block_lt_of_cell? w _ hw152_4)).trans hw152_4), ((HB.out.cell (World.block_lt_of_cell? w _ hw152_5)).trans hw152_5)⟩ (fun hHeld => ?_); refine with_tabW malthouselaw18_JournalParts.tab14 malthouselaw18_JournalParts.bits14 (fun HT_ HW_ => ?_)
                                      generalize w35.drew = w36 at HO_6 BK141 HB hx151_0 hx151_1 hx151_2 hx151_3 hx151_4 hx151_5 hx152_0 hx152_1 hx152_2 hx152_3 hx152_4 hx152_5 hHeld ⊢
                                      refine pure_ (i := 0) (N := some 59) (v := ?_) (a' := ?_) #[true, false, false, false, false, false, false, false, false, false, false, false, false, false, false, false] rfl rfl (any_of HT_.out (by kernel_rfl)) (fun _ _ _ h => h) (Or.inl ⟨by rfl, ?_⟩) ?_ ?_
                                      rotate_left
                                      · intro w'
                                        go_simp
                                        with_reducible rfl
                                      rotate_left
                                      · simp only [Act.put, List.setIfInBounds_toArray, List.set_cons_zero, List.set_cons_succ, i64_w, i32_w]
                                        rfl
                                      refine pure_ (i := 1) (N := some 60) (v := ?_) (a' := ?_) #[true, true, false, false, false, false, false, false, false, false, false, false, false, false, false, false] rfl rfl (any_of HT_.out (by kernel_rfl)) (fun _ _ _ h => h) (Or.inl ⟨by rfl, ?_⟩) ?_ ?_
                                      rotate_left
                                      · intro w'
                                        go_simp
                                        with_reducible rfl
                                      rotate_left
                                      · simp only [Act.put, List.setIfInBounds_toArray, List.set_cons_zero, List.set_cons_succ, i64_w, i32_w]
                                        rfl
                                      refine pure_ (i := 2) (N := some 61) (v := ?_) (a' := ?_) #[true, true, true, false, false, false, false, false, false, false, false, false, false, false, false, false] rfl rfl (any_of HT_.out (by kernel_rfl)) (fun _ _ _ h => h) (Or.inl ⟨by rfl, ?_⟩) ?_ ?_
                                      rotate_left
                                      · intro w'
                                        go_simp
                                        with_reducible rfl
                                      rotate_left
                                      · simp only [Act.put, List.setIfInBounds_toArray, List.set_cons_zero, List.set_cons_succ, i64_w, i32_w]
                                        rfl
                                      refine pure_ (i := 3) (N := some 62) (v := ?_) (a' := ?_) #[true, true, true, true, false, false, false, false, false, false, false, false, false, false, false, false] rfl rfl (any_of HT_.out (by kernel_rfl)) (fun _ _ _ h => h) (Or.inl ⟨by rfl, ?_⟩) ?_ ?_
                                      rotate_left
                                      · intro w'
                                        go_simp
                                        with_reducible rfl
                                      rotate_left
                                      · simp only [Act.put, List.setIfInBounds_toArray, List.set_cons_zero, List.set_cons_succ, i64_w, i32_w]
                                        rfl
                                      refine pure_ (i := 4) (N := some 63) (v := ?_) (a' := ?_) #[true, true, true, true, true, false, false, false, false, false, false, false, false, false, false, false] rfl rfl (any_of HT_.out (by kernel_rfl)) (fun _ _ _ h => h) (Or.inl ⟨by rfl, ?_⟩) ?_ ?_
                                      rotate_left
                                      · intro w'
                                        go_simp
                                        with_reducible rfl
                                      rotate_left
                                      · simp only [Act.put, List.setIfInBounds_toArray, List.set_cons_zero, List.set_cons_succ, i64_w, i32_w]
                                        rfl
                                      refine pure_ (i := 5) (N := some 64) (v := ?_) (a' := ?_) #[true, true, true, true, true, true, false, false, false, false, false, false, false, false, false, false] rfl rfl (any_of HT_.out (by kernel_rfl)) (fun _ _ _ h => h) (Or.inl ⟨by rfl, ?_⟩) ?_ ?_
                                      rotate_left
                                      · intro w'
                                        go_simp
                                        with_reducible rfl
                                      rotate_left
                                      · simp only [Act.put, List.setIfInBounds_toArray, List.set_cons_zero, List.set_cons_succ, i64_w, i32_w]
                                        rfl
                                      refine pure_ (i := 6) (N := some 65) (v := ?_) (a' := ?_) #[true, true, true, true, true, true, true, false, false, false, false, false, false, false, false, false] rfl rfl (any_of HT_.out (by kernel_rfl)) (fun _ _ _ h => h) (Or.inl ⟨by rfl, ?_⟩) ?_ ?_
                                      rotate_left
                                      · intro w'
                                        go_simp
                                        with_reducible rfl
                                      rotate_left
                                      · simp only [Act.put, List.setIfInBounds_toArray, List.set_cons_zero, List.set_cons_succ, i64_w, i32_w]
                                        rfl
                                      refine pure_ (i := 7) (N := some 66) (v := ?_) (a' := ?_) #[true, true, true, true, true, true, true, true, false, false, false, false, false, false, false, false] rfl rfl (any_of HT_.out (by kernel_rfl)) (fun _ _ _ h => h) (Or.inl ⟨by rfl, ?_⟩) ?_ ?_
                                      rotate_left
                                      · intro w'
                                        go_simp
                                        with_reducible rfl
                                      rotate_left
                                      · simp only [Act.put, List.setIfInBounds_toArray, List.set_cons_zero, List.set_cons_succ, i64_w, i32_w]
                                        rfl
                                      refine pure_ (i := 9) (N := some 68) (v := ?_) (a' := ?_) #[true, true, true, true, true, true, true, true, false, true, false, false, false, false, false, false] rfl rfl (any_of HT_.out (by kernel_rfl)) (fun _ _ _ h => h) (Or.inl ⟨by rfl, ?_⟩) ?_ ?_
                                      rotate_left
                                      · intro w'
                                        go_simp
                                        with_reducible rfl
                                      rotate_left
                                      · simp only [Act.put, List.setIfInBounds_toArray, List.set_cons_zero, List.set_cons_succ, i64_w, i32_w]
                                        rfl
                                      refine pure_ (i := 11) (N := some 70) (v := ?_) (a' := ?_) #[true, true, true, true, true, true, true, true, false, true, false, true, false, false, false, false] rfl rfl (any_of HT_.out (by kernel_rfl)) (fun _ _ _ h => h) (Or.inl ⟨by rfl, ?_⟩) ?_ ?_
                                      rotate_left
                                      · intro w'
                                        go_simp
                                        with_reducible rfl
                                      rotate_left
                                      · simp only [Act.put, List.setIfInBounds_toArray, List.set_cons_zero, List.set_cons_succ, i64_w, i32_w]
                                        rfl
                                      refine take_ (i := 8) (N := some 67) (v := ?_) (a' := ?_) #[true, true, true, true, true, true, true, true, true, true, false, true, false, false, false, false] rfl rfl (take_ofW HT_.out HW_.out (by kernel_rfl)) (fun _ _ _ h => h) (Or.inl ⟨by rfl, ?_⟩) hHeld ?_ ?_
                                      rotate_left
                                      · rintro w' ⟨s0, s1, s2, s3, s4, s5, s6, s7, s8, s9, s10, s11, s12, s13, s14⟩
                                        go_simp
                                        with_reducible rfl
                                      rotate_left
                                      · simp only [Act.put, List.setIfInBounds_toArray, List.set_cons_zero, List.set_cons_succ, i64_w, i32_w]
                                        rfl
                                      refine take_ (i := 10) (N := some 69) (v := ?_) (a' := ?_) #[true, true, true, true, true, true, true, true, true, true, true, true, false, false, false, false] rfl rfl (take_ofW HT_.out HW_.out (by kernel_rfl)) (fun _ _ _ h => h) (Or.inl ⟨by rfl, ?_⟩) hHeld ?_ ?_
                                      rotate_left
                                      · rintro w' ⟨s0, s1, s2, s3, s4, s5, s6, s7, s8, s9, s10, s11, s12, s13, s14⟩
                                        go_simp
                                        with_reducible rfl
                                      rotate_left
                                      · simp only [Act.put, List.setIfInBounds_toArray, List.set_cons_zero, List.set_cons_succ, i64_w, i32_w]
                                        rfl
                                      refine pure_ (i := 12) (N := some 71) (v := ?_) (a' := ?_) #[true, true, true, true, true, true, true, true, true, true, true, true, true, false, false, false] rfl rfl (any_of HT_.out (by kernel_rfl)) (fun _ _ _ h => h) (Or.inl ⟨by rfl, ?_⟩) ?_ ?_
                                      rotate_left
                                      · intro w'
                                        go_simp
                                        with_reducible rfl
                                      rotate_left
                                      · simp only [Act.put, List.setIfInBounds_toArray, List.set_cons_zero, List.set_cons_succ, i64_w, i32_w]
                                        rfl
                                      refine take_ (i := 13) (N := some 72) (v := ?_) (a' := ?_) #[true, true, true, true, true, true, true, true, true, true, true, true, true, true, false, false] rfl rfl (take_ofW HT_.out HW_.out (by kernel_rfl)) (fun _ _ _ h => h) (Or.inl ⟨by rfl, ?_⟩) hHeld ?_ ?_
                                      rotate_left
                                      · rintro w' ⟨s0, s1, s2, s3, s4, s5, s6, s7, s8, s9, s10, s11, s12, s13, s14⟩
                                        go_simp
                                        with_reducible rfl
                                      rotate_left
                                      · simp only [Act.put, List.setIfInBounds_toArray, List.set_cons_zero, List.set_cons_succ, i64_w, i32_w]
                                        rfl
                                      refine pure_ (i := 14) (N := some 73) (v := ?_) (a' := ?_) #[true, true, true, true, true, true, true, true, true, true, true, true, true, true, true, false] rfl rfl (any_of HT_.out (by kernel_rfl)) (fun _ _ _ h => h) (Or.inl ⟨by rfl, ?_⟩) ?_ ?_
                                      rotate_left
                                      · intro w'
                                        go_simp
                                        with_reducible rfl
                                      rotate_left
                                      · simp only [Act.put, List.setIfInBounds_toArray, List.set_cons_zero, List.set_cons_succ, i64_w, i32_w]
                                        rfl
                                      refine pure_ (i := 15) (N := some 74) (v := ?_) (a' := ?_) #[true, true, true, true, true, true, true, true, true, true, true, true, true, true, true, true] rfl rfl (any_of HT_.out (by kernel_rfl)) (fun _ _ _ h => h) (Or.inl ⟨by rfl, ?_⟩) ?_ ?_
                                      rotate_left
                                      · intro w'
                                        go_simp
                                        with_reducible rfl
                                      rotate_left
                                      · simp only [Act.put, List.setIfInBounds_toArray, List.set_cons_zero, List.set_cons_succ, i64_w, i32_w]
                                        rfl
                                      refine done_ (done_of HT_.out (by kernel_rfl)) ?_
                                      try go_wp2
                                      go_ret
                                      exact ⟨by first | rfl | (simp [errW_none, errW_some] <;> rfl) | (simp [*, errW_none, errW_some] <;> rfl), by repeat (first | (with_reducible first | exact HB.out | apply below_alloc | apply pw_below_drewN | apply below_drew1 | refine below_set ?_ GE141.out) | exact HB.out)⟩
                                    · rw [if_neg c33] at H
                                      have c33b0 : (!(((rd_T27 t146 x7_3).f0) == ((rd_T27 l0_0 x8_3).f0)) || (!(((rd_T27 t146 x7_3).f1) == ((rd_T27 l0_0 x8_3).f1)) || (!(((rd_T27 t146 x7_3).f2) == ((rd_T27 l0_0 x8_3).f2)) || (!((((rd_T27 t146 x7_3).f3).toList) == (((rd_T27 l0_0 x8_3).f3).toList)) || (!(((rd_T27 t146 x7_3).f4) == ((rd_T27 l0_0 x8_3).f4)) || (!(((rd_T27 t146 x7_3).f5) == ((rd_T27 l0_0 x8_3).f5)))))))) = false := by simpa using c33
                                      clear c33
                                      have H' := Aside0.mk H
                                      clear H
                                      have hcz38_0 : wr.cell? ⟨gb141, 0, none⟩ = some (.slice (some ad145) l0_0.length c0_0) := (blk_cell BK141.out 0).trans rfl
                                      have hcz38_1 : wr.cell? ⟨gb141, 1, none⟩ = some (.slice A0_1 l0_1.length c0_1) := (blk_cell BK141.out 1).trans rfl
                                      have hcz38_2 : wr.cell? ⟨gb141, 2, none⟩ = some (.int .i64 a0_2) := (blk_cell BK141.out 2).trans rfl
                                      have hfz38_0 := blk_frozen BK141.out 0
                                      have hfz38_1 := blk_frozen BK141.out 1
                                      have hfz38_2 := blk_frozen BK141.out 2
                                      try go_wp2
                                      have n0_ := Aside0.mk (Kd.R_drew HO_6.out)
                                      have n1_ := Aside0.mk (blk_drew BK141.out)
                                      have n2_ := Aside0.mk (below_drew1 HB.out)
                                      clear HO_6
                                      clear BK141
                                      clear HB
                                      have HO_6 := n0_
                                      have BK141 := n1_
                                      have HB := n2_
                                      clear n0_ n1_ n2_
                                      have p149 : 0 ≤ (x8_3 : Int) := of_decide_eq_true (by first | (with_reducible assumption) | assumption)
                                      have q149 : x8_3 < (l0_0.length : Int) := of_decide_eq_true (by first | (with_reducible assumption) | assumption)
                                      obtain ⟨ad149, e149, hx149_0, hx149_1, hx149_2, hx149_3, hx149_4, hx149_5⟩ := at_T27 HR0_0.out x8_3 p149 q149
                                      have hw149_5 := hx149_5
                                      have hw149_4 := hx149_4
                                      have hw149_3 := hx149_3
                                      have hw149_2 := hx149_2
                                      have hw149_1 := hx149_1
                                      have hw149_0 := hx149_0
                                      obtain rfl : ad145 = ad149 := (by injection e149)
                                      replace hx149_0 := (HB.out.cell (World.block_lt_of_cell? w _ hx149_0)).trans hx149_0
                                      replace hx149_1 := (HB.out.cell (World.block_lt_of_cell? w _ hx149_1)).trans hx149_1
                                      replace hx149_2 := (HB.out.cell (World.block_lt_of_cell? w _ hx149_2)).trans hx149_2
                                      replace hx149_3 := (HB.out.cell (World.block_lt_of_cell? w _ hx149_3)).trans hx149_3
                                      replace hx149_4 := (HB.out.cell (World.block_lt_of_cell? w _ hx149_4)).trans hx149_4
                                      replace hx149_5 := (HB.out.cell (World.block_lt_of_cell? w _ hx149_5)).trans hx149_5
                                      replace p149 := eq_true p149
                                      replace q149 := eq_true q149
                                      have p150 : 0 ≤ (x5_2 : Int) := of_decide_eq_true (by first | (with_reducible assumption) | assumption)
                                      have q150 : x5_2 < (l0_0.length : Int) := of_decide_eq_true (by first | (with_reducible assumption) | assumption)
                                      obtain ⟨ad150, e150, hx150_0, hx150_1, hx150_2, hx150_3, hx150_4, hx150_5⟩ := at_T27 HR0_0.out x5_2 p150 q150
                                      have hw150_5 := hx150_5
                                      have hw150_4 := hx150_4
                                      have hw150_3 := hx150_3
                                      have hw150_2 := hx150_2
                                      have hw150_1 := hx150_1
                                      have hw150_0 := hx150_0
                                      obtain rfl : ad145 = ad150 := (by injection e150)
                                      replace hx150_0 := (HB.out.cell (World.block_lt_of_cell? w _ hx150_0)).trans hx150_0
                                      replace hx150_1 := (HB.out.cell (World.block_lt_of_cell? w _ hx150_1)).trans hx150_1
                                      replace hx150_2 := (HB.out.cell (World.block_lt_of_cell? w _ hx150_2)).trans hx150_2
                                      replace hx150_3 := (HB.out.cell (World.block_lt_of_cell? w _ hx150_3)).trans hx150_3
                                      replace hx150_4 := (HB.out.cell (World.block_lt_of_cell? w _ hx150_4)).trans hx150_4
                                      replace hx150_5 := (HB.out.cell (World.block_lt_of_cell? w _ hx150_5)).trans hx150_5
                                      replace p150 := eq_true p150
                                      replace q150 := eq_true q150
                                      refine start_ (n := 13) (S := fun w' => w'.cell? ⟨gb141, 0, none⟩ = some (.slice (some ad145) l0_0.length c0_0) ∧ w'.cell? ⟨gb141, 1, none⟩ = some (.slice A0_1 l0_1.length c0_1) ∧ w'.cell? ⟨gb141, 2, none⟩ = some (.int .i64 a0_2) ∧ w'.cell? (ad145.add ((x8_3).toNat * 6)) = some (.int .i64 ((rd_T27 l0_0 x8_3).f0)) ∧ w'.cell? ⟨(ad145.add ((x8_3).toNat * 6)).block, (ad145.add ((x8_3).toNat * 6)).off + 1, none⟩ = some (.int .i64 ((rd_T27 l0_0 x8_3).f1)) ∧ w'.cell? ⟨(ad145.add ((x8_3).toNat * 6)).block, (ad145.add ((x8_3).toNat * 6)).off + 2, none⟩ = some (.int .i64 ((rd_T27 l0_0 x8_3).f2)) ∧ w'.cell? ⟨(ad145.add ((x8_3).toNat * 6)).block, (ad145.add ((x8_3).toNat * 6)).off + 3, none⟩ = some (.string ((rd_T27 l0_0 x8_3).f3)) ∧ w'.cell? ⟨(ad145.add ((x8_3).toNat * 6)).block, (ad145.add ((x8_3).toNat * 6)).off + 4, none⟩ = some (.int .i64 ((rd_T27 l0_0 x8_3).f4)) ∧ w'.cell? ⟨(ad145.add ((x8_3).toNat * 6)).block, (ad145.add ((x8_3).toNat * 6)).off + 5, none⟩ = some (.int .i64 ((rd_T27 l0_0 x8_3).f5)) ∧ w'.cell? (ad145.add ((x5_2).toNat * 6)) = some (.int .i64 ((rd_T27 l0_0 x5_2).f0)) ∧ w'.cell? ⟨(ad145.add ((x5_2).toNat * 6)).block, (ad145.add ((x5_2).toNat * 6)).off + 1, none⟩ = some (.int .i64 ((rd_T27 l0_0 x5_2).f1)) ∧ w'.cell? ⟨(ad145.add ((x5_2).toNat * 6)).block, (ad145.add ((x5_2).toNat * 6)).off + 2, none⟩ = some (.int .i64 ((rd_T27 l0_0 x5_2).f2)) ∧ w'.cell? ⟨(ad145.add ((x5_2).toNat * 6)).block, (ad145.add ((x5_2).toNat * 6)).off + 3, none⟩ = some (.string ((rd_T27 l0_0 x5_2).f3)) ∧ w'.cell? ⟨(ad145.add ((x5_2).toNat * 6)).block, (ad145.add ((x5_2).toNat * 6)).off + 4, none⟩ = some (.int .i64 ((rd_T27 l0_0 x5_2).f4)) ∧ w'.cell? ⟨(ad145.add ((x5_2).toNat * 6)).block, (ad145.add ((x5_2).toNat * 6)).off + 5, none⟩ = some (.int .i64 ((rd_T27 l0_0 x5_2).f5))) (ds := []) #[false, false, false, false, false, false, false, false, false, false, false, false, false] (by kernel_rfl) rfl rfl ⟨(blk_cell BK141.out 0).trans rfl, (blk_cell BK141.out 1).trans rfl, (blk_cell BK141.out 2).trans rfl, ((HB.out.cell (World.block_lt_of_cell? w _ hw149_0)).trans hw149_0), ((HB.out.cell (World.block_lt_of_cell? w _ hw149_1)).trans hw149_1), ((HB.out.cell (World.block_lt_of_cell? w _ hw149_2)).trans hw149_2), ((HB.out.cell (World.block_lt_of_cell? w _ hw149_3)).trans hw149_3), ((HB.out.cell (World.block_lt_of_cell? w _ hw149_4)).trans hw149_4), ((HB.out.cell (World.block_lt_of_cell? w _ hw149_5)).trans hw149_5), ((HB.out.cell (World.block_lt_of_cell? w _ hw150_0)).trans hw150_0), ((HB.out.cell (World.block_lt_of_cell? w _ hw150_1)).trans hw150_1), ((HB.out.cell (World.block_lt_of_cell? w _ hw150_2)).trans hw150_2), ((HB.out.cell (World.block_lt_of_cell? w _ hw150_3)).trans hw150_3), ((HB.out.cell (World.block_lt_of_cell? w _ hw150_4)).trans hw150_4), ((HB.out.cell (World.block_lt_of_cell? w _ hw150_5)).trans hw150_5)⟩ (fun hHeld => ?_); refine with_tabW malthouselaw18_JournalParts.tab13 malthouselaw18_JournalParts.bits13 (fun HT_ HW_ => ?_)
                                      generalize wr.drew = w39 at HO_6 BK141 HB hx149_0 hx149_1 hx149_2 hx149_3 hx149_4 hx149_5 hx150_0 hx150_1 hx150_2 hx150_3 hx150_4 hx150_5 hHeld ⊢
                                      refine pure_ (i := 0) (N := some 46) (v := ?_) (a' := ?_) #[true, false, false, false, false, false, false, false, false, false, false, false, false] rfl rfl (any_of HT_.out (by kernel_rfl)) (fun _ _ _ h => h) (Or.inl ⟨by rfl, ?_⟩) ?_ ?_
                                      rotate_left
                                      · intro w'
                                        go_simp
                                        with_reducible rfl
                                      rotate_left
                                      · simp only [Act.put, List.setIfInBounds_toArray, List.set_cons_zero, List.set_cons_succ, i64_w, i32_w]
                                        rfl
                                      refine pure_ (i := 2) (N := some 48) (v := ?_) (a' := ?_) #[true, false, true, false, false, false, false, false, false, false, false, false, false] rfl rfl (any_of HT_.out (by kernel_rfl)) (fun _ _ _ h => h) (Or.inl ⟨by rfl, ?_⟩) ?_ ?_
                                      rotate_left
                                      · intro w'
                                        go_simp
                                        with_reducible rfl
                                      rotate_left
                                      · simp only [Act.put, List.setIfInBounds_toArray, List.set_cons_zero, List.set_cons_succ, i64_w, i32_w]
                                        rfl
                                      refine pure_ (i := 6) (N := some 52) (v := ?_) (a' := ?_) #[true, false, true, false, false, false, true, false, false, false, false, false, false] rfl rfl (any_of HT_.out (by kernel_rfl)) (fun _ _ _ h => h) (Or.inl ⟨by rfl, ?_⟩) ?_ ?_
                                      rotate_left
                                      · intro w'
                                        go_simp
                                        with_reducible rfl
                                      rotate_left
                                      · simp only [Act.put, List.setIfInBounds_toArray, List.set_cons_zero, List.set_cons_succ, i64_w, i32_w]
                                        rfl
                                      refine pure_ (i := 8) (N := some 54) (v := ?_) (a' := ?_) #[true, false, true, false, false, false, true, false, true, false, false, false, false] rfl rfl (any_of HT_.out (by kernel_rfl)) (fun _ _ _ h => h) (Or.inl ⟨by rfl, ?_⟩) ?_ ?_
                                      rotate_left
                                      · intro w'
                                        go_simp
                                        with_reducible rfl
                                      rotate_left
                                      · simp only [Act.put, List.setIfInBounds_toArray, List.set_cons_zero, List.set_cons_succ, i64_w, i32_w]
                                        rfl
                                      refine take_ (i := 1) (N := some 47) (v := ?_) (a' := ?_) #[true, true, true, false, false, false, true, false, true, false, false, false, false] rfl rfl (take_ofW HT_.out HW_.out (by kernel_rfl)) (fun _ _ _ h => h) (Or.inl ⟨by rfl, ?_⟩) hHeld ?_ ?_
                                      rotate_left
                                      · rintro w' ⟨s0, s1, s2, s3, s4, s5, s6, s7, s8, s9, s10, s11, s12, s13, s14⟩
                                        go_simp
                                        with_reducible rfl
                                      rotate_left
                                      · simp only [Act.put, List.setIfInBounds_toArray, List.set_cons_zero, List.set_cons_succ, i64_w, i32_w]
                                        rfl
                                      refine pure_ (i := 3) (N := some 49) (v := ?_) (a' := ?_) #[true, true, true, true, false, false, true, false, true, false, false, false, false] rfl rfl (any_of HT_.out (by kernel_rfl)) (fun _ _ _ h => h) (Or.inl ⟨by rfl, ?_⟩) ?_ ?_
                                      rotate_left
                                      · intro w'
                                        go_simp
                                        with_reducible rfl
                                      rotate_left
                                      · simp only [Act.put, List.setIfInBounds_toArray, List.set_cons_zero, List.set_cons_succ, i64_w, i32_w]
                                        rfl
                                      refine pure_ (i := 4) (N := some 50) (v := ?_) (a' := ?_) #[true, true, true, true, true, false, true, false, true, false, false, false, false] rfl rfl (any_of HT_.out (by kernel_rfl)) (fun _ _ _ h => h) (Or.inl ⟨by rfl, ?_⟩) ?_ ?_
                                      rotate_left
                                      · intro w'
                                        go_simp
                                        with_reducible rfl
                                      rotate_left
                                      · simp only [Act.put, List.setIfInBounds_toArray, List.set_cons_zero, List.set_cons_succ, i64_w, i32_w]
                                        rfl
                                      refine take_ (i := 5) (N := some 51) (v := ?_) (a' := ?_) #[true, true, true, true, true, true, true, false, true, false, false, false, false] rfl rfl (take_ofW HT_.out HW_.out (by kernel_rfl)) (fun _ _ _ h => h) (Or.inl ⟨by rfl, ?_⟩) hHeld ?_ ?_
                                      rotate_left
                                      · rintro w' ⟨s0, s1, s2, s3, s4, s5, s6, s7, s8, s9, s10, s11, s12, s13, s14⟩
                                        go_simp
                                        with_reducible rfl
                                      rotate_left
                                      · simp only [Act.put, List.setIfInBounds_toArray, List.set_cons_zero, List.set_cons_succ, i64_w, i32_w]
                                        rfl
                                      refine take_ (i := 7) (N := some 53) (v := ?_) (a' := ?_) #[true, true, true, true, true, true, true, true, true, false, false, false, false] rfl rfl (take_ofW HT_.out HW_.out (by kernel_rfl)) (fun _ _ _ h => h) (Or.inl ⟨by rfl, ?_⟩) hHeld ?_ ?_
                                      rotate_left
                                      · rintro w' ⟨s0, s1, s2, s3, s4, s5, s6, s7, s8, s9, s10, s11, s12, s13, s14⟩
                                        go_simp
                                        with_reducible rfl
                                      rotate_left
                                      · simp only [Act.put, List.setIfInBounds_toArray, List.set_cons_zero, List.set_cons_succ, i64_w, i32_w]
                                        rfl
                                      refine pure_ (i := 9) (N := some 55) (v := ?_) (a' := ?_) #[true, true, true, true, true, true, true, true, true, true, false, false, false] rfl rfl (any_of HT_.out (by kernel_rfl)) (fun _ _ _ h => h) (Or.inl ⟨by rfl, ?_⟩) ?_ ?_
                                      rotate_left
                                      · intro w'
                                        go_simp
                                        with_reducible rfl
                                      rotate_left
                                      · simp only [Act.put, List.setIfInBounds_toArray, List.set_cons_zero, List.set_cons_succ, i64_w, i32_w]
                                        rfl
                                      refine pure_ (i := 10) (N := some 56) (v := ?_) (a' := ?_) #[true, true, true, true, true, true, true, true, true, true, true, false, false] rfl rfl (any_of HT_.out (by kernel_rfl)) (fun _ _ _ h => h) (Or.inl ⟨by rfl, ?_⟩) ?_ ?_
                                      rotate_left
                                      · intro w'
                                        go_simp
                                        with_reducible rfl
                                      rotate_left
                                      · simp only [Act.put, List.setIfInBounds_toArray, List.set_cons_zero, List.set_cons_succ, i64_w, i32_w]
                                        rfl
                                      refine take_ (i := 11) (N := some 57) (v := ?_) (a' := ?_) #[true, true, true, true, true, true, true, true, true, true, true, true, false] rfl rfl (take_ofW HT_.out HW_.out (by kernel_rfl)) (fun _ _ _ h => h) (Or.inl ⟨by rfl, ?_⟩) hHeld ?_ ?_
                                      rotate_left
                                      · rintro w' ⟨s0, s1, s2, s3, s4, s5, s6, s7, s8, s9, s10, s11, s12, s13, s14⟩
                                        go_simp
                                        with_reducible rfl
                                      rotate_left
                                      · simp only [Act.put, List.setIfInBounds_toArray, List.set_cons_zero, List.set_cons_succ, i64_w, i32_w]
                                        rfl
                                      refine pure_ (i := 12) (N := some 58) (v := ?_) (a' := ?_) #[true, true, true, true, true, true, true, true, true, true, true, true, true] rfl rfl (any_of HT_.out (by kernel_rfl)) (fun _ _ _ h => h) (Or.inl ⟨by rfl, ?_⟩) ?_ ?_
                                      rotate_left
                                      · intro w'
                                        go_simp
                                        with_reducible rfl
                                      rotate_left
                                      · simp only [Act.put, List.setIfInBounds_toArray, List.set_cons_zero, List.set_cons_succ, i64_w, i32_w]
                                        rfl
                                      refine done_ (done_of HT_.out (by kernel_rfl)) ?_
                                      try go_wp2
                                      have n0_ := Aside0.mk (Kd.R_drew HO_6.out)
                                      have n1_ := Aside0.mk (blk_drew BK141.out)
                                      have n2_ := Aside0.mk (below_drew1 HB.out)
                                      clear HO_6
                                      clear BK141
                                      clear HB
                                      have HO_6 := n0_
                                      have BK141 := n1_
                                      have HB := n2_
                                      clear n0_ n1_ n2_
                                      obtain ⟨Ao41, co41, eo41⟩ := Kd.R_slice HO_6.out
                                      (first | subst eo41 | (injection eo41 with f1_ f2_ f3_; have f4_ := f1_.symm; have f5_ := f3_.symm; clear f1_ f2_ f3_; subst f4_; subst f5_))
                                      have p151 : 0 ≤ (x7_3 : Int) := of_decide_eq_true (by first | (with_reducible assumption) | assumption)
                                      have q151 : x7_3 < (t146.length : Int) := of_decide_eq_true (by first | (with_reducible assumption) | assumption)
                                      obtain ⟨ad151, e151, hx151_0, hx151_1, hx151_2, hx151_3, hx151_4, hx151_5⟩ := at_T27 (Kd.R_reads' HO_6.out).2.2 x7_3 p151 q151
                                      cases e151
                                      replace p151 := eq_true p151
                                      replace q151 := eq_true q151
                                      have p152 : 0 ≤ (x8_3 : Int) := of_decide_eq_true (by first | (with_reducible assumption) | assumption)
                                      have q152 : x8_3 < (l0_0.length : Int) := of_decide_eq_true (by first | (with_reducible assumption) | assumption)
                                      obtain ⟨ad152, e152, hx152_0, hx152_1, hx152_2, hx152_3, hx152_4, hx152_5⟩ := at_T27 HR0_0.out x8_3 p152 q152
                                      have hw152_5 := hx152_5
                                      have hw152_4 := hx152_4
                                      have hw152_3 := hx152_3
                                      have hw152_2 := hx152_2
                                      have hw152_1 := hx152_1
                                      have hw152_0 := hx152_0
                                      obtain rfl : ad145 = ad152 := (by injection e152)
                                      replace hx152_0 := (HB.out.cell (World.block_lt_of_cell? w _ hx152_0)).trans hx152_0
                                      replace hx152_1 := (HB.out.cell (World.block_lt_of_cell? w _ hx152_1)).trans hx152_1
                                      replace hx152_2 := (HB.out.cell (World.block_lt_of_cell? w _ hx152_2)).trans hx152_2
                                      replace hx152_3 := (HB.out.cell (World.block_lt_of_cell? w _ hx152_3)).trans hx152_3
                                      replace hx152_4 := (HB.out.cell (World.block_lt_of_cell? w _ hx152_4)).trans hx152_4
                                      replace hx152_5 := (HB.out.cell (World.block_lt_of_cell? w _ hx152_5)).trans hx152_5
                                      replace p152 := eq_true p152
                                      replace q152 := eq_true q152
                                      refine start_ (n := 16) (S := fun w' => w'.cell? ⟨gb141, 0, none⟩ = some (.slice (some ad145) l0_0.length c0_0) ∧ w'.cell? ⟨gb141, 1, none⟩ = some (.slice A0_1 l0_1.length c0_1) ∧ w'.cell? ⟨gb141, 2, none⟩ = some (.int .i64 a0_2) ∧ w'.cell? (ad151.add ((x7_3).toNat * 6)) = some (.int .i64 ((rd_T27 t146 x7_3).f0)) ∧ w'.cell? ⟨(ad151.add ((x7_3).toNat * 6)).block, (ad151.add ((x7_3).toNat * 6)).off + 1, none⟩ = some (.int .i64 ((rd_T27 t146 x7_3).f1)) ∧ w'.cell? ⟨(ad151.add ((x7_3).toNat * 6)).block, (ad151.add ((x7_3).toNat * 6)).off + 2, none⟩ = some (.int .i64 ((rd_T27 t146 x7_3).f2)) ∧ w'.cell? ⟨(ad151.add ((x7_3).toNat * 6)).block, (ad151.add ((x7_3).toNat * 6)).off + 3, none⟩ = some (.string ((rd_T27 t146 x7_3).f3)) ∧ w'.cell? ⟨(ad151.add ((x7_3).toNat * 6)).block, (ad151.add ((x7_3).toNat * 6)).off + 4, none⟩ = some (.int .i64 ((rd_T27 t146 x7_3).f4)) ∧ w'.cell? ⟨(ad151.add ((x7_3).toNat * 6)).block, (ad151.add ((x7_3).toNat * 6)).off + 5, none⟩ = some (.int .i64 ((rd_T27 t146 x7_3).f5)) ∧ w'.cell? (ad145.add ((x8_3).toNat * 6)) = some (.int .i64 ((rd_T27 l0_0 x8_3).f0)) ∧ w'.cell? ⟨(ad145.add ((x8_3).toNat * 6)).block, (ad145.add ((x8_3).toNat * 6)).off + 1, none⟩ = some (.int .i64 ((rd_T27 l0_0 x8_3).f1)) ∧ w'.cell? ⟨(ad145.add ((x8_3).toNat * 6)).block, (ad145.add ((x8_3).toNat * 6)).off + 2, none⟩ = some (.int .i64 ((rd_T27 l0_0 x8_3).f2)) ∧ w'.cell? ⟨(ad145.add ((x8_3).toNat * 6)).block, (ad145.add ((x8_3).toNat * 6)).off + 3, none⟩ = some (.string ((rd_T27 l0_0 x8_3).f3)) ∧ w'.cell? ⟨(ad145.add ((x8_3).toNat * 6)).block, (ad145.add ((x8_3).toNat * 6)).off + 4, none⟩ = some (.int .i64 ((rd_T27 l0_0 x8_3).f4)) ∧ w'.cell? ⟨(ad145.add ((x8_3).toNat * 6)).block, (ad145.add ((x8_3).toNat * 6)).off + 5, none⟩ = some (.int .i64 ((rd_T27 l0_0 x8_3).f5))) (ds := []) #[false, false, false, false, false, false, false, false, false, false, false, false, false, false, false, false] (by kernel_rfl) rfl rfl ⟨(blk_cell BK141.out 0).trans rfl, (blk_cell BK141.out 1).trans rfl, (blk_cell BK141.out 2).trans rfl, hx151_0, hx151_1, hx151_2, hx151_3, hx151_4, hx151_5, ((HB.out.cell (World.block_lt_of_cell? w _ hw152_0)).trans hw152_0), ((HB.out.cell (World.block_lt_of_cell? w _ hw152_1)).trans hw152_1), ((HB.out.cell (World.block_lt_of_cell? w _ hw152_2)).trans hw152_2), ((HB.out.cell (World.block_lt_of_cell? w _ hw152_3)).trans hw152_3), ((HB.out.cell (World.block_lt_of_cell? w _ hw152_4)).trans hw152_4), ((HB.out.cell (World.block_lt_of_cell? w _ hw152_5)).trans hw152_5)⟩ (fun hHeld => ?_); refine with_tabW malthouselaw18_JournalParts.tab14 malthouselaw18_JournalParts.bits14 (fun HT_ HW_ => ?_)
                                      generalize w39.drew = w40 at HO_6 BK141 HB hx151_0 hx151_1 hx151_2 hx151_3 hx151_4 hx151_5 hx152_0 hx152_1 hx152_2 hx152_3 hx152_4 hx152_5 hHeld ⊢
                                      refine pure_ (i := 0) (N := some 59) (v := ?_) (a' := ?_) #[true, false, false, false, false, false, false, false, false, false, false, false, false, false, false, false] rfl rfl (any_of HT_.out (by kernel_rfl)) (fun _ _ _ h => h) (Or.inl ⟨by rfl, ?_⟩) ?_ ?_
                                      rotate_left
                                      · intro w'
                                        go_simp
                                        with_reducible rfl
                                      rotate_left
                                      · simp only [Act.put, List.setIfInBounds_toArray, List.set_cons_zero, List.set_cons_succ, i64_w, i32_w]
                                        rfl
                                      refine pure_ (i := 1) (N := some 60) (v := ?_) (a' := ?_) #[true, true, false, false, false, false, false, false, false, false, false, false, false, false, false, false] rfl rfl (any_of HT_.out (by kernel_rfl)) (fun _ _ _ h => h) (Or.inl ⟨by rfl, ?_⟩) ?_ ?_
                                      rotate_left
                                      · intro w'
                                        go_simp
                                        with_reducible rfl
                                      rotate_left
                                      · simp only [Act.put, List.setIfInBounds_toArray, List.set_cons_zero, List.set_cons_succ, i64_w, i32_w]
                                        rfl
                                      refine pure_ (i := 2) (N := some 61) (v := ?_) (a' := ?_) #[true, true, true, false, false, false, false, false, false, false, false, false, false, false, false, false] rfl rfl (any_of HT_.out (by kernel_rfl)) (fun _ _ _ h => h) (Or.inl ⟨by rfl, ?_⟩) ?_ ?_
                                      rotate_left
                                      · intro w'
                                        go_simp
                                        with_reducible rfl
                                      rotate_left
                                      · simp only [Act.put, List.setIfInBounds_toArray, List.set_cons_zero, List.set_cons_succ, i64_w, i32_w]
                                        rfl
                                      refine pure_ (i := 3) (N := some 62) (v := ?_) (a' := ?_) #[true, true, true, true, false, false, false, false, false, false, false, false, false, false, false, false] rfl rfl (any_of HT_.out (by kernel_rfl)) (fun _ _ _ h => h) (Or.inl ⟨by rfl, ?_⟩) ?_ ?_
                                      rotate_left
                                      · intro w'
                                        go_simp
                                        with_reducible rfl
                                      rotate_left
                                      · simp only [Act.put, List.setIfInBounds_toArray, List.set_cons_zero, List.set_cons_succ, i64_w, i32_w]
                                        rfl
                                      refine pure_ (i := 4) (N := some 63) (v := ?_) (a' := ?_) #[true, true, true, true, true, false, false, false, false, false, false, false, false, false, false, false] rfl rfl (any_of HT_.out (by kernel_rfl)) (fun _ _ _ h => h) (Or.inl ⟨by rfl, ?_⟩) ?_ ?_
                                      rotate_left
                                      · intro w'
                                        go_simp
                                        with_reducible rfl
                                      rotate_left
                                      · simp only [Act.put, List.setIfInBounds_toArray, List.set_cons_zero, List.set_cons_succ, i64_w, i32_w]
                                        rfl
                                      refine pure_ (i := 5) (N := some 64) (v := ?_) (a' := ?_) #[true, true, true, true, true, true, false, false, false, false, false, false, false, false, false, false] rfl rfl (any_of HT_.out (by kernel_rfl)) (fun _ _ _ h => h) (Or.inl ⟨by rfl, ?_⟩) ?_ ?_
                                      rotate_left
                                      · intro w'
                                        go_simp
                                        with_reducible rfl
                                      rotate_left
                                      · simp only [Act.put, List.setIfInBounds_toArray, List.set_cons_zero, List.set_cons_succ, i64_w, i32_w]
                                        rfl
                                      refine pure_ (i := 6) (N := some 65) (v := ?_) (a' := ?_) #[true, true, true, true, true, true, true, false, false, false, false, false, false, false, false, false] rfl rfl (any_of HT_.out (by kernel_rfl)) (fun _ _ _ h => h) (Or.inl ⟨by rfl, ?_⟩) ?_ ?_
                                      rotate_left
                                      · intro w'
                                        go_simp
                                        with_reducible rfl
                                      rotate_left
                                      · simp only [Act.put, List.setIfInBounds_toArray, List.set_cons_zero, List.set_cons_succ, i64_w, i32_w]
                                        rfl
                                      refine pure_ (i := 7) (N := some 66) (v := ?_) (a' := ?_) #[true, true, true, true, true, true, true, true, false, false, false, false, false, false, false, false] rfl rfl (any_of HT_.out (by kernel_rfl)) (fun _ _ _ h => h) (Or.inl ⟨by rfl, ?_⟩) ?_ ?_
                                      rotate_left
                                      · intro w'
                                        go_simp
                                        with_reducible rfl
                                      rotate_left
                                      · simp only [Act.put, List.setIfInBounds_toArray, List.set_cons_zero, List.set_cons_succ, i64_w, i32_w]
                                        rfl
                                      refine pure_ (i := 9) (N := some 68) (v := ?_) (a' := ?_) #[true, true, true, true, true, true, true, true, false, true, false, false, false, false, false, false] rfl rfl (any_of HT_.out (by kernel_rfl)) (fun _ _ _ h => h) (Or.inl ⟨by rfl, ?_⟩) ?_ ?_
                                      rotate_left
                                      · intro w'
                                        go_simp
                                        with_reducible rfl
                                      rotate_left
                                      · simp only [Act.put, List.setIfInBounds_toArray, List.set_cons_zero, List.set_cons_succ, i64_w, i32_w]
                                        rfl
                                      refine pure_ (i := 11) (N := some 70) (v := ?_) (a' := ?_) #[true, true, true, true, true, true, true, true, false, true, false, true, false, false, false, false] rfl rfl (any_of HT_.out (by kernel_rfl)) (fun _ _ _ h => h) (Or.inl ⟨by rfl, ?_⟩) ?_ ?_
                                      rotate_left
                                      · intro w'
                                        go_simp
                                        with_reducible rfl
                                      rotate_left
                                      · simp only [Act.put, List.setIfInBounds_toArray, List.set_cons_zero, List.set_cons_succ, i64_w, i32_w]
                                        rfl
                                      refine take_ (i := 8) (N := some 67) (v := ?_) (a' := ?_) #[true, true, true, true, true, true, true, true, true, true, false, true, false, false, false, false] rfl rfl (take_ofW HT_.out HW_.out (by kernel_rfl)) (fun _ _ _ h => h) (Or.inl ⟨by rfl, ?_⟩) hHeld ?_ ?_
                                      rotate_left
                                      · rintro w' ⟨s0, s1, s2, s3, s4, s5, s6, s7, s8, s9, s10, s11, s12, s13, s14⟩
                                        go_simp
                                        with_reducible rfl
                                      rotate_left
                                      · simp only [Act.put, List.setIfInBounds_toArray, List.set_cons_zero, List.set_cons_succ, i64_w, i32_w]
                                        rfl
                                      refine take_ (i := 10) (N := some 69) (v := ?_) (a' := ?_) #[true, true, true, true, true, true, true, true, true, true, true, true, false, false, false, false] rfl rfl (take_ofW HT_.out HW_.out (by kernel_rfl)) (fun _ _ _ h => h) (Or.inl ⟨by rfl, ?_⟩) hHeld ?_ ?_
                                      rotate_left
                                      · rintro w' ⟨s0, s1, s2, s3, s4, s5, s6, s7, s8, s9, s10, s11, s12, s13, s14⟩
                                        go_simp
                                        with_reducible rfl
                                      rotate_left
                                      · simp only [Act.put, List.setIfInBounds_toArray, List.set_cons_zero, List.set_cons_succ, i64_w, i32_w]
                                        rfl
                                      refine pure_ (i := 12) (N := some 71) (v := ?_) (a' := ?_) #[true, true, true, true, true, true, true, true, true, true, true, true, true, false, false, false] rfl rfl (any_of HT_.out (by kernel_rfl)) (fun _ _ _ h => h) (Or.inl ⟨by rfl, ?_⟩) ?_ ?_
                                      rotate_left
                                      · intro w'
                                        go_simp
                                        with_reducible rfl
                                      rotate_left
                                      · simp only [Act.put, List.setIfInBounds_toArray, List.set_cons_zero, List.set_cons_succ, i64_w, i32_w]
                                        rfl
                                      refine take_ (i := 13) (N := some 72) (v := ?_) (a' := ?_) #[true, true, true, true, true, true, true, true, true, true, true, true, true, true, false, false] rfl rfl (take_ofW HT_.out HW_.out (by kernel_rfl)) (fun _ _ _ h => h) (Or.inl ⟨by rfl, ?_⟩) hHeld ?_ ?_
                                      rotate_left
                                      · rintro w' ⟨s0, s1, s2, s3, s4, s5, s6, s7, s8, s9, s10, s11, s12, s13, s14⟩
                                        go_simp
                                        with_reducible rfl
                                      rotate_left
                                      · simp only [Act.put, List.setIfInBounds_toArray, List.set_cons_zero, List.set_cons_succ, i64_w, i32_w]
                                        rfl
                                      refine pure_ (i := 14) (N := some 73) (v := ?_) (a' := ?_) #[true, true, true, true, true, true, true, true, true, true, true, true, true, true, true, false] rfl rfl (any_of HT_.out (by kernel_rfl)) (fun _ _ _ h => h) (Or.inl ⟨by rfl, ?_⟩) ?_ ?_
                                      rotate_left
                                      · intro w'
                                        go_simp
                                        with_reducible rfl
                                      rotate_left
                                      · simp only [Act.put, List.setIfInBounds_toArray, List.set_cons_zero, List.set_cons_succ, i64_w, i32_w]
                                        rfl
                                      refine pure_ (i := 15) (N := some 74) (v := ?_) (a' := ?_) #[true, true, true, true, true, true, true, true, true, true, true, true, true, true, true, true] rfl rfl (any_of HT_.out (by kernel_rfl)) (fun _ _ _ h => h) (Or.inl ⟨by rfl, ?_⟩) ?_ ?_
                                      rotate_left
                                      · intro w'
                                        go_simp
                                        with_reducible rfl
                                      rotate_left
                                      · simp only [Act.put, List.setIfInBounds_toArray, List.set_cons_zero, List.set_cons_succ, i64_w, i32_w]
                                        rfl
                                      refine done_ (done_of HT_.out (by kernel_rfl)) ?_
                                      try go_wp2
                                      go_roundg k3
                                      case measure => have := HJ3.out; have := HK2.out; have := HK3.out; omega
                                      case rel => exact ⟨(wrap64 (x7_3 + 1)), (wrap64 (x8_3 + 1)), (by first | rfl | (simp; done) | (simp [*]; done)), (by first | rfl | (simp; done) | (simp [*]; done)), H', ⟨by have := HJ3.out; have := HK2.out; have := HK3.out; omega⟩, ⟨by (with_reducible repeat (first | apply Kd.R_alloc | apply Kd.R_drewN | apply Kd.R_drew)); exact HO_6.out⟩, ⟨by (with_reducible repeat (first | refine blk_drewN ?_ _ | refine blk_drew ?_ | refine blk_alloc ?_ _)); exact BK141.out⟩, ⟨by repeat (first | (with_reducible first | exact HB.out | apply below_alloc | apply pw_below_drewN | apply below_drew1 | refine below_set ?_ GE141.out) | exact HB.out)⟩⟩
                                  · rw [if_neg c32] at H
                                    exact absurd H (by simp)
                                · rw [if_neg c31] at H
                                  exact absurd H (by simp)
                            · rw [if_neg c25] at H
                              have c25b0 : (((rd_T27 l0_0 x8_3).f1) == ((rd_T27 l0_0 x5_2).f1)) = false := beq_eq_false_iff_ne.mpr c25
                              have c25b1 : (((rd_T27 l0_0 x8_3).f1) != ((rd_T27 l0_0 x5_2).f1)) = true := bne_iff_ne.mpr c25
                              have H' := Aside0.mk H
                              clear H
                              have hcz42_0 : wr.cell? ⟨gb141, 0, none⟩ = some (.slice (some ad145) l0_0.length c0_0) := (blk_cell BK141.out 0).trans rfl
                              have hcz42_1 : wr.cell? ⟨gb141, 1, none⟩ = some (.slice A0_1 l0_1.length c0_1) := (blk_cell BK141.out 1).trans rfl
                              have hcz42_2 : wr.cell? ⟨gb141, 2, none⟩ = some (.int .i64 a0_2) := (blk_cell BK141.out 2).trans rfl
                              have hfz42_0 := blk_frozen BK141.out 0
                              have hfz42_1 := blk_frozen BK141.out 1
                              have hfz42_2 := blk_frozen BK141.out 2
                              try go_wp2
                              have n0_ := Aside0.mk (Kd.R_drew HO_6.out)
                              have n1_ := Aside0.mk (blk_drew BK141.out)
                              have n2_ := Aside0.mk (below_drew1 HB.out)
                              clear HO_6
                              clear BK141
                              clear HB
                              have HO_6 := n0_
                              have BK141 := n1_
                              have HB := n2_
                              clear n0_ n1_ n2_
                              have p149 : 0 ≤ (x8_3 : Int) := of_decide_eq_true (by first | (with_reducible assumption) | assumption)
                              have q149 : x8_3 < (l0_0.length : Int) := of_decide_eq_true (by first | (with_reducible assumption) | assumption)
                              obtain ⟨ad149, e149, hx149_0, hx149_1, hx149_2, hx149_3, hx149_4, hx149_5⟩ := at_T27 HR0_0.out x8_3 p149 q149
                              have hw149_5 := hx149_5
                              have hw149_4 := hx149_4
                              have hw149_3 := hx149_3
                              have hw149_2 := hx149_2
                              have hw149_1 := hx149_1
                              have hw149_0 := hx149_0
                              obtain rfl : ad145 = ad149 := (by injection e149)
                              replace hx149_0 := (HB.out.cell (World.block_lt_of_cell? w _ hx149_0)).trans hx149_0
                              replace hx149_1 := (HB.out.cell (World.block_lt_of_cell? w _ hx149_1)).trans hx149_1
                              replace hx149_2 := (HB.out.cell (World.block_lt_of_cell? w _ hx149_2)).trans hx149_2
                              replace hx149_3 := (HB.out.cell (World.block_lt_of_cell? w _ hx149_3)).trans hx149_3
                              replace hx149_4 := (HB.out.cell (World.block_lt_of_cell? w _ hx149_4)).trans hx149_4
                              replace hx149_5 := (HB.out.cell (World.block_lt_of_cell? w _ hx149_5)).trans hx149_5
                              replace p149 := eq_true p149
                              replace q149 := eq_true q149
                              have p150 : 0 ≤ (x5_2 : Int) := of_decide_eq_true (by first | (with_reducible assumption) | assumption)
                              have q150 : x5_2 < (l0_0.length : Int) := of_decide_eq_true (by first | (with_reducible assumption) | assumption)
                              obtain ⟨ad150, e150, hx150_0, hx150_1, hx150_2, hx150_3, hx150_4, hx150_5⟩ := at_T27 HR0_0.out x5_2 p150 q150
                              have hw150_5 := hx150_5
                              have hw150_4 := hx150_4
                              have hw150_3 := hx150_3
                              have hw150_2 := hx150_2
                              have hw150_1 := hx150_1
                              have hw150_0 := hx150_0
                              obtain rfl : ad145 = ad150 := (by injection e150)
                              replace hx150_0 := (HB.out.cell (World.block_lt_of_cell? w _ hx150_0)).trans hx150_0
                              replace hx150_1 := (HB.out.cell (World.block_lt_of_cell? w _ hx150_1)).trans hx150_1
                              replace hx150_2 := (HB.out.cell (World.block_lt_of_cell? w _ hx150_2)).trans hx150_2
                              replace hx150_3 := (HB.out.cell (World.block_lt_of_cell? w _ hx150_3)).trans hx150_3
                              replace hx150_4 := (HB.out.cell (World.block_lt_of_cell? w _ hx150_4)).trans hx150_4
                              replace hx150_5 := (HB.out.cell (World.block_lt_of_cell? w _ hx150_5)).trans hx150_5
                              replace p150 := eq_true p150
                              replace q150 := eq_true q150
                              refine start_ (n := 13) (S := fun w' => w'.cell? ⟨gb141, 0, none⟩ = some (.slice (some ad145) l0_0.length c0_0) ∧ w'.cell? ⟨gb141, 1, none⟩ = some (.slice A0_1 l0_1.length c0_1) ∧ w'.cell? ⟨gb141, 2, none⟩ = some (.int .i64 a0_2) ∧ w'.cell? (ad145.add ((x8_3).toNat * 6)) = some (.int .i64 ((rd_T27 l0_0 x8_3).f0)) ∧ w'.cell? ⟨(ad145.add ((x8_3).toNat * 6)).block, (ad145.add ((x8_3).toNat * 6)).off + 1, none⟩ = some (.int .i64 ((rd_T27 l0_0 x8_3).f1)) ∧ w'.cell? ⟨(ad145.add ((x8_3).toNat * 6)).block, (ad145.add ((x8_3).toNat * 6)).off + 2, none⟩ = some (.int .i64 ((rd_T27 l0_0 x8_3).f2)) ∧ w'.cell? ⟨(ad145.add ((x8_3).toNat * 6)).block, (ad145.add ((x8_3).toNat * 6)).off + 3, none⟩ = some (.string ((rd_T27 l0_0 x8_3).f3)) ∧ w'.cell? ⟨(ad145.add ((x8_3).toNat * 6)).block, (ad145.add ((x8_3).toNat * 6)).off + 4, none⟩ = some (.int .i64 ((rd_T27 l0_0 x8_3).f4)) ∧ w'.cell? ⟨(ad145.add ((x8_3).toNat * 6)).block, (ad145.add ((x8_3).toNat * 6)).off + 5, none⟩ = some (.int .i64 ((rd_T27 l0_0 x8_3).f5)) ∧ w'.cell? (ad145.add ((x5_2).toNat * 6)) = some (.int .i64 ((rd_T27 l0_0 x5_2).f0)) ∧ w'.cell? ⟨(ad145.add ((x5_2).toNat * 6)).block, (ad145.add ((x5_2).toNat * 6)).off + 1, none⟩ = some (.int .i64 ((rd_T27 l0_0 x5_2).f1)) ∧ w'.cell? ⟨(ad145.add ((x5_2).toNat * 6)).block, (ad145.add ((x5_2).toNat * 6)).off + 2, none⟩ = some (.int .i64 ((rd_T27 l0_0 x5_2).f2)) ∧ w'.cell? ⟨(ad145.add ((x5_2).toNat * 6)).block, (ad145.add ((x5_2).toNat * 6)).off + 3, none⟩ = some (.string ((rd_T27 l0_0 x5_2).f3)) ∧ w'.cell? ⟨(ad145.add ((x5_2).toNat * 6)).block, (ad145.add ((x5_2).toNat * 6)).off + 4, none⟩ = some (.int .i64 ((rd_T27 l0_0 x5_2).f4)) ∧ w'.cell? ⟨(ad145.add ((x5_2).toNat * 6)).block, (ad145.add ((x5_2).toNat * 6)).off + 5, none⟩ = some (.int .i64 ((rd_T27 l0_0 x5_2).f5))) (ds := []) #[false, false, false, false, false, false, false, false, false, false, false, false, false] (by kernel_rfl) rfl rfl ⟨(blk_cell BK141.out 0).trans rfl, (blk_cell BK141.out 1).trans rfl, (blk_cell BK141.out 2).trans rfl, ((HB.out.cell (World.block_lt_of_cell? w _ hw149_0)).trans hw149_0), ((HB.out.cell (World.block_lt_of_cell? w _ hw149_1)).trans hw149_1), ((HB.out.cell (World.block_lt_of_cell? w _ hw149_2)).trans hw149_2), ((HB.out.cell (World.block_lt_of_cell? w _ hw149_3)).trans hw149_3), ((HB.out.cell (World.block_lt_of_cell? w _ hw149_4)).trans hw149_4), ((HB.out.cell (World.block_lt_of_cell? w _ hw149_5)).trans hw149_5), ((HB.out.cell (World.block_lt_of_cell? w _ hw150_0)).trans hw150_0), ((HB.out.cell (World.block_lt_of_cell? w _ hw150_1)).trans hw150_1), ((HB.out.cell (World.block_lt_of_cell? w _ hw150_2)).trans hw150_2), ((HB.out.cell (World.block_lt_of_cell? w _ hw150_3)).trans hw150_3), ((HB.out.cell (World.block_lt_of_cell? w _ hw150_4)).trans hw150_4), ((HB.out.cell (World.block_lt_of_cell? w _ hw150_5)).trans hw150_5)⟩ (fun hHeld => ?_); refine with_tabW malthouselaw18_JournalParts.tab13 malthouselaw18_JournalParts.bits13 (fun HT_ HW_ => ?_)
                              generalize wr.drew = w43 at HO_6 BK141 HB hx149_0 hx149_1 hx149_2 hx149_3 hx149_4 hx149_5 hx150_0 hx150_1 hx150_2 hx150_3 hx150_4 hx150_5 hHeld ⊢
                              refine pure_ (i := 0) (N := some 46) (v := ?_) (a' := ?_) #[true, false, false, false, false, false, false, false, false, false, false, false, false] rfl rfl (any_of HT_.out (by kernel_rfl)) (fun _ _ _ h => h) (Or.inl ⟨by rfl, ?_⟩) ?_ ?_
                              rotate_left
                              · intro w'
                                go_simp
                                with_reducible rfl
                              rotate_left
                              · simp only [Act.put, List.setIfInBounds_toArray, List.set_cons_zero, List.set_cons_succ, i64_w, i32_w]
                                rfl
                              refine pure_ (i := 2) (N := some 48) (v := ?_) (a' := ?_) #[true, false, true, false, false, false, false, false, false, false, false, false, false] rfl rfl (any_of HT_.out (by kernel_rfl)) (fun _ _ _ h => h) (Or.inl ⟨by rfl, ?_⟩) ?_ ?_
                              rotate_left
                              · intro w'
                                go_simp
                                with_reducible rfl
                              rotate_left
                              · simp only [Act.put, List.setIfInBounds_toArray, List.set_cons_zero, List.set_cons_succ, i64_w, i32_w]
                                rfl
                              refine pure_ (i := 6) (N := some 52) (v := ?_) (a' := ?_) #[true, false, true, false, false, false, true, false, false, false, false, false, false] rfl rfl (any_of HT_.out (by kernel_rfl)) (fun _ _ _ h => h) (Or.inl ⟨by rfl, ?_⟩) ?_ ?_
                              rotate_left
                              · intro w'
                                go_simp
                                with_reducible rfl
                              rotate_left
                              · simp only [Act.put, List.setIfInBounds_toArray, List.set_cons_zero, List.set_cons_succ, i64_w, i32_w]
                                rfl
                              refine pure_ (i := 8) (N := some 54) (v := ?_) (a' := ?_) #[true, false, true, false, false, false, true, false, true, false, false, false, false] rfl rfl (any_of HT_.out (by kernel_rfl)) (fun _ _ _ h => h) (Or.inl ⟨by rfl, ?_⟩) ?_ ?_
                              rotate_left
                              · intro w'
                                go_simp
                                with_reducible rfl
                              rotate_left
                              · simp only [Act.put, List.setIfInBounds_toArray, List.set_cons_zero, List.set_cons_succ, i64_w, i32_w]
                                rfl
                              refine take_ (i := 1) (N := some 47) (v := ?_) (a' := ?_) #[true, true, true, false, false, false, true, false, true, false, false, false, false] rfl rfl (take_ofW HT_.out HW_.out (by kernel_rfl)) (fun _ _ _ h => h) (Or.inl ⟨by rfl, ?_⟩) hHeld ?_ ?_
                              rotate_left
                              · rintro w' ⟨s0, s1, s2, s3, s4, s5, s6, s7, s8, s9, s10, s11, s12, s13, s14⟩
                                go_simp
                                with_reducible rfl
                              rotate_left
                              · simp only [Act.put, List.setIfInBounds_toArray, List.set_cons_zero, List.set_cons_succ, i64_w, i32_w]
                                rfl
                              refine pure_ (i := 3) (N := some 49) (v := ?_) (a' := ?_) #[true, true, true, true, false, false, true, false, true, false, false, false, false] rfl rfl (any_of HT_.out (by kernel_rfl)) (fun _ _ _ h => h) (Or.inl ⟨by rfl, ?_⟩) ?_ ?_
                              rotate_left
                              · intro w'
                                go_simp
                                with_reducible rfl
                              rotate_left
                              · simp only [Act.put, List.setIfInBounds_toArray, List.set_cons_zero, List.set_cons_succ, i64_w, i32_w]
                                rfl
                              refine pure_ (i := 4) (N := some 50) (v := ?_) (a' := ?_) #[true, true, true, true, true, false, true, false, true, false, false, false, false] rfl rfl (any_of HT_.out (by kernel_rfl)) (fun _ _ _ h => h) (Or.inl ⟨by rfl, ?_⟩) ?_ ?_
                              rotate_left
                              · intro w'
                                go_simp
                                with_reducible rfl
                              rotate_left
                              · simp only [Act.put, List.setIfInBounds_toArray, List.set_cons_zero, List.set_cons_succ, i64_w, i32_w]
                                rfl
                              refine take_ (i := 5) (N := some 51) (v := ?_) (a' := ?_) #[true, true, true, true, true, true, true, false, true, false, false, false, false] rfl rfl (take_ofW HT_.out HW_.out (by kernel_rfl)) (fun _ _ _ h => h) (Or.inl ⟨by rfl, ?_⟩) hHeld ?_ ?_
                              rotate_left
                              · rintro w' ⟨s0, s1, s2, s3, s4, s5, s6, s7, s8, s9, s10, s11, s12, s13, s14⟩
                                go_simp
                                with_reducible rfl
                              rotate_left
                              · simp only [Act.put, List.setIfInBounds_toArray, List.set_cons_zero, List.set_cons_succ, i64_w, i32_w]
                                rfl
                              refine take_ (i := 7) (N := some 53) (v := ?_) (a' := ?_) #[true, true, true, true, true, true, true, true, true, false, false, false, false] rfl rfl (take_ofW HT_.out HW_.out (by kernel_rfl)) (fun _ _ _ h => h) (Or.inl ⟨by rfl, ?_⟩) hHeld ?_ ?_
                              rotate_left
                              · rintro w' ⟨s0, s1, s2, s3, s4, s5, s6, s7, s8, s9, s10, s11, s12, s13, s14⟩
                                go_simp
                                with_reducible rfl
                              rotate_left
                              · simp only [Act.put, List.setIfInBounds_toArray, List.set_cons_zero, List.set_cons_succ, i64_w, i32_w]
                                rfl
                              refine pure_ (i := 9) (N := some 55) (v := ?_) (a' := ?_) #[true, true, true, true, true, true, true, true, true, true, false, false, false] rfl rfl (any_of HT_.out (by kernel_rfl)) (fun _ _ _ h => h) (Or.inl ⟨by rfl, ?_⟩) ?_ ?_
                              rotate_left
                              · intro w'
                                go_simp
                                with_reducible rfl
                              rotate_left
                              · simp only [Act.put, List.setIfInBounds_toArray, List.set_cons_zero, List.set_cons_succ, i64_w, i32_w]
                                rfl
                              refine pure_ (i := 10) (N := some 56) (v := ?_) (a' := ?_) #[true, true, true, true, true, true, true, true, true, true, true, false, false] rfl rfl (any_of HT_.out (by kernel_rfl)) (fun _ _ _ h => h) (Or.inl ⟨by rfl, ?_⟩) ?_ ?_
                              rotate_left
                              · intro w'
                                go_simp
                                with_reducible rfl
                              rotate_left
                              · simp only [Act.put, List.setIfInBounds_toArray, List.set_cons_zero, List.set_cons_succ, i64_w, i32_w]
                                rfl
                              refine take_ (i := 11) (N := some 57) (v := ?_) (a' := ?_) #[true, true, true, true, true, true, true, true, true, true, true, true, false] rfl rfl (take_ofW HT_.out HW_.out (by kernel_rfl)) (fun _ _ _ h => h) (Or.inl ⟨by rfl, ?_⟩) hHeld ?_ ?_
                              rotate_left
                              · rintro w' ⟨s0, s1, s2, s3, s4, s5, s6, s7, s8, s9, s10, s11, s12, s13, s14⟩
                                go_simp
                                with_reducible rfl
                              rotate_left
                              · simp only [Act.put, List.setIfInBounds_toArray, List.set_cons_zero, List.set_cons_succ, i64_w, i32_w]
                                rfl
                              refine pure_ (i := 12) (N := some 58) (v := ?_) (a' := ?_) #[true, true, true, true, true, true, true, true, true, true, true, true, true] rfl rfl (any_of HT_.out (by kernel_rfl)) (fun _ _ _ h => h) (Or.inl ⟨by rfl, ?_⟩) ?_ ?_
                              rotate_left
                              · intro w'
                                go_simp
                                with_reducible rfl
                              rotate_left
                              · simp only [Act.put, List.setIfInBounds_toArray, List.set_cons_zero, List.set_cons_succ, i64_w, i32_w]
                                rfl
                              refine done_ (done_of HT_.out (by kernel_rfl)) ?_
                              try go_wp2
                              go_roundg k3
                              case measure => have := HJ3.out; have := HK2.out; have := HK3.out; omega
                              case rel => exact ⟨(x7_3), (wrap64 (x8_3 + 1)), (by first | rfl | (simp; done) | (simp [*]; done)), (by first | rfl | (simp; done) | (simp [*]; done)), H', ⟨by have := HJ3.out; have := HK2.out; have := HK3.out; omega⟩, ⟨by (with_reducible repeat (first | apply Kd.R_alloc | apply Kd.R_drewN | apply Kd.R_drew)); exact HO_6.out⟩, ⟨by (with_reducible repeat (first | refine blk_drewN ?_ _ | refine blk_drew ?_ | refine blk_alloc ?_ _)); exact BK141.out⟩, ⟨by repeat (first | (with_reducible first | exact HB.out | apply below_alloc | apply pw_below_drewN | apply below_drew1 | refine below_set ?_ GE141.out) | exact HB.out)⟩⟩
                          · rw [if_neg c24] at H
                            exact absurd H (by simp)
                        · rw [if_neg c23] at H
                          exact absurd H (by simp)
                      · rw [if_neg c22] at H
                        exact absurd H (by simp)
                    · rw [if_neg c21] at H
                      have c21b0 : decide (x8_3 < (l0_0.length : Int)) = false := decide_eq_false c21
                      clear c21
                      by_cases c44 : x7_3 = (t146.length : Int)
                      · rw [if_pos c44] at H
                        have c44b0 : (x7_3 == (t146.length : Int)) = true := beq_iff_eq.mpr c44
                        have c44b1 : (x7_3 != (t146.length : Int)) = false := bne_eq_false_iff_eq.mpr c44
                        clear c44
                        have H' := Aside0.mk H
                        clear H
                        have hcz45_0 : wr.cell? ⟨gb141, 0, none⟩ = some (.slice (some ad145) l0_0.length c0_0) := (blk_cell BK141.out 0).trans rfl
                        have hcz45_1 : wr.cell? ⟨gb141, 1, none⟩ = some (.slice A0_1 l0_1.length c0_1) := (blk_cell BK141.out 1).trans rfl
                        have hcz45_2 : wr.cell? ⟨gb141, 2, none⟩ = some (.int .i64 a0_2) := (blk_cell BK141.out 2).trans rfl
                        have hfz45_0 := blk_frozen BK141.out 0
                        have hfz45_1 := blk_frozen BK141.out 1
                        have hfz45_2 := blk_frozen BK141.out 2
                        obtain ⟨Ao46, co46, eo46⟩ := Kd.R_slice HO_6.out
                        subst eo46
                        go_wp2
                        go_roundg k3
                        case measure => have := HJ3.out; have := HK2.out; have := HK3.out; omega
                        case rel => exact ⟨(wrap64 (x5_2 + 1)), (by first | rfl | (simp; done) | (simp [*]; done)), H', ⟨by have := HJ3.out; have := HK2.out; have := HK3.out; omega⟩, ⟨by (with_reducible repeat (first | refine blk_drewN ?_ _ | refine blk_drew ?_ | refine blk_alloc ?_ _)); exact BK141.out⟩, ⟨by repeat (first | (with_reducible first | exact HB.out | apply below_alloc | apply pw_below_drewN | apply below_drew1 | refine below_set ?_ GE141.out) | exact HB.out)⟩⟩
                      · rw [if_neg c44] at H
                        have c44b0 : (x7_3 == (t146.length : Int)) = false := beq_eq_false_iff_ne.mpr c44
                        have c44b1 : (x7_3 != (t146.length : Int)) = true := bne_iff_ne.mpr c44
                        obtain rfl := Option.some.inj H
                        have hcz47_0 : wr.cell? ⟨gb141, 0, none⟩ = some (.slice (some ad145) l0_0.length c0_0) := (blk_cell BK141.out 0).trans rfl
                        have hcz47_1 : wr.cell? ⟨gb141, 1, none⟩ = some (.slice A0_1 l0_1.length c0_1) := (blk_cell BK141.out 1).trans rfl
                        have hcz47_2 : wr.cell? ⟨gb141, 2, none⟩ = some (.int .i64 a0_2) := (blk_cell BK141.out 2).trans rfl
                        have hfz47_0 := blk_frozen BK141.out 0
                        have hfz47_1 := blk_frozen BK141.out 1
                        have hfz47_2 := blk_frozen BK141.out 2
                        obtain ⟨Ao48, co48, eo48⟩ := Kd.R_slice HO_6.out
                        subst eo48
                        go_wp2
                        go_ret
                        exact ⟨by first | rfl | (simp [errW_none, errW_some] <;> rfl) | (simp [*, errW_none, errW_some] <;> rfl), by repeat (first | (with_reducible first | exact HB.out | apply below_alloc | apply pw_below_drewN | apply below_drew1 | refine below_set ?_ GE141.out) | exact HB.out)⟩
              · rw [if_neg c16] at H
                exact absurd H (by simp)
            · rw [if_neg c15] at H
              have c15b0 : decide (x5_2 < (l0_0.length : Int)) = false := decide_eq_false c15
              clear c15
              obtain rfl := Option.some.inj H
              have hcz49_0 : wr.cell? ⟨gb141, 0, none⟩ = some (.slice A0_0 l0_0.length c0_0) := (blk_cell BK141.out 0).trans rfl
              have hcz49_1 : wr.cell? ⟨gb141, 1, none⟩ = some (.slice A0_1 l0_1.length c0_1) := (blk_cell BK141.out 1).trans rfl
              have hcz49_2 : wr.cell? ⟨gb141, 2, none⟩ = some (.int .i64 a0_2) := (blk_cell BK141.out 2).trans rfl
              have hfz49_0 := blk_frozen BK141.out 0
              have hfz49_1 := blk_frozen BK141.out 1
              have hfz49_2 := blk_frozen BK141.out 2
              go_wp2
              go_ret
              exact ⟨by first | rfl | (simp [errW_none, errW_some] <;> rfl) | (simp [*, errW_none, errW_some] <;> rfl), by repeat (first | (with_reducible first | exact HB.out | apply below_alloc | apply pw_below_drewN | apply below_drew1 | refine below_set ?_ GE141.out) | exact HB.out)⟩
end Go.Proofs.YtghpmpjoedbpcaaDoor.Print
/-! ### Print6 -/
namespace Go.Proofs.YtghpmpjoedbpcaaDoor.Print
open Go.RowKit Go.Proofs.YtghpmpjoedbpcaaDoorW.PrintWords Go.Proofs.YtghpmpjoedbpcaaDoorW.PrintLast Go.Proofs.YtghpmpjoedbpcaaDoorW.PrintMore
attribute [local go_sem] min2_int min_two
set_option linter.unusedVariables false
set_option linter.unusedSimpArgs false
def malthouselaw18_few.l0 : Nat → List (S43) → Int → Option (Bool)
  | 0, _, _ => none
  | k + 1, x0, x5 => if x5 < (x0.length : Int) then (if 0 ≤ x5 then (if (((rd_T43 x0 x5).f2.f3).size : Int) > 200 then (some false) else (malthouselaw18_few.l0 k x0 (wrap64 (x5 + 1)))) else (none)) else (some true)
def malthouselaw18_few.f (k : Nat) (l0 : List (S43)) (a1 : Int) : Option (Bool) := if (l0.length : Int) > a1 then (some false) else (malthouselaw18_few.l0 k l0 0)
set_option maxHeartbeats 8000000 in
set_option maxRecDepth 100000 in
theorem malthouselaw18_few.calls (k : Nat) (A0 : Option Addr) (c0 : Nat) (l0 : List (S43)) (a1 : Int) (r : Bool) (w : World) (hr0 : Kd.C k43 w A0 l0.length l0) (hc0 : l0.length ≤ c0) (h : malthouselaw18_few.f k l0 a1 = some r) :
    Calls Tryd.prog 16 #[.slice A0 l0.length c0, .int .i64 a1] w fun e w' => e = .returned (.bool r) ∧ Drawn0 w w' := by
  have HR0 := Aside0.mk hr0
  have HC0 := Aside0.mk hc0
  clear hr0 hc0
  have H : (if (l0.length : Int) > a1 then (some false) else (malthouselaw18_few.l0 k l0 0)) = some r := h
  clear h
  by_cases c3 : (l0.length : Int) > a1
  · rw [if_pos c3] at H
    have c3b0 : decide (a1 < (l0.length : Int)) = true := decide_eq_true c3
    clear c3
    obtain rfl := Option.some.inj H
    go_enter Tryd.func16, Tryd.ntmps16
    go_wp2
    go_ret
    exact ⟨by first | rfl | (simp; done) | (simp [*]; done), by repeat (first | exact Drawn0.refl _ | apply Drawn0.step)⟩
  · rw [if_neg c3] at H
    have c3b0 : decide (a1 < (l0.length : Int)) = false := decide_eq_false c3
    clear c3
    have H' := Aside0.mk H
    clear H
    go_enter Tryd.func16, Tryd.ntmps16
    go_wp2
    go_loopg [5] k (fun kq v5 w' => ∃ (x5_1 : Int), v5 = .int .i64 x5_1 ∧ Aside0 (malthouselaw18_few.l0 kq l0 x5_1 = some r) ∧ Aside0 (kq ≤ k) ∧ Drawn0 w w')
    case atStart => exact ⟨(0), (by first | rfl | (simp; done) | (simp [*]; done)), H', ⟨Nat.le_refl _⟩, by repeat (first | exact Drawn0.refl _ | apply Drawn0.step)⟩
    case round =>
      clear H'
      try clear c1
      try clear p2
      try clear c3
      try clear c3b0
      obtain ⟨x5_1, rfl, HA, HK1, ⟨m1, rfl⟩⟩ := hrel
      cases gk with
      | zero => exact absurd HA.out (by simp [malthouselaw18_few.l0])
      | succ k1 =>
        have H := HA.out
        clear HA
        simp only [malthouselaw18_few.l0] at H
        by_cases c4 : x5_1 < (l0.length : Int)
        · rw [if_pos c4] at H
          have c4b0 : decide (x5_1 < (l0.length : Int)) = true := decide_eq_true c4
          clear c4
          by_cases c5 : 0 ≤ x5_1
          · rw [if_pos c5] at H
            have c5b0 : decide (0 ≤ x5_1) = true := decide_eq_true c5
            clear c5
            by_cases c6 : (((rd_T43 l0 x5_1).f2.f3).size : Int) > 200
            · rw [if_pos c6] at H
              have c6b0 : decide (200 < (((rd_T43 l0 x5_1).f2.f3).size : Int)) = true := decide_eq_true c6
              have c6b1 : decide (200 < ((rd_T43 l0 x5_1).f2.f3).size) = true := decide_eq_true (by omega)
              clear c6
              obtain rfl := Option.some.inj H
              have p153 : 0 ≤ (x5_1 : Int) := of_decide_eq_true (by first | (with_reducible assumption) | assumption)
              have q153 : x5_1 < (l0.length : Int) := of_decide_eq_true (by first | (with_reducible assumption) | assumption)
              obtain ⟨ad153, e153, hx153_0, hx153_1, hx153_2, hx153_3, hx153_4, hx153_5, hx153_6, hx153_7⟩ := at_T43 HR0.out x5_1 p153 q153
              cases e153
              replace p153 := eq_true p153
              replace q153 := eq_true q153
              go_wp2
              go_ret
              exact ⟨by first | rfl | (simp; done) | (simp [*]; done), by repeat (first | exact Drawn0.refl _ | apply Drawn0.step)⟩
            · rw [if_neg c6] at H
              have c6b0 : decide (200 < (((rd_T43 l0 x5_1).f2.f3).size : Int)) = false := decide_eq_false c6
              have c6b1 : decide (200 < ((rd_T43 l0 x5_1).f2.f3).size) = false := decide_eq_false (by omega)
              clear c6
              have H' := Aside0.mk H
              clear H
              have p153 : 0 ≤ (x5_1 : Int) := of_decide_eq_true (by first | (with_reducible assumption) | assumption)
              have q153 : x5_1 < (l0.length : Int) := of_decide_eq_true (by first | (with_reducible assumption) | assumption)
              obtain ⟨ad153, e153, hx153_0, hx153_1, hx153_2, hx153_3, hx153_4, hx153_5, hx153_6, hx153_7⟩ := at_T43 HR0.out x5_1 p153 q153
              cases e153
              replace p153 := eq_true p153
              replace q153 := eq_true q153
              go_wp2
              go_roundg k1
              case measure => have := HK1.out; omega
              case rel => exact ⟨(wrap64 (x5_1 + 1)), (by first | rfl | (simp; done) | (simp [*]; done)), H', ⟨by have := HK1.out; omega⟩, by repeat (first | exact Drawn0.refl _ | apply Drawn0.step)⟩
          · rw [if_neg c5] at H
            exact absurd H (by simp)
        · rw [if_neg c4] at H
          have c4b0 : decide (x5_1 < (l0.length : Int)) = false := decide_eq_false c4
          clear c4
          obtain rfl := Option.some.inj H
          go_wp2
          go_ret
          exact ⟨by first | rfl | (simp; done) | (simp [*]; done), by repeat (first | exact Drawn0.refl _ | apply Drawn0.step)⟩
end Go.Proofs.YtghpmpjoedbpcaaDoor.Print
/-! ### JLaw1 -/
namespace Go.Proofs.YtghpmpjoedbpcaaDoor.Print
open Go.RowKit Go.Proofs.YtghpmpjoedbpcaaDoorW.PrintWords Go.Proofs.YtghpmpjoedbpcaaDoorW.PrintLast Go.Proofs.YtghpmpjoedbpcaaDoorW.PrintMore
set_option linter.unusedSimpArgs false
set_option linter.unusedVariables false
theorem wrapS (i : Nat) (h : i < 1000000000000) : wrap64 ((i : Int) + 1) = ((i + 1 : Nat) : Int) := by
  have : wrap64 ((i : Int) + 1) = (i : Int) + 1 := by unfold wrap64; omega
  rw [this]; omega
theorem rd_e (l : List S27) (i : Nat) (hi : i < l.length) : rd_T27 l (i : Int) = l[i] := by
  unfold rd_T27
  simp [List.getD_eq_getElem?_getD, List.getElem?_eq_getElem hi]
theorem rd_o (l : List S43) (i : Nat) (hi : i < l.length) : rd_T43 l (i : Int) = l[i] := by
  unfold rd_T43
  simp [List.getD_eq_getElem?_getD, List.getElem?_eq_getElem hi]
def shortE (e : S27) : Bool := decide (e.f3.size ≤ 200)
def lightB (l : List S27) (q : List S35) : Bool := decide (l.length ≤ 300) && decide (q.length ≤ 300) && l.all shortE
theorem light_loop (l : List S27) (q : List S35) (g : Int) (hl : l.length ≤ 1000000000) : ∀ (f i k : Nat), l.length ≤ i + f → i ≤ l.length → f < k → malthouseref18_Light.l0 k (i : Int) l q g = some ((l.drop i).all shortE) := by
  intro f
  induction f with
  | zero =>
    intro i k h1 h2 hk
    obtain ⟨k, rfl⟩ : ∃ m, k = m + 1 := ⟨k - 1, by omega⟩
    rw [malthouseref18_Light.l0, if_neg (by omega), List.drop_eq_nil_of_le (by omega)]
    rfl
  | succ f ih =>
    intro i k h1 h2 hk
    obtain ⟨k, rfl⟩ : ∃ m, k = m + 1 := ⟨k - 1, by omega⟩
    rw [malthouseref18_Light.l0]
    by_cases hi : i < l.length
    · rw [if_pos (by omega), if_pos (by omega), rd_e l i hi, wrapS i (by omega), List.drop_eq_getElem_cons hi, List.all_cons]
      by_cases hs : l[i].f3.size ≤ 200
      · rw [if_neg (by omega), ih (i + 1) k (by omega) (by omega) (by omega), show shortE l[i] = true from by unfold shortE; simpa using hs, Bool.true_and]
      · rw [if_pos (by omega), show shortE l[i] = false from by unfold shortE; simpa using hs, Bool.false_and]
    · rw [if_neg (by omega), List.drop_eq_nil_of_le (by omega)]
      rfl
theorem light_is (l : List S27) (q : List S35) (g : Int) (k : Nat) (hk : 302 < k) : malthouseref18_Light.f k l q g = some (lightB l q) := by
  obtain ⟨k, rfl⟩ : ∃ m, k = m + 1 := ⟨k - 1, by omega⟩
  unfold malthouseref18_Light.f lightB
  by_cases h : l.length ≤ 300
  · rw [if_neg (by omega), malthouseref18_Light.j0]
    by_cases h2 : q.length ≤ 300
    · have := light_loop l q g (by omega) l.length 0 k (by omega) (by omega) (by omega)
      rw [if_neg (by simp; omega), show decide (l.length ≤ 300) = true by simpa using h, show decide (q.length ≤ 300) = true by simpa using h2]
      simpa using this
    · rw [if_pos (by simp; omega), show decide (q.length ≤ 300) = false by simpa using h2]
      simp
  · rw [if_pos (by omega), malthouseref18_Light.j0, if_pos rfl, show decide (l.length ≤ 300) = false by simpa using h]
    simp
theorem lightB_ok {l : List S27} {q : List S35} (g : Int) (h : lightB l q = true) : Jok ⟨l, q, g⟩ ∧ l.length ≤ 300 ∧ q.length ≤ 300 ∧ ∀ e ∈ l, e.f3.size ≤ 200 := by
  unfold lightB at h
  simp only [Bool.and_eq_true, decide_eq_true_eq, List.all_eq_true] at h
  obtain ⟨⟨h1, h2⟩, h3⟩ := h
  have h4 : ∀ e ∈ l, e.f3.size ≤ 200 := fun e he => by have := h3 e he; unfold shortE at this; simpa using this
  exact ⟨⟨fun e he => by have := h4 e he; omega, by show l.length ≤ _; omega, by show q.length ≤ _; omega⟩, h1, h2, h4⟩
theorem entries_loop (l : List S27) (hl : l.length ≤ 1000000000) : ∀ (f i k : Nat), l.length ≤ i + f → i ≤ l.length → f < k → malthouseref18_Entries.l0 k l l (i : Int) = some true := by
  intro f
  induction f with
  | zero =>
    intro i k h1 h2 hk
    obtain ⟨k, rfl⟩ : ∃ m, k = m + 1 := ⟨k - 1, by omega⟩
    rw [malthouseref18_Entries.l0, if_neg (by omega)]
  | succ f ih =>
    intro i k h1 h2 hk
    obtain ⟨k, rfl⟩ : ∃ m, k = m + 1 := ⟨k - 1, by omega⟩
    rw [malthouseref18_Entries.l0]
    by_cases hi : i < l.length
    · rw [if_pos (by omega), if_pos (by omega), if_pos (by omega), wrapS i (by omega), if_neg (by simp), ih (i + 1) k (by omega) (by omega) (by omega)]
    · rw [if_neg (by omega)]
theorem entries_refl (l : List S27) (k : Nat) (hl : l.length ≤ 1000000000) (hk : l.length < k) : malthouseref18_Entries.f k l l = some true := by
  unfold malthouseref18_Entries.f
  rw [if_pos rfl]
  have := entries_loop l hl l.length 0 k (by omega) (by omega) (by omega)
  simpa using this
theorem same_loop (l : List S27) (q : List S35) (g : Int) (hl : l.length ≤ 1000000000) (hq : q.length ≤ 1000000000) : ∀ (f i k : Nat), q.length ≤ i + f → i ≤ q.length → l.length + f + 1 < k → malthouseref18_Same.l0 k (i : Int) l q g l q g = some true := by
  intro f
  induction f with
  | zero =>
    intro i k h1 h2 hk
    obtain ⟨k, rfl⟩ : ∃ m, k = m + 1 := ⟨k - 1, by omega⟩
    rw [malthouseref18_Same.l0, if_neg (by omega), entries_refl l k hl (by omega)]
    rfl
  | succ f ih =>
    intro i k h1 h2 hk
    obtain ⟨k, rfl⟩ : ∃ m, k = m + 1 := ⟨k - 1, by omega⟩
    rw [malthouseref18_Same.l0]
    by_cases hi : i < q.length
    · rw [if_pos (by omega), if_pos (by omega), if_pos (by omega), wrapS i (by omega), if_neg (by simp), ih (i + 1) k (by omega) (by omega) (by omega)]
    · rw [if_neg (by omega), entries_refl l k hl (by omega)]
      rfl
theorem same_refl (l : List S27) (q : List S35) (g : Int) (k : Nat) (hl : l.length ≤ 1000000000) (hq : q.length ≤ 1000000000) (hk : l.length + q.length + 2 < k) : malthouseref18_Same.f k l q g l q g = some true := by
  obtain ⟨k, rfl⟩ : ∃ m, k = m + 1 := ⟨k - 1, by omega⟩
  unfold malthouseref18_Same.f
  rw [if_pos rfl, malthouseref18_Same.j0, if_neg (by simp)]
  have := same_loop l q g hl hq q.length 0 k (by omega) (by omega) (by omega)
  simpa using this
def shortO (o : S43) : Bool := decide (o.f2.f3.size ≤ 200)
theorem few_loop (l : List S43) (hl : l.length ≤ 1000000000) : ∀ (f i k : Nat), l.length ≤ i + f → i ≤ l.length → f < k → malthouselaw18_few.l0 k l (i : Int) = some ((l.drop i).all shortO) := by
  intro f
  induction f with
  | zero =>
    intro i k h1 h2 hk
    obtain ⟨k, rfl⟩ : ∃ m, k = m + 1 := ⟨k - 1, by omega⟩
    rw [malthouselaw18_few.l0, if_neg (by omega), List.drop_eq_nil_of_le (by omega)]
    rfl
  | succ f ih =>
    intro i k h1 h2 hk
    obtain ⟨k, rfl⟩ : ∃ m, k = m + 1 := ⟨k - 1, by omega⟩
    rw [malthouselaw18_few.l0]
    by_cases hi : i < l.length
    · rw [if_pos (by omega), if_pos (by omega), rd_o l i hi, wrapS i (by omega), List.drop_eq_getElem_cons hi, List.all_cons]
      by_cases hs : l[i].f2.f3.size ≤ 200
      · rw [if_neg (by omega), ih (i + 1) k (by omega) (by omega) (by omega), show shortO l[i] = true from by unfold shortO; simpa using hs, Bool.true_and]
      · rw [if_pos (by omega), show shortO l[i] = false from by unfold shortO; simpa using hs, Bool.false_and]
    · rw [if_neg (by omega), List.drop_eq_nil_of_le (by omega)]
      rfl
def fewB (l : List S43) : Bool := decide (l.length ≤ 200) && l.all shortO
theorem few_is (l : List S43) (k : Nat) (hk : 202 < k) : malthouselaw18_few.f k l 200 = some (fewB l) := by
  unfold malthouselaw18_few.f fewB
  by_cases h : l.length ≤ 200
  · have := few_loop l (by omega) l.length 0 k (by omega) (by omega) (by omega)
    rw [if_neg (by omega), show decide (l.length ≤ 200) = true by simpa using h]
    simpa using this
  · rw [if_pos (by omega), show decide (l.length ≤ 200) = false by simpa using h, Bool.false_and]
def keep (b : Int) (x : S27) : Bool := decide (x.f1 = b)
theorem parts_l1 (l : List S27) (q : List S35) (g : Int) (i : Nat) (hi : i < l.length) (hl : l.length ≤ 1000) : ∀ (f j k : Nat), l.length = j + f → f < k → (∀ r, r + 1 + f = k → malthouselaw18_JournalParts.l0 r ((i + 1 : Nat) : Int) l q g = some true) →
    malthouselaw18_JournalParts.l1 k (i : Int) (l.filter (keep l[i].f1)) ((((l.take j).filter (keep l[i].f1)).length : Nat) : Int) (j : Int) l q g = some true := by
  intro f
  induction f with
  | zero =>
    intro j k h1 hk hn
    obtain ⟨k, rfl⟩ : ∃ m, k = m + 1 := ⟨k - 1, by omega⟩
    obtain rfl : j = l.length := by omega
    rw [malthouselaw18_JournalParts.l1, if_neg (by omega), List.take_length, if_pos rfl, wrapS i (by omega)]
    exact hn k (by omega)
  | succ f ih =>
    intro j k h1 hk hn
    obtain ⟨k, rfl⟩ : ∃ m, k = m + 1 := ⟨k - 1, by omega⟩
    have hj : j < l.length := by omega
    · have htk : l.take (j + 1) = l.take j ++ [l[j]] := by rw [List.take_succ_eq_append_getElem hj]
      have hfl : l.filter (keep l[i].f1) = (l.take j).filter (keep l[i].f1) ++ (l.drop j).filter (keep l[i].f1) := by rw [← List.filter_append, List.take_append_drop]
      rw [malthouselaw18_JournalParts.l1, if_pos (by omega), if_pos (by omega), if_pos (by omega), if_pos (by omega), rd_e l j hj, rd_e l i hi, wrapS j (by omega)]
      have hlen : ((l.take j).filter (keep l[i].f1)).length ≤ 1000 := Nat.le_trans (List.length_filter_le _ _) (by simp; omega)
      by_cases hb : l[j].f1 = l[i].f1
      · have hkp : keep l[i].f1 l[j] = true := by unfold keep; simpa using hb
        have hdr : (l.drop j).filter (keep l[i].f1) = l[j] :: (l.drop (j + 1)).filter (keep l[i].f1) := by
          rw [List.drop_eq_getElem_cons hj, List.filter_cons_of_pos hkp]
        have hlt : ((l.take j).filter (keep l[i].f1)).length < (l.filter (keep l[i].f1)).length := by rw [hfl, hdr, List.length_append, List.length_cons]; omega
        have hat : (l.filter (keep l[i].f1))[((l.take j).filter (keep l[i].f1)).length] = l[j] := by
          have h9 : (l.filter (keep l[i].f1))[((l.take j).filter (keep l[i].f1)).length]? = some l[j] := by
            rw [hfl, List.getElem?_append_right (Nat.le_refl _), Nat.sub_self, hdr]; rfl
          rw [List.getElem?_eq_getElem hlt] at h9
          exact Option.some.inj h9
        have hnx : ((l.take (j + 1)).filter (keep l[i].f1)).length = ((l.take j).filter (keep l[i].f1)).length + 1 := by
          rw [htk, List.filter_append, List.filter_cons_of_pos hkp]; simp
        rw [if_pos hb, if_neg (by omega), if_pos (by omega), if_pos (by omega), rd_e _ _ hlt, hat, if_neg (by simp), wrapS _ (by omega), ← hnx]
        exact ih (j + 1) k (by omega) (by omega) (fun r hr => hn r (by omega))
      · have hkp : ¬ keep l[i].f1 l[j] = true := by unfold keep; simpa using hb
        have hnx : ((l.take (j + 1)).filter (keep l[i].f1)).length = ((l.take j).filter (keep l[i].f1)).length := by
          rw [htk, List.filter_append, List.filter_cons_of_neg hkp]; simp
        rw [if_neg hb, ← hnx]
        exact ih (j + 1) k (by omega) (by omega) (fun r hr => hn r (by omega))
theorem parts_l0 (l : List S27) (q : List S35) (g : Int) (hok : namesOk l ∧ l.length ≤ 1000000000 ∧ q.length ≤ 1000000000) (hr : rightJ l q g = true) (hl : l.length ≤ 1000) : ∀ (f i k : Nat), l.length = i + f → f * (l.length + 2) < k → malthouselaw18_JournalParts.l0 k (i : Int) l q g = some true := by
  intro f
  induction f with
  | zero =>
    intro i k h1 hk
    obtain ⟨k, rfl⟩ : ∃ m, k = m + 1 := ⟨k - 1, by omega⟩
    rw [malthouselaw18_JournalParts.l0, if_neg (by omega)]
  | succ f ih =>
    intro i k h1 hk
    rw [Nat.add_mul] at hk
    obtain ⟨k, rfl⟩ : ∃ m, k = m + 1 := ⟨k - 1, by omega⟩
    have hi : i < l.length := by omega
    have ho : journal_Of.f l q g l[i].f1 = some (l.filter (keep l[i].f1)) := by
      unfold journal_Of.f
      rw [if_pos hok]
      unfold ofJ keep
      rw [if_neg (by rw [hr]; simp)]
    rw [malthouselaw18_JournalParts.l0, if_pos (by omega), if_pos (by omega), rd_e l i hi, ho]
    show malthouselaw18_JournalParts.l1 k (i : Int) (l.filter (keep l[i].f1)) 0 0 l q g = some true
    have := parts_l1 l q g i hi hl l.length 0 k (by omega) (by omega) (fun r hr => ih (i + 1) r (by omega) (by omega))
    simpa using this
theorem parts_law (l : List S27) (q : List S35) (g : Int) : malthouselaw18_JournalParts.f 1000000 l q g = some true := by
  unfold malthouselaw18_JournalParts.f
  rw [light_is l q g _ (by omega)]
  show (if lightB l q = true then _ else malthouselaw18_JournalParts.j0 1000000 true true l q g) = some true
  cases h : lightB l q
  · rw [if_neg (by simp), malthouselaw18_JournalParts.j0, if_pos rfl]
  · obtain ⟨hok, h1, h2, _⟩ := lightB_ok g h
    rw [if_pos rfl]
    have hri : journal_Right.f l q g = some (rightJ l q g) := if_pos hok
    rw [hri]
    show malthouselaw18_JournalParts.j0 1000000 true (!rightJ l q g) l q g = some true
    rw [malthouselaw18_JournalParts.j0]
    cases hr : rightJ l q g
    · rfl
    · rw [if_neg (by simp)]
      have h3 : l.length * (l.length + 2) ≤ 300 * 302 := Nat.mul_le_mul h1 (by omega)
      have := parts_l0 l q g hok hr (by omega) l.length 0 999999 (by omega) (by omega)
      simpa using this
end Go.Proofs.YtghpmpjoedbpcaaDoor.Print
/-! ### JLaw2 -/
namespace Go.Proofs.YtghpmpjoedbpcaaDoor.Print
open Go.RowKit Go.Proofs.YtghpmpjoedbpcaaDoorW.PrintWords Go.Proofs.YtghpmpjoedbpcaaDoorW.PrintLast Go.Proofs.YtghpmpjoedbpcaaDoorW.PrintMore
set_option linter.unusedSimpArgs false
set_option linter.unusedVariables false
structure NoteOk (j R : Jn) (err b : Int) (D : Nat → Int) : Prop where
  e0 : err = 0
  hl : R.l = j.l
  hg : R.g = j.g
  hq : R.q.length = j.q.length
  d0 : D 0 = 0
  ds : ∀ i, i < j.q.length → D (i + 1) = D i + ((qAt R.q i).f2 - (qAt j.q i).f2)
  f0 : ∀ i, i < j.q.length → (qAt R.q i).f0 = (qAt j.q i).f0
  f1 : ∀ i, i < j.q.length → (qAt R.q i).f1 = (qAt j.q i).f1
  fd : ∀ i, i < j.q.length → (qAt R.q i).f2 - (qAt j.q i).f2 ≠ 0 → (qAt j.q i).f0 = b
  db : ∀ i, 0 ≤ D i ∧ D i ≤ 1
  lo : ∀ i, i < j.q.length → 0 ≤ (qAt j.q i).f2 ∧ (qAt j.q i).f2 ≤ 1099511627776
  lo2 : ∀ i, i < j.q.length → 0 ≤ (qAt R.q i).f2 ∧ (qAt R.q i).f2 ≤ 1099511627776
theorem qAt_get {q : List S35} {i : Nat} (h : i < q.length) : qAt q i = q[i] := by unfold qAt; simp [List.getD_eq_getElem?_getD, List.getElem?_eq_getElem h]
theorem qAt_set (q : List S35) (p i : Nat) (y : S35) (hp : p < q.length) : qAt (q.set p y) i = if p = i then y else qAt q i := by
  unfold qAt
  simp only [List.getD_eq_getElem?_getD, List.getElem?_set]
  split
  · rename_i h; subst h; simp [hp]
  · rfl
theorem placeB_at {q : List S35} {n : Int} (h : placeB q n = true) : (qAt q (placeI q n)).f0 = n := by
  have hlt := placeB_lt h
  rw [qAt_get hlt]
  unfold placeB at h
  rw [List.drop_eq_getElem_cons hlt] at h
  simpa using h
theorem note_ok (j : Jn) (e : S27) (h : (addJ j e).2 = 180) : ∃ D, NoteOk j (noteJ j e).1 (noteJ j e).2 e.f1 D := by
  obtain ⟨hr, hst⟩ := add_full h
  obtain ⟨hL, hBt, hRi, hG, hU, hE9, hOd⟩ := right_parts hr
  have hlo : ∀ i, i < j.q.length → 0 ≤ (qAt j.q i).f2 ∧ (qAt j.q i).f2 ≤ 1099511627776 := fun i hi => by
    rw [qAt_get hi]; exact odd_lost hOd _ (List.getElem_mem hi)
  unfold noteJ
  rw [if_pos h]
  cases hp : placeB j.q e.f1
  · rw [if_neg (by simp)]
    exact ⟨fun _ => 0, rfl, rfl, rfl, rfl, rfl, fun i hi => by simp, fun i hi => rfl, fun i hi => rfl, fun i hi hd => absurd (Int.sub_self _) hd, fun i => by omega, hlo, hlo⟩
  · rw [if_pos rfl]
    have hlt := placeB_lt hp
    have hat := placeB_at hp
    generalize placeI j.q e.f1 = p at *
    have hset : ∀ i, qAt (lostAt j.q p) i = if p = i then ⟨(qAt j.q p).f0, (qAt j.q p).f1, mn ((qAt j.q p).f2 + 1) 1099511627776⟩ else qAt j.q i := fun i => by unfold lostAt; exact qAt_set _ _ _ _ hlt
    have hm : mn ((qAt j.q p).f2 + 1) 1099511627776 - (qAt j.q p).f2 = 0 ∨ mn ((qAt j.q p).f2 + 1) 1099511627776 - (qAt j.q p).f2 = 1 := by
      have := hlo p hlt
      unfold mn; split <;> omega
    refine ⟨fun i => if p < i then mn ((qAt j.q p).f2 + 1) 1099511627776 - (qAt j.q p).f2 else 0, rfl, rfl, rfl, by show (lostAt j.q p).length = _; unfold lostAt; rw [List.length_set], by simp, ?_, ?_, ?_, ?_, ?_, hlo, ?_⟩
    · intro i hi
      show (if p < i + 1 then _ else _) = (if p < i then _ else _) + ((qAt (lostAt j.q p) i).f2 - (qAt j.q i).f2)
      rw [hset]
      by_cases h1 : p = i
      · subst h1; rw [if_pos (by omega), if_neg (by omega), if_pos rfl]; simp
      · rw [if_neg h1]
        by_cases h2 : p < i
        · rw [if_pos (by omega), if_pos h2]; omega
        · rw [if_neg (by omega), if_neg h2]; omega
    · intro i hi
      show (qAt (lostAt j.q p) i).f0 = _
      rw [hset]; split
      · rename_i h1; rw [← h1]
      · rfl
    · intro i hi
      show (qAt (lostAt j.q p) i).f1 = _
      rw [hset]; split
      · rename_i h1; rw [← h1]
      · rfl
    · intro i hi
      show (qAt (lostAt j.q p) i).f2 - _ ≠ 0 → _
      rw [hset]; split
      · rename_i h1; subst h1; intro _; exact hat
      · intro hd; exact absurd (Int.sub_self _) hd
    · intro i
      show 0 ≤ (if p < i then _ else _) ∧ (if p < i then _ else _) ≤ 1
      split
      · omega
      · omega
    · intro i hi
      show 0 ≤ (qAt (lostAt j.q p) i).f2 ∧ _
      rw [hset]; split
      · have := hlo p hlt
        show 0 ≤ mn _ _ ∧ mn _ _ ≤ _
        unfold mn; split <;> omega
      · exact hlo i hi
theorem add_len (j : Jn) (e : S27) (h0 : j.l.length ≤ 300) (h1 : j.q.length ≤ 300) : (addJ j e).1.l.length ≤ 301 ∧ (addJ j e).1.q.length ≤ 301 := by
  unfold addJ
  split
  · exact ⟨Nat.zero_le _, Nat.zero_le _⟩
  · split
    · split
      · exact ⟨Nat.zero_le _, Nat.zero_le _⟩
      · show (j.l ++ [e]).length ≤ 301 ∧ (lessAt j.q _).length ≤ 301
        unfold lessAt
        rw [List.length_set, List.length_append]
        simp
        omega
    · split
      · exact ⟨Nat.zero_le _, Nat.zero_le _⟩
      · show (j.l ++ [e]).length ≤ 301 ∧ j.q.length ≤ 301
        rw [List.length_append]
        simp
        omega
end Go.Proofs.YtghpmpjoedbpcaaDoor.Print
/-! ### RdKd -/
namespace Go.Proofs.YtghpmpjoedbpcaaDoor
open Go.RowKit Go.Proofs.YtghpmpjoedbpcaaDoorW.PrintWords
/-- A row that came in, its elements turned. -/
theorem C_of_row {α β : Type} {n : Nat} {R : Rd α} {d : Kd β} (g : α → β) {w : World} {A : Option Addr} {xs : List α} (hn : d.sz = n) (hm : xs.length ≤ 9223372036854775807) (hx : rdRow n R w A xs) (hc : ∀ es x, es.length = n → R w es x → d.K w (g x) es) :
    Kd.C d w A (xs.map g).length (xs.map g) := by
  subst hn
  refine ⟨rfl, by rw [List.length_map]; omega, fun h0 => ?_⟩
  rw [List.length_map] at h0
  obtain ⟨ad, es, hA, _, _, _⟩ := hx 0 _ (List.getElem?_eq_getElem h0)
  refine ⟨ad, hA, fun j p hj => ?_⟩
  rw [List.getElem?_map] at hj
  cases hx' : xs[j]? with
  | none => rw [hx'] at hj; simp at hj
  | some x =>
    rw [hx'] at hj
    obtain rfl := Option.some.inj hj
    obtain ⟨ad', es', hA', hl, hcs, hR⟩ := hx j x hx'
    obtain rfl := Option.some.inj (hA.symm.trans hA')
    refine ⟨es', hl, hc es' x hl hR, fun i u hu => ?_⟩
    have := hcs i u hu
    rwa [Go.Deep.add_add] at this
theorem len3 {es : List Value} (h : es.length = 3) : ∃ a b c, es = [a, b, c] := by match es, h with | [a, b, c], _ => exact ⟨a, b, c, rfl⟩
theorem len6 {es : List Value} (h : es.length = 6) : ∃ a b c d e f, es = [a, b, c, d, e, f] := by match es, h with | [a, b, c, d, e, f], _ => exact ⟨a, b, c, d, e, f, rfl⟩
end Go.Proofs.YtghpmpjoedbpcaaDoor
/-! ### JIn -/
namespace Go.Proofs.YtghpmpjoedbpcaaDoor.Print
open Go.RowKit Go.Proofs.YtghpmpjoedbpcaaDoorW.PrintWords Go.Proofs.YtghpmpjoedbpcaaDoorW.PrintLast Go.Proofs.YtghpmpjoedbpcaaDoorW.PrintMore
set_option linter.unusedSimpArgs false
set_option linter.unusedVariables false
abbrev EntR := Int × Int × Int × ByteArray × Int × Int × Unit
def rEnt : Rd EntR := rdPair 1 (rdInt .i64) (rdPair 1 (rdInt .i64) (rdPair 1 (rdInt .i64) (rdPair 1 rdStr (rdPair 1 (rdInt .i64) (rdPair 1 (rdInt .i64) rdUnit)))))
def gEnt (x : EntR) : S27 := ⟨x.1, x.2.1, x.2.2.1, x.2.2.2.1, x.2.2.2.2.1, x.2.2.2.2.2.1⟩
abbrev QuoR := Int × Int × Int × Unit
def rQuo : Rd QuoR := rdPair 1 (rdInt .i64) (rdPair 1 (rdInt .i64) (rdPair 1 (rdInt .i64) rdUnit))
def gQuo (x : QuoR) : S35 := ⟨x.1, x.2.1, x.2.2.1⟩
abbrev OpR := Int × Int × EntR × Unit
def rOp : Rd OpR := rdPair 1 (rdInt .i64) (rdPair 1 (rdInt .i64) (rdPair 6 rEnt rdUnit))
def gOp (x : OpR) : S43 := ⟨x.1, x.2.1, gEnt x.2.2.1⟩
abbrev JnR := List EntR × List QuoR × Int × Unit
def rJn : Rd JnR := rdPair 1 (rdSl 6 56 rEnt) (rdPair 1 (rdSl 3 24 rQuo) (rdPair 1 (rdInt .i64) rdUnit))
section
variable {H : Type} (enc : TypeId × Value → H) (w : World)
theorem ent_opens : Opens enc Tryd.prog w 27 rEnt := opens_struct Tryd.underlying27 (opens_cons rfl (by kernel_rfl) (opens_int Tryd.underlying3) (opens_cons rfl (by kernel_rfl) (opens_int Tryd.underlying3) (opens_cons rfl (by kernel_rfl) (opens_int Tryd.underlying3) (opens_cons rfl (by kernel_rfl) (opens_str Tryd.underlying9) (opens_cons rfl (by kernel_rfl) (opens_int Tryd.underlying3) (opens_cons rfl (by kernel_rfl) (opens_int Tryd.underlying3) opens_nil))))))
theorem quo_opens : Opens enc Tryd.prog w 35 rQuo := opens_struct Tryd.underlying35 (opens_cons rfl (by kernel_rfl) (opens_int Tryd.underlying3) (opens_cons rfl (by kernel_rfl) (opens_int Tryd.underlying3) (opens_cons rfl (by kernel_rfl) (opens_int Tryd.underlying3) opens_nil)))
theorem op_opens : Opens enc Tryd.prog w 43 rOp := opens_struct Tryd.underlying43 (opens_cons rfl (by kernel_rfl) (opens_int Tryd.underlying3) (opens_cons rfl (by kernel_rfl) (opens_int Tryd.underlying3) (opens_cons rfl (by kernel_rfl) (ent_opens enc w) opens_nil)))
theorem ops_opens : Opens enc Tryd.prog w 39 (rdSl 8 72 rOp) := opens_sl Tryd.underlying39 (by kernel_rfl) (by kernel_rfl) (op_opens enc w)
theorem jn_opens : Opens enc Tryd.prog w 25 rJn := opens_struct Tryd.underlying25 (opens_cons rfl (by kernel_rfl) (opens_sl Tryd.underlying22 (by kernel_rfl) (by kernel_rfl) (ent_opens enc w)) (opens_cons rfl (by kernel_rfl) (opens_sl Tryd.underlying23 (by kernel_rfl) (by kernel_rfl) (quo_opens enc w)) (opens_cons rfl (by kernel_rfl) (opens_int Tryd.underlying3) opens_nil)))
end
theorem ent_es {w : World} {es : List Value} {x : EntR} (hl : es.length = 6) (h : rEnt w es x) : es = [.int .i64 x.1, .int .i64 x.2.1, .int .i64 x.2.2.1, .string x.2.2.2.1, .int .i64 x.2.2.2.2.1, .int .i64 x.2.2.2.2.2.1] := by
  obtain ⟨a, b, c, d, e, f, rfl⟩ := len6 hl
  obtain ⟨⟨h1, _⟩, ⟨h2, _⟩, ⟨h3, _⟩, ⟨h4, _⟩, ⟨h5, _⟩, ⟨h6, _⟩, _⟩ := h
  simp at h1 h2 h3 h4 h5 h6
  subst h1 h2 h3 h4 h5 h6
  rfl
theorem ent_K {w : World} {es : List Value} {x : EntR} (hl : es.length = 6) (h : rEnt w es x) : k27.K w (gEnt x) es := by
  rw [ent_es hl h]
  exact k27_mk w (gEnt x)
theorem quo_K {w : World} {es : List Value} {x : QuoR} (hl : es.length = 3) (h : rQuo w es x) : k35.K w (gQuo x) es := by
  obtain ⟨a, b, c, rfl⟩ := len3 hl
  obtain ⟨⟨h1, _⟩, ⟨h2, _⟩, ⟨h3, _⟩, _⟩ := h
  simp at h1 h2 h3
  subst h1 h2 h3
  exact k35_mk w (gQuo x)
theorem op_es {w : World} {es : List Value} {x : OpR} (hl : es.length = 8) (h : rOp w es x) : es = [.int .i64 x.1, .int .i64 x.2.1, .int .i64 x.2.2.1.1, .int .i64 x.2.2.1.2.1, .int .i64 x.2.2.1.2.2.1, .string x.2.2.1.2.2.2.1, .int .i64 x.2.2.1.2.2.2.2.1, .int .i64 x.2.2.1.2.2.2.2.2.1] := by
  obtain ⟨⟨h1, _⟩, ⟨h2, _⟩, h3, _⟩ := h
  have h4 := ent_es (by simp; omega) h3
  match es, hl with
  | [a, b, c, d, e, f, g, i], _ =>
    simp at h1 h2 h4
    obtain ⟨e1, e2, e3, e4, e5, e6⟩ := h4
    subst h1 h2 e1 e2 e3 e4 e5 e6
    rfl
theorem op_K {w : World} {es : List Value} {x : OpR} (hl : es.length = 8) (h : rOp w es x) : k43.K w (gOp x) es := by
  rw [op_es hl h]
  exact k43_mk w (gOp x)
theorem C_ents {w : World} {A : Option Addr} {xs : List EntR} (hm : xs.length ≤ 9223372036854775807) (hx : rdRow 6 rEnt w A xs) : Kd.C k27 w A (xs.map gEnt).length (xs.map gEnt) := C_of_row gEnt rfl hm hx (fun _ _ hl h => ent_K hl h)
theorem C_quos {w : World} {A : Option Addr} {xs : List QuoR} (hm : xs.length ≤ 9223372036854775807) (hx : rdRow 3 rQuo w A xs) : Kd.C k35 w A (xs.map gQuo).length (xs.map gQuo) := C_of_row gQuo rfl hm hx (fun _ _ hl h => quo_K hl h)
theorem C_ops {w : World} {A : Option Addr} {xs : List OpR} (hm : xs.length ≤ 9223372036854775807) (hx : rdRow 8 rOp w A xs) : Kd.C k43 w A (xs.map gOp).length (xs.map gOp) := C_of_row gOp rfl hm hx (fun _ _ hl h => op_K hl h)
/-- A journal that came in. -/
theorem jn_in {w : World} {cs : Array Value} {x : JnR} (hz : cs.size = 3) (h : rJn w cs.toList x) : ∃ A0 c0 A1 c1, cs = #[.slice A0 (x.1.map gEnt).length c0, .slice A1 (x.2.1.map gQuo).length c1, .int .i64 x.2.2.1] ∧ ((x.1.map gEnt).length ≤ c0 ∧ Kd.C k27 w A0 (x.1.map gEnt).length (x.1.map gEnt)) ∧ ((x.2.1.map gQuo).length ≤ c1 ∧ Kd.C k35 w A1 (x.2.1.map gQuo).length (x.2.1.map gQuo)) := by
  obtain ⟨⟨A0, c0, e1, hl1, _, hm1, hr1⟩, ⟨A1, c1, e2, hl2, _, hm2, hr2⟩, ⟨e3, _⟩, _⟩ := h
  obtain ⟨a, b, c, e⟩ := len3 (es := cs.toList) (by simpa using hz)
  rw [e] at e1 e2 e3
  simp at e1 e2 e3
  subst e1 e2 e3
  rw [List.length_map, List.length_map]
  have k1 := C_ents (by omega) hr1
  have k2 := C_quos (by omega) hr2
  rw [List.length_map] at k1 k2
  exact ⟨A0, c0, A1, c1, Array.toList_inj.1 e, ⟨hl1, k1⟩, hl2, k2⟩
/-- An entry, an operation that came in. -/
theorem ent_in {w : World} {cs : Array Value} {x : EntR} (hz : cs.size = 6) (h : rEnt w cs.toList x) : cs = #[.int .i64 (gEnt x).f0, .int .i64 (gEnt x).f1, .int .i64 (gEnt x).f2, .string (gEnt x).f3, .int .i64 (gEnt x).f4, .int .i64 (gEnt x).f5] :=
  Array.toList_inj.1 (ent_es (by simpa using hz) h)
end Go.Proofs.YtghpmpjoedbpcaaDoor.Print
/-! ### JWalk2 -/
namespace Go.Proofs.YtghpmpjoedbpcaaDoor.Print
open Go.RowKit Go.Proofs.YtghpmpjoedbpcaaDoorW.PrintWords Go.Proofs.YtghpmpjoedbpcaaDoorW.PrintLast Go.Proofs.YtghpmpjoedbpcaaDoorW.PrintMore
set_option linter.unusedSimpArgs false
set_option linter.unusedVariables false
theorem q_cells {w : World} {A : Option Addr} {q : List S35} (h : Kd.C k35 w A q.length q) (i : Nat) (hi : i < q.length) : ∃ ad, A = some ad ∧ w.cell? (ad.add (i * 3)) = some (.int .i64 (qAt q i).f0) ∧ w.cell? ⟨(ad.add (i * 3)).block, (ad.add (i * 3)).off + 1, none⟩ = some (.int .i64 (qAt q i).f1) ∧ w.cell? ⟨(ad.add (i * 3)).block, (ad.add (i * 3)).off + 2, none⟩ = some (.int .i64 (qAt q i).f2) := by
  obtain ⟨ad, h1, hcs⟩ := C_q_at h i hi
  rw [← qAt_get hi] at hcs
  refine ⟨ad, h1, by have := hcs 0 _ rfl; rwa [Go.Deep.add_add, Nat.add_zero] at this, ?_, ?_⟩
  · rw [← add_field _ _ 1 (by omega)]; have := hcs 1 _ rfl; rwa [Go.Deep.add_add] at this
  · rw [← add_field _ _ 2 (by omega)]; have := hcs 2 _ rfl; rwa [Go.Deep.add_add] at this
set_option maxHeartbeats 8000000 in
set_option maxRecDepth 100000 in
theorem notes_any (A0 : Option Addr) (c0 : Nat) (A1 : Option Addr) (c1 : Nat) (j : Jn) (e : S27) (w : World) (h0 : j.l.length ≤ c0 ∧ Kd.C k27 w A0 j.l.length j.l) (h1 : j.q.length ≤ c1 ∧ Kd.C k35 w A1 j.q.length j.q) (hT : Tabs w) (he : e.f3.size ≤ 140737488351232) :
    Calls Tryd.prog 3 #[.agg #[.slice A0 j.l.length c0, .slice A1 j.q.length c1, .int .i64 j.g], .agg #[.int .i64 e.f0, .int .i64 e.f1, .int .i64 e.f2, .string e.f3, .int .i64 e.f4, .int .i64 e.f5]] w fun x w' => x = .returned (.bool true) ∧ Below w.heap.size w w' := by
  have HA := Lib.hid h0
  have HB := Lib.hid h1
  have HT := Lib.hid hT
  clear h0 h1 hT
  have HAW := Lib.hid (fun (W : World) (hW : Tabs W) => malthouselaw18_awake.calls true W hW rfl)
  go_enter Tryd.func3, Tryd.ntmps3
  go_wp2_with (go_at_call 8; refine (fun (h : Hid _) => h.out) ?_)
  refine Lib.hid ?_
  have HX0 := Lib.hid (show ((w.alloc (.cells #[.slice A0 j.l.length c0, .slice A1 j.q.length c1, .int .i64 j.g] 25)).alloc (.cells #[.int .i64 e.f0, .int .i64 e.f1, .int .i64 e.f2, .string e.f3, .int .i64 e.f4, .int .i64 e.f5] 27)).heap[w.heap.size]? = some (.cells #[.slice A0 j.l.length c0, .slice A1 j.q.length c1, .int .i64 j.g] 25 (0, 0)) from (Below.heap_alloc _ _ _ (by simp)).trans (heap_alloc_new _ _))
  have HX1 := Lib.hid (show ((w.alloc (.cells #[.slice A0 j.l.length c0, .slice A1 j.q.length c1, .int .i64 j.g] 25)).alloc (.cells #[.int .i64 e.f0, .int .i64 e.f1, .int .i64 e.f2, .string e.f3, .int .i64 e.f4, .int .i64 e.f5] 27)).heap[w.heap.size + 1]? = some (.cells #[.int .i64 e.f0, .int .i64 e.f1, .int .i64 e.f2, .string e.f3, .int .i64 e.f4, .int .i64 e.f5] 27 (0, 0)) from by
    have := heap_alloc_new (w.alloc (.cells #[.slice A0 j.l.length c0, .slice A1 j.q.length c1, .int .i64 j.g] 25)) (.cells #[.int .i64 e.f0, .int .i64 e.f1, .int .i64 e.f2, .string e.f3, .int .i64 e.f4, .int .i64 e.f5] 27)
    rw [show (w.alloc (.cells #[.slice A0 j.l.length c0, .slice A1 j.q.length c1, .int .i64 j.g] 25)).heap.size = w.heap.size + 1 by simp] at this
    exact this)
  have HO0 := Lib.hid (((Only.refl [] w).alloc (.cells #[.slice A0 j.l.length c0, .slice A1 j.q.length c1, .int .i64 j.g] 25)).alloc (.cells #[.int .i64 e.f0, .int .i64 e.f1, .int .i64 e.f2, .string e.f3, .int .i64 e.f4, .int .i64 e.f5] 27))
  generalize (w.alloc (.cells #[.slice A0 j.l.length c0, .slice A1 j.q.length c1, .int .i64 j.g] 25)).alloc (.cells #[.int .i64 e.f0, .int .i64 e.f1, .int .i64 e.f2, .string e.f3, .int .i64 e.f4, .int .i64 e.f5] 27) = W0 at *
  generalize hb : w.heap.size = wb at *
  have HBB := Lib.hid hb
  clear hb
  refine (HAW.out W0 (HT.out.below HO0.out.nil_below)).mono ?_
  rintro x W1 ⟨rfl, hb1⟩
  have HO1 := Lib.hid (HO0.out.trans (Only.of_below hb1))
  have HY0 := Lib.hid ((Only.of_below hb1).heap HX0.out (by simp))
  have HY1 := Lib.hid ((Only.of_below hb1).heap HX1.out (by simp))
  clear hb1 HX0 HX1 HO0 HAW
  have HLI := Lib.hid (malthouseref18_Light.calls 1000 A0 c0 j.l A1 c1 j.q j.g (lightB j.l j.q) W1 (Kd.C_below HA.out.2 HO1.out.nil_below) HA.out.1 (Kd.C_below HB.out.2 HO1.out.nil_below) HB.out.1 (light_is _ _ _ _ (by omega)))
  go_wp2_with (first
    | (with_reducible refine wpList_load_at rfl 25 (.tmp 2) rfl ⟨wb, 0, none⟩ rfl _ _ (cellsAt_row HY0.out) Tryd.underlying25 rfl (by kernel_rfl) ?_)
    | (go_at_call 9; refine HLI.out.mono ?_; rintro x W2 ⟨rfl, hb2⟩; refine (fun (h : Hid _) => h.out) ?_))
  refine Lib.hid ?_
  have HO2 := Lib.hid (HO1.out.trans (Only.of_below hb2))
  have HZ0 := Lib.hid ((Only.of_below hb2).heap HY0.out (by simp))
  have HZ1 := Lib.hid ((Only.of_below hb2).heap HY1.out (by simp))
  clear hb2 HY0 HY1 HO1 HLI
  cases hli : lightB j.l j.q
  · clear hli
    go_wp2
    go_ret
    exact ⟨rfl, HO2.out.nil_below⟩
  obtain ⟨hok, hn0, hn1, hnm⟩ := lightB_ok j.g hli
  have HJ := Lib.hid (show Jok j from hok)
  clear hli hok hnm
  have y3 : W2.cell? ⟨wb + 1, 3, none⟩ = some (.string e.f3) := (cell_of_row W2 (wb + 1) 3 _ _ _ HZ1.out).trans rfl
  by_cases hes : 200 < e.f3.size
  · have hes' : (200 : Int) < e.f3.size := by omega
    go_wp2
    go_ret
    exact ⟨rfl, HO2.out.nil_below⟩
  have hes' : (e.f3.size : Int) ≤ 200 := by omega
  have HAD := Lib.hid (add_calls A0 c0 A1 c1 j e W2 ⟨HA.out.1, Kd.C_below HA.out.2 HO2.out.nil_below⟩ ⟨HB.out.1, Kd.C_below HB.out.2 HO2.out.nil_below⟩ (HT.out.below HO2.out.nil_below) HJ.out (by omega))
  go_wp2_with (first
    | (with_reducible refine wpList_load_at rfl 25 (.tmp 2) rfl ⟨wb, 0, none⟩ rfl _ _ (cellsAt_row HZ0.out) Tryd.underlying25 rfl (by kernel_rfl) ?_)
    | (with_reducible refine wpList_load_at rfl 27 (.tmp 3) rfl ⟨wb + 1, 0, none⟩ rfl _ _ (cellsAt_row HZ1.out) Tryd.underlying27 rfl (by kernel_rfl) ?_)
    | (go_at_call 10; refine HAD.out.mono ?_; rintro x W3 ⟨va, rfl, hja, hb3⟩; refine (fun (h : Hid _) => h.out) ?_))
  refine Lib.hid ?_
  clear y3
  have HJA := Lib.hid hja
  have HO3 := Lib.hid (HO2.out.trans (Only.of_below hb3))
  have HY0 := Lib.hid ((Only.of_below hb3).heap HZ0.out (by simp))
  have HY1 := Lib.hid ((Only.of_below hb3).heap HZ1.out (by simp))
  clear hja hb3 HZ0 HZ1 HO2 HAD
  have HNK : Hid ((addJ j e).2 = 180 → ∃ D, NoteOk j (noteJ j e).1 (noteJ j e).2 e.f1 D) := Lib.hid (note_ok j e)
  have HNE : Hid ((addJ j e).2 ≠ 180 → noteJ j e = addJ j e) := Lib.hid (fun h => if_neg h)
  have HLA : Hid ((addJ j e).1.l.length ≤ 301 ∧ (addJ j e).1.q.length ≤ 301) := Lib.hid (add_len j e hn0 hn1)
  have HNO := Lib.hid (fun W (h0 : Only [] w W) => note_calls A0 c0 A1 c1 j e W ⟨HA.out.1, Kd.C_below HA.out.2 h0.nil_below⟩ ⟨HB.out.1, Kd.C_below HB.out.2 h0.nil_below⟩ (HT.out.below h0.nil_below) HJ.out (by omega))
  generalize addJ j e = RA at *
  generalize noteJ j e = RN at *
  obtain ⟨⟨la, qa, ga⟩, ea⟩ := RA
  obtain ⟨⟨ln, qn, gn⟩, en⟩ := RN
  have hja : JR W3 W2.heap.size va la qa ga := HJA.out
  have HNP : Hid (∀ W, Only [] w W → Calls Tryd.prog 11 #[.agg #[.slice A0 j.l.length c0, .slice A1 j.q.length c1, .int .i64 j.g], .agg #[.int .i64 e.f0, .int .i64 e.f1, .int .i64 e.f2, .string e.f3, .int .i64 e.f4, .int .i64 e.f5]] W fun x w' => ∃ v, x = .returned (.tuple #[v, .int .i64 en]) ∧ JR w' W.heap.size v ln qn gn ∧ Below W.heap.size W w') := HNO
  have HLB : Hid (la.length ≤ 301 ∧ qa.length ≤ 301) := HLA
  have HNL : Hid (ea = 180 → ∃ D, NoteOk j ⟨ln, qn, gn⟩ en e.f1 D) := HNK
  have HNF : Hid (ea ≠ 180 → ((⟨ln, qn, gn⟩ : Jn), en) = ((⟨la, qa, ga⟩ : Jn), ea)) := HNE
  clear HJA HNO HLA HNK HNE
  dsimp only
  obtain ⟨E0, k0, E1, k1, rfl, hE0, hE1⟩ := hja
  have HEA := Lib.hid (And.intro (own_e_reads hE0) (own_q_reads hE1))
  clear hE0 hE1
  have hal : Only [] W3 (W3.alloc (.cells #[.slice E0 la.length k0, .slice E1 qa.length k1, .int .i64 ga] 25)) := (Only.refl [] W3).alloc _
  have HO4 := Lib.hid (HO3.out.trans hal)
  have HZ0 := Lib.hid (hal.heap HY0.out (by simp))
  have HZ1 := Lib.hid (hal.heap HY1.out (by simp))
  have HVA := Lib.hid (heap_alloc_new W3 (.cells #[.slice E0 la.length k0, .slice E1 qa.length k1, .int .i64 ga] 25))
  have HEB := Lib.hid (show (la.length ≤ k0 ∧ Kd.C k27 (W3.alloc (.cells #[.slice E0 la.length k0, .slice E1 qa.length k1, .int .i64 ga] 25)) E0 la.length la) ∧ (qa.length ≤ k1 ∧ Kd.C k35 (W3.alloc (.cells #[.slice E0 la.length k0, .slice E1 qa.length k1, .int .i64 ga] 25)) E1 qa.length qa) from ⟨⟨HEA.out.1.1, Kd.C_below HEA.out.1.2 hal.nil_below⟩, ⟨HEA.out.2.1, Kd.C_below HEA.out.2.2 hal.nil_below⟩⟩)
  clear hal HY0 HY1 HO3 HEA
  go_wp2_with (first
    | (with_reducible refine wpList_load_at rfl 25 (.tmp 2) rfl ⟨wb, 0, none⟩ rfl _ _ (cellsAt_row HZ0.out) Tryd.underlying25 rfl (by kernel_rfl) ?_)
    | (with_reducible refine wpList_load_at rfl 27 (.tmp 3) rfl ⟨wb + 1, 0, none⟩ rfl _ _ (cellsAt_row HZ1.out) Tryd.underlying27 rfl (by kernel_rfl) ?_)
    | (go_at_call 11; refine (fun (h : Hid _) => h.out) ?_))
  refine Lib.hid ?_
  generalize W3.alloc (.cells #[.slice E0 la.length k0, .slice E1 qa.length k1, .int .i64 ga] 25) = W4 at *
  generalize hvb : W3.heap.size = vb at *
  clear hvb
  refine (HNP.out W4 HO4.out).mono ?_
  rintro x W5 ⟨vn, rfl, hjn, hb5⟩
  obtain ⟨F0, m0, F1, m1, rfl, hF0, hF1⟩ := hjn
  have hal : Only [] W5 (W5.alloc (.cells #[.slice F0 ln.length m0, .slice F1 qn.length m1, .int .i64 gn] 25)) := (Only.refl [] W5).alloc _
  have hoo := (Only.of_below hb5).trans hal
  have HO6 := Lib.hid (HO4.out.trans hoo)
  have HY0 := Lib.hid (hoo.heap HZ0.out (by simp))
  have HY1 := Lib.hid (hoo.heap HZ1.out (by simp))
  have HVB := Lib.hid (hoo.heap HVA.out (by simp))
  have HVN := Lib.hid (heap_alloc_new W5 (.cells #[.slice F0 ln.length m0, .slice F1 qn.length m1, .int .i64 gn] 25))
  have HEC := Lib.hid (show (la.length ≤ k0 ∧ Kd.C k27 (W5.alloc (.cells #[.slice F0 ln.length m0, .slice F1 qn.length m1, .int .i64 gn] 25)) E0 la.length la) ∧ (qa.length ≤ k1 ∧ Kd.C k35 (W5.alloc (.cells #[.slice F0 ln.length m0, .slice F1 qn.length m1, .int .i64 gn] 25)) E1 qa.length qa) from ⟨⟨HEB.out.1.1, Kd.C_below HEB.out.1.2 hoo.nil_below⟩, ⟨HEB.out.2.1, Kd.C_below HEB.out.2.2 hoo.nil_below⟩⟩)
  have HFC := Lib.hid (show (ln.length ≤ m0 ∧ Kd.C k27 (W5.alloc (.cells #[.slice F0 ln.length m0, .slice F1 qn.length m1, .int .i64 gn] 25)) F0 ln.length ln) ∧ (qn.length ≤ m1 ∧ Kd.C k35 (W5.alloc (.cells #[.slice F0 ln.length m0, .slice F1 qn.length m1, .int .i64 gn] 25)) F1 qn.length qn) from ⟨own_e_reads (ownsRow_only hF0 hal (by simp)), own_q_reads (ownsRow_only hF1 hal (by simp))⟩)
  clear hal hoo hb5 hF0 hF1 HZ0 HZ1 HVA HO4 HEB HNP
  by_cases h180 : ea = 180
  rotate_left
  · have hne := HNF.out h180
    obtain ⟨hj1, he1⟩ := Prod.mk.inj hne
    obtain ⟨hl1, hq1, hg1⟩ := Jn.mk.inj hj1
    subst hl1 hq1 hg1 he1
    clear hj1 hne
    have HSA := Lib.hid (fun W (hW : Only [] (W5.alloc (.cells #[.slice F0 ln.length m0, .slice F1 qn.length m1, .int .i64 gn] 25)) W) => malthouseref18_Same.calls 10000 E0 k0 ln E1 k1 qn gn F0 m0 ln F1 m1 qn gn true W (Kd.C_below HEC.out.1.2 hW.nil_below) HEC.out.1.1 (Kd.C_below HEC.out.2.2 hW.nil_below) HEC.out.2.1 (Kd.C_below HFC.out.1.2 hW.nil_below) HFC.out.1.1 (Kd.C_below HFC.out.2.2 hW.nil_below) HFC.out.2.1 (same_refl _ _ _ _ (by have := HLB.out.1; omega) (by have := HLB.out.2; omega) (by have := HLB.out; omega)))
    go_wp2_with (first
      | (with_reducible refine wpList_load_at rfl 25 (.tmp 7) rfl ⟨vb, 0, none⟩ rfl _ _ (cellsAt_row HVB.out) Tryd.underlying25 rfl (by kernel_rfl) ?_)
      | (with_reducible refine wpList_load_at rfl 25 (.tmp 9) rfl ⟨W5.heap.size, 0, none⟩ rfl _ _ (cellsAt_row HVN.out) Tryd.underlying25 rfl (by kernel_rfl) ?_)
      | (go_at_call 12; refine (HSA.out _ (Only.refl _ _)).mono ?_; rintro x W7 ⟨rfl, hb7⟩; have HB7 := Lib.hid (Only.of_below hb7); clear hb7))
    go_ret
    exact ⟨by simp, (HO6.out.trans HB7.out).nil_below⟩
  obtain ⟨D, hD⟩ := HNL.out h180
  subst h180
  have HD := Lib.hid hD
  clear hD HNL HNF
  have hel : ln = j.l := HD.out.hl
  have heg : gn = j.g := HD.out.hg
  have he0 : en = 0 := HD.out.e0
  subst hel heg he0
  have hq : qn.length = j.q.length := HD.out.hq
  have HQN := Lib.hid hq
  rw [hq] at HVN HFC HY0 HY1 HO6 ⊢
  clear hq HVB HEC
  have q1 : (W5.alloc (.cells #[.slice F0 j.l.length m0, .slice F1 j.q.length m1, .int .i64 j.g] 25)).cell? ⟨wb, 1, none⟩ = some (.slice A1 j.q.length c1) := (cell_of_row _ wb 1 _ _ _ HY0.out).trans rfl
  have q2 : (W5.alloc (.cells #[.slice F0 j.l.length m0, .slice F1 j.q.length m1, .int .i64 j.g] 25)).cell? ⟨wb, 2, none⟩ = some (.int .i64 j.g) := (cell_of_row _ wb 2 _ _ _ HY0.out).trans rfl
  have n1 : (W5.alloc (.cells #[.slice F0 j.l.length m0, .slice F1 j.q.length m1, .int .i64 j.g] 25)).cell? ⟨W5.heap.size, 1, none⟩ = some (.slice F1 j.q.length m1) := (cell_of_row _ W5.heap.size 1 _ _ _ HVN.out).trans rfl
  have n2 : (W5.alloc (.cells #[.slice F0 j.l.length m0, .slice F1 j.q.length m1, .int .i64 j.g] 25)).cell? ⟨W5.heap.size, 2, none⟩ = some (.int .i64 j.g) := (cell_of_row _ W5.heap.size 2 _ _ _ HVN.out).trans rfl
  go_wp2
  clear q1 q2 n1 n2
  generalize (W5.alloc (.cells #[.slice F0 j.l.length m0, .slice F1 j.q.length m1, .int .i64 j.g] 25)) = W6 at *
  generalize hnb : W5.heap.size = nb at *
  clear hnb
  have HD0 := Lib.hid HD.out.d0
  have HDS := Lib.hid HD.out.ds
  have HDB := Lib.hid HD.out.db
  have HF0 := Lib.hid HD.out.f0
  have HF1 := Lib.hid HD.out.f1
  have HFD := Lib.hid HD.out.fd
  have HLO := Lib.hid HD.out.lo
  have HLO2 := Lib.hid HD.out.lo2
  go_loopw [12, 13, 14] (fun si sj _ wr => ∃ i : Nat, si = .int .i64 (D i) ∧ sj = .int .i64 i ∧ i ≤ j.q.length ∧ Hid (Only [] W6 wr)) (fun _ sj _ _ => j.q.length - (intOf sj).toNat)
  case atStart => exact ⟨0, by rw [HD0.out], rfl, by omega, Lib.hid (Only.refl _ _)⟩
  case round =>
    obtain ⟨i, rfl, rfl, hij, ho⟩ := hrel
    obtain ⟨hd0, hd1⟩ := HDB.out i
    have q1 : wr.cell? ⟨wb, 1, none⟩ = some (.slice A1 j.q.length c1) := (cell_of_row wr wb 1 _ _ _ (ho.out.heap HY0.out (by simp))).trans rfl
    by_cases hlt : i < j.q.length
    · have hlt' : (i : Int) < j.q.length := by omega
      have hi0 : (0 : Int) ≤ i := by omega
      have HSTEP := Lib.hid (HDS.out i hlt)
      have HE0 := Lib.hid (HF0.out i hlt)
      have HE1 := Lib.hid (HF1.out i hlt)
      have HED := Lib.hid (HFD.out i hlt)
      obtain ⟨hl0, hl9⟩ := HLO.out i hlt
      obtain ⟨hm0, hm9⟩ := HLO2.out i hlt
      have hqn : i < qn.length := by rw [HQN.out]; exact hlt
      have HCA := Lib.hid (q_cells (Kd.C_below HB.out.2 (HO6.out.trans ho.out).nil_below) i hlt)
      have hkc : Kd.C k35 W6 F1 qn.length qn := by have := HFC.out.2.2; rwa [← HQN.out] at this
      have HCB := Lib.hid (q_cells (Kd.C_below hkc ho.out.nil_below) i hqn)
      clear hkc hqn
      change Hid (∃ ad, A1 = some ad ∧ _) at HCA
      have HE0' : Hid ((qAt qn i).f0 = (qAt j.q i).f0) := HE0
      have HE1' : Hid ((qAt qn i).f1 = (qAt j.q i).f1) := HE1
      have HED' : Hid ((qAt qn i).f2 - (qAt j.q i).f2 ≠ 0 → (qAt j.q i).f0 = e.f1) := HED
      have HSTEP' : Hid (D (i + 1) = D i + ((qAt qn i).f2 - (qAt j.q i).f2)) := HSTEP
      have hm0 : 0 ≤ (qAt qn i).f2 := hm0
      have hm9 : (qAt qn i).f2 ≤ 1099511627776 := hm9
      clear HE0 HE1 HED HSTEP
      rw [HE0'.out, HE1'.out] at HCB
      clear HE0' HE1'
      generalize (qAt qn i).f2 = x2 at *
      generalize qAt j.q i = x at *
      obtain ⟨ad, rfl, ca0, ca1, ca2⟩ := HCA.out
      obtain ⟨bd, hbd, cb0, cb1, cb2⟩ := HCB.out
      subst hbd
      have HA0 := Lib.hid ca0
      have HA1 := Lib.hid ca1
      have HA2 := Lib.hid ca2
      have HB0 := Lib.hid cb0
      have HB1 := Lib.hid cb1
      have HB2 := Lib.hid cb2
      clear ca0 ca1 ca2 cb0 cb1 cb2 HCA HCB
      have HY1r := Lib.hid (ho.out.heap HY1.out (by simp))
      have HVNr := Lib.hid (ho.out.heap HVN.out (by simp))
      have HY0r := Lib.hid (ho.out.heap HY0.out (by simp))
      go_wp2_with fail
      refine L.grow_start [] 14 ((0, true, false) :: (1, true, false) :: (2, true, false) :: (3, true, false) :: (4, true, false) :: (5, true, false) :: (6, true, false) :: (7, true, false) :: (8, true, true) :: (9, true, true) :: (10, true, true) :: (11, true, true) :: (12, true, true) :: (13, true, true) :: []) (by kernel_rfl) (([], [9], some 80) :: ([0], [80], some 81) :: ([], [13], some 82) :: ([1, 2], [81, 82], some 83) :: ([3], [83], some 84) :: ([4], [84], some 85) :: ([], [2], some 86) :: ([6], [86], some 87) :: ([], [13], some 88) :: ([7, 8], [87, 88], some 89) :: ([9], [89], some 90) :: ([10], [90], some 91) :: ([5, 11], [85, 91], some 92) :: ([12, 0, 1, 2, 3, 4, 5, 6, 7, 8, 9, 10, 11, 12], [92], some 14) :: []) (by kernel_rfl) (by kernel_rfl) (n := 14) rfl (by kernel_rfl) (fun _ _ _ _ _ h => h) (fun wg hog => ?_)
      refine L.growe_start (N := 153) (by rfl) ?_
      have r1 : ∀ w', Only [] wg w' → w'.cell? ⟨wb, 1, none⟩ = some (.slice (some ad) j.q.length c1) := fun w' k => (cell_of_row w' wb 1 _ _ _ ((hog.trans k).heap HY0r.out (by simp))).trans rfl
      have r2 : ∀ w', Only [] wg w' → w'.cell? ⟨nb, 1, none⟩ = some (.slice (some bd) j.q.length m1) := fun w' k => (cell_of_row w' nb 1 _ _ _ ((hog.trans k).heap HVNr.out (by simp))).trans rfl
      have r3 : ∀ w', Only [] wg w' → w'.cell? ⟨(ad.add (i * 3)).block, (ad.add (i * 3)).off + 2, none⟩ = some (.int .i64 x.f2) := fun w' k => (hog.trans k).cell HA2.out (by simp)
      have r4 : ∀ w', Only [] wg w' → w'.cell? ⟨(bd.add (i * 3)).block, (bd.add (i * 3)).off + 2, none⟩ = some (.int .i64 x2) := fun w' k => (hog.trans k).cell HB2.out (by simp)
      clear q1
      have HOG := Lib.hid (ho.out.trans hog)
      have HOR := Lib.hid hog
      clear hog
      iterate 14 (first | (refine L.ge_off rfl rfl rfl (by rfl) ?_) | (refine L.ge_move rfl rfl rfl (by rfl) rfl (by simp [L.evE, L.lk, Act.eval]; rfl) ?_) | (refine L.ge_pick rfl rfl rfl (by rfl) rfl (by simp [L.evE, L.lk, Act.eval]; rfl) (by simp [L.evE, L.lk, Act.eval]; rfl) ?_) | (refine L.ge_val rfl rfl rfl (by rfl) (by intro w' hw'; simp [execOp, L.evE, L.lk, Act.eval]; go_simp; rfl) ?_))
      refine L.ge_done ?_
      simp only [L.puts, Act.put, goInt, List.setIfInBounds_toArray, List.set_cons_zero, List.set_cons_succ]
      clear r1 r2 r3 r4
      have hw : IntKind.i64.wrap (x2 - x.f2) = x2 - x.f2 := by rw [IntKind.wrap_i64]; omega
      rw [hw]
      clear hw
      have hb1 := HDB.out (i + 1)
      rw [HSTEP'.out] at hb1
      generalize x2 - x.f2 = dd at *
      obtain ⟨hs0, hs1⟩ := hb1
      go_wp2_with fail
      by_cases hdd : dd = 0
      · subst hdd
        refine L.grow_start [] 43 ((0, true, false) :: (1, true, false) :: (2, true, false) :: (3, true, false) :: (4, true, false) :: (5, true, false) :: (6, true, false) :: (7, true, false) :: (8, true, true) :: (9, true, true) :: (10, true, true) :: (11, true, true) :: (12, true, true) :: (13, true, true) :: (14, true, false) :: (15, true, false) :: (16, true, false) :: (17, true, false) :: (18, true, false) :: (19, true, false) :: (20, true, false) :: (21, true, false) :: (22, true, true) :: (23, true, true) :: (24, true, true) :: (25, true, true) :: (26, true, true) :: (27, true, true) :: (28, true, true) :: (29, true, true) :: (30, true, true) :: (31, true, true) :: (32, true, false) :: (33, true, false) :: (34, true, false) :: (35, true, false) :: (36, true, false) :: (37, true, false) :: (38, true, true) :: (39, true, true) :: (40, true, true) :: (41, true, true) :: (42, true, true) :: []) (by kernel_rfl) (([], [9], some 93) :: ([0], [93], some 94) :: ([], [13], some 95) :: ([1, 2], [94, 95], some 96) :: ([3], [96], some 97) :: ([4], [97], some 98) :: ([], [2], some 99) :: ([6], [99], some 100) :: ([], [13], some 101) :: ([7, 8], [100, 101], some 102) :: ([9], [102], some 103) :: ([10], [103], some 104) :: ([5, 11], [98, 104], some 105) :: ([12], [105], some 106) :: ([13], [9, 106], some 107) :: ([14, 13], [107, 106], some 108) :: ([13], [13, 106], some 109) :: ([15, 16, 13], [108, 109, 106], some 110) :: ([17, 13], [110, 106], some 111) :: ([18, 13], [111, 106], some 112) :: ([13], [2, 106], some 113) :: ([20, 13], [113, 106], some 114) :: ([13], [13, 106], some 115) :: ([21, 22, 13], [114, 115, 106], some 116) :: ([23, 13], [116, 106], some 117) :: ([24, 13], [117, 106], some 118) :: ([19, 25, 13], [112, 118, 106], some 119) :: ([13, 26], [106, 119], some 120) :: ([27, 13], [120], some 121) :: ([28], [14, 121], some 122) :: ([29, 28], [122, 121], some 123) :: ([30, 28, 28], [123, 121], some 124) :: ([31], [2, 124], some 125) :: ([32, 31], [125, 124], some 126) :: ([31], [13, 124], some 127) :: ([33, 34, 31], [126, 127, 124], some 128) :: ([35, 31], [128, 124], some 129) :: ([36, 31], [129, 124], some 130) :: ([31], [3, 124], some 131) :: ([38, 31], [131, 124], some 132) :: ([37, 39, 31], [130, 132, 124], some 133) :: ([31, 40, 28], [124, 133, 121], some 134) :: ([28, 41], [121, 134], some 135) :: []) (by kernel_rfl) (by kernel_rfl) (n := 43) rfl (by kernel_rfl) (fun _ _ _ _ _ h => h) (fun wg2 hog => ?_)
        refine L.growe_start (N := 153) (by rfl) ?_
        have r1 : ∀ w', Only [] wg2 w' → w'.cell? ⟨wb, 1, none⟩ = some (.slice (some ad) j.q.length c1) := fun w' k => (cell_of_row w' wb 1 _ _ _ (((HOR.out.trans hog).trans k).heap HY0r.out (by simp))).trans rfl
        have r2 : ∀ w', Only [] wg2 w' → w'.cell? ⟨nb, 1, none⟩ = some (.slice (some bd) j.q.length m1) := fun w' k => (cell_of_row w' nb 1 _ _ _ (((HOR.out.trans hog).trans k).heap HVNr.out (by simp))).trans rfl
        have r3 : ∀ w', Only [] wg2 w' → w'.cell? (ad.add (i * 3)) = some (.int .i64 x.f0) := fun w' k => ((HOR.out.trans hog).trans k).cell HA0.out (by simp)
        have r4 : ∀ w', Only [] wg2 w' → w'.cell? (bd.add (i * 3)) = some (.int .i64 x.f0) := fun w' k => ((HOR.out.trans hog).trans k).cell HB0.out (by simp)
        have r5 : ∀ w', Only [] wg2 w' → w'.cell? ⟨(ad.add (i * 3)).block, (ad.add (i * 3)).off + 1, none⟩ = some (.int .i64 x.f1) := fun w' k => ((HOR.out.trans hog).trans k).cell HA1.out (by simp)
        have r6 : ∀ w', Only [] wg2 w' → w'.cell? ⟨(bd.add (i * 3)).block, (bd.add (i * 3)).off + 1, none⟩ = some (.int .i64 x.f1) := fun w' k => ((HOR.out.trans hog).trans k).cell HB1.out (by simp)
        have r7 : ∀ w', Only [] wg2 w' → w'.cell? ⟨wb + 1, 1, none⟩ = some (.int .i64 e.f1) := fun w' k => (cell_of_row w' (wb + 1) 1 _ _ _ (((HOR.out.trans hog).trans k).heap HY1r.out (by simp))).trans rfl
        have HOH := Lib.hid (HOG.out.trans hog)
        clear hog
        iterate 43 (first | (refine L.ge_off rfl rfl rfl (by rfl) ?_) | (refine L.ge_move rfl rfl rfl (by rfl) rfl (by simp [L.evE, L.lk, Act.eval]; rfl) ?_) | (refine L.ge_pick rfl rfl rfl (by rfl) rfl (by simp [L.evE, L.lk, Act.eval]; rfl) (by simp [L.evE, L.lk, Act.eval]; rfl) ?_) | (refine L.ge_val rfl rfl rfl (by rfl) (by intro w' hw'; simp [execOp, L.evE, L.lk, Act.eval]; go_simp; rfl) ?_))
        refine L.ge_done ?_
        simp only [L.puts, Act.put, goInt, List.setIfInBounds_toArray, List.set_cons_zero, List.set_cons_succ]
        clear r1 r2 r3 r4 r5 r6 r7
        go_wp2
        go_roundw
        case rel => exact ⟨i + 1, by rw [HSTEP'.out]; simp, by go_num, by omega, HOH⟩
        case measure => simp [intOf]; omega
      · have hbe := HED'.out hdd
        have hdd2 : (dd == 0) = false := by rw [beq_eq_false_iff_ne]; exact hdd
        have hdd3 : (dd != 0) = true := by rw [bne_iff_ne]; exact hdd
        refine L.grow_start [] 43 ((0, true, false) :: (1, true, false) :: (2, true, false) :: (3, true, false) :: (4, true, false) :: (5, true, false) :: (6, true, false) :: (7, true, false) :: (8, true, true) :: (9, true, true) :: (10, true, true) :: (11, true, true) :: (12, true, true) :: (13, true, true) :: (14, true, false) :: (15, true, false) :: (16, true, false) :: (17, true, false) :: (18, true, false) :: (19, true, false) :: (20, true, false) :: (21, true, false) :: (22, true, true) :: (23, true, true) :: (24, true, true) :: (25, true, true) :: (26, true, true) :: (27, true, true) :: (28, true, true) :: (29, true, true) :: (30, true, true) :: (31, true, true) :: (32, true, false) :: (33, true, false) :: (34, true, false) :: (35, true, false) :: (36, true, false) :: (37, true, false) :: (38, true, true) :: (39, true, true) :: (40, true, true) :: (41, true, true) :: (42, true, true) :: []) (by kernel_rfl) (([], [9], some 93) :: ([0], [93], some 94) :: ([], [13], some 95) :: ([1, 2], [94, 95], some 96) :: ([3], [96], some 97) :: ([4], [97], some 98) :: ([], [2], some 99) :: ([6], [99], some 100) :: ([], [13], some 101) :: ([7, 8], [100, 101], some 102) :: ([9], [102], some 103) :: ([10], [103], some 104) :: ([5, 11], [98, 104], some 105) :: ([12], [105], some 106) :: ([13], [9, 106], some 107) :: ([14, 13], [107, 106], some 108) :: ([13], [13, 106], some 109) :: ([15, 16, 13], [108, 109, 106], some 110) :: ([17, 13], [110, 106], some 111) :: ([18, 13], [111, 106], some 112) :: ([13], [2, 106], some 113) :: ([20, 13], [113, 106], some 114) :: ([13], [13, 106], some 115) :: ([21, 22, 13], [114, 115, 106], some 116) :: ([23, 13], [116, 106], some 117) :: ([24, 13], [117, 106], some 118) :: ([19, 25, 13], [112, 118, 106], some 119) :: ([13, 26], [106, 119], some 120) :: ([27, 13], [120], some 121) :: ([28], [14, 121], some 122) :: ([29, 28], [122, 121], some 123) :: ([30, 28, 28], [123, 121], some 124) :: ([31], [2, 124], some 125) :: ([32, 31], [125, 124], some 126) :: ([31], [13, 124], some 127) :: ([33, 34, 31], [126, 127, 124], some 128) :: ([35, 31], [128, 124], some 129) :: ([36, 31], [129, 124], some 130) :: ([31], [3, 124], some 131) :: ([38, 31], [131, 124], some 132) :: ([37, 39, 31], [130, 132, 124], some 133) :: ([31, 40, 28], [124, 133, 121], some 134) :: ([28, 41], [121, 134], some 135) :: []) (by kernel_rfl) (by kernel_rfl) (n := 43) rfl (by kernel_rfl) (fun _ _ _ _ _ h => h) (fun wg2 hog => ?_)
        refine L.growe_start (N := 153) (by rfl) ?_
        have r1 : ∀ w', Only [] wg2 w' → w'.cell? ⟨wb, 1, none⟩ = some (.slice (some ad) j.q.length c1) := fun w' k => (cell_of_row w' wb 1 _ _ _ (((HOR.out.trans hog).trans k).heap HY0r.out (by simp))).trans rfl
        have r2 : ∀ w', Only [] wg2 w' → w'.cell? ⟨nb, 1, none⟩ = some (.slice (some bd) j.q.length m1) := fun w' k => (cell_of_row w' nb 1 _ _ _ (((HOR.out.trans hog).trans k).heap HVNr.out (by simp))).trans rfl
        have r3 : ∀ w', Only [] wg2 w' → w'.cell? (ad.add (i * 3)) = some (.int .i64 x.f0) := fun w' k => ((HOR.out.trans hog).trans k).cell HA0.out (by simp)
        have r4 : ∀ w', Only [] wg2 w' → w'.cell? (bd.add (i * 3)) = some (.int .i64 x.f0) := fun w' k => ((HOR.out.trans hog).trans k).cell HB0.out (by simp)
        have r5 : ∀ w', Only [] wg2 w' → w'.cell? ⟨(ad.add (i * 3)).block, (ad.add (i * 3)).off + 1, none⟩ = some (.int .i64 x.f1) := fun w' k => ((HOR.out.trans hog).trans k).cell HA1.out (by simp)
        have r6 : ∀ w', Only [] wg2 w' → w'.cell? ⟨(bd.add (i * 3)).block, (bd.add (i * 3)).off + 1, none⟩ = some (.int .i64 x.f1) := fun w' k => ((HOR.out.trans hog).trans k).cell HB1.out (by simp)
        have r7 : ∀ w', Only [] wg2 w' → w'.cell? ⟨wb + 1, 1, none⟩ = some (.int .i64 e.f1) := fun w' k => (cell_of_row w' (wb + 1) 1 _ _ _ (((HOR.out.trans hog).trans k).heap HY1r.out (by simp))).trans rfl
        have HOH := Lib.hid (HOG.out.trans hog)
        clear hog
        iterate 43 (first | (refine L.ge_off rfl rfl rfl (by rfl) ?_) | (refine L.ge_move rfl rfl rfl (by rfl) rfl (by simp [L.evE, L.lk, Act.eval, hdd2, hdd3, hbe]; rfl) ?_) | (refine L.ge_pick rfl rfl rfl (by rfl) rfl (by simp [L.evE, L.lk, Act.eval, hdd2, hdd3, hbe]; rfl) (by simp [L.evE, L.lk, Act.eval, hdd2, hdd3, hbe]; rfl) ?_) | (refine L.ge_val rfl rfl rfl (by rfl) (by intro w' hw'; simp [execOp, L.evE, L.lk, Act.eval, hdd2, hdd3, hbe]; go_simp; rfl) ?_))
        refine L.ge_done ?_
        simp only [L.puts, Act.put, goInt, List.setIfInBounds_toArray, List.set_cons_zero, List.set_cons_succ]
        clear r1 r2 r3 r4 r5 r6 r7
        go_wp2
        go_roundw
        case rel => exact ⟨i + 1, by rw [HSTEP'.out], by go_num, by omega, HOH⟩
        case measure => simp [intOf]; omega
    · obtain rfl : i = j.q.length := by omega
      have hlt' : ¬ (j.q.length : Int) < j.q.length := by omega
      have q0 : wr.cell? ⟨wb, 0, none⟩ = some (.slice A0 j.l.length c0) := (cell_of_row wr wb 0 _ _ _ (ho.out.heap HY0.out (by simp))).trans rfl
      have n0 : wr.cell? ⟨nb, 0, none⟩ = some (.slice F0 j.l.length m0) := (cell_of_row wr nb 0 _ _ _ (ho.out.heap HVN.out (by simp))).trans rfl
      have HEN := Lib.hid (malthouseref18_Entries.calls 1000 F0 m0 j.l A0 c0 j.l true wr (Kd.C_below HFC.out.1.2 ho.out.nil_below) HFC.out.1.1 (Kd.C_below HA.out.2 (HO6.out.trans ho.out).nil_below) HA.out.1 (entries_refl _ _ (by omega) (by omega)))
      go_wp2_with (go_at_call 13; refine HEN.out.mono ?_; rintro x W9 ⟨rfl, hb9⟩; have HB9 := Lib.hid (Only.of_below hb9.below); clear hb9)
      go_ret
      exact ⟨by simp, ((HO6.out.trans ho.out).trans HB9.out).nil_below⟩
end Go.Proofs.YtghpmpjoedbpcaaDoor.Print
/-! ### JWalk2b -/
namespace Go.Proofs.YtghpmpjoedbpcaaDoor.Print
open Go.RowKit Go.Proofs.YtghpmpjoedbpcaaDoorW.PrintWords Go.Proofs.YtghpmpjoedbpcaaDoorW.PrintLast Go.Proofs.YtghpmpjoedbpcaaDoorW.PrintMore
set_option linter.unusedVariables false
theorem journalNotes_walk (cs0 : Array Value) (y0 : JnR) (cs1 : Array Value) (y1 : EntR) (w : World) (hz0 : cs0.size = Tryd.prog.cellsOf 25) (r0 : rJn w (Value.agg cs0).cells.toList y0) (hz1 : cs1.size = Tryd.prog.cellsOf 27) (r1 : rEnt w (Value.agg cs1).cells.toList y1) (hT : Tabs w) :
    Calls Tryd.prog 3 #[.agg cs0, .agg cs1] w fun e w' => e = .returned (.bool true) ∧ Below w.heap.size w w' := by
  obtain ⟨A0, c0, A1, c1, rfl, h0, h1⟩ := jn_in (hz0.trans (by kernel_rfl)) r0
  have hs : (gEnt y1).f3.size ≤ 140737488351232 := r1.2.2.2.1.2
  obtain rfl := ent_in (hz1.trans (by kernel_rfl)) r1
  exact notes_any A0 c0 A1 c1 ⟨y0.1.map gEnt, y0.2.1.map gQuo, y0.2.2.1⟩ (gEnt y1) w h0 h1 hT hs
end Go.Proofs.YtghpmpjoedbpcaaDoor.Print
/-! ### JournalNotesRow -/
namespace Go.Proofs.YtghpmpjoedbpcaaDoor.journalNotes
open Go.ChangeShapes Go.WideShapes Go.ChangeAt Go.RowKit Go.Shelf Go.Lib Go.Proofs.YtghpmpjoedbpcaaDoor.Print
open Go.ChangeMaps (open_string shut_string)
set_option linter.unusedVariables false
set_option linter.unusedSimpArgs false
theorem own : ownKnob Tryd.prog.godebug = none := by kernel_rfl
theorem laidOut : laidOutB Tryd.prog = true := by kernel_rfl
set_option maxRecDepth 100000 in
theorem lifted (os : Os) (started : os.Started) (H : Type) (enc : TypeId × Value → H) :
    ReturnsInHanded {} Tryd.checked os 3 .any (fun w args => (Rows.journalNotesSpec.pre enc Tryd.prog Tryd.f3 [] false w args ∧ laidMetH Tryd.prog Rows.journalNotesRow.laid w) ∧ sizedMet enc Tryd.prog Tryd.f3 (OpenSpec.ofChange Rows.journalNotesSpec) false w args) (Rows.journalNotesSpec.post enc Tryd.prog Tryd.f3 false true false false) := by
  refine returnsInHanded_of_change_and (C := Tryd.checked) (X := fun w _ => laidMetH Tryd.prog Rows.journalNotesRow.laid w) (fun _ _ _ hh h => h.of_heap hh) own started (by kernel_rfl) Tryd.func3
    (ChangeSpec.witness_shaped (enc := enc) (C := Tryd.checked) (os := os) (X := fun w _ => laidMetH Tryd.prog Rows.journalNotesRow.laid w) false (World.laidAll Tryd.prog os Rows.journalNotesRow.laid) #[.agg #[.slice none 0 0, .slice none 0 0, .int .i64 0], .agg #[.int .i64 0, .int .i64 0, .int .i64 0, .string ByteArray.empty, .int .i64 0, .int .i64 0]] 8 (World.laidAll_os _ _ _)
      (World.shaped_of_ZipB (by kernel_rfl) (by kernel_rfl)) (by kernel_rfl) (by kernel_rfl) (by kernel_rfl)
      (by rw [MakeChecks.laidMetH_plain _ _ _ (by kernel_rfl)]; exact laidMet_laidAll _ (by kernel_rfl) (by kernel_rfl))) ?_
  intro W base args ds gs before hval0 hW hcnd hsz0 hL0 _
  have hL : laidMet Tryd.prog Rows.journalNotesRow.laid W := by
    have h := hL0
    rw [MakeChecks.laidMetH_plain _ _ _ (by kernel_rfl)] at h
    exact h
  have hT : Tabs W := utf8Tabs_of_readsT (U8Types.of196 Tryd.laysValid) ⟨by kernel_rfl, by kernel_rfl, by kernel_rfl, by kernel_rfl, by kernel_rfl, by kernel_rfl, by kernel_rfl⟩ (Pinned.utf8First_eq ▸ Lib.laidMet.reads hL (.tail _ (.head _))) ((show Rows.laid_unicode_utf8_acceptRanges = acceptData from rfl) ▸ Lib.laidMet.reads hL (.head _))
  have hsz : (DataW.weightsEach Tryd.prog (Tryd.f3.params.toList ++ Rows.journalNotesSpec.plain.varTypes Tryd.prog) (ds ++ gs)).all (· ≤ reachBytes) = true := hsz0
  have hval : ∀ (j : Nat) t v, Tryd.f3.params[j]? = some t → args[j]? = some v → Value.okWide Tryd.prog W .any base t v := hval0
  have hW' := hW
  obtain ⟨p, q, hA0, hV, rfl, hfz, hnd⟩ := hW
  have hA : DataW.TrodAll enc Tryd.prog W 0 (fun _ => true) true Tryd.f3.params.toList args.toList ds p := hA0
  rw [Tryd.params3] at hA hval hsz
  obtain ⟨v0, vs0, d0, ds0, p0, q0, hargs, rfl, rfl, h0, r0⟩ := trodAll_cons hA
  obtain ⟨v1, vs1, d1, ds1, p1, q1, rfl, rfl, rfl, h1, r1⟩ := trodAll_cons r0
  obtain ⟨rfl, rfl, rfl⟩ := trodAll_nil r1
  obtain rfl : args = #[v0, v1] := by cases args; simp_all
  obtain ⟨rfl, rfl⟩ := trodVars_none hV
  have k0 := h0
  have lt0 : ∀ x ∈ p0, x.block < W.heap.size := by obtain ⟨m, hm⟩ := k0; exact DataW.trod_lt m _ _ _ hm
  obtain ⟨y0, r0_⟩ := opens_arg (jn_opens enc W) h0 (weights_each hsz (j := 0) (t := 25) rfl rfl)
  obtain ⟨cs0, rfl, hz0⟩ := okWide_struct Tryd.underlying25 (hval 0 25 v0 rfl rfl)
  have k1 := h1
  have lt1 : ∀ x ∈ p1, x.block < W.heap.size := by obtain ⟨m, hm⟩ := k1; exact DataW.trod_lt m _ _ _ hm
  obtain ⟨y1, r1_⟩ := opens_arg (ent_opens enc W) h1 (weights_each hsz (j := 1) (t := 27) rfl rfl)
  obtain ⟨cs1, rfl, hz1⟩ := okWide_struct Tryd.underlying27 (hval 1 27 v1 rfl rfl)
  clear hA0 hval0 hsz0 hsz
  refine (journalNotes_walk cs0 y0 cs1 y1 W hz0 r0_ hz1 r1_ hT).mono fun e W' ⟨he, bel⟩ => ?_
  subst he
  exact ⟨_, rfl, _, _, _, [], _, [], hW', trodAll_mk1 (shut_bool Tryd.underlying4 _), (trodAll_cons_mk (Below.trod laidOut (by kernel_rfl) (of_decide_eq_true (by kernel_rfl)) k0 bel lt0) (trodAll_cons_mk (Below.trod laidOut (by kernel_rfl) (of_decide_eq_true (by kernel_rfl)) k1 bel lt1) trodAll_mk0)), rfl, bel.frame _, fun h => by cases h⟩
theorem over : Rows.journalNotesRow.holds Tryd.pinned (OpenSpec.ofChange Rows.journalNotesSpec) :=
  OpenClaim.holds_of_wide 3 Tryd.f3 rfl rfl rfl rfl rfl rfl rfl ⟨rfl, rfl, rfl, rfl, rfl⟩ rfl rfl rfl rfl rfl (by kernel_rfl) Tryd.func3 (by kernel_rfl)
    (of_decide_eq_true (by kernel_rfl)) (by unfold Func.isWrapper; first | (rw [if_pos (by decide +kernel)]; kernel_rfl) | (rw [if_neg (by decide +kernel)]; exact ⟨rfl, rfl⟩))
    (fun os started H enc _ => lifted os started H enc)
theorem card_holds : Claim7.holds Tryd.pinned (.plain (OpenSpec.ofChange Rows.journalNotesSpec)) Rows.journalNotesCard :=
  Claim7.holds_tied_plain_at .later [] [.data, .pinned] true (true, "b05b6b16aa0a1809f215307a8c3ea1b8c622546458a6b2d8f18a7b1e1b2adb12") false over (fun _ h => by cases h) (by kernel_rfl) (fun _ h => by cases h) journalNotes_row_tie rfl ⟨rfl, rfl⟩ (by kernel_rfl) rfl
    (fun f fn hf hfn => by
      obtain rfl : f = 3 := Option.some.inj ((show Tryd.prog.funcNamed "malthouse/malthouselaw18.JournalNotes" = some 3 by kernel_rfl).symm.trans hf) |>.symm
      obtain rfl : fn = Tryd.f3 := (Option.some.inj (Tryd.func3.symm.trans hfn)).symm
      exact ⟨by kernel_rfl, fun j t ht => by
        rw [Tryd.params3] at ht
        have hm : t ∈ [25, 27] := by simpa using Array.mem_of_getElem? ht
        have hall : ([25, 27].all fun u => !Tryd.prog.wantsStandIn u) = true := by kernel_rfl
        exact (show Tryd.prog.wantsStandIn t = false by simpa using List.all_eq_true.1 hall t hm)⟩)
    (by kernel_rfl)
theorem proved : Rows.JournalNotesCardSaid := card_holds
#print axioms proved
end Go.Proofs.YtghpmpjoedbpcaaDoor.journalNotes
namespace Go.Proofs.YtghpmpjoedbpcaaDoor
/-- The card, under a short name, for the claim. -/
theorem journalNotes_holds : Rows.JournalNotesCardSaid := journalNotes.proved
end Go.Proofs.YtghpmpjoedbpcaaDoor
/-! ### JWalk1 -/
namespace Go.Proofs.YtghpmpjoedbpcaaDoor.Print
open Go.RowKit Go.Proofs.YtghpmpjoedbpcaaDoorW.PrintWords Go.Proofs.YtghpmpjoedbpcaaDoorW.PrintLast Go.Proofs.YtghpmpjoedbpcaaDoorW.PrintMore
set_option linter.unusedVariables false
theorem journalParts_walk (cs0 : Array Value) (y0 : JnR) (w : World) (hz0 : cs0.size = Tryd.prog.cellsOf 25) (r0 : rJn w (Value.agg cs0).cells.toList y0) (hT : Tabs w) :
    Calls Tryd.prog 4 #[.agg cs0] w fun e w' => e = .returned (.bool true) ∧ Below w.heap.size w w' := by
  obtain ⟨A0, c0, A1, c1, rfl, h0, h1⟩ := jn_in (hz0.trans (by kernel_rfl)) r0
  exact malthouselaw18_JournalParts.calls 1000000 A0 c0 _ A1 c1 _ y0.2.2.1 true w h0.2 h0.1 h1.2 h1.1 hT (parts_law _ _ _)
end Go.Proofs.YtghpmpjoedbpcaaDoor.Print
/-! ### JournalPartsRow -/
namespace Go.Proofs.YtghpmpjoedbpcaaDoor.journalParts
open Go.ChangeShapes Go.WideShapes Go.ChangeAt Go.RowKit Go.Shelf Go.Lib Go.Proofs.YtghpmpjoedbpcaaDoor.Print
open Go.ChangeMaps (open_string shut_string)
set_option linter.unusedVariables false
set_option linter.unusedSimpArgs false
theorem own : ownKnob Tryd.prog.godebug = none := by kernel_rfl
theorem laidOut : laidOutB Tryd.prog = true := by kernel_rfl
set_option maxRecDepth 100000 in
theorem lifted (os : Os) (started : os.Started) (H : Type) (enc : TypeId × Value → H) :
    ReturnsInHanded {} Tryd.checked os 4 .any (fun w args => (Rows.journalPartsSpec.pre enc Tryd.prog Tryd.f4 [] false w args ∧ laidMetH Tryd.prog Rows.journalPartsRow.laid w) ∧ sizedMet enc Tryd.prog Tryd.f4 (OpenSpec.ofChange Rows.journalPartsSpec) false w args) (Rows.journalPartsSpec.post enc Tryd.prog Tryd.f4 false true false false) := by
  refine returnsInHanded_of_change_and (C := Tryd.checked) (X := fun w _ => laidMetH Tryd.prog Rows.journalPartsRow.laid w) (fun _ _ _ hh h => h.of_heap hh) own started (by kernel_rfl) Tryd.func4
    (ChangeSpec.witness_shaped (enc := enc) (C := Tryd.checked) (os := os) (X := fun w _ => laidMetH Tryd.prog Rows.journalPartsRow.laid w) false (World.laidAll Tryd.prog os Rows.journalPartsRow.laid) #[.agg #[.slice none 0 0, .slice none 0 0, .int .i64 0]] 8 (World.laidAll_os _ _ _)
      (World.shaped_of_ZipB (by kernel_rfl) (by kernel_rfl)) (by kernel_rfl) (by kernel_rfl) (by kernel_rfl)
      (by rw [MakeChecks.laidMetH_plain _ _ _ (by kernel_rfl)]; exact laidMet_laidAll _ (by kernel_rfl) (by kernel_rfl))) ?_
  intro W base args ds gs before hval0 hW hcnd hsz0 hL0 _
  have hL : laidMet Tryd.prog Rows.journalPartsRow.laid W := by
    have h := hL0
    rw [MakeChecks.laidMetH_plain _ _ _ (by kernel_rfl)] at h
    exact h
  have hT : Tabs W := utf8Tabs_of_readsT (U8Types.of196 Tryd.laysValid) ⟨by kernel_rfl, by kernel_rfl, by kernel_rfl, by kernel_rfl, by kernel_rfl, by kernel_rfl, by kernel_rfl⟩ (Pinned.utf8First_eq ▸ Lib.laidMet.reads hL (.tail _ (.head _))) ((show Rows.laid_unicode_utf8_acceptRanges = acceptData from rfl) ▸ Lib.laidMet.reads hL (.head _))
  have hsz : (DataW.weightsEach Tryd.prog (Tryd.f4.params.toList ++ Rows.journalPartsSpec.plain.varTypes Tryd.prog) (ds ++ gs)).all (· ≤ reachBytes) = true := hsz0
  have hval : ∀ (j : Nat) t v, Tryd.f4.params[j]? = some t → args[j]? = some v → Value.okWide Tryd.prog W .any base t v := hval0
  have hW' := hW
  obtain ⟨p, q, hA0, hV, rfl, hfz, hnd⟩ := hW
  have hA : DataW.TrodAll enc Tryd.prog W 0 (fun _ => true) true Tryd.f4.params.toList args.toList ds p := hA0
  rw [Tryd.params4] at hA hval hsz
  obtain ⟨v0, vs0, d0, ds0, p0, q0, hargs, rfl, rfl, h0, r0⟩ := trodAll_cons hA
  obtain ⟨rfl, rfl, rfl⟩ := trodAll_nil r0
  obtain rfl : args = #[v0] := by cases args; simp_all
  obtain ⟨rfl, rfl⟩ := trodVars_none hV
  have k0 := h0
  have lt0 : ∀ x ∈ p0, x.block < W.heap.size := by obtain ⟨m, hm⟩ := k0; exact DataW.trod_lt m _ _ _ hm
  obtain ⟨y0, r0_⟩ := opens_arg (jn_opens enc W) h0 (weights_each hsz (j := 0) (t := 25) rfl rfl)
  obtain ⟨cs0, rfl, hz0⟩ := okWide_struct Tryd.underlying25 (hval 0 25 v0 rfl rfl)
  clear hA0 hval0 hsz0 hsz
  refine (journalParts_walk cs0 y0 W hz0 r0_ hT).mono fun e W' ⟨he, bel⟩ => ?_
  subst he
  exact ⟨_, rfl, _, _, _, [], _, [], hW', trodAll_mk1 (shut_bool Tryd.underlying4 _), (trodAll_cons_mk (Below.trod laidOut (by kernel_rfl) (of_decide_eq_true (by kernel_rfl)) k0 bel lt0) trodAll_mk0), rfl, bel.frame _, fun h => by cases h⟩
theorem over : Rows.journalPartsRow.holds Tryd.pinned (OpenSpec.ofChange Rows.journalPartsSpec) :=
  OpenClaim.holds_of_wide 4 Tryd.f4 rfl rfl rfl rfl rfl rfl rfl ⟨rfl, rfl, rfl, rfl, rfl⟩ rfl rfl rfl rfl rfl (by kernel_rfl) Tryd.func4 (by kernel_rfl)
    (of_decide_eq_true (by kernel_rfl)) (by unfold Func.isWrapper; first | (rw [if_pos (by decide +kernel)]; kernel_rfl) | (rw [if_neg (by decide +kernel)]; exact ⟨rfl, rfl⟩))
    (fun os started H enc _ => lifted os started H enc)
theorem card_holds : Claim7.holds Tryd.pinned (.plain (OpenSpec.ofChange Rows.journalPartsSpec)) Rows.journalPartsCard :=
  Claim7.holds_tied_plain_at .later [] [.data, .pinned] true (true, "b05b6b16aa0a1809f215307a8c3ea1b8c622546458a6b2d8f18a7b1e1b2adb12") false over (fun _ h => by cases h) (by kernel_rfl) (fun _ h => by cases h) journalParts_row_tie rfl ⟨rfl, rfl⟩ (by kernel_rfl) rfl
    (fun f fn hf hfn => by
      obtain rfl : f = 4 := Option.some.inj ((show Tryd.prog.funcNamed "malthouse/malthouselaw18.JournalParts" = some 4 by kernel_rfl).symm.trans hf) |>.symm
      obtain rfl : fn = Tryd.f4 := (Option.some.inj (Tryd.func4.symm.trans hfn)).symm
      exact ⟨by kernel_rfl, fun j t ht => by
        rw [Tryd.params4] at ht
        have hm : t ∈ [25] := by simpa using Array.mem_of_getElem? ht
        have hall : ([25].all fun u => !Tryd.prog.wantsStandIn u) = true := by kernel_rfl
        exact (show Tryd.prog.wantsStandIn t = false by simpa using List.all_eq_true.1 hall t hm)⟩)
    (by kernel_rfl)
theorem proved : Rows.JournalPartsCardSaid := card_holds
#print axioms proved
end Go.Proofs.YtghpmpjoedbpcaaDoor.journalParts
namespace Go.Proofs.YtghpmpjoedbpcaaDoor
/-- The card, under a short name, for the claim. -/
theorem journalParts_holds : Rows.JournalPartsCardSaid := journalParts.proved
end Go.Proofs.YtghpmpjoedbpcaaDoor
/-! ### JLaw3 -/
namespace Go.Proofs.YtghpmpjoedbpcaaDoor.Print
open Go.RowKit Go.Proofs.YtghpmpjoedbpcaaDoorW.PrintWords Go.Proofs.YtghpmpjoedbpcaaDoorW.PrintLast Go.Proofs.YtghpmpjoedbpcaaDoorW.PrintMore
set_option linter.unusedSimpArgs false
set_option linter.unusedVariables false
def sumLeft : List S35 → Int
  | [] => 0
  | x :: q => x.f1 + sumLeft q
theorem sumLeft_append : ∀ (a b : List S35), sumLeft (a ++ b) = sumLeft a + sumLeft b
  | [], b => by simp [sumLeft]
  | x :: a, b => by rw [List.cons_append, sumLeft, sumLeft, sumLeft_append a b]; omega
theorem sumLeft_ge (q : List S35) (h : leftOk q) : 0 ≤ sumLeft q := by
  induction q with
  | nil => exact Int.le_refl _
  | cons x q ih =>
    have := h x (by simp)
    have := ih (fun y hy => h y (List.mem_cons_of_mem _ hy))
    unfold sumLeft
    omega
def tot (j : Jn) : Int := j.l.length + sumLeft j.q
theorem usedFrom_tot : ∀ (q : List S35) (n : Int), leftOk q → 0 ≤ n → usedFrom (mn n 121) q = mn (n + sumLeft q) 121
  | [], n, _, _ => by simp [usedFrom, sumLeft]
  | x :: q, n, h, hn => by
    have hx := h x (by simp)
    unfold usedFrom sumLeft
    have e : mn (mn n 121 + x.f1) 121 = mn (n + x.f1) 121 := by unfold mn; repeat' split <;> omega
    rw [e, usedFrom_tot q (n + x.f1) (fun y hy => h y (List.mem_cons_of_mem _ hy)) (by omega)]
    congr 1
    omega
theorem usedZ_tot (j : Jn) (h : leftOk j.q) : usedZ j.l j.q = mn (tot j) 121 := usedFrom_tot j.q _ h (by omega)
theorem rising_pair : ∀ (q : List S35), risingB q = true ↔ (q.map (·.f0)).Pairwise (· < ·)
  | [] => by simp [risingB]
  | x :: q => by
    constructor
    · intro h
      rw [List.map_cons, List.pairwise_cons]
      refine ⟨fun a ha => ?_, (rising_pair q).1 (rising_tail q x h)⟩
      obtain ⟨y, hy, rfl⟩ := List.mem_map.1 ha
      exact rising_head q x h y hy
    · intro h
      rw [List.map_cons, List.pairwise_cons] at h
      have ih := (rising_pair q).2 h.2
      cases q with
      | nil => rfl
      | cons z q =>
        show (decide (x.f0 < z.f0) && risingB (z :: q)) = true
        rw [ih, decide_eq_true (h.1 _ (by simp))]
        rfl
/-- A journal that may be. -/
structure Fine (j : Jn) : Prop where
  s : ∀ e ∈ j.l, strangeB e = false
  o : ∀ x ∈ j.q, oddB x = false
  g : wi j.g 0 = true
  r : (j.q.map (·.f0)).Pairwise (· < ·)
  t : tot j ≤ 120
theorem any_false {α : Type} (p : α → Bool) (l : List α) : l.any p = false ↔ ∀ x ∈ l, p x = false := by
  rw [List.any_eq_false]
  exact ⟨fun h x hx => by simpa using h x hx, fun h x hx => by simpa using h x hx⟩
theorem fine_iff (j : Jn) : rightJ j.l j.q j.g = true ↔ Fine j := by
  constructor
  · intro h
    obtain ⟨hL, hBt, hRi, hG, hU, hE, hOd⟩ := right_parts h
    refine ⟨(any_false _ _).1 hE, (any_false _ _).1 hOd, hG, (rising_pair _).1 hRi, ?_⟩
    rw [usedZ_tot j hL] at hU
    unfold mn at hU
    split at hU <;> omega
  · intro h
    have hod := (any_false oddB _).2 h.o
    have hL := leftOk_of hod
    unfold rightJ
    rw [(any_false strangeB _).2 h.s, hod, h.g, (rising_pair _).2 h.r, usedZ_tot j hL]
    have := h.t
    have e : mn (tot j) 121 ≤ 120 := by unfold mn; split <;> omega
    simpa using e
theorem Fine.left {j : Jn} (h : Fine j) : leftOk j.q := leftOk_of ((any_false oddB _).2 h.o)
theorem Fine.used {j : Jn} (h : Fine j) : usedZ j.l j.q = tot j := by
  rw [usedZ_tot j h.left]
  have := h.t
  unfold mn; split <;> omega
theorem Fine.len {j : Jn} (h : Fine j) : (j.l.length : Int) ≤ 120 := by
  have := h.t
  have := sumLeft_ge j.q h.left
  unfold tot at *
  omega
theorem place_lt : ∀ (q : List S35) (b : Int), ∀ a ∈ q.take (placeI q b), a.f0 < b
  | [], b => by simp
  | x :: q, b => by
    unfold placeI
    split
    · rename_i h
      rw [List.take_succ_cons]
      intro a ha
      rcases List.mem_cons.1 ha with rfl | ha
      · exact h
      · exact place_lt q b a ha
    · simp
theorem place_ge : ∀ (q : List S35) (b : Int), (q.map (·.f0)).Pairwise (· < ·) → ∀ c ∈ q.drop (placeI q b), b ≤ c.f0
  | [], b, _ => by simp
  | x :: q, b, h => by
    rw [List.map_cons, List.pairwise_cons] at h
    unfold placeI
    split
    · rw [List.drop_succ_cons]
      exact place_ge q b h.2
    · rename_i hx
      intro c hc
      rw [List.drop_zero] at hc
      rcases List.mem_cons.1 hc with rfl | hc
      · omega
      · have := h.1 c.f0 (List.mem_map_of_mem hc)
        omega
theorem place_gt (q : List S35) (b : Int) (h : (q.map (·.f0)).Pairwise (· < ·)) (hp : placeB q b = false) : ∀ c ∈ q.drop (placeI q b), b < c.f0 := by
  intro c hc
  have hge := place_ge q b h
  unfold placeB at hp
  cases hd : q.drop (placeI q b) with
  | nil => rw [hd] at hc; cases hc
  | cons x r =>
    rw [hd] at hp hc hge
    have hne : x.f0 ≠ b := by simpa using hp
    have hx := hge x (by simp)
    have hpw : ((x :: r).map (·.f0)).Pairwise (· < ·) := by
      rw [← hd, List.map_drop]
      exact h.drop
    rw [List.map_cons, List.pairwise_cons] at hpw
    rcases List.mem_cons.1 hc with rfl | hc
    · omega
    · have := hpw.1 c.f0 (List.mem_map_of_mem hc)
      omega
theorem qAt_mem {q : List S35} {i : Nat} (h : i < q.length) : qAt q i ∈ q := by rw [qAt_get h]; exact List.getElem_mem h
theorem map_set_f0 (q : List S35) (i : Nat) (y : S35) (h : i < q.length) (hy : y.f0 = (qAt q i).f0) : (q.set i y).map (·.f0) = q.map (·.f0) := by
  rw [List.map_set, hy, qAt_get h]
  have : (q[i]).f0 = (q.map (·.f0))[i]'(by simpa using h) := by simp
  rw [this, List.set_getElem_self]
theorem sumLeft_set : ∀ (q : List S35) (i : Nat) (y : S35), i < q.length → sumLeft (q.set i y) = sumLeft q - (qAt q i).f1 + y.f1
  | [], i, y, h => by simp at h
  | x :: q, 0, y, h => by
    show y.f1 + sumLeft q = x.f1 + sumLeft q - x.f1 + y.f1
    omega
  | x :: q, i + 1, y, h => by
    have ih := sumLeft_set q i y (by simpa using h)
    have e : qAt (x :: q) (i + 1) = qAt q i := rfl
    rw [e]
    show x.f1 + sumLeft (q.set i y) = x.f1 + sumLeft q - (qAt q i).f1 + y.f1
    rw [ih]
    omega
theorem odd_parts {x : S35} (h : oddB x = false) : (1 ≤ x.f0 ∧ x.f0 ≤ 1099511627776) ∧ (0 ≤ x.f1 ∧ x.f1 ≤ 40) ∧ (0 ≤ x.f2 ∧ x.f2 ≤ 1099511627776) := by
  unfold oddB wi at h
  simp only [Bool.or_eq_false_iff, Bool.not_eq_false', Bool.and_eq_true, decide_eq_true_eq, decide_eq_false_iff_not] at h
  omega
theorem odd_mk {x : S35} (h : (1 ≤ x.f0 ∧ x.f0 ≤ 1099511627776) ∧ (0 ≤ x.f1 ∧ x.f1 ≤ 40) ∧ (0 ≤ x.f2 ∧ x.f2 ≤ 1099511627776)) : oddB x = false := by
  unfold oddB wi
  simp only [Bool.or_eq_false_iff, Bool.not_eq_false', Bool.and_eq_true, decide_eq_true_eq, decide_eq_false_iff_not]
  omega
theorem odd_mk' (a b c : Int) (h : (1 ≤ a ∧ a ≤ 1099511627776) ∧ (0 ≤ b ∧ b ≤ 40) ∧ (0 ≤ c ∧ c ≤ 1099511627776)) : oddB ⟨a, b, c⟩ = false := odd_mk h
theorem fine_zero : Fine zJn := ⟨fun e h => (by cases h), fun x h => (by cases h), by decide, List.Pairwise.nil, by decide⟩
theorem open_fine {j : Jn} {b n : Int} (h : Fine j) (ho : (openJ j b n).2 = 0) : Fine (openJ j b n).1 ∧ (openJ j b n).1.l = j.l ∧ (openJ j b n).1.g = j.g ∧ placeB j.q b = false ∧ (openJ j b n).1.q = j.q.take (placeI j.q b) ++ ⟨b, n, 0⟩ :: j.q.drop (placeI j.q b) ∧ 1 ≤ n ∧ n ≤ 40 ∧ wi b 1 = true := by
  unfold openJ at ho ⊢
  split at ho
  · cases ho
  split at ho
  · cases ho
  split at ho
  · cases ho
  rename_i h1 h2 h3
  rw [if_neg h1, if_neg h2, if_neg h3]
  have hp : placeB j.q b = false := by simpa using h2
  have hn : 1 ≤ n ∧ n ≤ 40 ∧ wi b 1 = true := by
    refine ⟨?_, ?_, ?_⟩
    · by_cases h9 : n < 1
      · exact absurd (.inr (.inr (.inl h9))) h1
      · omega
    · by_cases h9 : 40 < n
      · exact absurd (.inr (.inr (.inr h9))) h1
      · omega
    · cases hw : wi b 1
      · exact absurd (.inr (.inl hw)) h1
      · rfl
  have hb : 1 ≤ b ∧ b ≤ 1099511627776 := by
    have := hn.2.2
    unfold wi at this
    simpa using this
  have htd : j.q = j.q.take (placeI j.q b) ++ j.q.drop (placeI j.q b) := (List.take_append_drop _ _).symm
  refine ⟨⟨h.s, ?_, h.g, ?_, ?_⟩, rfl, rfl, hp, rfl, hn⟩
  · intro x hx
    rcases List.mem_append.1 hx with hx | hx
    · exact h.o x (List.mem_of_mem_take hx)
    · rcases List.mem_cons.1 hx with rfl | hx
      · exact odd_mk' _ _ _ (by omega)
      · exact h.o x (List.mem_of_mem_drop hx)
  · show ((j.q.take (placeI j.q b) ++ (⟨b, n, 0⟩ : S35) :: j.q.drop (placeI j.q b)).map (·.f0)).Pairwise (· < ·)
    have hr := h.r
    rw [htd, List.map_append] at hr
    rw [List.pairwise_append] at hr
    rw [List.map_append, List.map_cons, List.pairwise_append]
    refine ⟨hr.1, ?_, ?_⟩
    · rw [List.pairwise_cons]
      refine ⟨fun c hc => ?_, hr.2.1⟩
      obtain ⟨y, hy, rfl⟩ := List.mem_map.1 hc
      exact place_gt j.q b h.r hp y hy
    · intro a ha c hc
      obtain ⟨y, hy, rfl⟩ := List.mem_map.1 ha
      rcases List.mem_cons.1 hc with hc | hc
      · rw [hc]; exact place_lt j.q b y hy
      · exact hr.2.2 _ (List.mem_map_of_mem hy) c hc
  · show (j.l.length : Int) + sumLeft (j.q.take (placeI j.q b) ++ (⟨b, n, 0⟩ : S35) :: j.q.drop (placeI j.q b)) ≤ 120
    have e : sumLeft j.q = sumLeft (j.q.take (placeI j.q b)) + sumLeft (j.q.drop (placeI j.q b)) := by rw [← sumLeft_append, ← htd]
    rw [h.used] at h3
    unfold tot at h3
    rw [sumLeft_append]
    show _ + (_ + (n + sumLeft _)) ≤ _
    omega
theorem close_fine {j : Jn} {b : Int} (h : Fine j) (ho : (closeJ j b).2 = 0) : Fine (closeJ j b).1 ∧ (closeJ j b).1.l = j.l ∧ (closeJ j b).1.g = j.g ∧ placeB j.q b = true ∧ (closeJ j b).1.q = j.q.take (placeI j.q b) ++ j.q.drop (placeI j.q b + 1) := by
  unfold closeJ at ho ⊢
  split at ho
  · cases ho
  split at ho
  · cases ho
  rename_i h1 h2
  rw [if_neg h1, if_neg h2]
  have hp : placeB j.q b = true := by simpa using h2
  have hlt := placeB_lt hp
  generalize placeI j.q b = i at *
  have htd : j.q = j.q.take i ++ j.q[i] :: j.q.drop (i + 1) := by rw [← List.drop_eq_getElem_cons hlt, List.take_append_drop]
  have hsub : (j.q.take i ++ j.q.drop (i + 1)).Sublist j.q := by
    conv => rhs; rw [htd]
    exact List.Sublist.append (List.Sublist.refl _) (List.sublist_cons_self _ _)
  refine ⟨⟨h.s, fun x hx => h.o x (hsub.subset hx), h.g, h.r.sublist (hsub.map _), ?_⟩, rfl, rfl, hp, rfl⟩
  show (j.l.length : Int) + sumLeft (j.q.take i ++ j.q.drop (i + 1)) ≤ 120
  have e : sumLeft j.q = sumLeft (j.q.take i) + (j.q[i].f1 + sumLeft (j.q.drop (i + 1))) := by
    conv => lhs; rw [htd, sumLeft_append]
    rfl
  have ht := h.t
  have := (odd_parts (h.o _ (List.getElem_mem hlt))).2.1
  unfold tot at ht
  rw [sumLeft_append]
  omega
theorem add_fine {j : Jn} {e : S27} (h : Fine j) (ho : (addJ j e).2 = 0) : Fine (addJ j e).1 ∧ (addJ j e).1.l = j.l ++ [e] ∧ (addJ j e).1.g = j.g ∧ (addJ j e).1.q = (if placeB j.q e.f1 = true then lessAt j.q (placeI j.q e.f1) else j.q) := by
  unfold addJ at ho ⊢
  split at ho
  · cases ho
  rename_i h1
  rw [if_neg h1]
  have hst : strangeB e = false := by
    cases hs : strangeB e
    · rfl
    · exact absurd (.inr hs) h1
  have hsl : ∀ x ∈ j.l ++ [e], strangeB x = false := fun x hx => by
    rcases List.mem_append.1 hx with hx | hx
    · exact h.s x hx
    · rw [List.mem_singleton.1 hx]; exact hst
  split at ho
  · rename_i h2
    rw [if_pos h2, if_pos h2]
    split at ho
    · cases ho
    rename_i h3
    rw [if_neg h3]
    have hlt := placeB_lt h2
    generalize placeI j.q e.f1 = i at *
    have ho := odd_parts (h.o _ (qAt_mem hlt))
    refine ⟨⟨hsl, fun x hx => ?_, h.g, ?_, ?_⟩, rfl, rfl, rfl⟩
    · rcases List.mem_or_eq_of_mem_set hx with hx | rfl
      · exact h.o x hx
      · exact odd_mk' _ _ _ (by omega)
    · show ((lessAt j.q i).map (·.f0)).Pairwise (· < ·)
      unfold lessAt
      rw [map_set_f0 j.q i ⟨(qAt j.q i).f0, (qAt j.q i).f1 - 1, (qAt j.q i).f2⟩ hlt rfl]
      exact h.r
    · show ((j.l ++ [e]).length : Int) + sumLeft (lessAt j.q i) ≤ 120
      unfold lessAt
      rw [sumLeft_set _ _ _ hlt, List.length_append]
      have := h.t
      unfold tot at this
      simp
      omega
  · rename_i h2
    rw [if_neg h2, if_neg h2]
    split at ho
    · cases ho
    rename_i h3
    rw [if_neg h3]
    refine ⟨⟨hsl, h.o, h.g, h.r, ?_⟩, rfl, rfl, rfl⟩
    show ((j.l ++ [e]).length : Int) + sumLeft j.q ≤ 120
    rw [h.used] at h3
    have := h.t
    unfold tot at this h3
    rw [List.length_append]
    simp
    omega
theorem note_fine {j : Jn} {e : S27} (h : Fine j) (ho : (noteJ j e).2 = 0) : Fine (noteJ j e).1 ∧ ((noteJ j e).1.l = j.l ∨ (noteJ j e).1.l = j.l ++ [e]) ∧ (noteJ j e).1.g = j.g ∧
    ((noteJ j e).1.q = j.q ∨ (placeB j.q e.f1 = true ∧ ((noteJ j e).1.q = lessAt j.q (placeI j.q e.f1) ∨ (noteJ j e).1.q = lostAt j.q (placeI j.q e.f1)))) := by
  by_cases h180 : (addJ j e).2 = 180
  · unfold noteJ at ho ⊢
    rw [if_pos h180] at ho ⊢
    split
    · rename_i h2
      have hlt := placeB_lt h2
      have hod := odd_parts (h.o _ (qAt_mem hlt))
      generalize placeI j.q e.f1 = i at *
      refine ⟨⟨h.s, fun x hx => ?_, h.g, ?_, ?_⟩, .inl rfl, rfl, .inr ⟨h2, .inr rfl⟩⟩
      · rcases List.mem_or_eq_of_mem_set hx with hx | rfl
        · exact h.o x hx
        · refine odd_mk' _ _ _ ?_
          unfold mn
          split <;> omega
      · show ((lostAt j.q i).map (·.f0)).Pairwise (· < ·)
        unfold lostAt
        rw [map_set_f0 j.q i ⟨(qAt j.q i).f0, (qAt j.q i).f1, mn ((qAt j.q i).f2 + 1) 1099511627776⟩ hlt rfl]
        exact h.r
      · show (j.l.length : Int) + sumLeft (lostAt j.q i) ≤ 120
        unfold lostAt
        rw [sumLeft_set _ _ _ hlt]
        have := h.t
        unfold tot at this
        show _ + (_ - (qAt j.q i).f1 + (qAt j.q i).f1) ≤ _
        omega
    · exact ⟨h, .inl rfl, rfl, .inl rfl⟩
  · have e1 : noteJ j e = addJ j e := if_neg h180
    rw [e1] at ho ⊢
    obtain ⟨h1, h2, h3, h4⟩ := add_fine h ho
    refine ⟨h1, .inr h2, h3, ?_⟩
    rw [h4]
    split
    · rename_i h5
      exact .inr ⟨h5, .inl rfl⟩
    · exact .inl rfl
theorem trim_fine {j : Jn} {n : Int} (h : Fine j) (ho : (trimJ j n).2 = 0) : Fine (trimJ j n).1 ∧ 0 ≤ n ∧ n ≤ j.l.length ∧ (trimJ j n).1.l = j.l.drop n.toNat ∧ (trimJ j n).1.g = j.g + n ∧ (trimJ j n).1.q = j.q := by
  unfold trimJ at ho ⊢
  split at ho
  · cases ho
  split at ho
  · cases ho
  rename_i h1 h2
  rw [if_neg h1, if_neg h2]
  have hn : 0 ≤ n ∧ n ≤ j.l.length := by
    refine ⟨?_, ?_⟩
    · by_cases h9 : n < 0
      · exact absurd (.inr (.inl h9)) h1
      · omega
    · by_cases h9 : (j.l.length : Int) < n
      · exact absurd (.inr (.inr h9)) h1
      · omega
  refine ⟨⟨fun x hx => h.s x (List.mem_of_mem_drop hx), h.o, ?_, h.r, ?_⟩, hn.1, hn.2, rfl, rfl, rfl⟩
  · have := h.g
    unfold wi at this ⊢
    simp only [Bool.and_eq_true, decide_eq_true_eq] at this ⊢
    show 0 ≤ j.g + n ∧ j.g + n ≤ _
    omega
  · show ((j.l.drop n.toNat).length : Int) + sumLeft j.q ≤ 120
    have := h.t
    unfold tot at this
    rw [List.length_drop]
    omega
end Go.Proofs.YtghpmpjoedbpcaaDoor.Print
/-! ### JLaw4 -/
namespace Go.Proofs.YtghpmpjoedbpcaaDoor.Print
open Go.RowKit Go.Proofs.YtghpmpjoedbpcaaDoorW.PrintWords Go.Proofs.YtghpmpjoedbpcaaDoorW.PrintLast Go.Proofs.YtghpmpjoedbpcaaDoorW.PrintMore
set_option linter.unusedSimpArgs false
set_option linter.unusedVariables false
def opJ (j : Jn) (o : S43) : Jn × Int := if o.f0 = 0 then openJ j o.f2.f1 o.f1 else if o.f0 = 1 then closeJ j o.f2.f1 else if o.f0 = 2 then addJ j o.f2 else if o.f0 = 3 then noteJ j o.f2 else if o.f0 = 4 then trimJ j o.f1 else (j, 1)
def doneJ (j : Jn) (o : S43) : Jn × Int := if (opJ j o).2 = 0 then ((opJ j o).1, 0) else (j, (opJ j o).2)
/-- Journals on the way: such as may be, of short names, of no more quotas than calls. -/
structure Way (n : Nat) (j : Jn) : Prop where
  f : Fine j
  s : ∀ e ∈ j.l, e.f3.size ≤ 200
  q : j.q.length ≤ n
theorem Way.ok {n : Nat} {j : Jn} (h : Way n j) (hn : n ≤ 1000000) : Jok j := ⟨fun e he => by have := h.s e he; omega, by have := h.f.len; omega, by have := h.q; omega⟩
theorem way_zero : Way 0 zJn := ⟨fine_zero, fun e h => (by cases h), Nat.le_refl _⟩
theorem Way.mono {n m : Nat} {j : Jn} (h : Way n j) (hm : n ≤ m) : Way m j := ⟨h.f, h.s, Nat.le_trans h.q hm⟩
/-- What a call leaves. -/
structure Step (j : Jn) (o : S43) (R : Jn) (err : Int) : Prop where
  tr : o.f0 = 4 → err = 0 → 0 ≤ o.f1 ∧ o.f1 ≤ j.l.length ∧ R.l = j.l.drop o.f1.toNat ∧ R.g = j.g + o.f1
  ot : ¬ (o.f0 = 4 ∧ err = 0) → R.g = j.g ∧ (R.l = j.l ∨ R.l = j.l ++ [o.f2])
  ad : o.f0 = 2 → err = 0 → R.l = j.l ++ [o.f2]
  ae : err ≠ 0 → R = j
theorem done_step {n : Nat} {j : Jn} {o : S43} (h : Way n j) (ho : o.f2.f3.size ≤ 200) : Way (n + 1) (doneJ j o).1 ∧ Step j o (doneJ j o).1 (doneJ j o).2 := by
  unfold doneJ
  by_cases h0 : (opJ j o).2 = 0
  · rw [if_pos h0]
    unfold opJ at h0 ⊢
    have happ : ∀ e ∈ j.l ++ [o.f2], e.f3.size ≤ 200 := fun e he => by
      rcases List.mem_append.1 he with he | he
      · exact h.s e he
      · rw [List.mem_singleton.1 he]; exact ho
    split at h0
    · rename_i k
      rw [if_pos k]
      obtain ⟨h1, h2, h3, h4, h5, _⟩ := open_fine h.f h0
      refine ⟨⟨h1, by rw [h2]; exact h.s, ?_⟩, ⟨fun q => by omega, fun _ => ⟨h3, .inl h2⟩, fun q => by omega, fun q => absurd rfl q⟩⟩
      rw [h5]
      have := h.q
      have := placeI_le j.q o.f2.f1
      rw [List.length_append, List.length_take, List.length_cons, List.length_drop]
      omega
    rename_i k0
    rw [if_neg k0]
    split at h0
    · rename_i k
      rw [if_pos k]
      obtain ⟨h1, h2, h3, h4, h5⟩ := close_fine h.f h0
      refine ⟨⟨h1, by rw [h2]; exact h.s, ?_⟩, ⟨fun q => by omega, fun _ => ⟨h3, .inl h2⟩, fun q => by omega, fun q => absurd rfl q⟩⟩
      rw [h5]
      have := h.q
      rw [List.length_append, List.length_take, List.length_drop]
      omega
    rename_i k1
    rw [if_neg k1]
    split at h0
    · rename_i k
      rw [if_pos k]
      obtain ⟨h1, h2, h3, h4⟩ := add_fine h.f h0
      refine ⟨⟨h1, by rw [h2]; exact happ, ?_⟩, ⟨fun q => by omega, fun _ => ⟨h3, .inr h2⟩, fun _ _ => h2, fun q => absurd rfl q⟩⟩
      rw [h4]
      have := h.q
      split
      · unfold lessAt; rw [List.length_set]; omega
      · omega
    rename_i k2
    rw [if_neg k2]
    split at h0
    · rename_i k
      rw [if_pos k]
      obtain ⟨h1, h2, h3, h4⟩ := note_fine h.f h0
      refine ⟨⟨h1, ?_, ?_⟩, ⟨fun q => by omega, fun _ => ⟨h3, h2⟩, fun q => by omega, fun q => absurd rfl q⟩⟩
      · rcases h2 with h2 | h2
        · rw [h2]; exact h.s
        · rw [h2]; exact happ
      · have := h.q
        rcases h4 with h4 | ⟨_, h4 | h4⟩
        · rw [h4]; omega
        · rw [h4]; unfold lessAt; rw [List.length_set]; omega
        · rw [h4]; unfold lostAt; rw [List.length_set]; omega
    rename_i k3
    rw [if_neg k3]
    split at h0
    · rename_i k
      rw [if_pos k]
      obtain ⟨h1, h2, h3, h4, h5, h6⟩ := trim_fine h.f h0
      refine ⟨⟨h1, by rw [h4]; exact fun e he => h.s e (List.mem_of_mem_drop he), ?_⟩, ⟨fun _ _ => ⟨h2, h3, h4, h5⟩, fun q => absurd ⟨k, rfl⟩ q, fun q => by omega, fun q => absurd rfl q⟩⟩
      rw [h6]
      have := h.q
      omega
    · cases h0
  · rw [if_neg h0]
    exact ⟨h.mono (by omega), ⟨fun _ q => absurd q h0, fun _ => ⟨rfl, .inl rfl⟩, fun _ q => absurd q h0, fun _ => rfl⟩⟩
def HasLeft (q : List S35) (b v : Int) : Prop := ∃ x ∈ q, x.f0 = b ∧ x.f1 = v
theorem place_of_mem : ∀ (q : List S35) (x : S35), (q.map (·.f0)).Pairwise (· < ·) → x ∈ q → placeB q x.f0 = true ∧ qAt q (placeI q x.f0) = x
  | [], x, _, h => by cases h
  | y :: q, x, h, hx => by
    rw [List.map_cons, List.pairwise_cons] at h
    rcases List.mem_cons.1 hx with rfl | hx
    · have e : placeI (x :: q) x.f0 = 0 := by unfold placeI; rw [if_neg (by omega)]
      refine ⟨?_, by rw [e]; rfl⟩
      unfold placeB
      rw [e]
      simp
    · have hlt := h.1 x.f0 (List.mem_map_of_mem hx)
      have e : placeI (y :: q) x.f0 = placeI q x.f0 + 1 := by
        show (if y.f0 < x.f0 then placeI q x.f0 + 1 else 0) = _
        rw [if_pos hlt]
      obtain ⟨h1, h2⟩ := place_of_mem q x h.2 hx
      refine ⟨?_, by rw [e]; exact h2⟩
      unfold placeB at h1 ⊢
      rw [e, List.drop_succ_cons]
      exact h1
theorem has_place {q : List S35} {b v : Int} (hr : (q.map (·.f0)).Pairwise (· < ·)) (h : HasLeft q b v) : placeB q b = true ∧ (qAt q (placeI q b)).f1 = v := by
  obtain ⟨x, hx, rfl, rfl⟩ := h
  obtain ⟨h1, h2⟩ := place_of_mem q x hr hx
  exact ⟨h1, by rw [h2]⟩
theorem mem_set_ne {q : List S35} {i : Nat} {x y : S35} (hi : i < q.length) (hx : x ∈ q) (hne : x.f0 ≠ (qAt q i).f0) : x ∈ q.set i y := by
  obtain ⟨k, hk, rfl⟩ := List.getElem_of_mem hx
  have hki : i ≠ k := fun e => hne (by subst e; rw [qAt_get hk])
  have : (q.set i y)[k]'(by rw [List.length_set]; exact hk) = q[k] := List.getElem_set_ne hki _
  rw [← this]
  exact List.getElem_mem _
theorem done_left {n : Nat} {j : Jn} {o : S43} {b v : Int} (h : Way n j) (ho : o.f2.f3.size ≤ 200) (hl : HasLeft j.q b v) (hb : o.f2.f1 ≠ b ∨ o.f0 = 4) : HasLeft (doneJ j o).1.q b v := by
  obtain ⟨x, hx, hx0, hx1⟩ := hl
  unfold doneJ
  by_cases h0 : (opJ j o).2 = 0
  · rw [if_pos h0]
    unfold opJ at h0 ⊢
    split at h0
    · rename_i k
      rw [if_pos k]
      obtain ⟨h1, h2, h3, h4, h5, _⟩ := open_fine h.f h0
      refine ⟨x, ?_, hx0, hx1⟩
      rw [h5]
      rw [← List.take_append_drop (placeI j.q o.f2.f1) j.q] at hx
      rcases List.mem_append.1 hx with hx | hx
      · exact List.mem_append_left _ hx
      · exact List.mem_append_right _ (List.mem_cons_of_mem _ hx)
    rename_i k0
    rw [if_neg k0]
    split at h0
    · rename_i k
      rw [if_pos k]
      obtain ⟨h1, h2, h3, h4, h5⟩ := close_fine h.f h0
      have hlt := placeB_lt h4
      have hat := placeB_at h4
      refine ⟨x, ?_, hx0, hx1⟩
      rw [h5]
      generalize placeI j.q o.f2.f1 = i at *
      rw [← List.take_append_drop i j.q, List.drop_eq_getElem_cons hlt] at hx
      rcases List.mem_append.1 hx with hx | hx
      · exact List.mem_append_left _ hx
      · rcases List.mem_cons.1 hx with hx | hx
        · exfalso
          rw [qAt_get hlt, ← hx, hx0] at hat
          rcases hb with hb | hb
          · exact hb hat.symm
          · omega
        · exact List.mem_append_right _ hx
    rename_i k1
    rw [if_neg k1]
    have hbx : ∀ i : Nat, o.f0 ≠ 4 → placeB j.q o.f2.f1 = true → x.f0 ≠ (qAt j.q (placeI j.q o.f2.f1)).f0 := fun _ h9 hp => by
      rw [placeB_at hp, hx0]
      rcases hb with hb | hb
      · exact fun e => hb e.symm
      · exact absurd hb h9
    split at h0
    · rename_i k
      rw [if_pos k]
      obtain ⟨h1, h2, h3, h4⟩ := add_fine h.f h0
      refine ⟨x, ?_, hx0, hx1⟩
      rw [h4]
      split
      · rename_i hp
        exact mem_set_ne (placeB_lt hp) hx (hbx 0 (by omega) hp)
      · exact hx
    rename_i k2
    rw [if_neg k2]
    split at h0
    · rename_i k
      rw [if_pos k]
      obtain ⟨h1, h2, h3, h4⟩ := note_fine h.f h0
      refine ⟨x, ?_, hx0, hx1⟩
      rcases h4 with h4 | ⟨hp, h4 | h4⟩
      · rw [h4]; exact hx
      · rw [h4]; exact mem_set_ne (placeB_lt hp) hx (hbx 0 (by omega) hp)
      · rw [h4]; exact mem_set_ne (placeB_lt hp) hx (hbx 0 (by omega) hp)
    rename_i k3
    rw [if_neg k3]
    split at h0
    · rename_i k
      rw [if_pos k]
      obtain ⟨h1, h2, h3, h4, h5, h6⟩ := trim_fine h.f h0
      exact ⟨x, by rw [h6]; exact hx, hx0, hx1⟩
    · cases h0
  · rw [if_neg h0]
    exact ⟨x, hx, hx0, hx1⟩
theorem open_left {n : Nat} {j : Jn} {b v : Int} (h : Way n j) (ho : (openJ j b v).2 = 0) : Way (n + 1) (openJ j b v).1 ∧ HasLeft (openJ j b v).1.q b v ∧ 1 ≤ v ∧ v ≤ 40 ∧ 1 ≤ b ∧ b ≤ 1099511627776 := by
  obtain ⟨h1, h2, h3, h4, h5, h6, h7, h8⟩ := open_fine h.f ho
  have hb : 1 ≤ b ∧ b ≤ 1099511627776 := by
    unfold wi at h8
    simpa using h8
  refine ⟨⟨h1, by rw [h2]; exact h.s, ?_⟩, ?_, h6, h7, hb⟩
  · rw [h5]
    have := h.q
    have := placeI_le j.q b
    rw [List.length_append, List.length_take, List.length_cons, List.length_drop]
    omega
  · rw [h5]
    exact ⟨⟨b, v, 0⟩, List.mem_append_right _ (List.mem_cons_self ..), rfl, rfl⟩
theorem open_not {j : Jn} {b v : Int} (ho : (openJ j b v).2 ≠ 0) : (openJ j b v).1 = zJn := by
  unfold openJ at ho ⊢
  split
  · rfl
  rename_i h1
  rw [if_neg h1] at ho
  split
  · rfl
  rename_i h2
  rw [if_neg h2] at ho
  split
  · rfl
  rename_i h3
  rw [if_neg h3] at ho
  exact absurd rfl ho
def noteE (i b : Int) : S27 := ⟨i, b, 2, ⟨#[120]⟩, 0, 0⟩
theorem quote_x : (quoteZ ⟨#[120]⟩).2 = true := by kernel_rfl
theorem noteE_ok {i b : Int} (hi : 0 ≤ i) (hi9 : i ≤ 40) (hb : 1 ≤ b) (hb9 : b ≤ 1099511627776) : strangeB (noteE i b) = false := by
  unfold strangeB noteE wi
  show (!(quoteZ ⟨#[120]⟩).2 || _ || _ || _ || _) = false
  rw [quote_x]
  simp only [Bool.or_eq_false_iff, Bool.not_eq_false', Bool.and_eq_true, decide_eq_true_eq, decide_eq_false_iff_not]
  refine ⟨⟨⟨⟨trivial, ?_⟩, ?_⟩, ?_⟩, ?_⟩ <;> (try exact ⟨by omega, by omega⟩) <;> (first | (show ¬ (2:Int) < 0; omega) | (show ¬ (5:Int) < 2; omega))
theorem add_left {n : Nat} {j : Jn} {b v i : Int} (h : Way n j) (hl : HasLeft j.q b v) (hv : 0 < v) (hi : 0 ≤ i) (hi9 : i ≤ 40) (hb : 1 ≤ b) (hb9 : b ≤ 1099511627776) :
    (addJ j (noteE i b)).2 = 0 ∧ Way n (addJ j (noteE i b)).1 ∧ HasLeft (addJ j (noteE i b)).1.q b (v - 1) ∧ (addJ j (noteE i b)).1.l = j.l ++ [noteE i b] := by
  obtain ⟨hp, hv1⟩ := has_place h.f.r hl
  have hst := noteE_ok hi hi9 hb hb9
  have hfr := (fine_iff j).2 h.f
  have e0 : (addJ j (noteE i b)).2 = 0 := by
    unfold addJ
    rw [if_neg (by rw [hfr, hst]; simp), if_pos (show placeB j.q (noteE i b).f1 = true from hp), if_neg (show ¬ (qAt j.q (placeI j.q (noteE i b).f1)).f1 = 0 from fun h9 => by have : (qAt j.q (placeI j.q b)).f1 = 0 := h9; omega)]
  obtain ⟨h1, h2, h3, h4⟩ := add_fine h.f e0
  have hlt := placeB_lt hp
  rw [if_pos (show placeB j.q (noteE i b).f1 = true from hp)] at h4
  refine ⟨e0, ⟨h1, ?_, ?_⟩, ?_, h2⟩
  · rw [h2]
    intro e he
    rcases List.mem_append.1 he with he | he
    · exact h.s e he
    · rw [List.mem_singleton.1 he]; show 1 ≤ 200; omega
  · rw [h4]; unfold lessAt; rw [List.length_set]; exact h.q
  · rw [h4]
    refine ⟨⟨(qAt j.q (placeI j.q b)).f0, (qAt j.q (placeI j.q b)).f1 - 1, (qAt j.q (placeI j.q b)).f2⟩, ?_, placeB_at hp, by rw [← hv1]⟩
    exact List.mem_set hlt _
theorem add_none {n : Nat} {j : Jn} {b i : Int} (h : Way n j) (hl : HasLeft j.q b 0) (hi : 0 ≤ i) (hi9 : i ≤ 40) (hb : 1 ≤ b) (hb9 : b ≤ 1099511627776) : (addJ j (noteE i b)).2 = 180 := by
  obtain ⟨hp, hv1⟩ := has_place h.f.r hl
  have hst := noteE_ok hi hi9 hb hb9
  have hfr := (fine_iff j).2 h.f
  unfold addJ
  rw [if_neg (by rw [hfr, hst]; simp), if_pos (show placeB j.q (noteE i b).f1 = true from hp), if_pos (show (qAt j.q (placeI j.q (noteE i b).f1)).f1 = 0 from hv1)]
theorem of_fine {j : Jn} (h : Fine j) (b : Int) : ofJ j b = j.l.filter (fun x => decide (x.f1 = b)) := by
  unfold ofJ
  rw [if_neg (by rw [(fine_iff j).2 h]; simp)]
end Go.Proofs.YtghpmpjoedbpcaaDoor.Print
