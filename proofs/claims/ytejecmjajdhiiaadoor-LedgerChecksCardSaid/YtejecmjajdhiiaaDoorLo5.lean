import Derived.Test.YtejecmjajdhiiaaDoorLo4
import Derived.Below
import Derived.ChangeOld
import Derived.LaidLaws
import Derived.LaidOnce
import Derived.Lay
import Derived.Lib.LaidU8T
import Derived.OpenShut
import Derived.PinnedBridge
import Derived.ProofKit
import Derived.SevenTiedAt
import Derived.Shelf.Lay
import Derived.ShutString
import Derived.SizedLaws
import Derived.Test.YtejecmjajdhiiaaDoorCards
import Derived.Test.YtejecmjajdhiiaaDoorProg
import Derived.Test.YtejecmjajdhiiaaDoorRows
import Derived.Test.YtejecmjajdhiiaaDoorTie
import Derived.WalkKit
set_option linter.unusedVariables false
set_option linter.unusedSimpArgs false
namespace Go.Proofs.YtejecmjajdhiiaaDoorW.PrintWords
end Go.Proofs.YtejecmjajdhiiaaDoorW.PrintWords
namespace Go.Proofs.YtejecmjajdhiiaaDoorW.PrintLast
end Go.Proofs.YtejecmjajdhiiaaDoorW.PrintLast
namespace Go.Proofs.YtejecmjajdhiiaaDoorW.PrintMore
end Go.Proofs.YtejecmjajdhiiaaDoorW.PrintMore
/-! ### Print20 -/
namespace Go.Proofs.YtejecmjajdhiiaaDoor.Print
open Go.RowKit Go.Proofs.YtejecmjajdhiiaaDoorW.PrintWords Go.Proofs.YtejecmjajdhiiaaDoorW.PrintLast Go.Proofs.YtejecmjajdhiiaaDoorW.PrintMore
attribute [local go_sem] min_two
set_option linter.unusedVariables false
set_option linter.unusedSimpArgs false
def malthouselaw13_few.l0 : Nat → List (S41) → Int → Option (Bool)
  | 0, _, _ => none
  | k + 1, x0, x5 => if x5 < (x0.length : Int) then (if 0 ≤ x5 then ((malthouselaw13_names.f ((rd_T41 x0 x5).f0) ((rd_T41 x0 x5).f1) ((rd_T41 x0 x5).f2) ((rd_T41 x0 x5).f3) ((rd_T41 x0 x5).f4)).bind fun t359 => (if t359 = true then (malthouselaw13_few.l0 k x0 (wrap64 (x5 + 1))) else (some false))) else (none)) else (some true)
def malthouselaw13_few.f (k : Nat) (l0 : List (S41)) (a1 : Int) : Option (Bool) := if (l0.length : Int) > a1 then (some false) else (malthouselaw13_few.l0 k l0 0)
set_option maxHeartbeats 8000000 in
set_option maxRecDepth 100000 in
theorem malthouselaw13_few.calls (k : Nat) (A0 : Option Addr) (c0 : Nat) (l0 : List (S41)) (a1 : Int) (r : Bool) (w : World) (hr0 : Kd.C k41 w A0 l0.length l0) (hc0 : l0.length ≤ c0) (h : malthouselaw13_few.f k l0 a1 = some r) :
    Calls Tryd.prog 28 #[.slice A0 l0.length c0, .int .i64 a1] w fun e w' => e = .returned (.bool r) ∧ Below w.heap.size w w' := by
  have hu41 := Tryd.underlying41
  have HR0 := Aside0.mk hr0
  have HC0 := Aside0.mk hc0
  clear hr0 hc0
  have HB := Aside0.mk (Below.refl w.heap.size w)
  have H : (if (l0.length : Int) > a1 then (some false) else (malthouselaw13_few.l0 k l0 0)) = some r := h
  clear h
  by_cases c3 : (l0.length : Int) > a1
  · rw [if_pos c3] at H
    have c3b0 : decide (a1 < (l0.length : Int)) = true := decide_eq_true c3
    clear c3
    obtain rfl := Option.some.inj H
    go_enter Tryd.func28, Tryd.ntmps28
    go_wp2
    go_ret
    exact ⟨by first | rfl | (simp [errW_none, errW_some] <;> rfl) | (simp [*, errW_none, errW_some] <;> rfl), by repeat (first | (with_reducible first | exact HB.out | apply below_alloc | apply pw_below_drewN | apply below_drew1) | exact HB.out)⟩
  · rw [if_neg c3] at H
    have c3b0 : decide (a1 < (l0.length : Int)) = false := decide_eq_false c3
    clear c3
    have H' := Aside0.mk H
    clear H
    go_enter Tryd.func28, Tryd.ntmps28
    go_wp2
    go_loopg [5] k (fun kq v5 w' => ∃ (x5_1 : Int), v5 = .int .i64 x5_1 ∧ Aside0 (malthouselaw13_few.l0 kq l0 x5_1 = some r) ∧ Aside0 (kq ≤ k) ∧ Aside0 (Below w.heap.size w w'))
    case atStart => exact ⟨(0), (by first | rfl | (simp; done) | (simp [*]; done)), H', ⟨Nat.le_refl _⟩, ⟨by repeat (first | (with_reducible first | exact HB.out | apply below_alloc | apply pw_below_drewN | apply below_drew1) | exact HB.out)⟩⟩
    case round =>
      clear H'
      try clear c2
      try clear p2
      try clear c3
      try clear c3b0
      obtain ⟨x5_1, rfl, HA, HK1, HB⟩ := hrel
      cases gk with
      | zero => exact absurd HA.out (by simp [malthouselaw13_few.l0])
      | succ k1 =>
        have H := HA.out
        clear HA
        simp only [malthouselaw13_few.l0] at H
        by_cases c4 : x5_1 < (l0.length : Int)
        · rw [if_pos c4] at H
          have c4b0 : decide (x5_1 < (l0.length : Int)) = true := decide_eq_true c4
          clear c4
          by_cases c5 : 0 ≤ x5_1
          · rw [if_pos c5] at H
            have c5b0 : decide (0 ≤ x5_1) = true := decide_eq_true c5
            clear c5
            replace H := Option.bind_eq_some_iff.mp H
            obtain ⟨t359, A60, H⟩ := H
            replace H : (if t359 = true then (malthouselaw13_few.l0 k1 l0 (wrap64 (x5_1 + 1))) else (some false)) = some r := H
            have A6 := Aside0.mk A60
            clear A60
            by_cases c7 : t359 = true
            · subst c7
              have H1 : (malthouselaw13_few.l0 k1 l0 (wrap64 (x5_1 + 1))) = some r := by rw [if_pos rfl] at H; exact H
              clear H
              have H := H1
              clear H1
              have H' := Aside0.mk H
              clear H
              have p358 : 0 ≤ (x5_1 : Int) := of_decide_eq_true (by first | (with_reducible assumption) | assumption)
              have q358 : x5_1 < (l0.length : Int) := of_decide_eq_true (by first | (with_reducible assumption) | assumption)
              obtain ⟨ad358, e358, hx358_0, hx358_1, hx358_2, hx358_3, hx358_4⟩ := at_T41 HR0.out x5_1 p358 q358
              cases e358
              replace hx358_0 := (HB.out.cell (World.block_lt_of_cell? w _ hx358_0)).trans hx358_0
              replace hx358_1 := (HB.out.cell (World.block_lt_of_cell? w _ hx358_1)).trans hx358_1
              replace hx358_2 := (HB.out.cell (World.block_lt_of_cell? w _ hx358_2)).trans hx358_2
              replace hx358_3 := (HB.out.cell (World.block_lt_of_cell? w _ hx358_3)).trans hx358_3
              replace hx358_4 := (HB.out.cell (World.block_lt_of_cell? w _ hx358_4)).trans hx358_4
              replace p358 := eq_true p358
              replace q358 := eq_true q358
              go_wp2_with (first | ((with_reducible refine gate_callee (f := 21) rfl ?_); refine goesL_ (some 21) rfl rfl Tryd.func21 (by kernel_rfl) rfl #[.agg #[.int .i64 ((rd_T41 l0 x5_1).f0), .string ((rd_T41 l0 x5_1).f1), .string ((rd_T41 l0 x5_1).f2), .string ((rd_T41 l0 x5_1).f3), .int .i64 ((rd_T41 l0 x5_1).f4)]] rfl (by (try simp only [List.map_toArray, List.map_cons, List.map_nil]); first | done | rfl | (simp only [List.length_drop, List.length_take]; rfl)) ?_; (with_reducible refine (malthouselaw13_names.calls ((rd_T41 l0 x5_1).f0) ((rd_T41 l0 x5_1).f1) ((rd_T41 l0 x5_1).f2) ((rd_T41 l0 x5_1).f3) ((rd_T41 l0 x5_1).f4) true _ A6.out).mono ?_); rintro e w8 ⟨rfl, hb⟩; refine ⟨_, rfl, ?_⟩; have n0_ := Aside0.mk (below_step (by repeat (first | (with_reducible first | exact HB.out | apply below_alloc | apply pw_below_drewN | apply below_drew1) | exact HB.out)) hb); clear HB; have HB := n0_; clear n0_; (try clear hb); (try clear hb2); (try clear hk); (try clear hi)))
              go_roundg k1
              case measure => have := HK1.out; omega
              case rel => exact ⟨(wrap64 (x5_1 + 1)), (by first | rfl | (simp; done) | (simp [*]; done)), H', ⟨by have := HK1.out; omega⟩, ⟨by repeat (first | (with_reducible first | exact HB.out | apply below_alloc | apply pw_below_drewN | apply below_drew1) | exact HB.out)⟩⟩
            · replace c7 := Bool.eq_false_iff.mpr c7
              subst c7
              have H1 : (some false) = some r := by rw [if_neg (show ¬ (false = true) by decide)] at H; exact H
              clear H
              have H := H1
              clear H1
              obtain rfl := Option.some.inj H
              have p358 : 0 ≤ (x5_1 : Int) := of_decide_eq_true (by first | (with_reducible assumption) | assumption)
              have q358 : x5_1 < (l0.length : Int) := of_decide_eq_true (by first | (with_reducible assumption) | assumption)
              obtain ⟨ad358, e358, hx358_0, hx358_1, hx358_2, hx358_3, hx358_4⟩ := at_T41 HR0.out x5_1 p358 q358
              cases e358
              replace hx358_0 := (HB.out.cell (World.block_lt_of_cell? w _ hx358_0)).trans hx358_0
              replace hx358_1 := (HB.out.cell (World.block_lt_of_cell? w _ hx358_1)).trans hx358_1
              replace hx358_2 := (HB.out.cell (World.block_lt_of_cell? w _ hx358_2)).trans hx358_2
              replace hx358_3 := (HB.out.cell (World.block_lt_of_cell? w _ hx358_3)).trans hx358_3
              replace hx358_4 := (HB.out.cell (World.block_lt_of_cell? w _ hx358_4)).trans hx358_4
              replace p358 := eq_true p358
              replace q358 := eq_true q358
              go_wp2_with (first | ((with_reducible refine gate_callee (f := 21) rfl ?_); refine goesL_ (some 21) rfl rfl Tryd.func21 (by kernel_rfl) rfl #[.agg #[.int .i64 ((rd_T41 l0 x5_1).f0), .string ((rd_T41 l0 x5_1).f1), .string ((rd_T41 l0 x5_1).f2), .string ((rd_T41 l0 x5_1).f3), .int .i64 ((rd_T41 l0 x5_1).f4)]] rfl (by (try simp only [List.map_toArray, List.map_cons, List.map_nil]); first | done | rfl | (simp only [List.length_drop, List.length_take]; rfl)) ?_; (with_reducible refine (malthouselaw13_names.calls ((rd_T41 l0 x5_1).f0) ((rd_T41 l0 x5_1).f1) ((rd_T41 l0 x5_1).f2) ((rd_T41 l0 x5_1).f3) ((rd_T41 l0 x5_1).f4) false _ A6.out).mono ?_); rintro e w9 ⟨rfl, hb⟩; refine ⟨_, rfl, ?_⟩; have n0_ := Aside0.mk (below_step (by repeat (first | (with_reducible first | exact HB.out | apply below_alloc | apply pw_below_drewN | apply below_drew1) | exact HB.out)) hb); clear HB; have HB := n0_; clear n0_; (try clear hb); (try clear hb2); (try clear hk); (try clear hi)))
              go_ret
              exact ⟨by first | rfl | (simp [errW_none, errW_some] <;> rfl) | (simp [*, errW_none, errW_some] <;> rfl), by repeat (first | (with_reducible first | exact HB.out | apply below_alloc | apply pw_below_drewN | apply below_drew1) | exact HB.out)⟩
          · rw [if_neg c5] at H
            exact absurd H (by simp)
        · rw [if_neg c4] at H
          have c4b0 : decide (x5_1 < (l0.length : Int)) = false := decide_eq_false c4
          clear c4
          obtain rfl := Option.some.inj H
          go_wp2
          go_ret
          exact ⟨by first | rfl | (simp [errW_none, errW_some] <;> rfl) | (simp [*, errW_none, errW_some] <;> rfl), by repeat (first | (with_reducible first | exact HB.out | apply below_alloc | apply pw_below_drewN | apply below_drew1) | exact HB.out)⟩
def malthouselaw13_done.f (l0 : List (S25)) (a1_0 : Int) (a1_1 : ByteArray) (a1_2 : ByteArray) (a1_3 : ByteArray) (a1_4 : Int) : Option ((List (S25)) × Int × (List (S37)) × Int) := if a1_0 = 0 then ((ledger_Charge.f l0 a1_1 a1_3 a1_4).bind fun bt361 => (if bt361.2 = 0 then (some (bt361.1, a1_4, ([] : List (S37)), 0)) else (some (l0, 0, ([] : List (S37)), bt361.2)))) else (if a1_0 = 1 then ((ledger_Draw.f l0 a1_1 a1_4).bind fun bt365 => (if bt365.2.2 = 0 then (some (bt365.1, wrap64 (-a1_4), bt365.2.1, 0)) else (some (l0, 0, ([] : List (S37)), bt365.2.2)))) else (if a1_0 = 2 then ((ledger_Move.f l0 a1_1 a1_2 a1_4).bind fun bt372 => (if bt372.2 = 0 then (some (bt372.1, 0, ([] : List (S37)), 0)) else (some (l0, 0, ([] : List (S37)), bt372.2)))) else (some (l0, 0, ([] : List (S37)), 1))))
set_option maxHeartbeats 8000000 in
set_option maxRecDepth 100000 in
theorem malthouselaw13_done.calls (P0_ : Nat → Prop) (A0 : Option Addr) (c0 : Nat) (l0 : List (S25)) (a1_0 : Int) (a1_1 : ByteArray) (a1_2 : ByteArray) (a1_3 : ByteArray) (a1_4 : Int) (r1 : List (S25)) (r2 : Int) (r3 : List (S37)) (r4 : Int) (w : World) (hs0 : Kd.V k25 25 w w.heap.size (fun k_ => P0_ k_) (.slice A0 l0.length c0) l0) (hT : Tabs w) (h : malthouselaw13_done.f l0 a1_0 a1_1 a1_2 a1_3 a1_4 = some (r1, r2, r3, r4)) :
    Calls Tryd.prog 29 #[.slice A0 l0.length c0, .agg #[.int .i64 a1_0, .string a1_1, .string a1_2, .string a1_3, .int .i64 a1_4]] w fun e w' => ∃ v0_ v2_ : Value, e = .returned (.tuple #[v0_, .int .i64 r2, v2_, .int .i64 r4]) ∧ Kd.V k25 25 w' w.heap.size (fun k_ => (P0_ k_ ∨ w.heap.size ≤ k_) ∧ some k_ ≠ (v2_ : Value).ownBlock) v0_ r1 ∧ Kd.R k37 37 w' w.heap.size (fun k_ => (w.heap.size ≤ k_)) v2_ r3 ∧ Below w.heap.size w w' := by
  have hu41 := Tryd.underlying41
  have HO0 := Aside0.mk (show Kd.V k25 25 w w.heap.size (fun k_ => (P0_ k_ ∨ w.heap.size ≤ k_)) (.slice A0 l0.length c0) l0 from Kd.V_mono hs0 (fun k_ hk => .inl hk))
  have HB := Aside0.mk (Below.refl w.heap.size w)
  have H : (if a1_0 = 0 then ((ledger_Charge.f l0 a1_1 a1_3 a1_4).bind fun bt361 => (if bt361.2 = 0 then (some (bt361.1, a1_4, ([] : List (S37)), 0)) else (some (l0, 0, ([] : List (S37)), bt361.2)))) else (if a1_0 = 1 then ((ledger_Draw.f l0 a1_1 a1_4).bind fun bt365 => (if bt365.2.2 = 0 then (some (bt365.1, wrap64 (-a1_4), bt365.2.1, 0)) else (some (l0, 0, ([] : List (S37)), bt365.2.2)))) else (if a1_0 = 2 then ((ledger_Move.f l0 a1_1 a1_2 a1_4).bind fun bt372 => (if bt372.2 = 0 then (some (bt372.1, 0, ([] : List (S37)), 0)) else (some (l0, 0, ([] : List (S37)), bt372.2)))) else (some (l0, 0, ([] : List (S37)), 1))))) = some (r1, r2, r3, r4) := h
  clear h
  by_cases c3 : a1_0 = 0
  · rw [if_pos c3] at H
    have c3b0 : (a1_0 == 0) = true := beq_iff_eq.mpr c3
    have c3b1 : (a1_0 != 0) = false := bne_eq_false_iff_eq.mpr c3
    clear c3
    replace H := Option.bind_eq_some_iff.mp H
    obtain ⟨⟨t361, t362⟩, A40, H⟩ := H
    replace H : (if t362 = 0 then (some (t361, a1_4, ([] : List (S37)), 0)) else (some (l0, 0, ([] : List (S37)), t362))) = some (r1, r2, r3, r4) := H
    have A4 := Aside0.mk A40
    clear A40
    by_cases c5 : t362 = 0
    · rw [if_pos c5] at H
      have c5b0 : (t362 == 0) = true := beq_iff_eq.mpr c5
      have c5b1 : (t362 != 0) = false := bne_eq_false_iff_eq.mpr c5
      clear c5
      simp only [Option.some.injEq, Prod.mk.injEq] at H
      obtain ⟨rfl, rfl, rfl, rfl⟩ := H
      go_enter Tryd.func29, Tryd.ntmps29
      go_wp2_with (first | ((with_reducible refine gate_dst (N := 3) rfl ?_); refine box_event ?hg (N := 3) ?hd (cs := #[.int .i64 a1_0, .string a1_1, .string a1_2, .string a1_3, .int .i64 a1_4]) (t := 41) ?hr ?_; (case hd => rfl); (case hg => rfl); (case hr => first | (go_simp; done) | (go_simp; rfl)); intro gb360 hg w6 hbox hb; have n0_ := Aside0.mk (Kd.V_below (Kd.V_elderB (by (with_reducible repeat (first | apply Kd.V_alloc | apply Kd.V_drewN | apply Kd.V_drew)); exact HO0.out) gb360 (Nat.le_of_eq hg.symm)) hb); have n1_ := Aside0.mk (below_step (by repeat (first | (with_reducible first | exact HB.out | apply below_alloc | apply pw_below_drewN | apply below_drew1) | exact HB.out)) hb); have n2_ := Aside0.mk (hbox); have n3_ := Aside0.mk ((by rw [hg]; exact (below_size (by repeat (first | (with_reducible first | exact HB.out | apply below_alloc | apply pw_below_drewN | apply below_drew1) | exact HB.out))) : w.heap.size ≤ gb360)); have n4_ := Aside0.mk ((by rw [hg]; exact (below_size (by repeat (first | (with_reducible first | exact HB.out | apply below_alloc | apply pw_below_drewN | apply below_drew1) | exact HB.out))) : w.heap.size ≤ gb360)); clear HO0; clear HB; have HO0 := n0_; have HB := n1_; have BK360 := n2_; have GW360 := n3_; have GE360 := n4_; clear n0_ n1_ n2_ n3_ n4_; clear hb hbox hg; have hcz7_0 : w6.cell? ⟨gb360, 0, none⟩ = some (.int .i64 a1_0) := (blk_cell BK360.out 0).trans rfl; have hcz7_1 : w6.cell? ⟨gb360, 1, none⟩ = some (.string a1_1) := (blk_cell BK360.out 1).trans rfl; have hcz7_2 : w6.cell? ⟨gb360, 2, none⟩ = some (.string a1_2) := (blk_cell BK360.out 2).trans rfl; have hcz7_3 : w6.cell? ⟨gb360, 3, none⟩ = some (.string a1_3) := (blk_cell BK360.out 3).trans rfl; have hcz7_4 : w6.cell? ⟨gb360, 4, none⟩ = some (.int .i64 a1_4) := (blk_cell BK360.out 4).trans rfl; have hfz7_0 := blk_frozen BK360.out 0; have hfz7_1 := blk_frozen BK360.out 1; have hfz7_2 := blk_frozen BK360.out 2; have hfz7_3 := blk_frozen BK360.out 3; have hfz7_4 := blk_frozen BK360.out 4) | (go_at_call 23; (with_reducible refine (ledger_Charge.calls _ _ l0 a1_1 a1_3 a1_4 t361 t362 _ ?side1 ?side2 ?side3 A4.out).mono ?_); (case side1 => repeat (first | exact (Kd.V_reads' HO0.out).2.2 | (with_reducible refine Kd.C_alloc ?_ _) | (with_reducible refine Kd.C_drewN ?_ _) | (with_reducible refine Kd.C_drew ?_))); (case side2 => exact (Kd.V_reads' HO0.out).2.1); (case side3 => exact Tabs.below hT (by repeat (first | (with_reducible first | exact HB.out | apply below_alloc | apply pw_below_drewN | apply below_drew1 | refine below_set ?_ GE360.out) | exact HB.out))); rintro e w8 ⟨v363, rfl, ho0, hb⟩; have n0_ := Aside0.mk (Kd.V_elder' (by (with_reducible repeat (first | apply Kd.V_alloc | apply Kd.V_drewN | apply Kd.V_drew)); exact HO0.out) (Kd.S_base ho0) hb); have n1_ := Aside0.mk (Kd.S_lower (Kd.S_newM (M := fun k_ => (w.heap.size ≤ k_)) ho0 (below_size (by repeat (first | (with_reducible first | exact HB.out | apply below_alloc | apply pw_below_drewN | apply below_drew1 | refine below_set ?_ GE360.out) | exact HB.out))) (fun k_ h_ => h_)) (below_size (by repeat (first | (with_reducible first | exact HB.out | apply below_alloc | apply pw_below_drewN | apply below_drew1 | refine below_set ?_ GE360.out) | exact HB.out)))); have n2_ := Aside0.mk (blk_below (g := gb360) (o := .cells #[.int .i64 a1_0, .string a1_1, .string a1_2, .string a1_3, .int .i64 a1_4] 41 (0, 0)) (by (with_reducible repeat (first | refine blk_drewN ?_ _ | refine blk_drew ?_ | refine blk_alloc ?_ _)); exact BK360.out) hb); have n3_ := Aside0.mk (below_step (by repeat (first | (with_reducible first | exact HB.out | apply below_alloc | apply pw_below_drewN | apply below_drew1 | refine below_set ?_ GE360.out) | exact HB.out)) hb); clear HO0; clear BK360; clear HB; have HO0 := n0_; have HO364 := n1_; have BK360 := n2_; have HB := n3_; clear n0_ n1_ n2_ n3_; (try clear hb); (try clear hb2); (try clear hk); (try clear hi); (try clear ho0); have hcz9_0 : w8.cell? ⟨gb360, 0, none⟩ = some (.int .i64 a1_0) := (blk_cell BK360.out 0).trans rfl; have hcz9_1 : w8.cell? ⟨gb360, 1, none⟩ = some (.string a1_1) := (blk_cell BK360.out 1).trans rfl; have hcz9_2 : w8.cell? ⟨gb360, 2, none⟩ = some (.string a1_2) := (blk_cell BK360.out 2).trans rfl; have hcz9_3 : w8.cell? ⟨gb360, 3, none⟩ = some (.string a1_3) := (blk_cell BK360.out 3).trans rfl; have hcz9_4 : w8.cell? ⟨gb360, 4, none⟩ = some (.int .i64 a1_4) := (blk_cell BK360.out 4).trans rfl; have hfz9_0 := blk_frozen BK360.out 0; have hfz9_1 := blk_frozen BK360.out 1; have hfz9_2 := blk_frozen BK360.out 2; have hfz9_3 := blk_frozen BK360.out 3; have hfz9_4 := blk_frozen BK360.out 4))
      repeat (go_quiet (first | ((with_reducible refine gate_dst (N := 3) rfl ?_); refine box_event ?hg (N := 3) ?hd (cs := #[.int .i64 a1_0, .string a1_1, .string a1_2, .string a1_3, .int .i64 a1_4]) (t := 41) ?hr ?_; (case hd => rfl); (case hg => rfl); (case hr => first | (go_simp; done) | (go_simp; rfl)); intro gb360 hg w6 hbox hb; have n0_ := Aside0.mk (Kd.V_below (Kd.V_elderB (by (with_reducible repeat (first | apply Kd.V_alloc | apply Kd.V_drewN | apply Kd.V_drew)); exact HO0.out) gb360 (Nat.le_of_eq hg.symm)) hb); have n1_ := Aside0.mk (below_step (by repeat (first | (with_reducible first | exact HB.out | apply below_alloc | apply pw_below_drewN | apply below_drew1) | exact HB.out)) hb); have n2_ := Aside0.mk (hbox); have n3_ := Aside0.mk ((by rw [hg]; exact (below_size (by repeat (first | (with_reducible first | exact HB.out | apply below_alloc | apply pw_below_drewN | apply below_drew1) | exact HB.out))) : w.heap.size ≤ gb360)); have n4_ := Aside0.mk ((by rw [hg]; exact (below_size (by repeat (first | (with_reducible first | exact HB.out | apply below_alloc | apply pw_below_drewN | apply below_drew1) | exact HB.out))) : w.heap.size ≤ gb360)); clear HO0; clear HB; have HO0 := n0_; have HB := n1_; have BK360 := n2_; have GW360 := n3_; have GE360 := n4_; clear n0_ n1_ n2_ n3_ n4_; clear hb hbox hg; have hcz7_0 : w6.cell? ⟨gb360, 0, none⟩ = some (.int .i64 a1_0) := (blk_cell BK360.out 0).trans rfl; have hcz7_1 : w6.cell? ⟨gb360, 1, none⟩ = some (.string a1_1) := (blk_cell BK360.out 1).trans rfl; have hcz7_2 : w6.cell? ⟨gb360, 2, none⟩ = some (.string a1_2) := (blk_cell BK360.out 2).trans rfl; have hcz7_3 : w6.cell? ⟨gb360, 3, none⟩ = some (.string a1_3) := (blk_cell BK360.out 3).trans rfl; have hcz7_4 : w6.cell? ⟨gb360, 4, none⟩ = some (.int .i64 a1_4) := (blk_cell BK360.out 4).trans rfl; have hfz7_0 := blk_frozen BK360.out 0; have hfz7_1 := blk_frozen BK360.out 1; have hfz7_2 := blk_frozen BK360.out 2; have hfz7_3 := blk_frozen BK360.out 3; have hfz7_4 := blk_frozen BK360.out 4) | (go_at_call 23; (with_reducible refine (ledger_Charge.calls _ _ l0 a1_1 a1_3 a1_4 t361 t362 _ ?side1 ?side2 ?side3 A4.out).mono ?_); (case side1 => repeat (first | exact (Kd.V_reads' HO0.out).2.2 | (with_reducible refine Kd.C_alloc ?_ _) | (with_reducible refine Kd.C_drewN ?_ _) | (with_reducible refine Kd.C_drew ?_))); (case side2 => exact (Kd.V_reads' HO0.out).2.1); (case side3 => exact Tabs.below hT (by repeat (first | (with_reducible first | exact HB.out | apply below_alloc | apply pw_below_drewN | apply below_drew1 | refine below_set ?_ GE360.out) | exact HB.out))); rintro e w8 ⟨v363, rfl, ho0, hb⟩; have n0_ := Aside0.mk (Kd.V_elder' (by (with_reducible repeat (first | apply Kd.V_alloc | apply Kd.V_drewN | apply Kd.V_drew)); exact HO0.out) (Kd.S_base ho0) hb); have n1_ := Aside0.mk (Kd.S_lower (Kd.S_newM (M := fun k_ => (w.heap.size ≤ k_)) ho0 (below_size (by repeat (first | (with_reducible first | exact HB.out | apply below_alloc | apply pw_below_drewN | apply below_drew1 | refine below_set ?_ GE360.out) | exact HB.out))) (fun k_ h_ => h_)) (below_size (by repeat (first | (with_reducible first | exact HB.out | apply below_alloc | apply pw_below_drewN | apply below_drew1 | refine below_set ?_ GE360.out) | exact HB.out)))); have n2_ := Aside0.mk (blk_below (g := gb360) (o := .cells #[.int .i64 a1_0, .string a1_1, .string a1_2, .string a1_3, .int .i64 a1_4] 41 (0, 0)) (by (with_reducible repeat (first | refine blk_drewN ?_ _ | refine blk_drew ?_ | refine blk_alloc ?_ _)); exact BK360.out) hb); have n3_ := Aside0.mk (below_step (by repeat (first | (with_reducible first | exact HB.out | apply below_alloc | apply pw_below_drewN | apply below_drew1 | refine below_set ?_ GE360.out) | exact HB.out)) hb); clear HO0; clear BK360; clear HB; have HO0 := n0_; have HO364 := n1_; have BK360 := n2_; have HB := n3_; clear n0_ n1_ n2_ n3_; (try clear hb); (try clear hb2); (try clear hk); (try clear hi); (try clear ho0); have hcz9_0 : w8.cell? ⟨gb360, 0, none⟩ = some (.int .i64 a1_0) := (blk_cell BK360.out 0).trans rfl; have hcz9_1 : w8.cell? ⟨gb360, 1, none⟩ = some (.string a1_1) := (blk_cell BK360.out 1).trans rfl; have hcz9_2 : w8.cell? ⟨gb360, 2, none⟩ = some (.string a1_2) := (blk_cell BK360.out 2).trans rfl; have hcz9_3 : w8.cell? ⟨gb360, 3, none⟩ = some (.string a1_3) := (blk_cell BK360.out 3).trans rfl; have hcz9_4 : w8.cell? ⟨gb360, 4, none⟩ = some (.int .i64 a1_4) := (blk_cell BK360.out 4).trans rfl; have hfz9_0 := blk_frozen BK360.out 0; have hfz9_1 := blk_frozen BK360.out 1; have hfz9_2 := blk_frozen BK360.out 2; have hfz9_3 := blk_frozen BK360.out 3; have hfz9_4 := blk_frozen BK360.out 4)); try go_wp2_with (first | ((with_reducible refine gate_dst (N := 3) rfl ?_); refine box_event ?hg (N := 3) ?hd (cs := #[.int .i64 a1_0, .string a1_1, .string a1_2, .string a1_3, .int .i64 a1_4]) (t := 41) ?hr ?_; (case hd => rfl); (case hg => rfl); (case hr => first | (go_simp; done) | (go_simp; rfl)); intro gb360 hg w6 hbox hb; have n0_ := Aside0.mk (Kd.V_below (Kd.V_elderB (by (with_reducible repeat (first | apply Kd.V_alloc | apply Kd.V_drewN | apply Kd.V_drew)); exact HO0.out) gb360 (Nat.le_of_eq hg.symm)) hb); have n1_ := Aside0.mk (below_step (by repeat (first | (with_reducible first | exact HB.out | apply below_alloc | apply pw_below_drewN | apply below_drew1) | exact HB.out)) hb); have n2_ := Aside0.mk (hbox); have n3_ := Aside0.mk ((by rw [hg]; exact (below_size (by repeat (first | (with_reducible first | exact HB.out | apply below_alloc | apply pw_below_drewN | apply below_drew1) | exact HB.out))) : w.heap.size ≤ gb360)); have n4_ := Aside0.mk ((by rw [hg]; exact (below_size (by repeat (first | (with_reducible first | exact HB.out | apply below_alloc | apply pw_below_drewN | apply below_drew1) | exact HB.out))) : w.heap.size ≤ gb360)); clear HO0; clear HB; have HO0 := n0_; have HB := n1_; have BK360 := n2_; have GW360 := n3_; have GE360 := n4_; clear n0_ n1_ n2_ n3_ n4_; clear hb hbox hg; have hcz7_0 : w6.cell? ⟨gb360, 0, none⟩ = some (.int .i64 a1_0) := (blk_cell BK360.out 0).trans rfl; have hcz7_1 : w6.cell? ⟨gb360, 1, none⟩ = some (.string a1_1) := (blk_cell BK360.out 1).trans rfl; have hcz7_2 : w6.cell? ⟨gb360, 2, none⟩ = some (.string a1_2) := (blk_cell BK360.out 2).trans rfl; have hcz7_3 : w6.cell? ⟨gb360, 3, none⟩ = some (.string a1_3) := (blk_cell BK360.out 3).trans rfl; have hcz7_4 : w6.cell? ⟨gb360, 4, none⟩ = some (.int .i64 a1_4) := (blk_cell BK360.out 4).trans rfl; have hfz7_0 := blk_frozen BK360.out 0; have hfz7_1 := blk_frozen BK360.out 1; have hfz7_2 := blk_frozen BK360.out 2; have hfz7_3 := blk_frozen BK360.out 3; have hfz7_4 := blk_frozen BK360.out 4) | (go_at_call 23; (with_reducible refine (ledger_Charge.calls _ _ l0 a1_1 a1_3 a1_4 t361 t362 _ ?side1 ?side2 ?side3 A4.out).mono ?_); (case side1 => repeat (first | exact (Kd.V_reads' HO0.out).2.2 | (with_reducible refine Kd.C_alloc ?_ _) | (with_reducible refine Kd.C_drewN ?_ _) | (with_reducible refine Kd.C_drew ?_))); (case side2 => exact (Kd.V_reads' HO0.out).2.1); (case side3 => exact Tabs.below hT (by repeat (first | (with_reducible first | exact HB.out | apply below_alloc | apply pw_below_drewN | apply below_drew1 | refine below_set ?_ GE360.out) | exact HB.out))); rintro e w8 ⟨v363, rfl, ho0, hb⟩; have n0_ := Aside0.mk (Kd.V_elder' (by (with_reducible repeat (first | apply Kd.V_alloc | apply Kd.V_drewN | apply Kd.V_drew)); exact HO0.out) (Kd.S_base ho0) hb); have n1_ := Aside0.mk (Kd.S_lower (Kd.S_newM (M := fun k_ => (w.heap.size ≤ k_)) ho0 (below_size (by repeat (first | (with_reducible first | exact HB.out | apply below_alloc | apply pw_below_drewN | apply below_drew1 | refine below_set ?_ GE360.out) | exact HB.out))) (fun k_ h_ => h_)) (below_size (by repeat (first | (with_reducible first | exact HB.out | apply below_alloc | apply pw_below_drewN | apply below_drew1 | refine below_set ?_ GE360.out) | exact HB.out)))); have n2_ := Aside0.mk (blk_below (g := gb360) (o := .cells #[.int .i64 a1_0, .string a1_1, .string a1_2, .string a1_3, .int .i64 a1_4] 41 (0, 0)) (by (with_reducible repeat (first | refine blk_drewN ?_ _ | refine blk_drew ?_ | refine blk_alloc ?_ _)); exact BK360.out) hb); have n3_ := Aside0.mk (below_step (by repeat (first | (with_reducible first | exact HB.out | apply below_alloc | apply pw_below_drewN | apply below_drew1 | refine below_set ?_ GE360.out) | exact HB.out)) hb); clear HO0; clear BK360; clear HB; have HO0 := n0_; have HO364 := n1_; have BK360 := n2_; have HB := n3_; clear n0_ n1_ n2_ n3_; (try clear hb); (try clear hb2); (try clear hk); (try clear hi); (try clear ho0); have hcz9_0 : w8.cell? ⟨gb360, 0, none⟩ = some (.int .i64 a1_0) := (blk_cell BK360.out 0).trans rfl; have hcz9_1 : w8.cell? ⟨gb360, 1, none⟩ = some (.string a1_1) := (blk_cell BK360.out 1).trans rfl; have hcz9_2 : w8.cell? ⟨gb360, 2, none⟩ = some (.string a1_2) := (blk_cell BK360.out 2).trans rfl; have hcz9_3 : w8.cell? ⟨gb360, 3, none⟩ = some (.string a1_3) := (blk_cell BK360.out 3).trans rfl; have hcz9_4 : w8.cell? ⟨gb360, 4, none⟩ = some (.int .i64 a1_4) := (blk_cell BK360.out 4).trans rfl; have hfz9_0 := blk_frozen BK360.out 0; have hfz9_1 := blk_frozen BK360.out 1; have hfz9_2 := blk_frozen BK360.out 2; have hfz9_3 := blk_frozen BK360.out 3; have hfz9_4 := blk_frozen BK360.out 4)))
      refine bodyPost_ret (results_list (rs := [.tmp 4, .tmp 5, .tmp 6, .tmp 7]) rfl (by simp) (.tmp (.tmp (.tmp (.tmp .nil))))) rfl ?_
      exact ⟨_, _, by first | rfl | (simp [errW_none, errW_some] <;> rfl) | (simp [*, errW_none, errW_some] <;> rfl), Kd.V_mono (Kd.S_V (by (with_reducible repeat (first | apply Kd.S_alloc | apply Kd.S_drewN | apply Kd.S_drew)); exact HO364.out)) (fun k_ hk => ⟨.inr (by first | exact hk.1 | exact hk | exact hk.1.1), by simp [Value.ownBlock]⟩), by first | exact Kd.R_nil _ _ _ _ _ | exact Kd.N_nil _ _ _ _ _ | exact Kd.V_nil _ _ _ _ _ | exact Kd.Q_nil _ _ _ _ _ | exact Kd.S_nil _ _ _ _ _, by repeat (first | (with_reducible first | exact HB.out | apply below_alloc | apply pw_below_drewN | apply below_drew1 | refine below_set ?_ GE360.out) | exact HB.out)⟩
    · rw [if_neg c5] at H
      have c5b0 : (t362 == 0) = false := beq_eq_false_iff_ne.mpr c5
      have c5b1 : (t362 != 0) = true := bne_iff_ne.mpr c5
      simp only [Option.some.injEq, Prod.mk.injEq] at H
      obtain ⟨rfl, rfl, rfl, rfl⟩ := H
      go_enter Tryd.func29, Tryd.ntmps29
      go_wp2_with (first | ((with_reducible refine gate_dst (N := 3) rfl ?_); refine box_event ?hg (N := 3) ?hd (cs := #[.int .i64 a1_0, .string a1_1, .string a1_2, .string a1_3, .int .i64 a1_4]) (t := 41) ?hr ?_; (case hd => rfl); (case hg => rfl); (case hr => first | (go_simp; done) | (go_simp; rfl)); intro gb360 hg w10 hbox hb; have n0_ := Aside0.mk (Kd.V_below (Kd.V_elderB (by (with_reducible repeat (first | apply Kd.V_alloc | apply Kd.V_drewN | apply Kd.V_drew)); exact HO0.out) gb360 (Nat.le_of_eq hg.symm)) hb); have n1_ := Aside0.mk (below_step (by repeat (first | (with_reducible first | exact HB.out | apply below_alloc | apply pw_below_drewN | apply below_drew1) | exact HB.out)) hb); have n2_ := Aside0.mk (hbox); have n3_ := Aside0.mk ((by rw [hg]; exact (below_size (by repeat (first | (with_reducible first | exact HB.out | apply below_alloc | apply pw_below_drewN | apply below_drew1) | exact HB.out))) : w.heap.size ≤ gb360)); have n4_ := Aside0.mk ((by rw [hg]; exact (below_size (by repeat (first | (with_reducible first | exact HB.out | apply below_alloc | apply pw_below_drewN | apply below_drew1) | exact HB.out))) : w.heap.size ≤ gb360)); clear HO0; clear HB; have HO0 := n0_; have HB := n1_; have BK360 := n2_; have GW360 := n3_; have GE360 := n4_; clear n0_ n1_ n2_ n3_ n4_; clear hb hbox hg; have hcz11_0 : w10.cell? ⟨gb360, 0, none⟩ = some (.int .i64 a1_0) := (blk_cell BK360.out 0).trans rfl; have hcz11_1 : w10.cell? ⟨gb360, 1, none⟩ = some (.string a1_1) := (blk_cell BK360.out 1).trans rfl; have hcz11_2 : w10.cell? ⟨gb360, 2, none⟩ = some (.string a1_2) := (blk_cell BK360.out 2).trans rfl; have hcz11_3 : w10.cell? ⟨gb360, 3, none⟩ = some (.string a1_3) := (blk_cell BK360.out 3).trans rfl; have hcz11_4 : w10.cell? ⟨gb360, 4, none⟩ = some (.int .i64 a1_4) := (blk_cell BK360.out 4).trans rfl; have hfz11_0 := blk_frozen BK360.out 0; have hfz11_1 := blk_frozen BK360.out 1; have hfz11_2 := blk_frozen BK360.out 2; have hfz11_3 := blk_frozen BK360.out 3; have hfz11_4 := blk_frozen BK360.out 4) | (go_at_call 23; (with_reducible refine (ledger_Charge.calls _ _ l0 a1_1 a1_3 a1_4 t361 t362 _ ?side1 ?side2 ?side3 A4.out).mono ?_); (case side1 => repeat (first | exact (Kd.V_reads' HO0.out).2.2 | (with_reducible refine Kd.C_alloc ?_ _) | (with_reducible refine Kd.C_drewN ?_ _) | (with_reducible refine Kd.C_drew ?_))); (case side2 => exact (Kd.V_reads' HO0.out).2.1); (case side3 => exact Tabs.below hT (by repeat (first | (with_reducible first | exact HB.out | apply below_alloc | apply pw_below_drewN | apply below_drew1 | refine below_set ?_ GE360.out) | exact HB.out))); rintro e w12 ⟨v363, rfl, ho0, hb⟩; have n0_ := Aside0.mk (Kd.V_elder' (by (with_reducible repeat (first | apply Kd.V_alloc | apply Kd.V_drewN | apply Kd.V_drew)); exact HO0.out) (Kd.S_base ho0) hb); have n1_ := Aside0.mk (Kd.S_lower (Kd.S_newM (M := fun k_ => (w.heap.size ≤ k_)) ho0 (below_size (by repeat (first | (with_reducible first | exact HB.out | apply below_alloc | apply pw_below_drewN | apply below_drew1 | refine below_set ?_ GE360.out) | exact HB.out))) (fun k_ h_ => h_)) (below_size (by repeat (first | (with_reducible first | exact HB.out | apply below_alloc | apply pw_below_drewN | apply below_drew1 | refine below_set ?_ GE360.out) | exact HB.out)))); have n2_ := Aside0.mk (blk_below (g := gb360) (o := .cells #[.int .i64 a1_0, .string a1_1, .string a1_2, .string a1_3, .int .i64 a1_4] 41 (0, 0)) (by (with_reducible repeat (first | refine blk_drewN ?_ _ | refine blk_drew ?_ | refine blk_alloc ?_ _)); exact BK360.out) hb); have n3_ := Aside0.mk (below_step (by repeat (first | (with_reducible first | exact HB.out | apply below_alloc | apply pw_below_drewN | apply below_drew1 | refine below_set ?_ GE360.out) | exact HB.out)) hb); clear HO0; clear BK360; clear HB; have HO0 := n0_; have HO364 := n1_; have BK360 := n2_; have HB := n3_; clear n0_ n1_ n2_ n3_; (try clear hb); (try clear hb2); (try clear hk); (try clear hi); (try clear ho0)))
      repeat (go_quiet (first | ((with_reducible refine gate_dst (N := 3) rfl ?_); refine box_event ?hg (N := 3) ?hd (cs := #[.int .i64 a1_0, .string a1_1, .string a1_2, .string a1_3, .int .i64 a1_4]) (t := 41) ?hr ?_; (case hd => rfl); (case hg => rfl); (case hr => first | (go_simp; done) | (go_simp; rfl)); intro gb360 hg w10 hbox hb; have n0_ := Aside0.mk (Kd.V_below (Kd.V_elderB (by (with_reducible repeat (first | apply Kd.V_alloc | apply Kd.V_drewN | apply Kd.V_drew)); exact HO0.out) gb360 (Nat.le_of_eq hg.symm)) hb); have n1_ := Aside0.mk (below_step (by repeat (first | (with_reducible first | exact HB.out | apply below_alloc | apply pw_below_drewN | apply below_drew1) | exact HB.out)) hb); have n2_ := Aside0.mk (hbox); have n3_ := Aside0.mk ((by rw [hg]; exact (below_size (by repeat (first | (with_reducible first | exact HB.out | apply below_alloc | apply pw_below_drewN | apply below_drew1) | exact HB.out))) : w.heap.size ≤ gb360)); have n4_ := Aside0.mk ((by rw [hg]; exact (below_size (by repeat (first | (with_reducible first | exact HB.out | apply below_alloc | apply pw_below_drewN | apply below_drew1) | exact HB.out))) : w.heap.size ≤ gb360)); clear HO0; clear HB; have HO0 := n0_; have HB := n1_; have BK360 := n2_; have GW360 := n3_; have GE360 := n4_; clear n0_ n1_ n2_ n3_ n4_; clear hb hbox hg; have hcz11_0 : w10.cell? ⟨gb360, 0, none⟩ = some (.int .i64 a1_0) := (blk_cell BK360.out 0).trans rfl; have hcz11_1 : w10.cell? ⟨gb360, 1, none⟩ = some (.string a1_1) := (blk_cell BK360.out 1).trans rfl; have hcz11_2 : w10.cell? ⟨gb360, 2, none⟩ = some (.string a1_2) := (blk_cell BK360.out 2).trans rfl; have hcz11_3 : w10.cell? ⟨gb360, 3, none⟩ = some (.string a1_3) := (blk_cell BK360.out 3).trans rfl; have hcz11_4 : w10.cell? ⟨gb360, 4, none⟩ = some (.int .i64 a1_4) := (blk_cell BK360.out 4).trans rfl; have hfz11_0 := blk_frozen BK360.out 0; have hfz11_1 := blk_frozen BK360.out 1; have hfz11_2 := blk_frozen BK360.out 2; have hfz11_3 := blk_frozen BK360.out 3; have hfz11_4 := blk_frozen BK360.out 4) | (go_at_call 23; (with_reducible refine (ledger_Charge.calls _ _ l0 a1_1 a1_3 a1_4 t361 t362 _ ?side1 ?side2 ?side3 A4.out).mono ?_); (case side1 => repeat (first | exact (Kd.V_reads' HO0.out).2.2 | (with_reducible refine Kd.C_alloc ?_ _) | (with_reducible refine Kd.C_drewN ?_ _) | (with_reducible refine Kd.C_drew ?_))); (case side2 => exact (Kd.V_reads' HO0.out).2.1); (case side3 => exact Tabs.below hT (by repeat (first | (with_reducible first | exact HB.out | apply below_alloc | apply pw_below_drewN | apply below_drew1 | refine below_set ?_ GE360.out) | exact HB.out))); rintro e w12 ⟨v363, rfl, ho0, hb⟩; have n0_ := Aside0.mk (Kd.V_elder' (by (with_reducible repeat (first | apply Kd.V_alloc | apply Kd.V_drewN | apply Kd.V_drew)); exact HO0.out) (Kd.S_base ho0) hb); have n1_ := Aside0.mk (Kd.S_lower (Kd.S_newM (M := fun k_ => (w.heap.size ≤ k_)) ho0 (below_size (by repeat (first | (with_reducible first | exact HB.out | apply below_alloc | apply pw_below_drewN | apply below_drew1 | refine below_set ?_ GE360.out) | exact HB.out))) (fun k_ h_ => h_)) (below_size (by repeat (first | (with_reducible first | exact HB.out | apply below_alloc | apply pw_below_drewN | apply below_drew1 | refine below_set ?_ GE360.out) | exact HB.out)))); have n2_ := Aside0.mk (blk_below (g := gb360) (o := .cells #[.int .i64 a1_0, .string a1_1, .string a1_2, .string a1_3, .int .i64 a1_4] 41 (0, 0)) (by (with_reducible repeat (first | refine blk_drewN ?_ _ | refine blk_drew ?_ | refine blk_alloc ?_ _)); exact BK360.out) hb); have n3_ := Aside0.mk (below_step (by repeat (first | (with_reducible first | exact HB.out | apply below_alloc | apply pw_below_drewN | apply below_drew1 | refine below_set ?_ GE360.out) | exact HB.out)) hb); clear HO0; clear BK360; clear HB; have HO0 := n0_; have HO364 := n1_; have BK360 := n2_; have HB := n3_; clear n0_ n1_ n2_ n3_; (try clear hb); (try clear hb2); (try clear hk); (try clear hi); (try clear ho0))); try go_wp2_with (first | ((with_reducible refine gate_dst (N := 3) rfl ?_); refine box_event ?hg (N := 3) ?hd (cs := #[.int .i64 a1_0, .string a1_1, .string a1_2, .string a1_3, .int .i64 a1_4]) (t := 41) ?hr ?_; (case hd => rfl); (case hg => rfl); (case hr => first | (go_simp; done) | (go_simp; rfl)); intro gb360 hg w10 hbox hb; have n0_ := Aside0.mk (Kd.V_below (Kd.V_elderB (by (with_reducible repeat (first | apply Kd.V_alloc | apply Kd.V_drewN | apply Kd.V_drew)); exact HO0.out) gb360 (Nat.le_of_eq hg.symm)) hb); have n1_ := Aside0.mk (below_step (by repeat (first | (with_reducible first | exact HB.out | apply below_alloc | apply pw_below_drewN | apply below_drew1) | exact HB.out)) hb); have n2_ := Aside0.mk (hbox); have n3_ := Aside0.mk ((by rw [hg]; exact (below_size (by repeat (first | (with_reducible first | exact HB.out | apply below_alloc | apply pw_below_drewN | apply below_drew1) | exact HB.out))) : w.heap.size ≤ gb360)); have n4_ := Aside0.mk ((by rw [hg]; exact (below_size (by repeat (first | (with_reducible first | exact HB.out | apply below_alloc | apply pw_below_drewN | apply below_drew1) | exact HB.out))) : w.heap.size ≤ gb360)); clear HO0; clear HB; have HO0 := n0_; have HB := n1_; have BK360 := n2_; have GW360 := n3_; have GE360 := n4_; clear n0_ n1_ n2_ n3_ n4_; clear hb hbox hg; have hcz11_0 : w10.cell? ⟨gb360, 0, none⟩ = some (.int .i64 a1_0) := (blk_cell BK360.out 0).trans rfl; have hcz11_1 : w10.cell? ⟨gb360, 1, none⟩ = some (.string a1_1) := (blk_cell BK360.out 1).trans rfl; have hcz11_2 : w10.cell? ⟨gb360, 2, none⟩ = some (.string a1_2) := (blk_cell BK360.out 2).trans rfl; have hcz11_3 : w10.cell? ⟨gb360, 3, none⟩ = some (.string a1_3) := (blk_cell BK360.out 3).trans rfl; have hcz11_4 : w10.cell? ⟨gb360, 4, none⟩ = some (.int .i64 a1_4) := (blk_cell BK360.out 4).trans rfl; have hfz11_0 := blk_frozen BK360.out 0; have hfz11_1 := blk_frozen BK360.out 1; have hfz11_2 := blk_frozen BK360.out 2; have hfz11_3 := blk_frozen BK360.out 3; have hfz11_4 := blk_frozen BK360.out 4) | (go_at_call 23; (with_reducible refine (ledger_Charge.calls _ _ l0 a1_1 a1_3 a1_4 t361 t362 _ ?side1 ?side2 ?side3 A4.out).mono ?_); (case side1 => repeat (first | exact (Kd.V_reads' HO0.out).2.2 | (with_reducible refine Kd.C_alloc ?_ _) | (with_reducible refine Kd.C_drewN ?_ _) | (with_reducible refine Kd.C_drew ?_))); (case side2 => exact (Kd.V_reads' HO0.out).2.1); (case side3 => exact Tabs.below hT (by repeat (first | (with_reducible first | exact HB.out | apply below_alloc | apply pw_below_drewN | apply below_drew1 | refine below_set ?_ GE360.out) | exact HB.out))); rintro e w12 ⟨v363, rfl, ho0, hb⟩; have n0_ := Aside0.mk (Kd.V_elder' (by (with_reducible repeat (first | apply Kd.V_alloc | apply Kd.V_drewN | apply Kd.V_drew)); exact HO0.out) (Kd.S_base ho0) hb); have n1_ := Aside0.mk (Kd.S_lower (Kd.S_newM (M := fun k_ => (w.heap.size ≤ k_)) ho0 (below_size (by repeat (first | (with_reducible first | exact HB.out | apply below_alloc | apply pw_below_drewN | apply below_drew1 | refine below_set ?_ GE360.out) | exact HB.out))) (fun k_ h_ => h_)) (below_size (by repeat (first | (with_reducible first | exact HB.out | apply below_alloc | apply pw_below_drewN | apply below_drew1 | refine below_set ?_ GE360.out) | exact HB.out)))); have n2_ := Aside0.mk (blk_below (g := gb360) (o := .cells #[.int .i64 a1_0, .string a1_1, .string a1_2, .string a1_3, .int .i64 a1_4] 41 (0, 0)) (by (with_reducible repeat (first | refine blk_drewN ?_ _ | refine blk_drew ?_ | refine blk_alloc ?_ _)); exact BK360.out) hb); have n3_ := Aside0.mk (below_step (by repeat (first | (with_reducible first | exact HB.out | apply below_alloc | apply pw_below_drewN | apply below_drew1 | refine below_set ?_ GE360.out) | exact HB.out)) hb); clear HO0; clear BK360; clear HB; have HO0 := n0_; have HO364 := n1_; have BK360 := n2_; have HB := n3_; clear n0_ n1_ n2_ n3_; (try clear hb); (try clear hb2); (try clear hk); (try clear hi); (try clear ho0))))
      refine bodyPost_ret (results_list (rs := [.tmp 4, .tmp 5, .tmp 6, .tmp 7]) rfl (by simp) (.tmp (.tmp (.tmp (.tmp .nil))))) rfl ?_
      exact ⟨_, _, by first | rfl | (simp [errW_none, errW_some] <;> rfl) | (simp [*, errW_none, errW_some] <;> rfl), by (with_reducible repeat (first | apply Kd.V_alloc | apply Kd.V_drewN | apply Kd.V_drew)); exact Kd.V_mono HO0.out (fun _ hk => ⟨hk.1.1, (by simp [Value.ownBlock])⟩), by first | exact Kd.R_nil _ _ _ _ _ | exact Kd.N_nil _ _ _ _ _ | exact Kd.V_nil _ _ _ _ _ | exact Kd.Q_nil _ _ _ _ _ | exact Kd.S_nil _ _ _ _ _, by repeat (first | (with_reducible first | exact HB.out | apply below_alloc | apply pw_below_drewN | apply below_drew1 | refine below_set ?_ GE360.out) | exact HB.out)⟩
  · rw [if_neg c3] at H
    have c3b0 : (a1_0 == 0) = false := beq_eq_false_iff_ne.mpr c3
    have c3b1 : (a1_0 != 0) = true := bne_iff_ne.mpr c3
    by_cases c13 : a1_0 = 1
    · rw [if_pos c13] at H
      have c13b0 : (a1_0 == 1) = true := beq_iff_eq.mpr c13
      have c13b1 : (a1_0 != 1) = false := bne_eq_false_iff_eq.mpr c13
      clear c13
      replace H := Option.bind_eq_some_iff.mp H
      obtain ⟨⟨t365, t368, t371⟩, A140, H⟩ := H
      replace H : (if t371 = 0 then (some (t365, wrap64 (-a1_4), t368, 0)) else (some (l0, 0, ([] : List (S37)), t371))) = some (r1, r2, r3, r4) := H
      have A14 := Aside0.mk A140
      clear A140
      by_cases c15 : t371 = 0
      · rw [if_pos c15] at H
        have c15b0 : (t371 == 0) = true := beq_iff_eq.mpr c15
        have c15b1 : (t371 != 0) = false := bne_eq_false_iff_eq.mpr c15
        clear c15
        simp only [Option.some.injEq, Prod.mk.injEq] at H
        obtain ⟨rfl, rfl, rfl, rfl⟩ := H
        go_enter Tryd.func29, Tryd.ntmps29
        go_wp2_with (first | ((with_reducible refine gate_dst (N := 3) rfl ?_); refine box_event ?hg (N := 3) ?hd (cs := #[.int .i64 a1_0, .string a1_1, .string a1_2, .string a1_3, .int .i64 a1_4]) (t := 41) ?hr ?_; (case hd => rfl); (case hg => rfl); (case hr => first | (go_simp; done) | (go_simp; rfl)); intro gb360 hg w16 hbox hb; have n0_ := Aside0.mk (Kd.V_below (Kd.V_elderB (by (with_reducible repeat (first | apply Kd.V_alloc | apply Kd.V_drewN | apply Kd.V_drew)); exact HO0.out) gb360 (Nat.le_of_eq hg.symm)) hb); have n1_ := Aside0.mk (below_step (by repeat (first | (with_reducible first | exact HB.out | apply below_alloc | apply pw_below_drewN | apply below_drew1) | exact HB.out)) hb); have n2_ := Aside0.mk (hbox); have n3_ := Aside0.mk ((by rw [hg]; exact (below_size (by repeat (first | (with_reducible first | exact HB.out | apply below_alloc | apply pw_below_drewN | apply below_drew1) | exact HB.out))) : w.heap.size ≤ gb360)); have n4_ := Aside0.mk ((by rw [hg]; exact (below_size (by repeat (first | (with_reducible first | exact HB.out | apply below_alloc | apply pw_below_drewN | apply below_drew1) | exact HB.out))) : w.heap.size ≤ gb360)); clear HO0; clear HB; have HO0 := n0_; have HB := n1_; have BK360 := n2_; have GW360 := n3_; have GE360 := n4_; clear n0_ n1_ n2_ n3_ n4_; clear hb hbox hg; have hcz17_0 : w16.cell? ⟨gb360, 0, none⟩ = some (.int .i64 a1_0) := (blk_cell BK360.out 0).trans rfl; have hcz17_1 : w16.cell? ⟨gb360, 1, none⟩ = some (.string a1_1) := (blk_cell BK360.out 1).trans rfl; have hcz17_2 : w16.cell? ⟨gb360, 2, none⟩ = some (.string a1_2) := (blk_cell BK360.out 2).trans rfl; have hcz17_3 : w16.cell? ⟨gb360, 3, none⟩ = some (.string a1_3) := (blk_cell BK360.out 3).trans rfl; have hcz17_4 : w16.cell? ⟨gb360, 4, none⟩ = some (.int .i64 a1_4) := (blk_cell BK360.out 4).trans rfl; have hfz17_0 := blk_frozen BK360.out 0; have hfz17_1 := blk_frozen BK360.out 1; have hfz17_2 := blk_frozen BK360.out 2; have hfz17_3 := blk_frozen BK360.out 3; have hfz17_4 := blk_frozen BK360.out 4) | (go_at_call 18; (with_reducible refine (ledger_Draw.calls _ _ l0 a1_1 a1_4 t365 t368 t371 _ ?side1 ?side2 ?side3 A14.out).mono ?_); (case side1 => repeat (first | exact (Kd.V_reads' HO0.out).2.2 | (with_reducible refine Kd.C_alloc ?_ _) | (with_reducible refine Kd.C_drewN ?_ _) | (with_reducible refine Kd.C_drew ?_))); (case side2 => exact (Kd.V_reads' HO0.out).2.1); (case side3 => exact Tabs.below hT (by repeat (first | (with_reducible first | exact HB.out | apply below_alloc | apply pw_below_drewN | apply below_drew1 | refine below_set ?_ GE360.out) | exact HB.out))); rintro e w18 ⟨v366, v369, rfl, ho0, ho1, hb⟩; have n0_ := Aside0.mk (Kd.V_elder' (by (with_reducible repeat (first | apply Kd.V_alloc | apply Kd.V_drewN | apply Kd.V_drew)); exact HO0.out) (Kd.R_base ho1) hb); have n1_ := Aside0.mk (Kd.V_lower (Kd.V_mono (ok' := fun k_ => (P0_ k_ ∨ w.heap.size ≤ k_) ∧ some k_ ≠ (v369 : Value).ownBlock ∧ k_ ≠ gb360) ho0 (fun k_ hk_ => ⟨(.inr (Nat.le_trans (below_size (by repeat (first | (with_reducible first | exact HB.out | apply below_alloc | apply pw_below_drewN | apply below_drew1 | refine below_set ?_ GE360.out) | exact HB.out))) hk_.1)), hk_.2, (Kd.freshB (g := gb360) (o := .cells #[.int .i64 a1_0, .string a1_1, .string a1_2, .string a1_3, .int .i64 a1_4] 41 (0, 0)) (by (with_reducible repeat (first | refine blk_drewN ?_ _ | refine blk_drew ?_ | refine blk_alloc ?_ _)); exact BK360.out) k_ hk_.1)⟩)) (below_size (by repeat (first | (with_reducible first | exact HB.out | apply below_alloc | apply pw_below_drewN | apply below_drew1 | refine below_set ?_ GE360.out) | exact HB.out)))); have n2_ := Aside0.mk (Kd.R_lower (Kd.R_newM (M := fun k_ => (w.heap.size ≤ k_)) (Kd.R_mono (ok' := fun k_ => True) ho1 (fun _ hk_ => trivial)) (below_size (by repeat (first | (with_reducible first | exact HB.out | apply below_alloc | apply pw_below_drewN | apply below_drew1 | refine below_set ?_ GE360.out) | exact HB.out))) (fun k_ h_ => h_)) (below_size (by repeat (first | (with_reducible first | exact HB.out | apply below_alloc | apply pw_below_drewN | apply below_drew1 | refine below_set ?_ GE360.out) | exact HB.out)))); have n3_ := Aside0.mk (blk_below (g := gb360) (o := .cells #[.int .i64 a1_0, .string a1_1, .string a1_2, .string a1_3, .int .i64 a1_4] 41 (0, 0)) (by (with_reducible repeat (first | refine blk_drewN ?_ _ | refine blk_drew ?_ | refine blk_alloc ?_ _)); exact BK360.out) hb); have n4_ := Aside0.mk (below_step (by repeat (first | (with_reducible first | exact HB.out | apply below_alloc | apply pw_below_drewN | apply below_drew1 | refine below_set ?_ GE360.out) | exact HB.out)) hb); clear HO0; clear BK360; clear HB; have HO0 := n0_; have HO367 := n1_; have HO370 := n2_; have BK360 := n3_; have HB := n4_; clear n0_ n1_ n2_ n3_ n4_; (try clear hb); (try clear hb2); (try clear hk); (try clear hi); (try clear ho0); (try clear ho1); have hcz19_0 : w18.cell? ⟨gb360, 0, none⟩ = some (.int .i64 a1_0) := (blk_cell BK360.out 0).trans rfl; have hcz19_1 : w18.cell? ⟨gb360, 1, none⟩ = some (.string a1_1) := (blk_cell BK360.out 1).trans rfl; have hcz19_2 : w18.cell? ⟨gb360, 2, none⟩ = some (.string a1_2) := (blk_cell BK360.out 2).trans rfl; have hcz19_3 : w18.cell? ⟨gb360, 3, none⟩ = some (.string a1_3) := (blk_cell BK360.out 3).trans rfl; have hcz19_4 : w18.cell? ⟨gb360, 4, none⟩ = some (.int .i64 a1_4) := (blk_cell BK360.out 4).trans rfl; have hfz19_0 := blk_frozen BK360.out 0; have hfz19_1 := blk_frozen BK360.out 1; have hfz19_2 := blk_frozen BK360.out 2; have hfz19_3 := blk_frozen BK360.out 3; have hfz19_4 := blk_frozen BK360.out 4))
        repeat (go_quiet (first | ((with_reducible refine gate_dst (N := 3) rfl ?_); refine box_event ?hg (N := 3) ?hd (cs := #[.int .i64 a1_0, .string a1_1, .string a1_2, .string a1_3, .int .i64 a1_4]) (t := 41) ?hr ?_; (case hd => rfl); (case hg => rfl); (case hr => first | (go_simp; done) | (go_simp; rfl)); intro gb360 hg w16 hbox hb; have n0_ := Aside0.mk (Kd.V_below (Kd.V_elderB (by (with_reducible repeat (first | apply Kd.V_alloc | apply Kd.V_drewN | apply Kd.V_drew)); exact HO0.out) gb360 (Nat.le_of_eq hg.symm)) hb); have n1_ := Aside0.mk (below_step (by repeat (first | (with_reducible first | exact HB.out | apply below_alloc | apply pw_below_drewN | apply below_drew1) | exact HB.out)) hb); have n2_ := Aside0.mk (hbox); have n3_ := Aside0.mk ((by rw [hg]; exact (below_size (by repeat (first | (with_reducible first | exact HB.out | apply below_alloc | apply pw_below_drewN | apply below_drew1) | exact HB.out))) : w.heap.size ≤ gb360)); have n4_ := Aside0.mk ((by rw [hg]; exact (below_size (by repeat (first | (with_reducible first | exact HB.out | apply below_alloc | apply pw_below_drewN | apply below_drew1) | exact HB.out))) : w.heap.size ≤ gb360)); clear HO0; clear HB; have HO0 := n0_; have HB := n1_; have BK360 := n2_; have GW360 := n3_; have GE360 := n4_; clear n0_ n1_ n2_ n3_ n4_; clear hb hbox hg; have hcz17_0 : w16.cell? ⟨gb360, 0, none⟩ = some (.int .i64 a1_0) := (blk_cell BK360.out 0).trans rfl; have hcz17_1 : w16.cell? ⟨gb360, 1, none⟩ = some (.string a1_1) := (blk_cell BK360.out 1).trans rfl; have hcz17_2 : w16.cell? ⟨gb360, 2, none⟩ = some (.string a1_2) := (blk_cell BK360.out 2).trans rfl; have hcz17_3 : w16.cell? ⟨gb360, 3, none⟩ = some (.string a1_3) := (blk_cell BK360.out 3).trans rfl; have hcz17_4 : w16.cell? ⟨gb360, 4, none⟩ = some (.int .i64 a1_4) := (blk_cell BK360.out 4).trans rfl; have hfz17_0 := blk_frozen BK360.out 0; have hfz17_1 := blk_frozen BK360.out 1; have hfz17_2 := blk_frozen BK360.out 2; have hfz17_3 := blk_frozen BK360.out 3; have hfz17_4 := blk_frozen BK360.out 4) | (go_at_call 18; (with_reducible refine (ledger_Draw.calls _ _ l0 a1_1 a1_4 t365 t368 t371 _ ?side1 ?side2 ?side3 A14.out).mono ?_); (case side1 => repeat (first | exact (Kd.V_reads' HO0.out).2.2 | (with_reducible refine Kd.C_alloc ?_ _) | (with_reducible refine Kd.C_drewN ?_ _) | (with_reducible refine Kd.C_drew ?_))); (case side2 => exact (Kd.V_reads' HO0.out).2.1); (case side3 => exact Tabs.below hT (by repeat (first | (with_reducible first | exact HB.out | apply below_alloc | apply pw_below_drewN | apply below_drew1 | refine below_set ?_ GE360.out) | exact HB.out))); rintro e w18 ⟨v366, v369, rfl, ho0, ho1, hb⟩; have n0_ := Aside0.mk (Kd.V_elder' (by (with_reducible repeat (first | apply Kd.V_alloc | apply Kd.V_drewN | apply Kd.V_drew)); exact HO0.out) (Kd.R_base ho1) hb); have n1_ := Aside0.mk (Kd.V_lower (Kd.V_mono (ok' := fun k_ => (P0_ k_ ∨ w.heap.size ≤ k_) ∧ some k_ ≠ (v369 : Value).ownBlock ∧ k_ ≠ gb360) ho0 (fun k_ hk_ => ⟨(.inr (Nat.le_trans (below_size (by repeat (first | (with_reducible first | exact HB.out | apply below_alloc | apply pw_below_drewN | apply below_drew1 | refine below_set ?_ GE360.out) | exact HB.out))) hk_.1)), hk_.2, (Kd.freshB (g := gb360) (o := .cells #[.int .i64 a1_0, .string a1_1, .string a1_2, .string a1_3, .int .i64 a1_4] 41 (0, 0)) (by (with_reducible repeat (first | refine blk_drewN ?_ _ | refine blk_drew ?_ | refine blk_alloc ?_ _)); exact BK360.out) k_ hk_.1)⟩)) (below_size (by repeat (first | (with_reducible first | exact HB.out | apply below_alloc | apply pw_below_drewN | apply below_drew1 | refine below_set ?_ GE360.out) | exact HB.out)))); have n2_ := Aside0.mk (Kd.R_lower (Kd.R_newM (M := fun k_ => (w.heap.size ≤ k_)) (Kd.R_mono (ok' := fun k_ => True) ho1 (fun _ hk_ => trivial)) (below_size (by repeat (first | (with_reducible first | exact HB.out | apply below_alloc | apply pw_below_drewN | apply below_drew1 | refine below_set ?_ GE360.out) | exact HB.out))) (fun k_ h_ => h_)) (below_size (by repeat (first | (with_reducible first | exact HB.out | apply below_alloc | apply pw_below_drewN | apply below_drew1 | refine below_set ?_ GE360.out) | exact HB.out)))); have n3_ := Aside0.mk (blk_below (g := gb360) (o := .cells #[.int .i64 a1_0, .string a1_1, .string a1_2, .string a1_3, .int .i64 a1_4] 41 (0, 0)) (by (with_reducible repeat (first | refine blk_drewN ?_ _ | refine blk_drew ?_ | refine blk_alloc ?_ _)); exact BK360.out) hb); have n4_ := Aside0.mk (below_step (by repeat (first | (with_reducible first | exact HB.out | apply below_alloc | apply pw_below_drewN | apply below_drew1 | refine below_set ?_ GE360.out) | exact HB.out)) hb); clear HO0; clear BK360; clear HB; have HO0 := n0_; have HO367 := n1_; have HO370 := n2_; have BK360 := n3_; have HB := n4_; clear n0_ n1_ n2_ n3_ n4_; (try clear hb); (try clear hb2); (try clear hk); (try clear hi); (try clear ho0); (try clear ho1); have hcz19_0 : w18.cell? ⟨gb360, 0, none⟩ = some (.int .i64 a1_0) := (blk_cell BK360.out 0).trans rfl; have hcz19_1 : w18.cell? ⟨gb360, 1, none⟩ = some (.string a1_1) := (blk_cell BK360.out 1).trans rfl; have hcz19_2 : w18.cell? ⟨gb360, 2, none⟩ = some (.string a1_2) := (blk_cell BK360.out 2).trans rfl; have hcz19_3 : w18.cell? ⟨gb360, 3, none⟩ = some (.string a1_3) := (blk_cell BK360.out 3).trans rfl; have hcz19_4 : w18.cell? ⟨gb360, 4, none⟩ = some (.int .i64 a1_4) := (blk_cell BK360.out 4).trans rfl; have hfz19_0 := blk_frozen BK360.out 0; have hfz19_1 := blk_frozen BK360.out 1; have hfz19_2 := blk_frozen BK360.out 2; have hfz19_3 := blk_frozen BK360.out 3; have hfz19_4 := blk_frozen BK360.out 4)); try go_wp2_with (first | ((with_reducible refine gate_dst (N := 3) rfl ?_); refine box_event ?hg (N := 3) ?hd (cs := #[.int .i64 a1_0, .string a1_1, .string a1_2, .string a1_3, .int .i64 a1_4]) (t := 41) ?hr ?_; (case hd => rfl); (case hg => rfl); (case hr => first | (go_simp; done) | (go_simp; rfl)); intro gb360 hg w16 hbox hb; have n0_ := Aside0.mk (Kd.V_below (Kd.V_elderB (by (with_reducible repeat (first | apply Kd.V_alloc | apply Kd.V_drewN | apply Kd.V_drew)); exact HO0.out) gb360 (Nat.le_of_eq hg.symm)) hb); have n1_ := Aside0.mk (below_step (by repeat (first | (with_reducible first | exact HB.out | apply below_alloc | apply pw_below_drewN | apply below_drew1) | exact HB.out)) hb); have n2_ := Aside0.mk (hbox); have n3_ := Aside0.mk ((by rw [hg]; exact (below_size (by repeat (first | (with_reducible first | exact HB.out | apply below_alloc | apply pw_below_drewN | apply below_drew1) | exact HB.out))) : w.heap.size ≤ gb360)); have n4_ := Aside0.mk ((by rw [hg]; exact (below_size (by repeat (first | (with_reducible first | exact HB.out | apply below_alloc | apply pw_below_drewN | apply below_drew1) | exact HB.out))) : w.heap.size ≤ gb360)); clear HO0; clear HB; have HO0 := n0_; have HB := n1_; have BK360 := n2_; have GW360 := n3_; have GE360 := n4_; clear n0_ n1_ n2_ n3_ n4_; clear hb hbox hg; have hcz17_0 : w16.cell? ⟨gb360, 0, none⟩ = some (.int .i64 a1_0) := (blk_cell BK360.out 0).trans rfl; have hcz17_1 : w16.cell? ⟨gb360, 1, none⟩ = some (.string a1_1) := (blk_cell BK360.out 1).trans rfl; have hcz17_2 : w16.cell? ⟨gb360, 2, none⟩ = some (.string a1_2) := (blk_cell BK360.out 2).trans rfl; have hcz17_3 : w16.cell? ⟨gb360, 3, none⟩ = some (.string a1_3) := (blk_cell BK360.out 3).trans rfl; have hcz17_4 : w16.cell? ⟨gb360, 4, none⟩ = some (.int .i64 a1_4) := (blk_cell BK360.out 4).trans rfl; have hfz17_0 := blk_frozen BK360.out 0; have hfz17_1 := blk_frozen BK360.out 1; have hfz17_2 := blk_frozen BK360.out 2; have hfz17_3 := blk_frozen BK360.out 3; have hfz17_4 := blk_frozen BK360.out 4) | (go_at_call 18; (with_reducible refine (ledger_Draw.calls _ _ l0 a1_1 a1_4 t365 t368 t371 _ ?side1 ?side2 ?side3 A14.out).mono ?_); (case side1 => repeat (first | exact (Kd.V_reads' HO0.out).2.2 | (with_reducible refine Kd.C_alloc ?_ _) | (with_reducible refine Kd.C_drewN ?_ _) | (with_reducible refine Kd.C_drew ?_))); (case side2 => exact (Kd.V_reads' HO0.out).2.1); (case side3 => exact Tabs.below hT (by repeat (first | (with_reducible first | exact HB.out | apply below_alloc | apply pw_below_drewN | apply below_drew1 | refine below_set ?_ GE360.out) | exact HB.out))); rintro e w18 ⟨v366, v369, rfl, ho0, ho1, hb⟩; have n0_ := Aside0.mk (Kd.V_elder' (by (with_reducible repeat (first | apply Kd.V_alloc | apply Kd.V_drewN | apply Kd.V_drew)); exact HO0.out) (Kd.R_base ho1) hb); have n1_ := Aside0.mk (Kd.V_lower (Kd.V_mono (ok' := fun k_ => (P0_ k_ ∨ w.heap.size ≤ k_) ∧ some k_ ≠ (v369 : Value).ownBlock ∧ k_ ≠ gb360) ho0 (fun k_ hk_ => ⟨(.inr (Nat.le_trans (below_size (by repeat (first | (with_reducible first | exact HB.out | apply below_alloc | apply pw_below_drewN | apply below_drew1 | refine below_set ?_ GE360.out) | exact HB.out))) hk_.1)), hk_.2, (Kd.freshB (g := gb360) (o := .cells #[.int .i64 a1_0, .string a1_1, .string a1_2, .string a1_3, .int .i64 a1_4] 41 (0, 0)) (by (with_reducible repeat (first | refine blk_drewN ?_ _ | refine blk_drew ?_ | refine blk_alloc ?_ _)); exact BK360.out) k_ hk_.1)⟩)) (below_size (by repeat (first | (with_reducible first | exact HB.out | apply below_alloc | apply pw_below_drewN | apply below_drew1 | refine below_set ?_ GE360.out) | exact HB.out)))); have n2_ := Aside0.mk (Kd.R_lower (Kd.R_newM (M := fun k_ => (w.heap.size ≤ k_)) (Kd.R_mono (ok' := fun k_ => True) ho1 (fun _ hk_ => trivial)) (below_size (by repeat (first | (with_reducible first | exact HB.out | apply below_alloc | apply pw_below_drewN | apply below_drew1 | refine below_set ?_ GE360.out) | exact HB.out))) (fun k_ h_ => h_)) (below_size (by repeat (first | (with_reducible first | exact HB.out | apply below_alloc | apply pw_below_drewN | apply below_drew1 | refine below_set ?_ GE360.out) | exact HB.out)))); have n3_ := Aside0.mk (blk_below (g := gb360) (o := .cells #[.int .i64 a1_0, .string a1_1, .string a1_2, .string a1_3, .int .i64 a1_4] 41 (0, 0)) (by (with_reducible repeat (first | refine blk_drewN ?_ _ | refine blk_drew ?_ | refine blk_alloc ?_ _)); exact BK360.out) hb); have n4_ := Aside0.mk (below_step (by repeat (first | (with_reducible first | exact HB.out | apply below_alloc | apply pw_below_drewN | apply below_drew1 | refine below_set ?_ GE360.out) | exact HB.out)) hb); clear HO0; clear BK360; clear HB; have HO0 := n0_; have HO367 := n1_; have HO370 := n2_; have BK360 := n3_; have HB := n4_; clear n0_ n1_ n2_ n3_ n4_; (try clear hb); (try clear hb2); (try clear hk); (try clear hi); (try clear ho0); (try clear ho1); have hcz19_0 : w18.cell? ⟨gb360, 0, none⟩ = some (.int .i64 a1_0) := (blk_cell BK360.out 0).trans rfl; have hcz19_1 : w18.cell? ⟨gb360, 1, none⟩ = some (.string a1_1) := (blk_cell BK360.out 1).trans rfl; have hcz19_2 : w18.cell? ⟨gb360, 2, none⟩ = some (.string a1_2) := (blk_cell BK360.out 2).trans rfl; have hcz19_3 : w18.cell? ⟨gb360, 3, none⟩ = some (.string a1_3) := (blk_cell BK360.out 3).trans rfl; have hcz19_4 : w18.cell? ⟨gb360, 4, none⟩ = some (.int .i64 a1_4) := (blk_cell BK360.out 4).trans rfl; have hfz19_0 := blk_frozen BK360.out 0; have hfz19_1 := blk_frozen BK360.out 1; have hfz19_2 := blk_frozen BK360.out 2; have hfz19_3 := blk_frozen BK360.out 3; have hfz19_4 := blk_frozen BK360.out 4)))
        refine bodyPost_ret (results_list (rs := [.tmp 4, .tmp 5, .tmp 6, .tmp 7]) rfl (by simp) (.tmp (.tmp (.tmp (.tmp .nil))))) rfl ?_
        exact ⟨_, _, by first | rfl | (simp [errW_none, errW_some] <;> rfl) | (simp [*, errW_none, errW_some] <;> rfl), by (with_reducible repeat (first | apply Kd.V_alloc | apply Kd.V_drewN | apply Kd.V_drew)); exact Kd.V_mono HO367.out (fun _ hk => ⟨hk.1, hk.2.1⟩), by (with_reducible repeat (first | apply Kd.R_alloc | apply Kd.R_drewN | apply Kd.R_drew)); exact Kd.R_mono HO370.out (fun _ hk => hk.1), by repeat (first | (with_reducible first | exact HB.out | apply below_alloc | apply pw_below_drewN | apply below_drew1 | refine below_set ?_ GE360.out) | exact HB.out)⟩
      · rw [if_neg c15] at H
        have c15b0 : (t371 == 0) = false := beq_eq_false_iff_ne.mpr c15
        have c15b1 : (t371 != 0) = true := bne_iff_ne.mpr c15
        simp only [Option.some.injEq, Prod.mk.injEq] at H
        obtain ⟨rfl, rfl, rfl, rfl⟩ := H
        go_enter Tryd.func29, Tryd.ntmps29
        go_wp2_with (first | ((with_reducible refine gate_dst (N := 3) rfl ?_); refine box_event ?hg (N := 3) ?hd (cs := #[.int .i64 a1_0, .string a1_1, .string a1_2, .string a1_3, .int .i64 a1_4]) (t := 41) ?hr ?_; (case hd => rfl); (case hg => rfl); (case hr => first | (go_simp; done) | (go_simp; rfl)); intro gb360 hg w20 hbox hb; have n0_ := Aside0.mk (Kd.V_below (Kd.V_elderB (by (with_reducible repeat (first | apply Kd.V_alloc | apply Kd.V_drewN | apply Kd.V_drew)); exact HO0.out) gb360 (Nat.le_of_eq hg.symm)) hb); have n1_ := Aside0.mk (below_step (by repeat (first | (with_reducible first | exact HB.out | apply below_alloc | apply pw_below_drewN | apply below_drew1) | exact HB.out)) hb); have n2_ := Aside0.mk (hbox); have n3_ := Aside0.mk ((by rw [hg]; exact (below_size (by repeat (first | (with_reducible first | exact HB.out | apply below_alloc | apply pw_below_drewN | apply below_drew1) | exact HB.out))) : w.heap.size ≤ gb360)); have n4_ := Aside0.mk ((by rw [hg]; exact (below_size (by repeat (first | (with_reducible first | exact HB.out | apply below_alloc | apply pw_below_drewN | apply below_drew1) | exact HB.out))) : w.heap.size ≤ gb360)); clear HO0; clear HB; have HO0 := n0_; have HB := n1_; have BK360 := n2_; have GW360 := n3_; have GE360 := n4_; clear n0_ n1_ n2_ n3_ n4_; clear hb hbox hg; have hcz21_0 : w20.cell? ⟨gb360, 0, none⟩ = some (.int .i64 a1_0) := (blk_cell BK360.out 0).trans rfl; have hcz21_1 : w20.cell? ⟨gb360, 1, none⟩ = some (.string a1_1) := (blk_cell BK360.out 1).trans rfl; have hcz21_2 : w20.cell? ⟨gb360, 2, none⟩ = some (.string a1_2) := (blk_cell BK360.out 2).trans rfl; have hcz21_3 : w20.cell? ⟨gb360, 3, none⟩ = some (.string a1_3) := (blk_cell BK360.out 3).trans rfl; have hcz21_4 : w20.cell? ⟨gb360, 4, none⟩ = some (.int .i64 a1_4) := (blk_cell BK360.out 4).trans rfl; have hfz21_0 := blk_frozen BK360.out 0; have hfz21_1 := blk_frozen BK360.out 1; have hfz21_2 := blk_frozen BK360.out 2; have hfz21_3 := blk_frozen BK360.out 3; have hfz21_4 := blk_frozen BK360.out 4) | (go_at_call 18; (with_reducible refine (ledger_Draw.calls _ _ l0 a1_1 a1_4 t365 t368 t371 _ ?side1 ?side2 ?side3 A14.out).mono ?_); (case side1 => repeat (first | exact (Kd.V_reads' HO0.out).2.2 | (with_reducible refine Kd.C_alloc ?_ _) | (with_reducible refine Kd.C_drewN ?_ _) | (with_reducible refine Kd.C_drew ?_))); (case side2 => exact (Kd.V_reads' HO0.out).2.1); (case side3 => exact Tabs.below hT (by repeat (first | (with_reducible first | exact HB.out | apply below_alloc | apply pw_below_drewN | apply below_drew1 | refine below_set ?_ GE360.out) | exact HB.out))); rintro e w22 ⟨v366, v369, rfl, ho0, ho1, hb⟩; have n0_ := Aside0.mk (Kd.V_elder' (by (with_reducible repeat (first | apply Kd.V_alloc | apply Kd.V_drewN | apply Kd.V_drew)); exact HO0.out) (Kd.R_base ho1) hb); have n1_ := Aside0.mk (Kd.V_lower (Kd.V_mono (ok' := fun k_ => (P0_ k_ ∨ w.heap.size ≤ k_) ∧ some k_ ≠ (v369 : Value).ownBlock ∧ k_ ≠ gb360) ho0 (fun k_ hk_ => ⟨(.inr (Nat.le_trans (below_size (by repeat (first | (with_reducible first | exact HB.out | apply below_alloc | apply pw_below_drewN | apply below_drew1 | refine below_set ?_ GE360.out) | exact HB.out))) hk_.1)), hk_.2, (Kd.freshB (g := gb360) (o := .cells #[.int .i64 a1_0, .string a1_1, .string a1_2, .string a1_3, .int .i64 a1_4] 41 (0, 0)) (by (with_reducible repeat (first | refine blk_drewN ?_ _ | refine blk_drew ?_ | refine blk_alloc ?_ _)); exact BK360.out) k_ hk_.1)⟩)) (below_size (by repeat (first | (with_reducible first | exact HB.out | apply below_alloc | apply pw_below_drewN | apply below_drew1 | refine below_set ?_ GE360.out) | exact HB.out)))); have n2_ := Aside0.mk (Kd.R_lower (Kd.R_newM (M := fun k_ => (w.heap.size ≤ k_)) (Kd.R_mono (ok' := fun k_ => True) ho1 (fun _ hk_ => trivial)) (below_size (by repeat (first | (with_reducible first | exact HB.out | apply below_alloc | apply pw_below_drewN | apply below_drew1 | refine below_set ?_ GE360.out) | exact HB.out))) (fun k_ h_ => h_)) (below_size (by repeat (first | (with_reducible first | exact HB.out | apply below_alloc | apply pw_below_drewN | apply below_drew1 | refine below_set ?_ GE360.out) | exact HB.out)))); have n3_ := Aside0.mk (blk_below (g := gb360) (o := .cells #[.int .i64 a1_0, .string a1_1, .string a1_2, .string a1_3, .int .i64 a1_4] 41 (0, 0)) (by (with_reducible repeat (first | refine blk_drewN ?_ _ | refine blk_drew ?_ | refine blk_alloc ?_ _)); exact BK360.out) hb); have n4_ := Aside0.mk (below_step (by repeat (first | (with_reducible first | exact HB.out | apply below_alloc | apply pw_below_drewN | apply below_drew1 | refine below_set ?_ GE360.out) | exact HB.out)) hb); clear HO0; clear BK360; clear HB; have HO0 := n0_; have HO367 := n1_; have HO370 := n2_; have BK360 := n3_; have HB := n4_; clear n0_ n1_ n2_ n3_ n4_; (try clear hb); (try clear hb2); (try clear hk); (try clear hi); (try clear ho0); (try clear ho1)))
        repeat (go_quiet (first | ((with_reducible refine gate_dst (N := 3) rfl ?_); refine box_event ?hg (N := 3) ?hd (cs := #[.int .i64 a1_0, .string a1_1, .string a1_2, .string a1_3, .int .i64 a1_4]) (t := 41) ?hr ?_; (case hd => rfl); (case hg => rfl); (case hr => first | (go_simp; done) | (go_simp; rfl)); intro gb360 hg w20 hbox hb; have n0_ := Aside0.mk (Kd.V_below (Kd.V_elderB (by (with_reducible repeat (first | apply Kd.V_alloc | apply Kd.V_drewN | apply Kd.V_drew)); exact HO0.out) gb360 (Nat.le_of_eq hg.symm)) hb); have n1_ := Aside0.mk (below_step (by repeat (first | (with_reducible first | exact HB.out | apply below_alloc | apply pw_below_drewN | apply below_drew1) | exact HB.out)) hb); have n2_ := Aside0.mk (hbox); have n3_ := Aside0.mk ((by rw [hg]; exact (below_size (by repeat (first | (with_reducible first | exact HB.out | apply below_alloc | apply pw_below_drewN | apply below_drew1) | exact HB.out))) : w.heap.size ≤ gb360)); have n4_ := Aside0.mk ((by rw [hg]; exact (below_size (by repeat (first | (with_reducible first | exact HB.out | apply below_alloc | apply pw_below_drewN | apply below_drew1) | exact HB.out))) : w.heap.size ≤ gb360)); clear HO0; clear HB; have HO0 := n0_; have HB := n1_; have BK360 := n2_; have GW360 := n3_; have GE360 := n4_; clear n0_ n1_ n2_ n3_ n4_; clear hb hbox hg; have hcz21_0 : w20.cell? ⟨gb360, 0, none⟩ = some (.int .i64 a1_0) := (blk_cell BK360.out 0).trans rfl; have hcz21_1 : w20.cell? ⟨gb360, 1, none⟩ = some (.string a1_1) := (blk_cell BK360.out 1).trans rfl; have hcz21_2 : w20.cell? ⟨gb360, 2, none⟩ = some (.string a1_2) := (blk_cell BK360.out 2).trans rfl; have hcz21_3 : w20.cell? ⟨gb360, 3, none⟩ = some (.string a1_3) := (blk_cell BK360.out 3).trans rfl; have hcz21_4 : w20.cell? ⟨gb360, 4, none⟩ = some (.int .i64 a1_4) := (blk_cell BK360.out 4).trans rfl; have hfz21_0 := blk_frozen BK360.out 0; have hfz21_1 := blk_frozen BK360.out 1; have hfz21_2 := blk_frozen BK360.out 2; have hfz21_3 := blk_frozen BK360.out 3; have hfz21_4 := blk_frozen BK360.out 4) | (go_at_call 18; (with_reducible refine (ledger_Draw.calls _ _ l0 a1_1 a1_4 t365 t368 t371 _ ?side1 ?side2 ?side3 A14.out).mono ?_); (case side1 => repeat (first | exact (Kd.V_reads' HO0.out).2.2 | (with_reducible refine Kd.C_alloc ?_ _) | (with_reducible refine Kd.C_drewN ?_ _) | (with_reducible refine Kd.C_drew ?_))); (case side2 => exact (Kd.V_reads' HO0.out).2.1); (case side3 => exact Tabs.below hT (by repeat (first | (with_reducible first | exact HB.out | apply below_alloc | apply pw_below_drewN | apply below_drew1 | refine below_set ?_ GE360.out) | exact HB.out))); rintro e w22 ⟨v366, v369, rfl, ho0, ho1, hb⟩; have n0_ := Aside0.mk (Kd.V_elder' (by (with_reducible repeat (first | apply Kd.V_alloc | apply Kd.V_drewN | apply Kd.V_drew)); exact HO0.out) (Kd.R_base ho1) hb); have n1_ := Aside0.mk (Kd.V_lower (Kd.V_mono (ok' := fun k_ => (P0_ k_ ∨ w.heap.size ≤ k_) ∧ some k_ ≠ (v369 : Value).ownBlock ∧ k_ ≠ gb360) ho0 (fun k_ hk_ => ⟨(.inr (Nat.le_trans (below_size (by repeat (first | (with_reducible first | exact HB.out | apply below_alloc | apply pw_below_drewN | apply below_drew1 | refine below_set ?_ GE360.out) | exact HB.out))) hk_.1)), hk_.2, (Kd.freshB (g := gb360) (o := .cells #[.int .i64 a1_0, .string a1_1, .string a1_2, .string a1_3, .int .i64 a1_4] 41 (0, 0)) (by (with_reducible repeat (first | refine blk_drewN ?_ _ | refine blk_drew ?_ | refine blk_alloc ?_ _)); exact BK360.out) k_ hk_.1)⟩)) (below_size (by repeat (first | (with_reducible first | exact HB.out | apply below_alloc | apply pw_below_drewN | apply below_drew1 | refine below_set ?_ GE360.out) | exact HB.out)))); have n2_ := Aside0.mk (Kd.R_lower (Kd.R_newM (M := fun k_ => (w.heap.size ≤ k_)) (Kd.R_mono (ok' := fun k_ => True) ho1 (fun _ hk_ => trivial)) (below_size (by repeat (first | (with_reducible first | exact HB.out | apply below_alloc | apply pw_below_drewN | apply below_drew1 | refine below_set ?_ GE360.out) | exact HB.out))) (fun k_ h_ => h_)) (below_size (by repeat (first | (with_reducible first | exact HB.out | apply below_alloc | apply pw_below_drewN | apply below_drew1 | refine below_set ?_ GE360.out) | exact HB.out)))); have n3_ := Aside0.mk (blk_below (g := gb360) (o := .cells #[.int .i64 a1_0, .string a1_1, .string a1_2, .string a1_3, .int .i64 a1_4] 41 (0, 0)) (by (with_reducible repeat (first | refine blk_drewN ?_ _ | refine blk_drew ?_ | refine blk_alloc ?_ _)); exact BK360.out) hb); have n4_ := Aside0.mk (below_step (by repeat (first | (with_reducible first | exact HB.out | apply below_alloc | apply pw_below_drewN | apply below_drew1 | refine below_set ?_ GE360.out) | exact HB.out)) hb); clear HO0; clear BK360; clear HB; have HO0 := n0_; have HO367 := n1_; have HO370 := n2_; have BK360 := n3_; have HB := n4_; clear n0_ n1_ n2_ n3_ n4_; (try clear hb); (try clear hb2); (try clear hk); (try clear hi); (try clear ho0); (try clear ho1))); try go_wp2_with (first | ((with_reducible refine gate_dst (N := 3) rfl ?_); refine box_event ?hg (N := 3) ?hd (cs := #[.int .i64 a1_0, .string a1_1, .string a1_2, .string a1_3, .int .i64 a1_4]) (t := 41) ?hr ?_; (case hd => rfl); (case hg => rfl); (case hr => first | (go_simp; done) | (go_simp; rfl)); intro gb360 hg w20 hbox hb; have n0_ := Aside0.mk (Kd.V_below (Kd.V_elderB (by (with_reducible repeat (first | apply Kd.V_alloc | apply Kd.V_drewN | apply Kd.V_drew)); exact HO0.out) gb360 (Nat.le_of_eq hg.symm)) hb); have n1_ := Aside0.mk (below_step (by repeat (first | (with_reducible first | exact HB.out | apply below_alloc | apply pw_below_drewN | apply below_drew1) | exact HB.out)) hb); have n2_ := Aside0.mk (hbox); have n3_ := Aside0.mk ((by rw [hg]; exact (below_size (by repeat (first | (with_reducible first | exact HB.out | apply below_alloc | apply pw_below_drewN | apply below_drew1) | exact HB.out))) : w.heap.size ≤ gb360)); have n4_ := Aside0.mk ((by rw [hg]; exact (below_size (by repeat (first | (with_reducible first | exact HB.out | apply below_alloc | apply pw_below_drewN | apply below_drew1) | exact HB.out))) : w.heap.size ≤ gb360)); clear HO0; clear HB; have HO0 := n0_; have HB := n1_; have BK360 := n2_; have GW360 := n3_; have GE360 := n4_; clear n0_ n1_ n2_ n3_ n4_; clear hb hbox hg; have hcz21_0 : w20.cell? ⟨gb360, 0, none⟩ = some (.int .i64 a1_0) := (blk_cell BK360.out 0).trans rfl; have hcz21_1 : w20.cell? ⟨gb360, 1, none⟩ = some (.string a1_1) := (blk_cell BK360.out 1).trans rfl; have hcz21_2 : w20.cell? ⟨gb360, 2, none⟩ = some (.string a1_2) := (blk_cell BK360.out 2).trans rfl; have hcz21_3 : w20.cell? ⟨gb360, 3, none⟩ = some (.string a1_3) := (blk_cell BK360.out 3).trans rfl; have hcz21_4 : w20.cell? ⟨gb360, 4, none⟩ = some (.int .i64 a1_4) := (blk_cell BK360.out 4).trans rfl; have hfz21_0 := blk_frozen BK360.out 0; have hfz21_1 := blk_frozen BK360.out 1; have hfz21_2 := blk_frozen BK360.out 2; have hfz21_3 := blk_frozen BK360.out 3; have hfz21_4 := blk_frozen BK360.out 4) | (go_at_call 18; (with_reducible refine (ledger_Draw.calls _ _ l0 a1_1 a1_4 t365 t368 t371 _ ?side1 ?side2 ?side3 A14.out).mono ?_); (case side1 => repeat (first | exact (Kd.V_reads' HO0.out).2.2 | (with_reducible refine Kd.C_alloc ?_ _) | (with_reducible refine Kd.C_drewN ?_ _) | (with_reducible refine Kd.C_drew ?_))); (case side2 => exact (Kd.V_reads' HO0.out).2.1); (case side3 => exact Tabs.below hT (by repeat (first | (with_reducible first | exact HB.out | apply below_alloc | apply pw_below_drewN | apply below_drew1 | refine below_set ?_ GE360.out) | exact HB.out))); rintro e w22 ⟨v366, v369, rfl, ho0, ho1, hb⟩; have n0_ := Aside0.mk (Kd.V_elder' (by (with_reducible repeat (first | apply Kd.V_alloc | apply Kd.V_drewN | apply Kd.V_drew)); exact HO0.out) (Kd.R_base ho1) hb); have n1_ := Aside0.mk (Kd.V_lower (Kd.V_mono (ok' := fun k_ => (P0_ k_ ∨ w.heap.size ≤ k_) ∧ some k_ ≠ (v369 : Value).ownBlock ∧ k_ ≠ gb360) ho0 (fun k_ hk_ => ⟨(.inr (Nat.le_trans (below_size (by repeat (first | (with_reducible first | exact HB.out | apply below_alloc | apply pw_below_drewN | apply below_drew1 | refine below_set ?_ GE360.out) | exact HB.out))) hk_.1)), hk_.2, (Kd.freshB (g := gb360) (o := .cells #[.int .i64 a1_0, .string a1_1, .string a1_2, .string a1_3, .int .i64 a1_4] 41 (0, 0)) (by (with_reducible repeat (first | refine blk_drewN ?_ _ | refine blk_drew ?_ | refine blk_alloc ?_ _)); exact BK360.out) k_ hk_.1)⟩)) (below_size (by repeat (first | (with_reducible first | exact HB.out | apply below_alloc | apply pw_below_drewN | apply below_drew1 | refine below_set ?_ GE360.out) | exact HB.out)))); have n2_ := Aside0.mk (Kd.R_lower (Kd.R_newM (M := fun k_ => (w.heap.size ≤ k_)) (Kd.R_mono (ok' := fun k_ => True) ho1 (fun _ hk_ => trivial)) (below_size (by repeat (first | (with_reducible first | exact HB.out | apply below_alloc | apply pw_below_drewN | apply below_drew1 | refine below_set ?_ GE360.out) | exact HB.out))) (fun k_ h_ => h_)) (below_size (by repeat (first | (with_reducible first | exact HB.out | apply below_alloc | apply pw_below_drewN | apply below_drew1 | refine below_set ?_ GE360.out) | exact HB.out)))); have n3_ := Aside0.mk (blk_below (g := gb360) (o := .cells #[.int .i64 a1_0, .string a1_1, .string a1_2, .string a1_3, .int .i64 a1_4] 41 (0, 0)) (by (with_reducible repeat (first | refine blk_drewN ?_ _ | refine blk_drew ?_ | refine blk_alloc ?_ _)); exact BK360.out) hb); have n4_ := Aside0.mk (below_step (by repeat (first | (with_reducible first | exact HB.out | apply below_alloc | apply pw_below_drewN | apply below_drew1 | refine below_set ?_ GE360.out) | exact HB.out)) hb); clear HO0; clear BK360; clear HB; have HO0 := n0_; have HO367 := n1_; have HO370 := n2_; have BK360 := n3_; have HB := n4_; clear n0_ n1_ n2_ n3_ n4_; (try clear hb); (try clear hb2); (try clear hk); (try clear hi); (try clear ho0); (try clear ho1))))
        refine bodyPost_ret (results_list (rs := [.tmp 4, .tmp 5, .tmp 6, .tmp 7]) rfl (by simp) (.tmp (.tmp (.tmp (.tmp .nil))))) rfl ?_
        exact ⟨_, _, by first | rfl | (simp [errW_none, errW_some] <;> rfl) | (simp [*, errW_none, errW_some] <;> rfl), by (with_reducible repeat (first | apply Kd.V_alloc | apply Kd.V_drewN | apply Kd.V_drew)); exact Kd.V_mono HO0.out (fun _ hk => ⟨hk.1.1, (by simp [Value.ownBlock])⟩), by first | exact Kd.R_nil _ _ _ _ _ | exact Kd.N_nil _ _ _ _ _ | exact Kd.V_nil _ _ _ _ _ | exact Kd.Q_nil _ _ _ _ _ | exact Kd.S_nil _ _ _ _ _, by repeat (first | (with_reducible first | exact HB.out | apply below_alloc | apply pw_below_drewN | apply below_drew1 | refine below_set ?_ GE360.out) | exact HB.out)⟩
    · rw [if_neg c13] at H
      have c13b0 : (a1_0 == 1) = false := beq_eq_false_iff_ne.mpr c13
      have c13b1 : (a1_0 != 1) = true := bne_iff_ne.mpr c13
      by_cases c23 : a1_0 = 2
      · rw [if_pos c23] at H
        have c23b0 : (a1_0 == 2) = true := beq_iff_eq.mpr c23
        have c23b1 : (a1_0 != 2) = false := bne_eq_false_iff_eq.mpr c23
        clear c23
        replace H := Option.bind_eq_some_iff.mp H
        obtain ⟨⟨t372, t375⟩, A240, H⟩ := H
        replace H : (if t375 = 0 then (some (t372, 0, ([] : List (S37)), 0)) else (some (l0, 0, ([] : List (S37)), t375))) = some (r1, r2, r3, r4) := H
        have A24 := Aside0.mk A240
        clear A240
        by_cases c25 : t375 = 0
        · rw [if_pos c25] at H
          have c25b0 : (t375 == 0) = true := beq_iff_eq.mpr c25
          have c25b1 : (t375 != 0) = false := bne_eq_false_iff_eq.mpr c25
          clear c25
          simp only [Option.some.injEq, Prod.mk.injEq] at H
          obtain ⟨rfl, rfl, rfl, rfl⟩ := H
          go_enter Tryd.func29, Tryd.ntmps29
          go_wp2_with (first | ((with_reducible refine gate_dst (N := 3) rfl ?_); refine box_event ?hg (N := 3) ?hd (cs := #[.int .i64 a1_0, .string a1_1, .string a1_2, .string a1_3, .int .i64 a1_4]) (t := 41) ?hr ?_; (case hd => rfl); (case hg => rfl); (case hr => first | (go_simp; done) | (go_simp; rfl)); intro gb360 hg w26 hbox hb; have n0_ := Aside0.mk (Kd.V_below (Kd.V_elderB (by (with_reducible repeat (first | apply Kd.V_alloc | apply Kd.V_drewN | apply Kd.V_drew)); exact HO0.out) gb360 (Nat.le_of_eq hg.symm)) hb); have n1_ := Aside0.mk (below_step (by repeat (first | (with_reducible first | exact HB.out | apply below_alloc | apply pw_below_drewN | apply below_drew1) | exact HB.out)) hb); have n2_ := Aside0.mk (hbox); have n3_ := Aside0.mk ((by rw [hg]; exact (below_size (by repeat (first | (with_reducible first | exact HB.out | apply below_alloc | apply pw_below_drewN | apply below_drew1) | exact HB.out))) : w.heap.size ≤ gb360)); have n4_ := Aside0.mk ((by rw [hg]; exact (below_size (by repeat (first | (with_reducible first | exact HB.out | apply below_alloc | apply pw_below_drewN | apply below_drew1) | exact HB.out))) : w.heap.size ≤ gb360)); clear HO0; clear HB; have HO0 := n0_; have HB := n1_; have BK360 := n2_; have GW360 := n3_; have GE360 := n4_; clear n0_ n1_ n2_ n3_ n4_; clear hb hbox hg; have hcz27_0 : w26.cell? ⟨gb360, 0, none⟩ = some (.int .i64 a1_0) := (blk_cell BK360.out 0).trans rfl; have hcz27_1 : w26.cell? ⟨gb360, 1, none⟩ = some (.string a1_1) := (blk_cell BK360.out 1).trans rfl; have hcz27_2 : w26.cell? ⟨gb360, 2, none⟩ = some (.string a1_2) := (blk_cell BK360.out 2).trans rfl; have hcz27_3 : w26.cell? ⟨gb360, 3, none⟩ = some (.string a1_3) := (blk_cell BK360.out 3).trans rfl; have hcz27_4 : w26.cell? ⟨gb360, 4, none⟩ = some (.int .i64 a1_4) := (blk_cell BK360.out 4).trans rfl; have hfz27_0 := blk_frozen BK360.out 0; have hfz27_1 := blk_frozen BK360.out 1; have hfz27_2 := blk_frozen BK360.out 2; have hfz27_3 := blk_frozen BK360.out 3; have hfz27_4 := blk_frozen BK360.out 4) | (go_at_call 26; (with_reducible refine (ledger_Move.calls _ _ l0 a1_1 a1_2 a1_4 t372 t375 _ ?side1 ?side2 ?side3 A24.out).mono ?_); (case side1 => repeat (first | exact (Kd.V_reads' HO0.out).2.2 | (with_reducible refine Kd.C_alloc ?_ _) | (with_reducible refine Kd.C_drewN ?_ _) | (with_reducible refine Kd.C_drew ?_))); (case side2 => exact (Kd.V_reads' HO0.out).2.1); (case side3 => exact Tabs.below hT (by repeat (first | (with_reducible first | exact HB.out | apply below_alloc | apply pw_below_drewN | apply below_drew1 | refine below_set ?_ GE360.out) | exact HB.out))); rintro e w28 ⟨v373, rfl, ho0, hb⟩; have n0_ := Aside0.mk (Kd.V_below (by (with_reducible repeat (first | apply Kd.V_alloc | apply Kd.V_drewN | apply Kd.V_drew)); exact HO0.out) hb); have n1_ := Aside0.mk (Kd.V_lower (Kd.V_mono (ok' := fun k_ => (P0_ k_ ∨ w.heap.size ≤ k_) ∧ k_ ≠ gb360) ho0 (fun k_ hk_ => ⟨(.inr (Nat.le_trans (below_size (by repeat (first | (with_reducible first | exact HB.out | apply below_alloc | apply pw_below_drewN | apply below_drew1 | refine below_set ?_ GE360.out) | exact HB.out))) hk_)), (Kd.freshB (g := gb360) (o := .cells #[.int .i64 a1_0, .string a1_1, .string a1_2, .string a1_3, .int .i64 a1_4] 41 (0, 0)) (by (with_reducible repeat (first | refine blk_drewN ?_ _ | refine blk_drew ?_ | refine blk_alloc ?_ _)); exact BK360.out) k_ hk_)⟩)) (below_size (by repeat (first | (with_reducible first | exact HB.out | apply below_alloc | apply pw_below_drewN | apply below_drew1 | refine below_set ?_ GE360.out) | exact HB.out)))); have n2_ := Aside0.mk (blk_below (g := gb360) (o := .cells #[.int .i64 a1_0, .string a1_1, .string a1_2, .string a1_3, .int .i64 a1_4] 41 (0, 0)) (by (with_reducible repeat (first | refine blk_drewN ?_ _ | refine blk_drew ?_ | refine blk_alloc ?_ _)); exact BK360.out) hb); have n3_ := Aside0.mk (below_step (by repeat (first | (with_reducible first | exact HB.out | apply below_alloc | apply pw_below_drewN | apply below_drew1 | refine below_set ?_ GE360.out) | exact HB.out)) hb); clear HO0; clear BK360; clear HB; have HO0 := n0_; have HO374 := n1_; have BK360 := n2_; have HB := n3_; clear n0_ n1_ n2_ n3_; (try clear hb); (try clear hb2); (try clear hk); (try clear hi); (try clear ho0)))
          repeat (go_quiet (first | ((with_reducible refine gate_dst (N := 3) rfl ?_); refine box_event ?hg (N := 3) ?hd (cs := #[.int .i64 a1_0, .string a1_1, .string a1_2, .string a1_3, .int .i64 a1_4]) (t := 41) ?hr ?_; (case hd => rfl); (case hg => rfl); (case hr => first | (go_simp; done) | (go_simp; rfl)); intro gb360 hg w26 hbox hb; have n0_ := Aside0.mk (Kd.V_below (Kd.V_elderB (by (with_reducible repeat (first | apply Kd.V_alloc | apply Kd.V_drewN | apply Kd.V_drew)); exact HO0.out) gb360 (Nat.le_of_eq hg.symm)) hb); have n1_ := Aside0.mk (below_step (by repeat (first | (with_reducible first | exact HB.out | apply below_alloc | apply pw_below_drewN | apply below_drew1) | exact HB.out)) hb); have n2_ := Aside0.mk (hbox); have n3_ := Aside0.mk ((by rw [hg]; exact (below_size (by repeat (first | (with_reducible first | exact HB.out | apply below_alloc | apply pw_below_drewN | apply below_drew1) | exact HB.out))) : w.heap.size ≤ gb360)); have n4_ := Aside0.mk ((by rw [hg]; exact (below_size (by repeat (first | (with_reducible first | exact HB.out | apply below_alloc | apply pw_below_drewN | apply below_drew1) | exact HB.out))) : w.heap.size ≤ gb360)); clear HO0; clear HB; have HO0 := n0_; have HB := n1_; have BK360 := n2_; have GW360 := n3_; have GE360 := n4_; clear n0_ n1_ n2_ n3_ n4_; clear hb hbox hg; have hcz27_0 : w26.cell? ⟨gb360, 0, none⟩ = some (.int .i64 a1_0) := (blk_cell BK360.out 0).trans rfl; have hcz27_1 : w26.cell? ⟨gb360, 1, none⟩ = some (.string a1_1) := (blk_cell BK360.out 1).trans rfl; have hcz27_2 : w26.cell? ⟨gb360, 2, none⟩ = some (.string a1_2) := (blk_cell BK360.out 2).trans rfl; have hcz27_3 : w26.cell? ⟨gb360, 3, none⟩ = some (.string a1_3) := (blk_cell BK360.out 3).trans rfl; have hcz27_4 : w26.cell? ⟨gb360, 4, none⟩ = some (.int .i64 a1_4) := (blk_cell BK360.out 4).trans rfl; have hfz27_0 := blk_frozen BK360.out 0; have hfz27_1 := blk_frozen BK360.out 1; have hfz27_2 := blk_frozen BK360.out 2; have hfz27_3 := blk_frozen BK360.out 3; have hfz27_4 := blk_frozen BK360.out 4) | (go_at_call 26; (with_reducible refine (ledger_Move.calls _ _ l0 a1_1 a1_2 a1_4 t372 t375 _ ?side1 ?side2 ?side3 A24.out).mono ?_); (case side1 => repeat (first | exact (Kd.V_reads' HO0.out).2.2 | (with_reducible refine Kd.C_alloc ?_ _) | (with_reducible refine Kd.C_drewN ?_ _) | (with_reducible refine Kd.C_drew ?_))); (case side2 => exact (Kd.V_reads' HO0.out).2.1); (case side3 => exact Tabs.below hT (by repeat (first | (with_reducible first | exact HB.out | apply below_alloc | apply pw_below_drewN | apply below_drew1 | refine below_set ?_ GE360.out) | exact HB.out))); rintro e w28 ⟨v373, rfl, ho0, hb⟩; have n0_ := Aside0.mk (Kd.V_below (by (with_reducible repeat (first | apply Kd.V_alloc | apply Kd.V_drewN | apply Kd.V_drew)); exact HO0.out) hb); have n1_ := Aside0.mk (Kd.V_lower (Kd.V_mono (ok' := fun k_ => (P0_ k_ ∨ w.heap.size ≤ k_) ∧ k_ ≠ gb360) ho0 (fun k_ hk_ => ⟨(.inr (Nat.le_trans (below_size (by repeat (first | (with_reducible first | exact HB.out | apply below_alloc | apply pw_below_drewN | apply below_drew1 | refine below_set ?_ GE360.out) | exact HB.out))) hk_)), (Kd.freshB (g := gb360) (o := .cells #[.int .i64 a1_0, .string a1_1, .string a1_2, .string a1_3, .int .i64 a1_4] 41 (0, 0)) (by (with_reducible repeat (first | refine blk_drewN ?_ _ | refine blk_drew ?_ | refine blk_alloc ?_ _)); exact BK360.out) k_ hk_)⟩)) (below_size (by repeat (first | (with_reducible first | exact HB.out | apply below_alloc | apply pw_below_drewN | apply below_drew1 | refine below_set ?_ GE360.out) | exact HB.out)))); have n2_ := Aside0.mk (blk_below (g := gb360) (o := .cells #[.int .i64 a1_0, .string a1_1, .string a1_2, .string a1_3, .int .i64 a1_4] 41 (0, 0)) (by (with_reducible repeat (first | refine blk_drewN ?_ _ | refine blk_drew ?_ | refine blk_alloc ?_ _)); exact BK360.out) hb); have n3_ := Aside0.mk (below_step (by repeat (first | (with_reducible first | exact HB.out | apply below_alloc | apply pw_below_drewN | apply below_drew1 | refine below_set ?_ GE360.out) | exact HB.out)) hb); clear HO0; clear BK360; clear HB; have HO0 := n0_; have HO374 := n1_; have BK360 := n2_; have HB := n3_; clear n0_ n1_ n2_ n3_; (try clear hb); (try clear hb2); (try clear hk); (try clear hi); (try clear ho0))); try go_wp2_with (first | ((with_reducible refine gate_dst (N := 3) rfl ?_); refine box_event ?hg (N := 3) ?hd (cs := #[.int .i64 a1_0, .string a1_1, .string a1_2, .string a1_3, .int .i64 a1_4]) (t := 41) ?hr ?_; (case hd => rfl); (case hg => rfl); (case hr => first | (go_simp; done) | (go_simp; rfl)); intro gb360 hg w26 hbox hb; have n0_ := Aside0.mk (Kd.V_below (Kd.V_elderB (by (with_reducible repeat (first | apply Kd.V_alloc | apply Kd.V_drewN | apply Kd.V_drew)); exact HO0.out) gb360 (Nat.le_of_eq hg.symm)) hb); have n1_ := Aside0.mk (below_step (by repeat (first | (with_reducible first | exact HB.out | apply below_alloc | apply pw_below_drewN | apply below_drew1) | exact HB.out)) hb); have n2_ := Aside0.mk (hbox); have n3_ := Aside0.mk ((by rw [hg]; exact (below_size (by repeat (first | (with_reducible first | exact HB.out | apply below_alloc | apply pw_below_drewN | apply below_drew1) | exact HB.out))) : w.heap.size ≤ gb360)); have n4_ := Aside0.mk ((by rw [hg]; exact (below_size (by repeat (first | (with_reducible first | exact HB.out | apply below_alloc | apply pw_below_drewN | apply below_drew1) | exact HB.out))) : w.heap.size ≤ gb360)); clear HO0; clear HB; have HO0 := n0_; have HB := n1_; have BK360 := n2_; have GW360 := n3_; have GE360 := n4_; clear n0_ n1_ n2_ n3_ n4_; clear hb hbox hg; have hcz27_0 : w26.cell? ⟨gb360, 0, none⟩ = some (.int .i64 a1_0) := (blk_cell BK360.out 0).trans rfl; have hcz27_1 : w26.cell? ⟨gb360, 1, none⟩ = some (.string a1_1) := (blk_cell BK360.out 1).trans rfl; have hcz27_2 : w26.cell? ⟨gb360, 2, none⟩ = some (.string a1_2) := (blk_cell BK360.out 2).trans rfl; have hcz27_3 : w26.cell? ⟨gb360, 3, none⟩ = some (.string a1_3) := (blk_cell BK360.out 3).trans rfl; have hcz27_4 : w26.cell? ⟨gb360, 4, none⟩ = some (.int .i64 a1_4) := (blk_cell BK360.out 4).trans rfl; have hfz27_0 := blk_frozen BK360.out 0; have hfz27_1 := blk_frozen BK360.out 1; have hfz27_2 := blk_frozen BK360.out 2; have hfz27_3 := blk_frozen BK360.out 3; have hfz27_4 := blk_frozen BK360.out 4) | (go_at_call 26; (with_reducible refine (ledger_Move.calls _ _ l0 a1_1 a1_2 a1_4 t372 t375 _ ?side1 ?side2 ?side3 A24.out).mono ?_); (case side1 => repeat (first | exact (Kd.V_reads' HO0.out).2.2 | (with_reducible refine Kd.C_alloc ?_ _) | (with_reducible refine Kd.C_drewN ?_ _) | (with_reducible refine Kd.C_drew ?_))); (case side2 => exact (Kd.V_reads' HO0.out).2.1); (case side3 => exact Tabs.below hT (by repeat (first | (with_reducible first | exact HB.out | apply below_alloc | apply pw_below_drewN | apply below_drew1 | refine below_set ?_ GE360.out) | exact HB.out))); rintro e w28 ⟨v373, rfl, ho0, hb⟩; have n0_ := Aside0.mk (Kd.V_below (by (with_reducible repeat (first | apply Kd.V_alloc | apply Kd.V_drewN | apply Kd.V_drew)); exact HO0.out) hb); have n1_ := Aside0.mk (Kd.V_lower (Kd.V_mono (ok' := fun k_ => (P0_ k_ ∨ w.heap.size ≤ k_) ∧ k_ ≠ gb360) ho0 (fun k_ hk_ => ⟨(.inr (Nat.le_trans (below_size (by repeat (first | (with_reducible first | exact HB.out | apply below_alloc | apply pw_below_drewN | apply below_drew1 | refine below_set ?_ GE360.out) | exact HB.out))) hk_)), (Kd.freshB (g := gb360) (o := .cells #[.int .i64 a1_0, .string a1_1, .string a1_2, .string a1_3, .int .i64 a1_4] 41 (0, 0)) (by (with_reducible repeat (first | refine blk_drewN ?_ _ | refine blk_drew ?_ | refine blk_alloc ?_ _)); exact BK360.out) k_ hk_)⟩)) (below_size (by repeat (first | (with_reducible first | exact HB.out | apply below_alloc | apply pw_below_drewN | apply below_drew1 | refine below_set ?_ GE360.out) | exact HB.out)))); have n2_ := Aside0.mk (blk_below (g := gb360) (o := .cells #[.int .i64 a1_0, .string a1_1, .string a1_2, .string a1_3, .int .i64 a1_4] 41 (0, 0)) (by (with_reducible repeat (first | refine blk_drewN ?_ _ | refine blk_drew ?_ | refine blk_alloc ?_ _)); exact BK360.out) hb); have n3_ := Aside0.mk (below_step (by repeat (first | (with_reducible first | exact HB.out | apply below_alloc | apply pw_below_drewN | apply below_drew1 | refine below_set ?_ GE360.out) | exact HB.out)) hb); clear HO0; clear BK360; clear HB; have HO0 := n0_; have HO374 := n1_; have BK360 := n2_; have HB := n3_; clear n0_ n1_ n2_ n3_; (try clear hb); (try clear hb2); (try clear hk); (try clear hi); (try clear ho0))))
          refine bodyPost_ret (results_list (rs := [.tmp 4, .tmp 5, .tmp 6, .tmp 7]) rfl (by simp) (.tmp (.tmp (.tmp (.tmp .nil))))) rfl ?_
          exact ⟨_, _, by first | rfl | (simp [errW_none, errW_some] <;> rfl) | (simp [*, errW_none, errW_some] <;> rfl), by (with_reducible repeat (first | apply Kd.V_alloc | apply Kd.V_drewN | apply Kd.V_drew)); exact Kd.V_mono HO374.out (fun _ hk => ⟨hk.1, (by simp [Value.ownBlock])⟩), by first | exact Kd.R_nil _ _ _ _ _ | exact Kd.N_nil _ _ _ _ _ | exact Kd.V_nil _ _ _ _ _ | exact Kd.Q_nil _ _ _ _ _ | exact Kd.S_nil _ _ _ _ _, by repeat (first | (with_reducible first | exact HB.out | apply below_alloc | apply pw_below_drewN | apply below_drew1 | refine below_set ?_ GE360.out) | exact HB.out)⟩
        · rw [if_neg c25] at H
          have c25b0 : (t375 == 0) = false := beq_eq_false_iff_ne.mpr c25
          have c25b1 : (t375 != 0) = true := bne_iff_ne.mpr c25
          simp only [Option.some.injEq, Prod.mk.injEq] at H
          obtain ⟨rfl, rfl, rfl, rfl⟩ := H
          go_enter Tryd.func29, Tryd.ntmps29
          go_wp2_with (first | ((with_reducible refine gate_dst (N := 3) rfl ?_); refine box_event ?hg (N := 3) ?hd (cs := #[.int .i64 a1_0, .string a1_1, .string a1_2, .string a1_3, .int .i64 a1_4]) (t := 41) ?hr ?_; (case hd => rfl); (case hg => rfl); (case hr => first | (go_simp; done) | (go_simp; rfl)); intro gb360 hg w29 hbox hb; have n0_ := Aside0.mk (Kd.V_below (Kd.V_elderB (by (with_reducible repeat (first | apply Kd.V_alloc | apply Kd.V_drewN | apply Kd.V_drew)); exact HO0.out) gb360 (Nat.le_of_eq hg.symm)) hb); have n1_ := Aside0.mk (below_step (by repeat (first | (with_reducible first | exact HB.out | apply below_alloc | apply pw_below_drewN | apply below_drew1) | exact HB.out)) hb); have n2_ := Aside0.mk (hbox); have n3_ := Aside0.mk ((by rw [hg]; exact (below_size (by repeat (first | (with_reducible first | exact HB.out | apply below_alloc | apply pw_below_drewN | apply below_drew1) | exact HB.out))) : w.heap.size ≤ gb360)); have n4_ := Aside0.mk ((by rw [hg]; exact (below_size (by repeat (first | (with_reducible first | exact HB.out | apply below_alloc | apply pw_below_drewN | apply below_drew1) | exact HB.out))) : w.heap.size ≤ gb360)); clear HO0; clear HB; have HO0 := n0_; have HB := n1_; have BK360 := n2_; have GW360 := n3_; have GE360 := n4_; clear n0_ n1_ n2_ n3_ n4_; clear hb hbox hg; have hcz30_0 : w29.cell? ⟨gb360, 0, none⟩ = some (.int .i64 a1_0) := (blk_cell BK360.out 0).trans rfl; have hcz30_1 : w29.cell? ⟨gb360, 1, none⟩ = some (.string a1_1) := (blk_cell BK360.out 1).trans rfl; have hcz30_2 : w29.cell? ⟨gb360, 2, none⟩ = some (.string a1_2) := (blk_cell BK360.out 2).trans rfl; have hcz30_3 : w29.cell? ⟨gb360, 3, none⟩ = some (.string a1_3) := (blk_cell BK360.out 3).trans rfl; have hcz30_4 : w29.cell? ⟨gb360, 4, none⟩ = some (.int .i64 a1_4) := (blk_cell BK360.out 4).trans rfl; have hfz30_0 := blk_frozen BK360.out 0; have hfz30_1 := blk_frozen BK360.out 1; have hfz30_2 := blk_frozen BK360.out 2; have hfz30_3 := blk_frozen BK360.out 3; have hfz30_4 := blk_frozen BK360.out 4) | (go_at_call 26; (with_reducible refine (ledger_Move.calls _ _ l0 a1_1 a1_2 a1_4 t372 t375 _ ?side1 ?side2 ?side3 A24.out).mono ?_); (case side1 => repeat (first | exact (Kd.V_reads' HO0.out).2.2 | (with_reducible refine Kd.C_alloc ?_ _) | (with_reducible refine Kd.C_drewN ?_ _) | (with_reducible refine Kd.C_drew ?_))); (case side2 => exact (Kd.V_reads' HO0.out).2.1); (case side3 => exact Tabs.below hT (by repeat (first | (with_reducible first | exact HB.out | apply below_alloc | apply pw_below_drewN | apply below_drew1 | refine below_set ?_ GE360.out) | exact HB.out))); rintro e w31 ⟨v373, rfl, ho0, hb⟩; have n0_ := Aside0.mk (Kd.V_below (by (with_reducible repeat (first | apply Kd.V_alloc | apply Kd.V_drewN | apply Kd.V_drew)); exact HO0.out) hb); have n1_ := Aside0.mk (Kd.V_lower (Kd.V_mono (ok' := fun k_ => (P0_ k_ ∨ w.heap.size ≤ k_) ∧ k_ ≠ gb360) ho0 (fun k_ hk_ => ⟨(.inr (Nat.le_trans (below_size (by repeat (first | (with_reducible first | exact HB.out | apply below_alloc | apply pw_below_drewN | apply below_drew1 | refine below_set ?_ GE360.out) | exact HB.out))) hk_)), (Kd.freshB (g := gb360) (o := .cells #[.int .i64 a1_0, .string a1_1, .string a1_2, .string a1_3, .int .i64 a1_4] 41 (0, 0)) (by (with_reducible repeat (first | refine blk_drewN ?_ _ | refine blk_drew ?_ | refine blk_alloc ?_ _)); exact BK360.out) k_ hk_)⟩)) (below_size (by repeat (first | (with_reducible first | exact HB.out | apply below_alloc | apply pw_below_drewN | apply below_drew1 | refine below_set ?_ GE360.out) | exact HB.out)))); have n2_ := Aside0.mk (blk_below (g := gb360) (o := .cells #[.int .i64 a1_0, .string a1_1, .string a1_2, .string a1_3, .int .i64 a1_4] 41 (0, 0)) (by (with_reducible repeat (first | refine blk_drewN ?_ _ | refine blk_drew ?_ | refine blk_alloc ?_ _)); exact BK360.out) hb); have n3_ := Aside0.mk (below_step (by repeat (first | (with_reducible first | exact HB.out | apply below_alloc | apply pw_below_drewN | apply below_drew1 | refine below_set ?_ GE360.out) | exact HB.out)) hb); clear HO0; clear BK360; clear HB; have HO0 := n0_; have HO374 := n1_; have BK360 := n2_; have HB := n3_; clear n0_ n1_ n2_ n3_; (try clear hb); (try clear hb2); (try clear hk); (try clear hi); (try clear ho0)))
          repeat (go_quiet (first | ((with_reducible refine gate_dst (N := 3) rfl ?_); refine box_event ?hg (N := 3) ?hd (cs := #[.int .i64 a1_0, .string a1_1, .string a1_2, .string a1_3, .int .i64 a1_4]) (t := 41) ?hr ?_; (case hd => rfl); (case hg => rfl); (case hr => first | (go_simp; done) | (go_simp; rfl)); intro gb360 hg w29 hbox hb; have n0_ := Aside0.mk (Kd.V_below (Kd.V_elderB (by (with_reducible repeat (first | apply Kd.V_alloc | apply Kd.V_drewN | apply Kd.V_drew)); exact HO0.out) gb360 (Nat.le_of_eq hg.symm)) hb); have n1_ := Aside0.mk (below_step (by repeat (first | (with_reducible first | exact HB.out | apply below_alloc | apply pw_below_drewN | apply below_drew1) | exact HB.out)) hb); have n2_ := Aside0.mk (hbox); have n3_ := Aside0.mk ((by rw [hg]; exact (below_size (by repeat (first | (with_reducible first | exact HB.out | apply below_alloc | apply pw_below_drewN | apply below_drew1) | exact HB.out))) : w.heap.size ≤ gb360)); have n4_ := Aside0.mk ((by rw [hg]; exact (below_size (by repeat (first | (with_reducible first | exact HB.out | apply below_alloc | apply pw_below_drewN | apply below_drew1) | exact HB.out))) : w.heap.size ≤ gb360)); clear HO0; clear HB; have HO0 := n0_; have HB := n1_; have BK360 := n2_; have GW360 := n3_; have GE360 := n4_; clear n0_ n1_ n2_ n3_ n4_; clear hb hbox hg; have hcz30_0 : w29.cell? ⟨gb360, 0, none⟩ = some (.int .i64 a1_0) := (blk_cell BK360.out 0).trans rfl; have hcz30_1 : w29.cell? ⟨gb360, 1, none⟩ = some (.string a1_1) := (blk_cell BK360.out 1).trans rfl; have hcz30_2 : w29.cell? ⟨gb360, 2, none⟩ = some (.string a1_2) := (blk_cell BK360.out 2).trans rfl; have hcz30_3 : w29.cell? ⟨gb360, 3, none⟩ = some (.string a1_3) := (blk_cell BK360.out 3).trans rfl; have hcz30_4 : w29.cell? ⟨gb360, 4, none⟩ = some (.int .i64 a1_4) := (blk_cell BK360.out 4).trans rfl; have hfz30_0 := blk_frozen BK360.out 0; have hfz30_1 := blk_frozen BK360.out 1; have hfz30_2 := blk_frozen BK360.out 2; have hfz30_3 := blk_frozen BK360.out 3; have hfz30_4 := blk_frozen BK360.out 4) | (go_at_call 26; (with_reducible refine (ledger_Move.calls _ _ l0 a1_1 a1_2 a1_4 t372 t375 _ ?side1 ?side2 ?side3 A24.out).mono ?_); (case side1 => repeat (first | exact (Kd.V_reads' HO0.out).2.2 | (with_reducible refine Kd.C_alloc ?_ _) | (with_reducible refine Kd.C_drewN ?_ _) | (with_reducible refine Kd.C_drew ?_))); (case side2 => exact (Kd.V_reads' HO0.out).2.1); (case side3 => exact Tabs.below hT (by repeat (first | (with_reducible first | exact HB.out | apply below_alloc | apply pw_below_drewN | apply below_drew1 | refine below_set ?_ GE360.out) | exact HB.out))); rintro e w31 ⟨v373, rfl, ho0, hb⟩; have n0_ := Aside0.mk (Kd.V_below (by (with_reducible repeat (first | apply Kd.V_alloc | apply Kd.V_drewN | apply Kd.V_drew)); exact HO0.out) hb); have n1_ := Aside0.mk (Kd.V_lower (Kd.V_mono (ok' := fun k_ => (P0_ k_ ∨ w.heap.size ≤ k_) ∧ k_ ≠ gb360) ho0 (fun k_ hk_ => ⟨(.inr (Nat.le_trans (below_size (by repeat (first | (with_reducible first | exact HB.out | apply below_alloc | apply pw_below_drewN | apply below_drew1 | refine below_set ?_ GE360.out) | exact HB.out))) hk_)), (Kd.freshB (g := gb360) (o := .cells #[.int .i64 a1_0, .string a1_1, .string a1_2, .string a1_3, .int .i64 a1_4] 41 (0, 0)) (by (with_reducible repeat (first | refine blk_drewN ?_ _ | refine blk_drew ?_ | refine blk_alloc ?_ _)); exact BK360.out) k_ hk_)⟩)) (below_size (by repeat (first | (with_reducible first | exact HB.out | apply below_alloc | apply pw_below_drewN | apply below_drew1 | refine below_set ?_ GE360.out) | exact HB.out)))); have n2_ := Aside0.mk (blk_below (g := gb360) (o := .cells #[.int .i64 a1_0, .string a1_1, .string a1_2, .string a1_3, .int .i64 a1_4] 41 (0, 0)) (by (with_reducible repeat (first | refine blk_drewN ?_ _ | refine blk_drew ?_ | refine blk_alloc ?_ _)); exact BK360.out) hb); have n3_ := Aside0.mk (below_step (by repeat (first | (with_reducible first | exact HB.out | apply below_alloc | apply pw_below_drewN | apply below_drew1 | refine below_set ?_ GE360.out) | exact HB.out)) hb); clear HO0; clear BK360; clear HB; have HO0 := n0_; have HO374 := n1_; have BK360 := n2_; have HB := n3_; clear n0_ n1_ n2_ n3_; (try clear hb); (try clear hb2); (try clear hk); (try clear hi); (try clear ho0))); try go_wp2_with (first | ((with_reducible refine gate_dst (N := 3) rfl ?_); refine box_event ?hg (N := 3) ?hd (cs := #[.int .i64 a1_0, .string a1_1, .string a1_2, .string a1_3, .int .i64 a1_4]) (t := 41) ?hr ?_; (case hd => rfl); (case hg => rfl); (case hr => first | (go_simp; done) | (go_simp; rfl)); intro gb360 hg w29 hbox hb; have n0_ := Aside0.mk (Kd.V_below (Kd.V_elderB (by (with_reducible repeat (first | apply Kd.V_alloc | apply Kd.V_drewN | apply Kd.V_drew)); exact HO0.out) gb360 (Nat.le_of_eq hg.symm)) hb); have n1_ := Aside0.mk (below_step (by repeat (first | (with_reducible first | exact HB.out | apply below_alloc | apply pw_below_drewN | apply below_drew1) | exact HB.out)) hb); have n2_ := Aside0.mk (hbox); have n3_ := Aside0.mk ((by rw [hg]; exact (below_size (by repeat (first | (with_reducible first | exact HB.out | apply below_alloc | apply pw_below_drewN | apply below_drew1) | exact HB.out))) : w.heap.size ≤ gb360)); have n4_ := Aside0.mk ((by rw [hg]; exact (below_size (by repeat (first | (with_reducible first | exact HB.out | apply below_alloc | apply pw_below_drewN | apply below_drew1) | exact HB.out))) : w.heap.size ≤ gb360)); clear HO0; clear HB; have HO0 := n0_; have HB := n1_; have BK360 := n2_; have GW360 := n3_; have GE360 := n4_; clear n0_ n1_ n2_ n3_ n4_; clear hb hbox hg; have hcz30_0 : w29.cell? ⟨gb360, 0, none⟩ = some (.int .i64 a1_0) := (blk_cell BK360.out 0).trans rfl; have hcz30_1 : w29.cell? ⟨gb360, 1, none⟩ = some (.string a1_1) := (blk_cell BK360.out 1).trans rfl; have hcz30_2 : w29.cell? ⟨gb360, 2, none⟩ = some (.string a1_2) := (blk_cell BK360.out 2).trans rfl; have hcz30_3 : w29.cell? ⟨gb360, 3, none⟩ = some (.string a1_3) := (blk_cell BK360.out 3).trans rfl; have hcz30_4 : w29.cell? ⟨gb360, 4, none⟩ = some (.int .i64 a1_4) := (blk_cell BK360.out 4).trans rfl; have hfz30_0 := blk_frozen BK360.out 0; have hfz30_1 := blk_frozen BK360.out 1; have hfz30_2 := blk_frozen BK360.out 2; have hfz30_3 := blk_frozen BK360.out 3; have hfz30_4 := blk_frozen BK360.out 4) | (go_at_call 26; (with_reducible refine (ledger_Move.calls _ _ l0 a1_1 a1_2 a1_4 t372 t375 _ ?side1 ?side2 ?side3 A24.out).mono ?_); (case side1 => repeat (first | exact (Kd.V_reads' HO0.out).2.2 | (with_reducible refine Kd.C_alloc ?_ _) | (with_reducible refine Kd.C_drewN ?_ _) | (with_reducible refine Kd.C_drew ?_))); (case side2 => exact (Kd.V_reads' HO0.out).2.1); (case side3 => exact Tabs.below hT (by repeat (first | (with_reducible first | exact HB.out | apply below_alloc | apply pw_below_drewN | apply below_drew1 | refine below_set ?_ GE360.out) | exact HB.out))); rintro e w31 ⟨v373, rfl, ho0, hb⟩; have n0_ := Aside0.mk (Kd.V_below (by (with_reducible repeat (first | apply Kd.V_alloc | apply Kd.V_drewN | apply Kd.V_drew)); exact HO0.out) hb); have n1_ := Aside0.mk (Kd.V_lower (Kd.V_mono (ok' := fun k_ => (P0_ k_ ∨ w.heap.size ≤ k_) ∧ k_ ≠ gb360) ho0 (fun k_ hk_ => ⟨(.inr (Nat.le_trans (below_size (by repeat (first | (with_reducible first | exact HB.out | apply below_alloc | apply pw_below_drewN | apply below_drew1 | refine below_set ?_ GE360.out) | exact HB.out))) hk_)), (Kd.freshB (g := gb360) (o := .cells #[.int .i64 a1_0, .string a1_1, .string a1_2, .string a1_3, .int .i64 a1_4] 41 (0, 0)) (by (with_reducible repeat (first | refine blk_drewN ?_ _ | refine blk_drew ?_ | refine blk_alloc ?_ _)); exact BK360.out) k_ hk_)⟩)) (below_size (by repeat (first | (with_reducible first | exact HB.out | apply below_alloc | apply pw_below_drewN | apply below_drew1 | refine below_set ?_ GE360.out) | exact HB.out)))); have n2_ := Aside0.mk (blk_below (g := gb360) (o := .cells #[.int .i64 a1_0, .string a1_1, .string a1_2, .string a1_3, .int .i64 a1_4] 41 (0, 0)) (by (with_reducible repeat (first | refine blk_drewN ?_ _ | refine blk_drew ?_ | refine blk_alloc ?_ _)); exact BK360.out) hb); have n3_ := Aside0.mk (below_step (by repeat (first | (with_reducible first | exact HB.out | apply below_alloc | apply pw_below_drewN | apply below_drew1 | refine below_set ?_ GE360.out) | exact HB.out)) hb); clear HO0; clear BK360; clear HB; have HO0 := n0_; have HO374 := n1_; have BK360 := n2_; have HB := n3_; clear n0_ n1_ n2_ n3_; (try clear hb); (try clear hb2); (try clear hk); (try clear hi); (try clear ho0))))
          refine bodyPost_ret (results_list (rs := [.tmp 4, .tmp 5, .tmp 6, .tmp 7]) rfl (by simp) (.tmp (.tmp (.tmp (.tmp .nil))))) rfl ?_
          exact ⟨_, _, by first | rfl | (simp [errW_none, errW_some] <;> rfl) | (simp [*, errW_none, errW_some] <;> rfl), by (with_reducible repeat (first | apply Kd.V_alloc | apply Kd.V_drewN | apply Kd.V_drew)); exact Kd.V_mono HO0.out (fun _ hk => ⟨hk.1, (by simp [Value.ownBlock])⟩), by first | exact Kd.R_nil _ _ _ _ _ | exact Kd.N_nil _ _ _ _ _ | exact Kd.V_nil _ _ _ _ _ | exact Kd.Q_nil _ _ _ _ _ | exact Kd.S_nil _ _ _ _ _, by repeat (first | (with_reducible first | exact HB.out | apply below_alloc | apply pw_below_drewN | apply below_drew1 | refine below_set ?_ GE360.out) | exact HB.out)⟩
      · rw [if_neg c23] at H
        have c23b0 : (a1_0 == 2) = false := beq_eq_false_iff_ne.mpr c23
        have c23b1 : (a1_0 != 2) = true := bne_iff_ne.mpr c23
        simp only [Option.some.injEq, Prod.mk.injEq] at H
        obtain ⟨rfl, rfl, rfl, rfl⟩ := H
        go_enter Tryd.func29, Tryd.ntmps29
        go_wp2_with (first | ((with_reducible refine gate_dst (N := 3) rfl ?_); refine box_event ?hg (N := 3) ?hd (cs := #[.int .i64 a1_0, .string a1_1, .string a1_2, .string a1_3, .int .i64 a1_4]) (t := 41) ?hr ?_; (case hd => rfl); (case hg => rfl); (case hr => first | (go_simp; done) | (go_simp; rfl)); intro gb360 hg w32 hbox hb; have n0_ := Aside0.mk (Kd.V_below (Kd.V_elderB (by (with_reducible repeat (first | apply Kd.V_alloc | apply Kd.V_drewN | apply Kd.V_drew)); exact HO0.out) gb360 (Nat.le_of_eq hg.symm)) hb); have n1_ := Aside0.mk (below_step (by repeat (first | (with_reducible first | exact HB.out | apply below_alloc | apply pw_below_drewN | apply below_drew1) | exact HB.out)) hb); have n2_ := Aside0.mk (hbox); have n3_ := Aside0.mk ((by rw [hg]; exact (below_size (by repeat (first | (with_reducible first | exact HB.out | apply below_alloc | apply pw_below_drewN | apply below_drew1) | exact HB.out))) : w.heap.size ≤ gb360)); have n4_ := Aside0.mk ((by rw [hg]; exact (below_size (by repeat (first | (with_reducible first | exact HB.out | apply below_alloc | apply pw_below_drewN | apply below_drew1) | exact HB.out))) : w.heap.size ≤ gb360)); clear HO0; clear HB; have HO0 := n0_; have HB := n1_; have BK360 := n2_; have GW360 := n3_; have GE360 := n4_; clear n0_ n1_ n2_ n3_ n4_; clear hb hbox hg; have hcz33_0 : w32.cell? ⟨gb360, 0, none⟩ = some (.int .i64 a1_0) := (blk_cell BK360.out 0).trans rfl; have hcz33_1 : w32.cell? ⟨gb360, 1, none⟩ = some (.string a1_1) := (blk_cell BK360.out 1).trans rfl; have hcz33_2 : w32.cell? ⟨gb360, 2, none⟩ = some (.string a1_2) := (blk_cell BK360.out 2).trans rfl; have hcz33_3 : w32.cell? ⟨gb360, 3, none⟩ = some (.string a1_3) := (blk_cell BK360.out 3).trans rfl; have hcz33_4 : w32.cell? ⟨gb360, 4, none⟩ = some (.int .i64 a1_4) := (blk_cell BK360.out 4).trans rfl; have hfz33_0 := blk_frozen BK360.out 0; have hfz33_1 := blk_frozen BK360.out 1; have hfz33_2 := blk_frozen BK360.out 2; have hfz33_3 := blk_frozen BK360.out 3; have hfz33_4 := blk_frozen BK360.out 4))
        repeat (go_quiet (first | ((with_reducible refine gate_dst (N := 3) rfl ?_); refine box_event ?hg (N := 3) ?hd (cs := #[.int .i64 a1_0, .string a1_1, .string a1_2, .string a1_3, .int .i64 a1_4]) (t := 41) ?hr ?_; (case hd => rfl); (case hg => rfl); (case hr => first | (go_simp; done) | (go_simp; rfl)); intro gb360 hg w32 hbox hb; have n0_ := Aside0.mk (Kd.V_below (Kd.V_elderB (by (with_reducible repeat (first | apply Kd.V_alloc | apply Kd.V_drewN | apply Kd.V_drew)); exact HO0.out) gb360 (Nat.le_of_eq hg.symm)) hb); have n1_ := Aside0.mk (below_step (by repeat (first | (with_reducible first | exact HB.out | apply below_alloc | apply pw_below_drewN | apply below_drew1) | exact HB.out)) hb); have n2_ := Aside0.mk (hbox); have n3_ := Aside0.mk ((by rw [hg]; exact (below_size (by repeat (first | (with_reducible first | exact HB.out | apply below_alloc | apply pw_below_drewN | apply below_drew1) | exact HB.out))) : w.heap.size ≤ gb360)); have n4_ := Aside0.mk ((by rw [hg]; exact (below_size (by repeat (first | (with_reducible first | exact HB.out | apply below_alloc | apply pw_below_drewN | apply below_drew1) | exact HB.out))) : w.heap.size ≤ gb360)); clear HO0; clear HB; have HO0 := n0_; have HB := n1_; have BK360 := n2_; have GW360 := n3_; have GE360 := n4_; clear n0_ n1_ n2_ n3_ n4_; clear hb hbox hg; have hcz33_0 : w32.cell? ⟨gb360, 0, none⟩ = some (.int .i64 a1_0) := (blk_cell BK360.out 0).trans rfl; have hcz33_1 : w32.cell? ⟨gb360, 1, none⟩ = some (.string a1_1) := (blk_cell BK360.out 1).trans rfl; have hcz33_2 : w32.cell? ⟨gb360, 2, none⟩ = some (.string a1_2) := (blk_cell BK360.out 2).trans rfl; have hcz33_3 : w32.cell? ⟨gb360, 3, none⟩ = some (.string a1_3) := (blk_cell BK360.out 3).trans rfl; have hcz33_4 : w32.cell? ⟨gb360, 4, none⟩ = some (.int .i64 a1_4) := (blk_cell BK360.out 4).trans rfl; have hfz33_0 := blk_frozen BK360.out 0; have hfz33_1 := blk_frozen BK360.out 1; have hfz33_2 := blk_frozen BK360.out 2; have hfz33_3 := blk_frozen BK360.out 3; have hfz33_4 := blk_frozen BK360.out 4)); try go_wp2_with (first | ((with_reducible refine gate_dst (N := 3) rfl ?_); refine box_event ?hg (N := 3) ?hd (cs := #[.int .i64 a1_0, .string a1_1, .string a1_2, .string a1_3, .int .i64 a1_4]) (t := 41) ?hr ?_; (case hd => rfl); (case hg => rfl); (case hr => first | (go_simp; done) | (go_simp; rfl)); intro gb360 hg w32 hbox hb; have n0_ := Aside0.mk (Kd.V_below (Kd.V_elderB (by (with_reducible repeat (first | apply Kd.V_alloc | apply Kd.V_drewN | apply Kd.V_drew)); exact HO0.out) gb360 (Nat.le_of_eq hg.symm)) hb); have n1_ := Aside0.mk (below_step (by repeat (first | (with_reducible first | exact HB.out | apply below_alloc | apply pw_below_drewN | apply below_drew1) | exact HB.out)) hb); have n2_ := Aside0.mk (hbox); have n3_ := Aside0.mk ((by rw [hg]; exact (below_size (by repeat (first | (with_reducible first | exact HB.out | apply below_alloc | apply pw_below_drewN | apply below_drew1) | exact HB.out))) : w.heap.size ≤ gb360)); have n4_ := Aside0.mk ((by rw [hg]; exact (below_size (by repeat (first | (with_reducible first | exact HB.out | apply below_alloc | apply pw_below_drewN | apply below_drew1) | exact HB.out))) : w.heap.size ≤ gb360)); clear HO0; clear HB; have HO0 := n0_; have HB := n1_; have BK360 := n2_; have GW360 := n3_; have GE360 := n4_; clear n0_ n1_ n2_ n3_ n4_; clear hb hbox hg; have hcz33_0 : w32.cell? ⟨gb360, 0, none⟩ = some (.int .i64 a1_0) := (blk_cell BK360.out 0).trans rfl; have hcz33_1 : w32.cell? ⟨gb360, 1, none⟩ = some (.string a1_1) := (blk_cell BK360.out 1).trans rfl; have hcz33_2 : w32.cell? ⟨gb360, 2, none⟩ = some (.string a1_2) := (blk_cell BK360.out 2).trans rfl; have hcz33_3 : w32.cell? ⟨gb360, 3, none⟩ = some (.string a1_3) := (blk_cell BK360.out 3).trans rfl; have hcz33_4 : w32.cell? ⟨gb360, 4, none⟩ = some (.int .i64 a1_4) := (blk_cell BK360.out 4).trans rfl; have hfz33_0 := blk_frozen BK360.out 0; have hfz33_1 := blk_frozen BK360.out 1; have hfz33_2 := blk_frozen BK360.out 2; have hfz33_3 := blk_frozen BK360.out 3; have hfz33_4 := blk_frozen BK360.out 4)))
        refine bodyPost_ret (results_list (rs := [.tmp 4, .tmp 5, .tmp 6, .tmp 7]) rfl (by simp) (.tmp (.tmp (.tmp (.tmp .nil))))) rfl ?_
        exact ⟨_, _, by first | rfl | (simp [errW_none, errW_some] <;> rfl) | (simp [*, errW_none, errW_some] <;> rfl), by (with_reducible repeat (first | apply Kd.V_alloc | apply Kd.V_drewN | apply Kd.V_drew)); exact Kd.V_mono HO0.out (fun _ hk => ⟨hk.1, (by simp [Value.ownBlock])⟩), by first | exact Kd.R_nil _ _ _ _ _ | exact Kd.N_nil _ _ _ _ _ | exact Kd.V_nil _ _ _ _ _ | exact Kd.Q_nil _ _ _ _ _ | exact Kd.S_nil _ _ _ _ _, by repeat (first | (with_reducible first | exact HB.out | apply below_alloc | apply pw_below_drewN | apply below_drew1 | refine below_set ?_ GE360.out) | exact HB.out)⟩
mutual
def malthouselaw13_of.l0 : Nat → List (S25) → ByteArray → Int → Int → Option (Int)
  | 0, _, _, _, _ => none
  | k + 1, x0, x1, x5, x6 => if x6 < (x0.length : Int) then (malthouselaw13_of.l1 k x0 x1 x5 x6 0) else (some x5)
def malthouselaw13_of.l1 : Nat → List (S25) → ByteArray → Int → Int → Int → Option (Int)
  | 0, _, _, _, _, _ => none
  | k + 1, x0, x1, x5, x6, x7 => if 0 ≤ x6 then (if x6 < (x0.length : Int) then (if x7 < (((rd_T25 x0 x6).f2).length : Int) then (if 0 ≤ x7 then (if ((rd_T37 ((rd_T25 x0 x6).f2) x7).f0).toList = x1.toList then (malthouselaw13_of.l1 k x0 x1 (wrap64 (x5 + ((rd_T37 ((rd_T25 x0 x6).f2) x7).f1))) x6 (wrap64 (x7 + 1))) else (malthouselaw13_of.l1 k x0 x1 x5 x6 (wrap64 (x7 + 1)))) else (none)) else (malthouselaw13_of.l0 k x0 x1 x5 (wrap64 (x6 + 1)))) else (none)) else (none)
end
def malthouselaw13_of.f (k : Nat) (l0 : List (S25)) (a1 : ByteArray) : Option (Int) := malthouselaw13_of.l0 k l0 a1 0 0
set_option maxHeartbeats 8000000 in
set_option maxRecDepth 100000 in
theorem malthouselaw13_of.calls (k : Nat) (A0 : Option Addr) (c0 : Nat) (l0 : List (S25)) (a1 : ByteArray) (r : Int) (w : World) (hr0 : Kd.C k25 w A0 l0.length l0) (hc0 : l0.length ≤ c0) (h : malthouselaw13_of.f k l0 a1 = some r) :
    Calls Tryd.prog 30 #[.slice A0 l0.length c0, .string a1] w fun e w' => e = .returned (.int .i64 r) ∧ Drawn0 w w' := by
  have HR0 := Aside0.mk hr0
  have HC0 := Aside0.mk hc0
  clear hr0 hc0
  have H : (malthouselaw13_of.l0 k l0 a1 0 0) = some r := h
  clear h
  have H' := Aside0.mk H
  clear H
  go_enter Tryd.func30, Tryd.ntmps30
  go_wp2
  go_loopg [5, 6] k (fun kq v5 v6 w' => ∃ (x5_1 : Int) (x6_1 : Int), v5 = .int .i64 x5_1 ∧ v6 = .int .i64 x6_1 ∧ Aside0 (malthouselaw13_of.l0 kq l0 a1 x5_1 x6_1 = some r) ∧ Aside0 (kq ≤ k) ∧ Drawn0 w w')
  case atStart => exact ⟨(0), (0), (by first | rfl | (simp; done) | (simp [*]; done)), (by first | rfl | (simp; done) | (simp [*]; done)), H', ⟨Nat.le_refl _⟩, by repeat (first | exact Drawn0.refl _ | apply Drawn0.step)⟩
  case round =>
    clear H'
    try clear p2
    obtain ⟨x5_1, x6_1, rfl, rfl, HA, HK1, ⟨m1, rfl⟩⟩ := hrel
    cases gk with
    | zero => exact absurd HA.out (by simp [malthouselaw13_of.l0])
    | succ k1 =>
      have H := HA.out
      clear HA
      simp only [malthouselaw13_of.l0] at H
      by_cases c3 : x6_1 < (l0.length : Int)
      · rw [if_pos c3] at H
        have c3b0 : decide (x6_1 < (l0.length : Int)) = true := decide_eq_true c3
        clear c3
        have H' := Aside0.mk H
        clear H
        go_wp2
        go_loopg [5, 7] k1 (fun kq v5 v7 w' => ∃ (x5_2 : Int) (x7_2 : Int), v5 = .int .i64 x5_2 ∧ v7 = .int .i64 x7_2 ∧ Aside0 (malthouselaw13_of.l1 kq l0 a1 x5_2 x6_1 x7_2 = some r) ∧ Aside0 (kq ≤ k1) ∧ Drawn0 w w')
        case atStart => exact ⟨(x5_1), (0), (by first | rfl | (simp; done) | (simp [*]; done)), (by first | rfl | (simp; done) | (simp [*]; done)), H', ⟨Nat.le_refl _⟩, by repeat (first | exact Drawn0.refl _ | apply Drawn0.step)⟩
        case round =>
          clear H'
          try clear p2
          try clear c3
          try clear c3b0
          try clear p2
          obtain ⟨x5_2, x7_2, rfl, rfl, HA, HK2, ⟨m2, rfl⟩⟩ := hrel
          cases gk with
          | zero => exact absurd HA.out (by simp [malthouselaw13_of.l1])
          | succ k2 =>
            have H := HA.out
            clear HA
            simp only [malthouselaw13_of.l1] at H
            by_cases c4 : 0 ≤ x6_1
            · rw [if_pos c4] at H
              have c4b0 : decide (0 ≤ x6_1) = true := decide_eq_true c4
              clear c4
              by_cases c5 : x6_1 < (l0.length : Int)
              · rw [if_pos c5] at H
                have c5b0 : decide (x6_1 < (l0.length : Int)) = true := decide_eq_true c5
                clear c5
                by_cases c6 : x7_2 < (((rd_T25 l0 x6_1).f2).length : Int)
                · rw [if_pos c6] at H
                  have c6b0 : decide (x7_2 < (((rd_T25 l0 x6_1).f2).length : Int)) = true := decide_eq_true c6
                  clear c6
                  by_cases c7 : 0 ≤ x7_2
                  · rw [if_pos c7] at H
                    have c7b0 : decide (0 ≤ x7_2) = true := decide_eq_true c7
                    clear c7
                    by_cases c8 : ((rd_T37 ((rd_T25 l0 x6_1).f2) x7_2).f0).toList = a1.toList
                    · rw [if_pos c8] at H
                      have c8b0 : (((rd_T37 ((rd_T25 l0 x6_1).f2) x7_2).f0).toList == a1.toList) = true := beq_iff_eq.mpr c8
                      have c8b1 : (((rd_T37 ((rd_T25 l0 x6_1).f2) x7_2).f0).toList != a1.toList) = false := bne_eq_false_iff_eq.mpr c8
                      clear c8
                      have H' := Aside0.mk H
                      clear H
                      have p380 : 0 ≤ (x6_1 : Int) := of_decide_eq_true (by first | (with_reducible assumption) | assumption)
                      have q380 : x6_1 < (l0.length : Int) := of_decide_eq_true (by first | (with_reducible assumption) | assumption)
                      obtain ⟨ad380, A380_2, c380_2, e380, hx380_0, hx380_1, hx380_2, hl380_2, hi380_2⟩ := at_T25 HR0.out x6_1 p380 q380
                      cases e380
                      have HR380_2 := Aside0.mk hi380_2
                      have HC380_2 := Aside0.mk hl380_2
                      clear hi380_2 hl380_2
                      replace p380 := eq_true p380
                      replace q380 := eq_true q380
                      have p381 : 0 ≤ (x6_1 : Int) := of_decide_eq_true (by first | (with_reducible assumption) | assumption)
                      have q381 : x6_1 < (l0.length : Int) := of_decide_eq_true (by first | (with_reducible assumption) | assumption)
                      obtain ⟨ad381, A381_2, c381_2, e381, hx381_0, hx381_1, hx381_2, hl381_2, hi381_2⟩ := at_T25 HR0.out x6_1 p381 q381
                      obtain rfl : ad380 = ad381 := (by injection e381)
                      have HR381_2 := Aside0.mk hi381_2
                      have HC381_2 := Aside0.mk hl381_2
                      clear hi381_2 hl381_2
                      replace p381 := eq_true p381
                      replace q381 := eq_true q381
                      have ea_ := Option.some.inj (hx380_2.symm.trans hx381_2)
                      injection ea_ with ea_ en_ ec_
                      subst ea_
                      subst ec_
                      clear en_
                      have p382 : 0 ≤ (x7_2 : Int) := of_decide_eq_true (by first | (with_reducible assumption) | assumption)
                      have q382 : x7_2 < (((rd_T25 l0 x6_1).f2).length : Int) := of_decide_eq_true (by first | (with_reducible assumption) | assumption)
                      obtain ⟨ad382, e382, hx382_0, hx382_1⟩ := at_T37 HR381_2.out x7_2 p382 q382
                      cases e382
                      replace p382 := eq_true p382
                      replace q382 := eq_true q382
                      have p383 : 0 ≤ (x6_1 : Int) := of_decide_eq_true (by first | (with_reducible assumption) | assumption)
                      have q383 : x6_1 < (l0.length : Int) := of_decide_eq_true (by first | (with_reducible assumption) | assumption)
                      obtain ⟨ad383, A383_2, c383_2, e383, hx383_0, hx383_1, hx383_2, hl383_2, hi383_2⟩ := at_T25 HR0.out x6_1 p383 q383
                      obtain rfl : ad380 = ad383 := (by injection e383)
                      have HR383_2 := Aside0.mk hi383_2
                      have HC383_2 := Aside0.mk hl383_2
                      clear hi383_2 hl383_2
                      replace p383 := eq_true p383
                      replace q383 := eq_true q383
                      have ea_ := Option.some.inj (hx380_2.symm.trans hx383_2)
                      injection ea_ with ea_ en_ ec_
                      subst ea_
                      subst ec_
                      clear en_
                      have p384 : 0 ≤ (x7_2 : Int) := of_decide_eq_true (by first | (with_reducible assumption) | assumption)
                      have q384 : x7_2 < (((rd_T25 l0 x6_1).f2).length : Int) := of_decide_eq_true (by first | (with_reducible assumption) | assumption)
                      obtain ⟨ad384, e384, hx384_0, hx384_1⟩ := at_T37 HR383_2.out x7_2 p384 q384
                      cases e384
                      replace p384 := eq_true p384
                      replace q384 := eq_true q384
                      go_wp2
                      go_roundg k2
                      case measure => have := HK1.out; have := HK2.out; omega
                      case rel => exact ⟨(wrap64 (x5_2 + ((rd_T37 ((rd_T25 l0 x6_1).f2) x7_2).f1))), (wrap64 (x7_2 + 1)), (by first | rfl | (simp; done) | (simp [*]; done)), (by first | rfl | (simp; done) | (simp [*]; done)), H', ⟨by have := HK1.out; have := HK2.out; omega⟩, by repeat (first | exact Drawn0.refl _ | apply Drawn0.step)⟩
                    · rw [if_neg c8] at H
                      have c8b0 : (((rd_T37 ((rd_T25 l0 x6_1).f2) x7_2).f0).toList == a1.toList) = false := beq_eq_false_iff_ne.mpr c8
                      have c8b1 : (((rd_T37 ((rd_T25 l0 x6_1).f2) x7_2).f0).toList != a1.toList) = true := bne_iff_ne.mpr c8
                      have H' := Aside0.mk H
                      clear H
                      have p380 : 0 ≤ (x6_1 : Int) := of_decide_eq_true (by first | (with_reducible assumption) | assumption)
                      have q380 : x6_1 < (l0.length : Int) := of_decide_eq_true (by first | (with_reducible assumption) | assumption)
                      obtain ⟨ad380, A380_2, c380_2, e380, hx380_0, hx380_1, hx380_2, hl380_2, hi380_2⟩ := at_T25 HR0.out x6_1 p380 q380
                      cases e380
                      have HR380_2 := Aside0.mk hi380_2
                      have HC380_2 := Aside0.mk hl380_2
                      clear hi380_2 hl380_2
                      replace p380 := eq_true p380
                      replace q380 := eq_true q380
                      have p381 : 0 ≤ (x6_1 : Int) := of_decide_eq_true (by first | (with_reducible assumption) | assumption)
                      have q381 : x6_1 < (l0.length : Int) := of_decide_eq_true (by first | (with_reducible assumption) | assumption)
                      obtain ⟨ad381, A381_2, c381_2, e381, hx381_0, hx381_1, hx381_2, hl381_2, hi381_2⟩ := at_T25 HR0.out x6_1 p381 q381
                      obtain rfl : ad380 = ad381 := (by injection e381)
                      have HR381_2 := Aside0.mk hi381_2
                      have HC381_2 := Aside0.mk hl381_2
                      clear hi381_2 hl381_2
                      replace p381 := eq_true p381
                      replace q381 := eq_true q381
                      have ea_ := Option.some.inj (hx380_2.symm.trans hx381_2)
                      injection ea_ with ea_ en_ ec_
                      subst ea_
                      subst ec_
                      clear en_
                      have p382 : 0 ≤ (x7_2 : Int) := of_decide_eq_true (by first | (with_reducible assumption) | assumption)
                      have q382 : x7_2 < (((rd_T25 l0 x6_1).f2).length : Int) := of_decide_eq_true (by first | (with_reducible assumption) | assumption)
                      obtain ⟨ad382, e382, hx382_0, hx382_1⟩ := at_T37 HR381_2.out x7_2 p382 q382
                      cases e382
                      replace p382 := eq_true p382
                      replace q382 := eq_true q382
                      go_wp2
                      go_roundg k2
                      case measure => have := HK1.out; have := HK2.out; omega
                      case rel => exact ⟨(x5_2), (wrap64 (x7_2 + 1)), (by first | rfl | (simp; done) | (simp [*]; done)), (by first | rfl | (simp; done) | (simp [*]; done)), H', ⟨by have := HK1.out; have := HK2.out; omega⟩, by repeat (first | exact Drawn0.refl _ | apply Drawn0.step)⟩
                  · rw [if_neg c7] at H
                    exact absurd H (by simp)
                · rw [if_neg c6] at H
                  have c6b0 : decide (x7_2 < (((rd_T25 l0 x6_1).f2).length : Int)) = false := decide_eq_false c6
                  clear c6
                  have H' := Aside0.mk H
                  clear H
                  have p380 : 0 ≤ (x6_1 : Int) := of_decide_eq_true (by first | (with_reducible assumption) | assumption)
                  have q380 : x6_1 < (l0.length : Int) := of_decide_eq_true (by first | (with_reducible assumption) | assumption)
                  obtain ⟨ad380, A380_2, c380_2, e380, hx380_0, hx380_1, hx380_2, hl380_2, hi380_2⟩ := at_T25 HR0.out x6_1 p380 q380
                  cases e380
                  have HR380_2 := Aside0.mk hi380_2
                  have HC380_2 := Aside0.mk hl380_2
                  clear hi380_2 hl380_2
                  replace p380 := eq_true p380
                  replace q380 := eq_true q380
                  go_wp2
                  go_roundg k2
                  case measure => have := HK1.out; have := HK2.out; omega
                  case rel => exact ⟨(x5_2), (wrap64 (x6_1 + 1)), (by first | rfl | (simp; done) | (simp [*]; done)), (by first | rfl | (simp; done) | (simp [*]; done)), H', ⟨by have := HK1.out; have := HK2.out; omega⟩, by repeat (first | exact Drawn0.refl _ | apply Drawn0.step)⟩
              · rw [if_neg c5] at H
                exact absurd H (by simp)
            · rw [if_neg c4] at H
              exact absurd H (by simp)
      · rw [if_neg c3] at H
        have c3b0 : decide (x6_1 < (l0.length : Int)) = false := decide_eq_false c3
        clear c3
        obtain rfl := Option.some.inj H
        go_wp2
        go_ret
        exact ⟨by first | rfl | (simp; done) | (simp [*]; done), by repeat (first | exact Drawn0.refl _ | apply Drawn0.step)⟩
end Go.Proofs.YtejecmjajdhiiaaDoor.Print
/-! ### LgKp -/
namespace Go.Proofs.YtejecmjajdhiiaaDoor.Print
open Go.RowKit Go.Proofs.YtejecmjajdhiiaaDoorW.PrintWords Go.Proofs.YtejecmjajdhiiaaDoorW.PrintLast Go.Proofs.YtejecmjajdhiiaaDoorW.PrintMore
set_option linter.unusedSimpArgs false
set_option linter.unusedVariables false
/-- A sum over a list. -/
def sumF {α : Type} (f : α → Int) (l : List α) : Int := l.foldr (fun x s => f x + s) 0
theorem sumF_cons {α : Type} (f : α → Int) (x : α) (l : List α) : sumF f (x :: l) = f x + sumF f l := rfl
theorem sumF_append {α : Type} (f : α → Int) : ∀ (a b : List α), sumF f (a ++ b) = sumF f a + sumF f b
  | [], b => by show sumF f b = 0 + sumF f b; omega
  | x :: a, b => by rw [List.cons_append, sumF_cons, sumF_cons, sumF_append f a b]; omega
theorem sumF_set {α : Type} (f : α → Int) : ∀ (l : List α) (k : Nat) (x y : α), l[k]? = some x → sumF f (l.set k y) = sumF f l - f x + f y
  | [], k, x, y, h => by simp at h
  | z :: l, 0, x, y, h => by
    obtain rfl := Option.some.inj h
    rw [List.set_cons_zero, sumF_cons, sumF_cons]
    omega
  | z :: l, k + 1, x, y, h => by
    rw [List.set_cons_succ, sumF_cons, sumF_cons, sumF_set f l k x y h]
    omega
theorem sumF_le {α : Type} (f : α → Int) (m : Int) (hm : 0 ≤ m) : ∀ (l : List α), (∀ x ∈ l, 0 ≤ f x ∧ f x ≤ m) → 0 ≤ sumF f l ∧ sumF f l ≤ l.length * m
  | [], _ => by show (0 : Int) ≤ 0 ∧ (0 : Int) ≤ ((0 : Nat) : Int) * m; simp
  | x :: l, h => by
    have ih := sumF_le f m hm l (fun y hy => h y (by simp [hy]))
    have h1 := h x (by simp)
    rw [sumF_cons, List.length_cons, show ((l.length + 1 : Nat) : Int) * m = l.length * m + m by rw [Int.natCast_add, Int.add_mul]; simp]
    omega
/-- How many grams of a lot's name. -/
def ofY (b : ByteArray) (y : S37) : Int := if y.f0 = b then y.f1 else 0
def ofL (b : ByteArray) (l : List S37) : Int := sumF (ofY b) l
def ofM (b : ByteArray) (l : List S25) : Int := sumF (fun x => ofL b x.f2) l
def sumM (l : List S25) : Int := sumF (fun x => sumL x.f2) l
theorem takeM_of (b : ByteArray) : ∀ (l : List S37) (n : Int), ofL b (takeM l n).1 + ofL b (takeM l n).2 = ofL b l
  | [], n => rfl
  | x :: l, n => by
    rw [takeM]
    by_cases hn : 0 < n
    · rw [if_pos hn]
      have ih := takeM_of b l (n - mn n x.f1)
      by_cases hz : x.f1 - mn n x.f1 = 0
      · rw [if_pos hz]
        show ofL b (takeM l (n - mn n x.f1)).1 + ofL b (outL x n :: (takeM l (n - mn n x.f1)).2) = ofL b (x :: l)
        unfold ofL at ih ⊢
        rw [sumF_cons, sumF_cons]
        have e : ofY b (outL x n) = ofY b x := by
          unfold ofY outL
          dsimp only
          rw [show mn n x.f1 = x.f1 by omega]
        omega
      · rw [if_neg hz]
        show ofL b (⟨x.f0, x.f1 - mn n x.f1⟩ :: l) + ofL b [outL x n] = ofL b (x :: l)
        unfold ofL
        rw [sumF_cons, sumF_cons, sumF_cons]
        have e : ofY b ⟨x.f0, x.f1 - mn n x.f1⟩ + ofY b (outL x n) = ofY b x := by
          unfold ofY outL
          dsimp only
          split <;> omega
        have e0 : sumF (ofY b) [] = 0 := rfl
        omega
    · rw [if_neg hn]
      show ofL b (x :: l) + 0 = ofL b (x :: l)
      omega
theorem pourM_of (b : ByteArray) (x : S37) : ∀ (l : List S37), ofL b (pourM l x) = ofL b l + ofY b x
  | [] => by show ofY b x + 0 = 0 + ofY b x; omega
  | [z] => by
    rw [pourM_one]
    split
    · rename_i h
      show ofY b ⟨z.f0, z.f1 + x.f1⟩ + 0 = (ofY b z + 0) + ofY b x
      unfold ofY
      dsimp only
      rw [← h]
      split <;> omega
    · show ofY b z + (ofY b x + 0) = (ofY b z + 0) + ofY b x
      omega
  | z :: w :: l => by
    rw [pourM_cons]
    have ih := pourM_of b x (w :: l)
    unfold ofL at ih ⊢
    rw [sumF_cons, ih, sumF_cons (ofY b) z]
    omega
theorem poursM_of (b : ByteArray) : ∀ (o l : List S37), ofL b (poursM l o) = ofL b l + ofL b o
  | [], l => by show ofL b l = ofL b l + 0; omega
  | x :: o, l => by
    show ofL b (poursM (pourM l x) o) = ofL b l + (ofY b x + ofL b o)
    rw [poursM_of b o (pourM l x), pourM_of]
    omega
theorem chargeM_cases (l : List S25) (a b : ByteArray) (n : Int) : (∃ e, e ≠ 0 ∧ chargeM l a b n = ([], e)) ∨
    (∃ (k : Nat) (y : S25), Good l ∧ nameB b = true ∧ l[k]? = some y ∧ 1 ≤ n ∧ sumL y.f2 + n ≤ y.f1 ∧ (pourM y.f2 ⟨b, n⟩).length ≤ 5 ∧ chargeM l a b n = (l.set k (turned y (pourM y.f2 ⟨b, n⟩)), 0)) := by
  unfold chargeM
  by_cases hg : checkM l = 0 ∧ nameB b = true
  rotate_left
  · exact .inl ⟨1, by decide, by rw [if_neg hg]⟩
  rw [if_pos hg]
  rcases at_cases l a with ⟨_, h⟩ | ⟨k, y, h1, h2, h3⟩
  · exact .inl ⟨4, by decide, by rw [h]; rfl⟩
  rw [h3]
  show (∃ e, e ≠ 0 ∧ chargeV l k y b n = ([], e)) ∨ _
  by_cases hc : n < 1 ∨ y.f1 - sumL y.f2 < n
  · exact .inl ⟨130, by decide, by unfold chargeV; rw [if_pos hc]⟩
  by_cases h5 : 5 < (pourM y.f2 ⟨b, n⟩).length
  · exact .inl ⟨2, by decide, by unfold chargeV; rw [if_neg hc, if_pos h5]⟩
  · exact .inr ⟨k, y, (good_iff l).1 hg.1, hg.2, h2, by omega, by omega, by omega, by show chargeV l k y b n = _; unfold chargeV; rw [if_neg hc, if_neg h5]⟩
theorem moveM_cases (l : List S25) (hl : Lite l) (a b : ByteArray) (n : Int) : (∃ e, e ≠ 0 ∧ moveM l a b n = ([], e)) ∨
    (∃ (i k : Nat) (x y : S25), Good l ∧ k ≠ i ∧ l[i]? = some x ∧ l[k]? = some y ∧ 1 ≤ n ∧ n ≤ sumL x.f2 ∧ sumL y.f2 + n ≤ y.f1 ∧ (poursM y.f2 (takeM x.f2 n).2).length ≤ 5 ∧ moveM l a b n = (movedM l i k x y n, 0)) := by
  unfold moveM
  by_cases hg : checkM l = 0 ∧ a ≠ b
  rotate_left
  · exact .inl ⟨1, by decide, by rw [if_neg hg]⟩
  rw [if_pos hg]
  rcases at_cases l a with ⟨_, h⟩ | ⟨i, x, f1, hx, h1⟩
  · exact .inl ⟨4, by decide, by rw [h]; cases atV l b <;> rfl⟩
  rcases at_cases l b with ⟨_, h⟩ | ⟨k, y, f2, hy, h2⟩
  · exact .inl ⟨4, by decide, by rw [h, h1]; rfl⟩
  have hne : k ≠ i := find_ne (l := l) (a := a) (b := b) (by rw [find_lite hl, f1]) (by rw [find_lite hl, f2]) hg.2
  rw [h1, h2]
  show (∃ e, e ≠ 0 ∧ moveV l i x k y n = ([], e)) ∨ _
  by_cases hc : n < 1 ∨ sumL x.f2 < n ∨ y.f1 - sumL y.f2 < n
  · exact .inl ⟨130, by decide, by unfold moveV; rw [if_pos hc]⟩
  by_cases h5 : 5 < (poursM y.f2 (takeM x.f2 n).2).length
  · exact .inl ⟨2, by decide, by unfold moveV; rw [if_neg hc, if_pos h5]⟩
  · exact .inr ⟨i, k, x, y, (good_iff l).1 hg.1, hne, hx, hy, by omega, by omega, by omega, by omega, by show moveV l i x k y n = _; unfold moveV; rw [if_neg hc, if_neg h5]⟩
/-- The same vessels, by names and room. -/
def SameV (l m : List S25) : Prop := m.length = l.length ∧ ∀ (k : Nat) (x y : S25), l[k]? = some x → m[k]? = some y → y.f0 = x.f0 ∧ y.f1 = x.f1
theorem SameV.refl (l : List S25) : SameV l l := ⟨rfl, fun k x y h1 h2 => by rw [h1] at h2; obtain rfl := Option.some.inj h2; exact ⟨rfl, rfl⟩⟩
theorem SameV.turn {l m : List S25} (h : SameV l m) {k : Nat} {y : S25} (hy : m[k]? = some y) (q : List S37) : SameV l (m.set k (turned y q)) := by
  refine ⟨by rw [List.length_set]; exact h.1, fun j x z h1 h2 => ?_⟩
  by_cases hj : j = k
  · subst hj
    rw [List.getElem?_set_self (List.getElem?_eq_some_iff.1 hy).1] at h2
    obtain rfl := Option.some.inj h2
    exact h.2 j x y h1 hy
  · rw [List.getElem?_set_ne (Ne.symm hj)] at h2
    exact h.2 j x z h1 h2
def doneM (l : List S25) (o : S41) : List S25 × Int × List S37 × Int :=
  if o.f0 = 0 then (if (chargeM l o.f1 o.f3 o.f4).2 = 0 then ((chargeM l o.f1 o.f3 o.f4).1, o.f4, [], 0) else (l, 0, [], (chargeM l o.f1 o.f3 o.f4).2))
  else if o.f0 = 1 then (if (drawM l o.f1 o.f4).2.2 = 0 then ((drawM l o.f1 o.f4).1, wrap64 (-o.f4), (drawM l o.f1 o.f4).2.1, 0) else (l, 0, [], (drawM l o.f1 o.f4).2.2))
  else if o.f0 = 2 then (if (moveM l o.f1 o.f2 o.f4).2 = 0 then ((moveM l o.f1 o.f2 o.f4).1, 0, [], 0) else (l, 0, [], (moveM l o.f1 o.f2 o.f4).2))
  else (l, 0, [], 1)
theorem done_is {l : List S25} (hl : Lite l) (o : S41) (hb : o.f3.size ≤ 1000000000) : malthouselaw13_done.f l o.f0 o.f1 o.f2 o.f3 o.f4 = some (doneM l o) := by
  unfold malthouselaw13_done.f doneM
  rw [charge_value hl _ _ _ hb, draw_value hl, move_value hl]
  simp only [Option.bind_some]
  split
  · split <;> rfl
  · split
    · split <;> rfl
    · split
      · split <;> rfl
      · rfl
/-- What every call keeps. -/
structure StepOk (l : List S25) (o : S41) (D : List S25 × Int × List S37 × Int) : Prop where
  lite : Lite D.1
  good : Good D.1
  same : SameV l D.1
  sum : sumM D.1 = sumM l + D.2.1
  pos : D.2.2.2 = 0 → 1 ≤ o.f4
  gone : o.f0 = 1 → sumL D.2.2.1 = -D.2.1
  num : -1125899906842624 ≤ D.2.1 ∧ D.2.1 ≤ 1125899906842624
  outs : D.2.2.1.length ≤ 60 ∧ (∀ y ∈ D.2.2.1, 0 ≤ y.f1 ∧ y.f1 ≤ 1125899906842624) ∧ sumL D.2.2.1 ≤ 1125899906842624
  of : ∀ b, ofM b D.1 = ofM b l + (if D.2.2.2 = 0 ∧ o.f0 = 0 ∧ o.f3 = b then D.2.1 else 0) - ofL b D.2.2.1
theorem stay_ok {l : List S25} (hl : Lite l) (hg : Good l) (o : S41) {e : Int} (he : e ≠ 0) : StepOk l o (l, 0, [], e) :=
  ⟨hl, hg, SameV.refl l, by show sumM l = sumM l + 0; omega, fun h => absurd h he, fun _ => rfl, by show (-1125899906842624 : Int) ≤ 0 ∧ (0 : Int) ≤ 1125899906842624; decide, ⟨by simp, by simp, by show (0 : Int) ≤ 1125899906842624; decide⟩, fun b => by
    show ofM b l = ofM b l + (if e = 0 ∧ _ then _ else _) - 0
    rw [if_neg (fun h => he h.1)]
    omega⟩
theorem pours_names : ∀ (o l : List S37), ∀ z ∈ poursM l o, (∃ q ∈ o, q.f0 = z.f0) ∨ ∃ q ∈ l, q.f0 = z.f0
  | [], l => fun z hz => .inr ⟨z, hz, rfl⟩
  | x :: o, l => fun z hz => by
    rcases pours_names o (pourM l x) z hz with ⟨q, h1, h2⟩ | ⟨q, h1, h2⟩
    · exact .inl ⟨q, by simp [h1], h2⟩
    · rcases pour_names x l q h1 with h | ⟨r, h3, h4⟩
      · exact .inl ⟨x, by simp, by rw [← h2, h]⟩
      · exact .inr ⟨r, h3, by rw [h4, h2]⟩
theorem step_ok {l : List S25} (hl : Lite l) (hg : Good l) (o : S41) (hb : o.f3.size ≤ 1000000000) : StepOk l o (doneM l o) := by
  unfold doneM
  by_cases h0 : o.f0 = 0
  · rw [if_pos h0]
    rcases chargeM_cases l o.f1 o.f3 o.f4 with ⟨e, he, h⟩ | ⟨k, y, _, hn, hy, h1, h2, h5, h⟩
    · rw [h, if_neg he]
      exact stay_ok hl hg o he
    · rw [h, if_pos rfl]
      obtain ⟨q1, q2, q3, q4, q5⟩ := (vesB_iff y).1 (hg.all k y hy).1
      have hs0 := fine_sum _ _ q4
      have hly := hl.all y (List.mem_of_getElem? hy)
      have hf := pour_fine ⟨o.f3, o.f4⟩ hn h1 y.f2 none q4 (by simp)
      have hs : sumL (pourM y.f2 ⟨o.f3, o.f4⟩) = sumL y.f2 + o.f4 := pour_sum ⟨o.f3, o.f4⟩ y.f2
      refine ⟨hl.turn hy (by omega) (fun z hz => ?_), hg.turn hy ((vesB_iff _).2 ⟨q1, q2, q3, hf, by show sumL (pourM y.f2 ⟨o.f3, o.f4⟩) ≤ y.f1; omega⟩) h5, (SameV.refl l).turn hy _, ?_, fun _ => h1, fun h => absurd h (by omega), by show _ ≤ o.f4 ∧ o.f4 ≤ _; omega, ⟨by simp, by simp, by show (0 : Int) ≤ 1125899906842624; decide⟩, fun b => ?_⟩
      · rcases pour_names _ y.f2 z hz with h | ⟨q, h1, h2⟩
        · rw [h]; exact hb
        · rw [← h2]; exact hly.lots q h1
      · show sumM (l.set k _) = sumM l + o.f4
        unfold sumM
        rw [sumF_set _ l k y _ hy]
        show _ - sumL y.f2 + sumL (pourM y.f2 ⟨o.f3, o.f4⟩) = _
        omega
      · show ofM b (l.set k _) = ofM b l + (if (0 : Int) = 0 ∧ o.f0 = 0 ∧ o.f3 = b then o.f4 else 0) - 0
        unfold ofM
        rw [sumF_set _ l k y _ hy]
        show _ - ofL b y.f2 + ofL b (pourM y.f2 ⟨o.f3, o.f4⟩) = _
        rw [pourM_of]
        have : ofY b ⟨o.f3, o.f4⟩ = if (0 : Int) = 0 ∧ o.f0 = 0 ∧ o.f3 = b then o.f4 else 0 := by
          unfold ofY
          simp [h0]
        omega
  rw [if_neg h0]
  by_cases h01 : o.f0 = 1
  · rw [if_pos h01]
    rcases drawM_cases l o.f1 o.f4 with ⟨e, he, h⟩ | ⟨i, x, _, hx, hat, h1, h2, h⟩
    · rw [h, if_neg he]
      exact stay_ok hl hg o he
    · rw [h, if_pos rfl]
      obtain ⟨g1, g2, g3, g4, g5⟩ := draw_good hl hg hx h1 h2
      obtain ⟨p1, p2, p3, p4, p5⟩ := (vesB_iff x).1 (hg.all i x hx).1
      have hw : wrap64 (-o.f4) = -o.f4 := wrap_small _ (by omega) (by omega)
      rw [hw]
      have hout := takeM_out x.f2 none o.f4 p4
      have hsp := sumL_pos (takeM x.f2 o.f4).2 (fun y hy => (hout y hy).2.1)
      have hol := takeM_len x.f2 o.f4
      have hlx := (hl.all x (List.mem_of_getElem? hx)).len
      refine ⟨g1, g2, (SameV.refl l).turn hx _, ?_, fun _ => h1, fun _ => ?_, by show _ ≤ -o.f4 ∧ -o.f4 ≤ _; omega, ⟨by show (takeM x.f2 o.f4).2.length ≤ 60; omega, fun y hy => ?_, by show sumL (takeM x.f2 o.f4).2 ≤ _; omega⟩, fun b => ?_⟩
      · show sumM (l.set i _) = sumM l + -o.f4
        unfold sumM
        rw [sumF_set _ l i x _ hx]
        show _ - sumL x.f2 + sumL (takeM x.f2 o.f4).1 = _
        omega
      · show sumL (takeM x.f2 o.f4).2 = - -o.f4
        omega
      · have a1 := (hout y hy).2.1
        have a2 := hsp.2 y hy
        omega
      · show ofM b (l.set i _) = ofM b l + (if (0 : Int) = 0 ∧ o.f0 = 0 ∧ o.f3 = b then -o.f4 else 0) - ofL b (takeM x.f2 o.f4).2
        rw [if_neg (fun h => h0 h.2.1)]
        unfold ofM
        rw [sumF_set _ l i x _ hx]
        show _ - ofL b x.f2 + ofL b (takeM x.f2 o.f4).1 = _
        have := takeM_of b x.f2 o.f4
        omega
  rw [if_neg h01]
  by_cases h02 : o.f0 = 2
  · rw [if_pos h02]
    rcases moveM_cases l hl o.f1 o.f2 o.f4 with ⟨e, he, h⟩ | ⟨i, k, x, y, _, hne, hx, hy, h1, h2, h3, h5, h⟩
    · rw [h, if_neg he]
      exact stay_ok hl hg o he
    · rw [h, if_pos rfl]
      obtain ⟨g1, g2, g3, g4, g5⟩ := draw_good hl hg hx h1 h2
      obtain ⟨p1, p2, p3, p4, p5⟩ := (vesB_iff x).1 (hg.all i x hx).1
      obtain ⟨q1, q2, q3, q4, q5⟩ := (vesB_iff y).1 (hg.all k y hy).1
      have hout := takeM_out x.f2 none o.f4 p4
      have hlx := hl.all x (List.mem_of_getElem? hx)
      have hly := hl.all y (List.mem_of_getElem? hy)
      have hy' : (l.set i (turned x (takeM x.f2 o.f4).1))[k]? = some y := by rw [List.getElem?_set_ne (Ne.symm hne)]; exact hy
      obtain ⟨f1, f2⟩ := pours_good (takeM x.f2 o.f4).2 y.f2 q4 (fun z hz => ⟨(hout z hz).1, (hout z hz).2.1⟩)
      have hL := g1.turn hy' (m := poursM y.f2 (takeM x.f2 o.f4).2) (by omega) (fun z hz => by
        rcases pours_names _ _ z hz with ⟨q, a1, a2⟩ | ⟨q, a1, a2⟩
        · obtain ⟨_, _, r, a3, a4⟩ := hout q a1
          rw [← a2, ← a4]
          exact hlx.lots r a3
        · rw [← a2]
          exact hly.lots q a1)
      have hG := g2.turn hy' (m := poursM y.f2 (takeM x.f2 o.f4).2) ((vesB_iff _).2 ⟨q1, q2, q3, f1, by show sumL (poursM y.f2 (takeM x.f2 o.f4).2) ≤ y.f1; omega⟩) h5
      refine ⟨hL, hG, ((SameV.refl l).turn hx _).turn hy' _, ?_, fun _ => h1, fun h => absurd h h01, by show (-1125899906842624 : Int) ≤ 0 ∧ (0 : Int) ≤ 1125899906842624; decide, ⟨by simp, by simp, by show (0 : Int) ≤ 1125899906842624; decide⟩, fun b => ?_⟩
      · show sumM ((l.set i _).set k _) = sumM l + 0
        unfold sumM
        rw [sumF_set _ _ k y _ hy', sumF_set _ l i x _ hx]
        show _ - sumL x.f2 + sumL (takeM x.f2 o.f4).1 - sumL y.f2 + sumL (poursM y.f2 (takeM x.f2 o.f4).2) = _
        omega
      · show ofM b ((l.set i _).set k _) = ofM b l + (if (0 : Int) = 0 ∧ o.f0 = 0 ∧ o.f3 = b then (0 : Int) else 0) - 0
        rw [if_neg (fun h => h0 h.2.1)]
        unfold ofM
        rw [sumF_set _ _ k y _ hy', sumF_set _ l i x _ hx]
        show _ - ofL b x.f2 + ofL b (takeM x.f2 o.f4).1 - ofL b y.f2 + ofL b (poursM y.f2 (takeM x.f2 o.f4).2) = _
        have a1 := takeM_of b x.f2 o.f4
        have a2 := poursM_of b (takeM x.f2 o.f4).2 y.f2
        omega
  rw [if_neg h02]
  exact stay_ok hl hg o (by decide)
/-- The sum of good vessels. -/
theorem sum_bound {l : List S25} (hg : Good l) : 0 ≤ sumM l ∧ sumM l ≤ 6755399441055744 := by
  have h := sumF_le (fun x : S25 => sumL x.f2) 1125899906842624 (by decide) l (fun x hx => by
    obtain ⟨j, hj⟩ := List.mem_iff_getElem?.1 hx
    obtain ⟨q1, q2, q3, q4, q5⟩ := (vesB_iff x).1 (hg.all j x hj).1
    have := fine_sum _ _ q4
    omega)
  have := hg.len
  unfold sumM
  refine ⟨h.1, Int.le_trans h.2 ?_⟩
  have : ((l.length : Nat) : Int) ≤ 6 := by omega
  omega
def nameO (o : S41) : Bool := decide (o.f1.size ≤ 200) && decide (o.f2.size ≤ 200) && decide (o.f3.size ≤ 200)
def fewM (l : List S41) : Bool := decide (l.length ≤ 60) && l.all nameO
theorem names_is (o : S41) : malthouselaw13_names.f o.f0 o.f1 o.f2 o.f3 o.f4 = some (nameO o) := by
  unfold malthouselaw13_names.f nameO
  by_cases h1 : o.f1.size ≤ 200
  · rw [if_pos (by omega)]
    by_cases h2 : o.f2.size ≤ 200
    · rw [if_pos (by omega)]
      by_cases h3 : o.f3.size ≤ 200
      · simp [h1, h2, h3]; omega
      · simp [h1, h2, h3]; omega
    · rw [if_neg (by omega)]
      simp [h2]
  · rw [if_neg (by omega)]
    simp [h1]
theorem few_loop (l : List S41) (hl : l.length ≤ 60) : ∀ (f i K : Nat), l.length ≤ i + f → f + 1 ≤ K → malthouselaw13_few.l0 K l (i : Int) = some ((l.drop i).all nameO) := by
  intro f
  induction f with
  | zero =>
    intro i K h1 hK
    obtain ⟨K, rfl⟩ : ∃ K', K = K' + 1 := ⟨K - 1, by omega⟩
    simp only [malthouselaw13_few.l0]
    rw [if_neg (by omega), List.drop_eq_nil_of_le (by omega)]
    rfl
  | succ f ih =>
    intro i K h1 hK
    obtain ⟨K, rfl⟩ : ∃ K', K = K' + 1 := ⟨K - 1, by omega⟩
    simp only [malthouselaw13_few.l0]
    by_cases hi : i < l.length
    · have e : rd_T41 l (i : Int) = l[i] := getD_at l _ i hi
      rw [if_pos (by omega), if_pos (by omega), e, names_is]
      simp only [Option.bind_some]
      rw [List.drop_eq_getElem_cons hi, List.all_cons]
      cases nameO l[i]
      · rfl
      · rw [if_pos rfl, wrap_small _ (by omega) (by omega), show (i : Int) + 1 = ((i + 1 : Nat) : Int) by omega, ih (i + 1) K (by omega) (by omega), Bool.true_and]
    · rw [if_neg (by omega), List.drop_eq_nil_of_le (by omega)]
      rfl
theorem few_is (l : List S41) : malthouselaw13_few.f 1000 l 60 = some (fewM l) := by
  unfold malthouselaw13_few.f fewM
  by_cases h : l.length ≤ 60
  · rw [if_neg (by omega)]
    have := few_loop l h l.length 0 1000 (by omega) (by omega)
    rw [show (0 : Int) = ((0 : Nat) : Int) from rfl, this]
    simp [h]
  · rw [if_pos (by omega)]
    simp [h]
/-- The program's own sum. -/
theorem sum_loop (l : List S25) (hl : Lite l) (hg : Good l) : ∀ (f i K : Nat) (s : Int), l.length ≤ i + f → f + 100 ≤ K → 0 ≤ s → s + sumF (fun x => sumL x.f2) (l.drop i) ≤ 6755399441055744 → ledger_Sum.l0 K s l (l.length : Int) (i : Int) = some (s + sumF (fun x => sumL x.f2) (l.drop i)) := by
  intro f
  induction f with
  | zero =>
    intro i K s h1 hK h2 h3
    obtain ⟨K, rfl⟩ : ∃ K', K = K' + 1 := ⟨K - 1, by omega⟩
    simp only [ledger_Sum.l0]
    rw [if_neg (by omega), List.drop_eq_nil_of_le (by omega)]
    show some s = some (s + 0)
    rw [Int.add_zero]
  | succ f ih =>
    intro i K s h1 hK h2 h3
    obtain ⟨K, rfl⟩ : ∃ K', K = K' + 1 := ⟨K - 1, by omega⟩
    simp only [ledger_Sum.l0]
    by_cases hi : i < l.length
    · have e : rd_T25 l (i : Int) = l[i] := getD_at l _ i hi
      have hx : l[i]? = some l[i] := List.getElem?_eq_getElem hi
      have hlv := level_is 60 (by omega) l[i] (hl.all _ (List.getElem_mem hi)) (K - 74)
      rw [show K - 74 + 60 + 14 = K by omega, level_good hg hx] at hlv
      rw [List.drop_eq_getElem_cons hi, sumF_cons] at h3 ⊢
      obtain ⟨q1, q2, q3, q4, q5⟩ := (vesB_iff _).1 (hg.all i _ hx).1
      have hs0 := fine_sum _ _ q4
      have hsr := (sumF_le (fun x : S25 => sumL x.f2) 1125899906842624 (by decide) (l.drop (i + 1)) (fun x hx => by
        obtain ⟨j, hj⟩ := List.mem_iff_getElem?.1 (List.mem_of_mem_drop hx)
        obtain ⟨q1, q2, q3, q4, q5⟩ := (vesB_iff x).1 (hg.all j x hj).1
        have := fine_sum _ _ q4
        omega)).1
      have hln := hl.len
      rw [if_pos (by omega), if_pos (by omega), if_pos (by omega), e, hlv]
      simp only [Option.bind_some]
      rw [wrap_small (s + sumL l[i].f2) (by omega) (by omega), wrap_small _ (by omega) (by omega), show (i : Int) + 1 = ((i + 1 : Nat) : Int) by omega, ih (i + 1) K (s + sumL l[i].f2) (by omega) (by omega) (by omega) (by omega)]
      congr 1
      omega
    · rw [if_neg (by omega), List.drop_eq_nil_of_le (by omega)]
      show some s = some (s + 0)
      rw [Int.add_zero]
theorem sum_is {l : List S25} (hl : Lite l) (hg : Good l) : ledger_Sum.f 100000 l = some (sumM l) := by
  unfold ledger_Sum.f
  rw [check_lite hl, (good_iff l).2 hg]
  simp only [Option.bind_some]
  rw [if_pos trivial]
  have hb := sum_bound hg
  have hln := hl.len
  have h := sum_loop l hl hg l.length 0 100000 0 (by omega) (by omega) (by omega) (by rw [List.drop_zero, Int.zero_add]; exact hb.2)
  rw [List.drop_zero, Int.zero_add] at h
  exact h
/-- The law's own count of a lot's grams. -/
theorem of_bound {l : List S25} (hg : Good l) (b : ByteArray) : ∀ x ∈ l, 0 ≤ ofL b x.f2 ∧ ofL b x.f2 ≤ 1125899906842624 := by
  intro x hx
  obtain ⟨j, hj⟩ := List.mem_iff_getElem?.1 hx
  obtain ⟨q1, q2, q3, q4, q5⟩ := (vesB_iff x).1 (hg.all j x hj).1
  have h1 : ∀ (l : List S37) (p : Option ByteArray), fine p l = true → 0 ≤ ofL b l ∧ ofL b l ≤ sumL l := by
    intro l
    induction l with
    | nil => intro p _; exact ⟨Int.le_refl _, Int.le_refl _⟩
    | cons y l ih =>
      intro p h
      obtain ⟨a, c, d, e⟩ := (fine_cons p y l).1 h
      have := ih _ e
      show 0 ≤ ofY b y + ofL b l ∧ ofY b y + ofL b l ≤ y.f1 + sumL l
      have : 0 ≤ ofY b y ∧ ofY b y ≤ y.f1 := by unfold ofY; split <;> omega
      omega
  have := h1 x.f2 none q4
  omega
theorem of_in (l : List S25) (b : ByteArray) (hl : Lite l) (i : Nat) (hi : i < l.length) (x : S25) (hx : l[i]? = some x) (hx0 : ∀ y ∈ x.f2, 0 ≤ y.f1 ∧ y.f1 ≤ 1125899906842624) : ∀ (f j K : Nat) (s : Int), x.f2.length = j + f → f + 1 ≤ K → 0 ≤ s → s + f * 1125899906842624 ≤ 4611686018427387904 →
    malthouselaw13_of.l1 K l b s (i : Int) (j : Int) = malthouselaw13_of.l0 (K - f - 1) l b (s + ofL b (x.f2.drop j)) ((i + 1 : Nat) : Int) := by
  have e : rd_T25 l (i : Int) = x := by rw [show rd_T25 l (i : Int) = l[i] from getD_at l _ i hi]; exact (List.getElem?_eq_some_iff.1 hx).2
  have hlx := (hl.all x (List.mem_of_getElem? hx)).len
  have hll := hl.len
  intro f
  induction f with
  | zero =>
    intro j K s h1 hK h2 h3
    obtain ⟨K, rfl⟩ : ∃ K', K = K' + 1 := ⟨K - 1, by omega⟩
    simp only [malthouselaw13_of.l1]
    rw [if_pos (by omega), if_pos (by omega), e, if_neg (by omega), List.drop_eq_nil_of_le (by omega), wrap_small _ (by omega) (by omega), show (i : Int) + 1 = ((i + 1 : Nat) : Int) by omega]
    show _ = malthouselaw13_of.l0 K l b (s + 0) _
    rw [Int.add_zero]
  | succ f ih =>
    intro j K s h1 hK h2 h3
    obtain ⟨K, rfl⟩ : ∃ K', K = K' + 1 := ⟨K - 1, by omega⟩
    simp only [malthouselaw13_of.l1]
    by_cases hj : j < x.f2.length
    · have e2 : rd_T37 x.f2 (j : Int) = x.f2[j] := getD_at _ _ j hj
      have hy := hx0 _ (List.getElem_mem hj)
      rw [if_pos (by omega), if_pos (by omega), e, if_pos (by omega), if_pos (by omega), e2, List.drop_eq_getElem_cons hj]
      have eo : ofL b (x.f2[j] :: x.f2.drop (j + 1)) = ofY b x.f2[j] + ofL b (x.f2.drop (j + 1)) := rfl
      rw [eo, wrap_small ((j : Int) + 1) (by omega) (by omega), show (j : Int) + 1 = ((j + 1 : Nat) : Int) by omega]
      have hK2 : K + 1 - (f + 1) - 1 = K - f - 1 := by omega
      rw [hK2]
      by_cases hb : x.f2[j].f0 = b
      · rw [if_pos (by rw [hb]), wrap_small (s + x.f2[j].f1) (by omega) (by omega), ih (j + 1) K (s + x.f2[j].f1) (by omega) (by omega) (by omega) (by omega)]
        have : ofY b x.f2[j] = x.f2[j].f1 := if_pos hb
        rw [this, Int.add_assoc]
      · rw [if_neg (fun h => hb (by have := bytes_beq x.f2[j].f0 b; rw [h, beq_self_eq_true] at this; exact of_decide_eq_true this.symm)), ih (j + 1) K s (by omega) (by omega) h2 (by omega)]
        have : ofY b x.f2[j] = 0 := if_neg hb
        rw [this, Int.zero_add]
    · omega
theorem of_loop (l : List S25) (b : ByteArray) (hl : Lite l) (hg : Good l) : ∀ (f i K : Nat) (s : Int), l.length = i + f → 62 * f + 1 ≤ K → 0 ≤ s → s + f * 1125899906842624 ≤ 1125899906842624000 → malthouselaw13_of.l0 K l b s (i : Int) = some (s + sumF (fun x => ofL b x.f2) (l.drop i)) := by
  have hln := hl.len
  intro f
  induction f with
  | zero =>
    intro i K s h1 hK h2 h3
    obtain ⟨K, rfl⟩ : ∃ K', K = K' + 1 := ⟨K - 1, by omega⟩
    simp only [malthouselaw13_of.l0]
    rw [if_neg (by omega), List.drop_eq_nil_of_le (by omega)]
    show some s = some (s + 0)
    rw [Int.add_zero]
  | succ f ih =>
    intro i K s h1 hK h2 h3
    obtain ⟨K, rfl⟩ : ∃ K', K = K' + 1 := ⟨K - 1, by omega⟩
    have hi : i < l.length := by omega
    have hx : l[i]? = some l[i] := List.getElem?_eq_getElem hi
    obtain ⟨q1, q2, q3, q4, q5⟩ := (vesB_iff _).1 (hg.all i _ hx).1
    have hlx := (hl.all _ (List.getElem_mem hi)).len
    have hb := of_bound hg b _ (List.getElem_mem hi)
    simp only [malthouselaw13_of.l0]
    rw [if_pos (by omega), show (0 : Int) = ((0 : Nat) : Int) from rfl, of_in l b hl i hi _ hx (fun y hy => by have := fine_low _ _ q4 y hy; omega) l[i].f2.length 0 K s (by omega) (by omega) h2 (by omega), List.drop_zero, ih (i + 1) (K - l[i].f2.length - 1) (s + ofL b l[i].f2) (by omega) (by omega) (by omega) (by omega), List.drop_eq_getElem_cons hi, sumF_cons]
    congr 1
    omega
theorem of_is {l : List S25} (hl : Lite l) (hg : Good l) (b : ByteArray) : malthouselaw13_of.f 5000 l b = some (ofM b l) := by
  unfold malthouselaw13_of.f
  have hln := hl.len
  have h := of_loop l b hl hg l.length 0 5000 0 (by omega) (by omega) (by omega) (by have := hg.len; omega)
  rw [List.drop_zero, Int.zero_add] at h
  exact h
theorem ofM_bound {l : List S25} (hg : Good l) (b : ByteArray) : 0 ≤ ofM b l ∧ ofM b l ≤ 6755399441055744 := by
  have h := sumF_le (fun x : S25 => ofL b x.f2) 1125899906842624 (by decide) l (of_bound hg b)
  have := hg.len
  unfold ofM
  refine ⟨h.1, Int.le_trans h.2 ?_⟩
  have : ((l.length : Nat) : Int) ≤ 6 := by omega
  omega
end Go.Proofs.YtejecmjajdhiiaaDoor.Print
/-! ### RdKd -/
namespace Go.Proofs.YtejecmjajdhiiaaDoor
open Go.RowKit Go.Proofs.YtejecmjajdhiiaaDoorW.PrintWords
/-- A row that came in, its elements turned. -/
theorem C_of_row {α β : Type} {n : Nat} {R : Rd α} {d : Kd β} (g : α → β) {w : World} {A : Option Addr} {xs : List α} (hn : d.sz = n) (hm : xs.length ≤ 9223372036854775807) (hx : rdRow n R w A xs) (hc : ∀ es x, es.length = n → R w es x → d.K w (g x) es) :
    Kd.C d w A (xs.map g).length (xs.map g) := by
  subst hn
  refine ⟨rfl, by rw [List.length_map]; omega, fun h0 => ?_⟩
  rw [List.length_map] at h0
  obtain ⟨ad, es, hA, _, _, _⟩ := hx 0 _ (List.getElem?_eq_getElem h0)
  refine ⟨ad, hA, fun j p hj => ?_⟩
  rw [List.getElem?_map] at hj
  cases hx' : xs[j]? with
  | none => rw [hx'] at hj; simp at hj
  | some x =>
    rw [hx'] at hj
    obtain rfl := Option.some.inj hj
    obtain ⟨ad', es', hA', hl, hcs, hR⟩ := hx j x hx'
    obtain rfl := Option.some.inj (hA.symm.trans hA')
    refine ⟨es', hl, hc es' x hl hR, fun i u hu => ?_⟩
    have := hcs i u hu
    rwa [Go.Deep.add_add] at this
/-- What holds of every element's reading. -/
theorem row_all {α : Type} {n : Nat} {R : Rd α} {w : World} {A : Option Addr} {xs : List α} (P : α → Prop) (hx : rdRow n R w A xs) (hc : ∀ es x, R w es x → P x) : ∀ x ∈ xs, P x := by
  intro x h
  obtain ⟨j, hj⟩ := List.getElem?_of_mem h
  obtain ⟨_, es, _, _, _, hR⟩ := hx j x hj
  exact hc es x hR
theorem len2 {es : List Value} (h : es.length = 2) : ∃ a b, es = [a, b] := by match es, h with | [a, b], _ => exact ⟨a, b, rfl⟩
theorem len3 {es : List Value} (h : es.length = 3) : ∃ a b c, es = [a, b, c] := by match es, h with | [a, b, c], _ => exact ⟨a, b, c, rfl⟩
theorem len5 {es : List Value} (h : es.length = 5) : ∃ a b c d e, es = [a, b, c, d, e] := by match es, h with | [a, b, c, d, e], _ => exact ⟨a, b, c, d, e, rfl⟩
end Go.Proofs.YtejecmjajdhiiaaDoor
/-! ### LgIn -/
namespace Go.Proofs.YtejecmjajdhiiaaDoor.Print
open Go.RowKit Go.Proofs.YtejecmjajdhiiaaDoorW.PrintWords Go.Proofs.YtejecmjajdhiiaaDoorW.PrintLast Go.Proofs.YtejecmjajdhiiaaDoorW.PrintMore
set_option linter.unusedSimpArgs false
set_option linter.unusedVariables false
abbrev LotR := ByteArray × Int × Unit
def rLot : Rd LotR := rdPair 1 rdStr (rdPair 1 (rdInt .i64) rdUnit)
def gLot (x : LotR) : S37 := ⟨x.1, x.2.1⟩
abbrev VesR := ByteArray × Int × List LotR × Unit
def rVes : Rd VesR := rdPair 1 rdStr (rdPair 1 (rdInt .i64) (rdPair 1 (rdSl 2 24 rLot) rdUnit))
def gVes (x : VesR) : S25 := ⟨x.1, x.2.1, x.2.2.1.map gLot⟩
section
variable {H : Type} (enc : TypeId × Value → H) (w : World)
theorem lot_opens : Opens enc Tryd.prog w 37 rLot := opens_struct Tryd.underlying37 (opens_cons rfl (by kernel_rfl) (opens_str Tryd.underlying9) (opens_cons rfl (by kernel_rfl) (opens_int Tryd.underlying3) opens_nil))
theorem ves_opens : Opens enc Tryd.prog w 25 rVes := opens_struct Tryd.underlying25 (opens_cons rfl (by kernel_rfl) (opens_str Tryd.underlying9) (opens_cons rfl (by kernel_rfl) (opens_int Tryd.underlying3) (opens_cons rfl (by kernel_rfl) (opens_sl Tryd.underlying23 (by kernel_rfl) (by kernel_rfl) (lot_opens enc w)) opens_nil)))
theorem vess_opens : Opens enc Tryd.prog w 22 (rdSl 3 48 rVes) := opens_sl Tryd.underlying22 (by kernel_rfl) (by kernel_rfl) (ves_opens enc w)
end
theorem lot_K {w : World} {es : List Value} {x : LotR} (hl : es.length = 2) (h : rLot w es x) : k37.K w (gLot x) es := by
  obtain ⟨a, b, rfl⟩ := len2 hl
  obtain ⟨⟨h1, _⟩, ⟨h2, _⟩, _⟩ := h
  simp at h1 h2
  subst h1 h2
  exact k37_mk w (gLot x)
theorem C_lotr {w : World} {A : Option Addr} {xs : List LotR} (hm : xs.length ≤ 9223372036854775807) (hx : rdRow 2 rLot w A xs) : Kd.C k37 w A (xs.map gLot).length (xs.map gLot) := C_of_row gLot rfl hm hx (fun _ _ hl h => lot_K hl h)
theorem ves_K {w : World} {es : List Value} {x : VesR} (hl : es.length = 3) (h : rVes w es x) : k25.K w (gVes x) es := by
  obtain ⟨a, b, c, rfl⟩ := len3 hl
  obtain ⟨⟨h1, _⟩, ⟨h2, _⟩, ⟨A0, c0, e1, hl1, _, hm1, hr1⟩, _⟩ := h
  simp at h1 h2 e1
  subst h1 h2 e1
  have k1 := C_lotr (by omega) hr1
  have e : x.2.2.1.length = (gVes x).f2.length := by show _ = (x.2.2.1.map gLot).length; rw [List.length_map]
  rw [e]
  exact k25_mk w (gVes x) (by rw [← e]; exact hl1) k1
theorem C_vesr {w : World} {A : Option Addr} {xs : List VesR} (hm : xs.length ≤ 9223372036854775807) (hx : rdRow 3 rVes w A xs) : Kd.C k25 w A (xs.map gVes).length (xs.map gVes) := C_of_row gVes rfl hm hx (fun _ _ hl h => ves_K hl h)
theorem wf_i64 {n : Int} (h : (Lit.int .i64 n).wf = true) : -9223372036854775808 ≤ n ∧ n ≤ 9223372036854775807 := by
  simp only [Lit.wf, Bool.and_eq_true, decide_eq_true_eq] at h
  exact ⟨h.1, h.2⟩
theorem ves_range {w : World} {A : Option Addr} {xs : List VesR} (hx : rdRow 3 rVes w A xs) : ∀ x ∈ xs.map gVes, -9223372036854775808 ≤ x.f1 ∧ x.f1 ≤ 9223372036854775807 := by
  intro x h
  obtain ⟨y, hy, rfl⟩ := List.mem_map.1 h
  refine row_all (fun y : VesR => -9223372036854775808 ≤ (gVes y).f1 ∧ (gVes y).f1 ≤ 9223372036854775807) hx (fun es z hz => ?_) y hy
  obtain ⟨_, ⟨_, h2⟩, _⟩ := hz
  exact wf_i64 h2
end Go.Proofs.YtejecmjajdhiiaaDoor.Print
/-! ### LgCon2 -/
namespace Go.Proofs.YtejecmjajdhiiaaDoor.Print
open Go.RowKit Go.Proofs.YtejecmjajdhiiaaDoorW.PrintWords Go.Proofs.YtejecmjajdhiiaaDoorW.PrintLast Go.Proofs.YtejecmjajdhiiaaDoorW.PrintMore
set_option linter.unusedSimpArgs false
set_option linter.unusedVariables false
def OAt (w : World) (A : Option Addr) (c : Nat) (l : List S41) : Prop := l.length ≤ c ∧ Kd.C k41 w A l.length l
theorem OAt.only {w w' : World} {A : Option Addr} {c : Nat} {l : List S41} (h : OAt w A c l) (ho : Only [] w w') : OAt w' A c l := ⟨h.1, Kd.C_below h.2 ho.nil_below⟩
theorem OAt.elem {w : World} {A : Option Addr} {c : Nat} {l : List S41} (h : OAt w A c l) {i : Nat} {x : S41} (hx : l[i]? = some x) :
    ∃ ad, A = some ad ∧ CellsAt w (ad.add (i * 5)) [.int .i64 x.f0, .string x.f1, .string x.f2, .string x.f3, .int .i64 x.f4] := by
  obtain ⟨hi, rfl⟩ := List.getElem?_eq_some_iff.1 hx
  obtain ⟨ad, cs, rfl, _, hK, hcs⟩ := Kd.C_cells h.2 i hi
  obtain rfl := k41_open hK
  exact ⟨ad, rfl, hcs⟩
theorem LAt.elem {w : World} {A : Option Addr} {c : Nat} {l : List S37} (h : LAt w A c l) {i : Nat} {x : S37} (hx : l[i]? = some x) :
    ∃ ad, A = some ad ∧ CellsAt w (ad.add (i * 2)) [.string x.f0, .int .i64 x.f1] := by
  obtain ⟨hi, rfl⟩ := List.getElem?_eq_some_iff.1 hx
  obtain ⟨ad, cs, rfl, _, hK, hcs⟩ := Kd.C_cells h.2 i hi
  obtain rfl := k37_open hK
  exact ⟨ad, rfl, hcs⟩
section
variable {w : World} {A B : Option Addr} {c d : Nat} {l m : List S25}
theorem sum_c (h : VAt w A c l) (hT : Tabs w) (hl : Lite l) (hg : Good l) : Calls Tryd.prog 14 #[.slice A l.length c] w fun e w' => e = .returned (.int .i64 (sumM l)) ∧ Only [] w w' :=
  (ledger_Sum.calls 100000 A c l _ w h.2 h.1 hT (sum_is hl hg)).mono fun _ _ h => ⟨h.1, .of_below h.2⟩
theorem of_c (h : VAt w A c l) (hl : Lite l) (hg : Good l) (b : ByteArray) : Calls Tryd.prog 30 #[.slice A l.length c, .string b] w fun e w' => e = .returned (.int .i64 (ofM b l)) ∧ Only [] w w' :=
  (malthouselaw13_of.calls 5000 A c l b _ w h.2 h.1 (of_is hl hg b)).mono fun _ _ h => ⟨h.1, .of_below h.2.below⟩
theorem few_c {l : List S41} (h : OAt w A c l) : Calls Tryd.prog 28 #[.slice A l.length c, .int .i64 60] w fun e w' => e = .returned (.bool (fewM l)) ∧ Only [] w w' :=
  (malthouselaw13_few.calls 1000 A c l 60 _ w h.2 h.1 (few_is l)).mono fun _ _ h => ⟨h.1, .of_below h.2⟩
theorem done_c (h : VAt w A c l) (hT : Tabs w) (hl : Lite l) (o : S41) (hb : o.f3.size ≤ 1000000000) :
    Calls Tryd.prog 29 #[.slice A l.length c, .agg #[.int .i64 o.f0, .string o.f1, .string o.f2, .string o.f3, .int .i64 o.f4]] w fun e w' => ∃ B d C q, e = .returned (.tuple #[.slice B (doneM l o).1.length d, .int .i64 (doneM l o).2.1, .slice C (doneM l o).2.2.1.length q, .int .i64 (doneM l o).2.2.2]) ∧ VAt w' B d (doneM l o).1 ∧ LAt w' C q (doneM l o).2.2.1 ∧ Only [] w w' := by
  have h1 := done_is hl o hb
  generalize doneM l o = R at *
  obtain ⟨r1, r2, r3, r4⟩ := R
  refine (malthouselaw13_done.calls (fun k => k < w.heap.size) A c l o.f0 o.f1 o.f2 o.f3 o.f4 r1 r2 r3 r4 w (Kd.V_mk h.1 (Kd.C_F k25_heap h.2)) hT h1).mono ?_
  rintro e w' ⟨v, u, rfl, ⟨B, d, rfl, h3, hF⟩, hR, hb2⟩
  obtain ⟨C, q, rfl, h6, h7⟩ := Kd.R_reads hR
  exact ⟨B, d, C, q, rfl, ⟨h3, Kd.F_now hF⟩, ⟨h6, h7⟩, .of_below hb2⟩
end
abbrev OpR := Int × ByteArray × ByteArray × ByteArray × Int × Unit
def rOp : Rd OpR := rdPair 1 (rdInt .i64) (rdPair 1 rdStr (rdPair 1 rdStr (rdPair 1 rdStr (rdPair 1 (rdInt .i64) rdUnit))))
def gOp (x : OpR) : S41 := ⟨x.1, x.2.1, x.2.2.1, x.2.2.2.1, x.2.2.2.2.1⟩
section
variable {H : Type} (enc : TypeId × Value → H) (w : World)
theorem op_opens : Opens enc Tryd.prog w 41 rOp := opens_struct Tryd.underlying41 (opens_cons rfl (by kernel_rfl) (opens_int Tryd.underlying3) (opens_cons rfl (by kernel_rfl) (opens_str Tryd.underlying9) (opens_cons rfl (by kernel_rfl) (opens_str Tryd.underlying9) (opens_cons rfl (by kernel_rfl) (opens_str Tryd.underlying9) (opens_cons rfl (by kernel_rfl) (opens_int Tryd.underlying3) opens_nil)))))
theorem ops_opens : Opens enc Tryd.prog w 47 (rdSl 5 64 rOp) := opens_sl Tryd.underlying47 (by kernel_rfl) (by kernel_rfl) (op_opens enc w)
end
theorem op_K {w : World} {es : List Value} {x : OpR} (hl : es.length = 5) (h : rOp w es x) : k41.K w (gOp x) es := by
  obtain ⟨a, b, c, d, e, rfl⟩ := len5 hl
  obtain ⟨⟨h1, _⟩, ⟨h2, _⟩, ⟨h3, _⟩, ⟨h4, _⟩, ⟨h5, _⟩, _⟩ := h
  simp at h1 h2 h3 h4 h5
  subst h1 h2 h3 h4 h5
  exact k41_mk w (gOp x)
theorem ops_at {A0 : Option Addr} {cap0 : Nat} {y0 : List OpR} {w : World} (hl0 : y0.length ≤ cap0) (hb0 : cap0 * 64 ≤ 140737488351232) (hr0 : rdRow 5 rOp w A0 y0) : OAt w A0 cap0 (y0.map gOp) := ⟨by simpa using hl0, C_of_row gOp rfl (by omega) hr0 (fun _ _ hl h => op_K hl h)⟩
end Go.Proofs.YtejecmjajdhiiaaDoor.Print
/-! ### LgWalk5 -/
namespace Go.Proofs.YtejecmjajdhiiaaDoor.Print
open Go.RowKit Go.Proofs.YtejecmjajdhiiaaDoorW.PrintWords Go.Proofs.YtejecmjajdhiiaaDoorW.PrintLast Go.Proofs.YtejecmjajdhiiaaDoorW.PrintMore
set_option linter.unusedSimpArgs false
set_option linter.unusedVariables false
theorem cell_f0 {w : World} {ad : Addr} {k n : Nat} {cs : List Value} {u : Value} (h : CellsAt w (ad.add (k * n)) cs) (hu : cs[0]? = some u) : w.cell? (ad.add (k * n)) = some u := cellsAt_head h hu
theorem cell_fj {w : World} {ad : Addr} {k n : Nat} {cs : List Value} {u : Value} (h : CellsAt w (ad.add (k * n)) cs) (j : Nat) (hj : 0 < j) (hu : cs[j]? = some u) : w.cell? ⟨(ad.add (k * n)).block, (ad.add (k * n)).off + j, none⟩ = some u := cellsAt_field h j hj hu
end Go.Proofs.YtejecmjajdhiiaaDoor.Print
/-! ### LgWalk3 -/
namespace Go.Proofs.YtejecmjajdhiiaaDoor.Print
open Go.RowKit Go.Proofs.YtejecmjajdhiiaaDoorW.PrintWords Go.Proofs.YtejecmjajdhiiaaDoorW.PrintLast Go.Proofs.YtejecmjajdhiiaaDoorW.PrintMore
set_option linter.unusedSimpArgs false
set_option linter.unusedVariables false
theorem take_next {α : Type} (f : α → Int) {l : List α} {j : Nat} {y : α} (hy : l[j]? = some y) : sumF f (l.take (j + 1)) = sumF f (l.take j) + f y := by
  obtain ⟨hj, rfl⟩ := List.getElem?_eq_some_iff.1 hy
  rw [List.take_succ_eq_append_getElem hj, sumF_append]
  show _ + (f l[j] + 0) = _
  omega
theorem few_mem {l : List S41} (h : fewM l = true) : l.length ≤ 60 ∧ ∀ o ∈ l, o.f3.size ≤ 200 := by
  unfold fewM at h
  simp only [Bool.and_eq_true, decide_eq_true_eq, List.all_eq_true] at h
  refine ⟨h.1, fun o ho => ?_⟩
  have := h.2 o ho
  unfold nameO at this
  simp only [Bool.and_eq_true, decide_eq_true_eq] at this
  exact this.2
set_option maxHeartbeats 8000000 in
set_option maxRecDepth 100000 in
theorem keeps_any (A0 : Option Addr) (c0 : Nat) (l0 : List S25) (A1 : Option Addr) (c1 : Nat) (ops : List S41) (w : World) (h0 : VAt w A0 c0 l0) (h1 : OAt w A1 c1 ops) (hT : Tabs w) (hr : ∀ x ∈ l0, -9223372036854775808 ≤ x.f1 ∧ x.f1 ≤ 9223372036854775807) :
    Calls Tryd.prog 6 #[.slice A0 l0.length c0, .slice A1 ops.length c1] w fun e w' => e = .returned (.bool true) ∧ Below w.heap.size w w' := by
  have HV := Lib.hid h0
  have HO := Lib.hid h1
  have HT := Lib.hid hT
  have HR := Lib.hid hr
  have HAW := Lib.hid (awake_c w hT)
  obtain ⟨lb, hb⟩ : ∃ b, lightM l0 = b := ⟨_, rfl⟩
  have HB := Lib.hid hb
  have HLI := Lib.hid (show ∀ W, Only [] w W → Calls Tryd.prog 11 #[.slice A0 l0.length c0] W fun e w' => e = .returned (.bool lb) ∧ Only [] W w' from fun W h => hb ▸ light_c (h0.only h))
  obtain ⟨fb, hf⟩ : ∃ b, fewM ops = b := ⟨_, rfl⟩
  have HFB := Lib.hid hf
  have HFW := Lib.hid (show ∀ W, Only [] w W → Calls Tryd.prog 28 #[.slice A1 ops.length c1, .int .i64 60] W fun e w' => e = .returned (.bool fb) ∧ Only [] W w' from fun W h => hf ▸ few_c (h1.only h))
  clear h0 h1 hT hr hb hf
  go_enter Tryd.func6, Tryd.ntmps6
  go_wp2_with (go_at_call 10; refine HAW.out.mono ?_; rintro e w1 ⟨rfl, h1⟩; have HS1 := Lib.hid h1; clear h1; refine (fun (h : Hid _) => h.out) ?_)
  refine Lib.hid ?_
  go_wp2_with (go_at_call 11; refine (HLI.out w1 HS1.out).mono ?_; rintro e w2 ⟨rfl, h2⟩; have HS2 := Lib.hid (HS1.out.trans h2); clear h2; refine (fun (h : Hid _) => h.out) ?_)
  refine Lib.hid ?_
  go_wp2_with (go_at_call 28; refine (HFW.out w2 HS2.out).mono ?_; rintro e w3 ⟨rfl, h3⟩; have HS3 := Lib.hid (HS2.out.trans h3); clear h3; refine (fun (h : Hid _) => h.out) ?_)
  refine Lib.hid ?_
  clear HAW HLI HFW HS1 HS2
  cases lb
  · go_wp2
    go_ret
    exact ⟨rfl, HS3.out.nil_below⟩
  cases fb
  · go_wp2
    go_ret
    exact ⟨rfl, HS3.out.nil_below⟩
  have hL : Lite l0 := lite_of HB.out HR.out
  have HL := Lib.hid hL
  obtain ⟨c, hc⟩ : ∃ c, checkM l0 = c := ⟨_, rfl⟩
  have HC := Lib.hid hc
  have HCK := Lib.hid (show ∀ W, Only [] w W → Calls Tryd.prog 12 #[.slice A0 l0.length c0] W fun e w' => e = .returned (.int .i64 c) ∧ Only [] W w' from fun W h => hc ▸ check_c (HV.out.only h) (HT.out.below h.nil_below) hL)
  clear hc hL HB HR
  by_cases hc0 : c = 0
  rotate_left
  · have hcb : (c != 0) = true := bne_iff_ne.2 hc0
    go_wp2_with (go_at_call 12; refine (HCK.out w3 HS3.out).mono ?_; rintro e w4 ⟨rfl, h4⟩; have HS4 := Lib.hid (HS3.out.trans h4); clear h4)
    go_ret
    exact ⟨rfl, HS4.out.nil_below⟩
  subst hc0
  go_wp2_with (go_at_call 12; refine (HCK.out w3 HS3.out).mono ?_; rintro e w4 ⟨rfl, h4⟩; have HS4 := Lib.hid (HS3.out.trans h4); clear h4; refine (fun (h : Hid _) => h.out) ?_)
  refine Lib.hid ?_
  clear HCK HS3
  have HG := Lib.hid ((good_iff l0).1 HC.out)
  have HFM := Lib.hid (few_mem HFB.out)
  clear HC HFB
  go_wp2
  go_loopw [0, 8, 9, 10, 11, 12, 13, 14, 15, 16, 17] (fun v0 v8 _ _ _ _ _ _ _ _ _ wr => ∃ (i : Nat) (A : Option Addr) (c : Nat) (l : List S25), v8 = .int .i64 i ∧ v0 = .slice A l.length c ∧ i ≤ ops.length ∧ Hid (VAt wr A c l) ∧ Hid (Lite l) ∧ Hid (Good l) ∧ Hid (Only [] w wr)) (fun _ v8 _ _ _ _ _ _ _ _ _ _ => ops.length - (intOf v8).toNat)
  case atStart => exact ⟨0, A0, c0, l0, rfl, rfl, by omega, Lib.hid (HV.out.only HS4.out), HL, HG, HS4⟩
  case round =>
    obtain ⟨i, A, c, l, rfl, rfl, hi, HV1, HL1, HG1, HS⟩ := hrel
    clear HS4 HV HL HG
    by_cases hlt : i < ops.length
    rotate_left
    · have hlt' : (ops.length : Int) ≤ i := by omega
      go_wp2
      go_ret
      exact ⟨rfl, HS.out.nil_below⟩
    have hlt' : (i : Int) < ops.length := by omega
    have hi0 : (0 : Int) ≤ i := by omega
    have hi60 : (i : Int) ≤ 60 := by have := HFM.out.1; omega
    obtain ⟨o, ho⟩ : ∃ o, ops[i]? = some o := ⟨_, List.getElem?_eq_getElem hlt⟩
    obtain ⟨ad, rfl, hcs⟩ := HO.out.elem ho
    have hos := HFM.out.2 o (List.mem_of_getElem? ho)
    have hstep := step_ok HL1.out HG1.out o (by omega)
    have hsb := sum_bound HG1.out
    have HLN := Lib.hid HL1.out.len
    have HSU := Lib.hid (sum_c HV1.out (HT.out.below HS.out.nil_below) HL1.out HG1.out)
    have HDN := Lib.hid (fun (W : World) (h : Only [] wr W) => done_c (HV1.out.only h) (HT.out.below (HS.out.trans h).nil_below) HL1.out o (by omega))
    generalize doneM l o = D at *
    obtain ⟨m, n, out, e⟩ := D
    obtain ⟨kd, na, nb, nl, ng⟩ := o
    obtain ⟨z1, z2, ⟨z3, z4⟩, z5, z6, z7, z8, z9, z10⟩ := hstep
    dsimp only at HDN z1 z2 z3 z4 z5 z6 z7 z8 z9 hcs
    have hsm := sum_bound z2
    rw [z5] at hsm
    have HLM := Lib.hid z1
    have HGM := Lib.hid z2
    have HLE := Lib.hid z3
    have HSAME := Lib.hid z4
    have HSUM := Lib.hid z5
    have HPOS := Lib.hid z6
    have HGONE := Lib.hid z7
    have HOUT := Lib.hid z9
    have HCS := Lib.hid (show ∀ W, Only [] w W → CellsAt W (ad.add (i * 5)) [.int .i64 kd, .string na, .string nb, .string nl, .int .i64 ng] from fun W h => hcs.only h (by simp))
    clear z1 z2 z3 z4 z5 z6 z7 z9 z10 hcs hos ho
    obtain ⟨n8, n9⟩ := z8
    obtain ⟨s0, s1⟩ := hsb
    obtain ⟨s2, s3⟩ := hsm
    generalize hsl : sumM l = s at *
    have HSL := Lib.hid hsl
    clear hsl
    have hs6 : s ≤ 6755399441055744 := s1
    rw [HLE.out] at HDN
    go_wp2_with (go_at_call 14; refine HSU.out.mono ?_; rintro e5 w5 ⟨rfl, h5⟩; have HS5 := Lib.hid h5; clear h5; refine (fun (h : Hid _) => h.out) ?_)
    refine Lib.hid ?_
    clear HSU
    go_wp2_with (first
      | (with_reducible refine wpList_load_at rfl 41 (.tmp 51) rfl (ad.add (i * 5)) rfl _ _ (HCS.out w5 (HS.out.trans HS5.out)) Tryd.underlying41 rfl (by kernel_rfl) ?_)
      | (go_at_call 29; refine (HDN.out w5 HS5.out).mono ?_; rintro e6 w6 ⟨B, d, C, q, rfl, hV, hO, h6⟩; have HS6 := Lib.hid (HS5.out.trans h6); have HVM := Lib.hid hV; have HOM := Lib.hid hO; clear h6 hV hO; refine (fun (h : Hid _) => h.out) ?_))
    refine Lib.hid ?_
    clear HDN HS5
    have HCK := Lib.hid (show ∀ W, Only [] w6 W → Calls Tryd.prog 12 #[.slice B l.length d] W fun e w' => e = .returned (.int .i64 0) ∧ Only [] W w' from fun W h => by
      have := check_c (HVM.out.only h) (HT.out.below (HS.out.trans (HS6.out.trans h)).nil_below) HLM.out
      rw [HLE.out, (good_iff m).2 HGM.out] at this
      exact this)
    have HSU := Lib.hid (show ∀ W, Only [] w6 W → Calls Tryd.prog 14 #[.slice B l.length d] W fun e w' => e = .returned (.int .i64 (s + n)) ∧ Only [] W w' from fun W h => by
      have := sum_c (HVM.out.only h) (HT.out.below (HS.out.trans (HS6.out.trans h)).nil_below) HLM.out HGM.out
      rw [HLE.out, HSUM.out] at this
      exact this)
    go_wp2_with (go_at_call 12; refine (HCK.out w6 (Only.refl _ _)).mono ?_; rintro e7 w7 ⟨rfl, h7⟩; have HS7 := Lib.hid h7; clear h7; refine (fun (h : Hid _) => h.out) ?_)
    refine Lib.hid ?_
    clear HCK
    go_wp2_with (go_at_call 14; refine (HSU.out w7 HS7.out).mono ?_; rintro e8 w8 ⟨rfl, h8⟩; have HS8 := Lib.hid (HS7.out.trans h8); clear h8; refine (fun (h : Hid _) => h.out) ?_)
    refine Lib.hid ?_
    clear HSU HS7
    replace HVM := Lib.hid (HVM.out.only HS8.out)
    replace HOM := Lib.hid (HOM.out.only HS8.out)
    have HVL := Lib.hid (HV1.out.only (HS6.out.trans HS8.out))
    replace HS := Lib.hid (HS.out.trans (HS6.out.trans HS8.out))
    clear HS6 HS8 HV1
    have m4 := cell_fj (HCS.out w8 HS.out) 4 (by omega) rfl
    by_cases he : e = 0
    · subst he
      have hn1 : ¬ ng < 1 := by have := HPOS.out rfl; omega
      by_cases hk1 : kd = 1
      · subst hk1
        as_aux_lemma =>
          go_wp2
          go_loopw [14, 15] (fun v14 v15 w2 => ∃ (j : Nat) (g : Int), v15 = .int .i64 j ∧ v14 = .int .i64 g ∧ j ≤ out.length ∧ Hid (g = sumF (fun y => y.f1) (out.take j)) ∧ Hid (Only [] w8 w2)) (fun _ v15 _ => out.length - (intOf v15).toNat)
          case atStart => exact ⟨0, 0, rfl, rfl, by omega, Lib.hid rfl, Lib.hid (Only.refl _ _)⟩
          case round =>
            obtain ⟨j, g, rfl, rfl, hj, HGG, HW⟩ := hrel
            by_cases hjt : j < out.length
            · have hjt' : (j : Int) < out.length := by omega
              have hj0 : (0 : Int) ≤ j := by omega
              have hj60 : (j : Int) ≤ 60 := by have := HOUT.out.1; omega
              obtain ⟨y, hy⟩ : ∃ y, out[j]? = some y := ⟨_, List.getElem?_eq_getElem hjt⟩
              obtain ⟨ad2, rfl, hcs⟩ := HOM.out.elem hy
              have hyb := HOUT.out.2.1 y (List.mem_of_getElem? hy)
              have hgb := sumF_le (fun y : S37 => y.f1) 1125899906842624 (by decide) (out.take j) (fun x hx => HOUT.out.2.1 x (List.mem_of_mem_take hx))
              rw [← HGG.out, List.length_take, Nat.min_eq_left hj] at hgb
              have HNX := Lib.hid (take_next (fun y : S37 => y.f1) hy)
              have g0 : 0 ≤ g := hgb.1
              have g9 : g ≤ 67553994410557440 := by have := hgb.2; omega
              obtain ⟨yn, yg⟩ := y
              have m1 := cell_fj (hcs.only HW.out (by simp)) 1 (by omega) rfl
              have y0 : 0 ≤ yg := hyb.1
              have y9 : yg ≤ 1125899906842624 := hyb.2
              clear hcs hyb hgb hy
              go_wp2
              go_roundw
              case rel => exact ⟨j + 1, g + yg, by go_num, rfl, by omega, Lib.hid (by rw [HNX.out, HGG.out]), HW⟩
              case measure => simp [intOf]; omega
            · have hjt' : (out.length : Int) ≤ j := by omega
              have HGL := Lib.hid (show g = sumL out from by rw [HGG.out, List.take_of_length_le (by omega)]; rfl)
              replace HS := Lib.hid (HS.out.trans HW.out)
              replace HVM := Lib.hid (HVM.out.only HW.out)
              replace HVL := Lib.hid (HVL.out.only HW.out)
              clear HOM HW HGG m4
              have m0 := cell_f0 (HCS.out wr HS.out) rfl
              have hgn : g = -n := by rw [HGL.out]; simpa using HGONE.out
              subst hgn
              clear HGL
              go_wp2
              go_loopw [16, 17] (fun v16 _ w2 => ∃ (k : Nat), v16 = .int .i64 k ∧ k ≤ l.length ∧ Hid (Only [] wr w2)) (fun v16 _ _ => l.length - (intOf v16).toNat)
              case atStart => exact ⟨0, rfl, by omega, Lib.hid (Only.refl _ _)⟩
              case round =>
                obtain ⟨k, rfl, hk, HW⟩ := hrel
                clear m0
                by_cases hkt : k < l.length
                · have hkt' : (k : Int) < l.length := by omega
                  have hk0 : (0 : Int) ≤ k := by omega
                  have hk60 : (k : Int) ≤ 60 := by have := HLN.out; omega
                  obtain ⟨x, hx⟩ : ∃ x, l[k]? = some x := ⟨_, List.getElem?_eq_getElem hkt⟩
                  obtain ⟨y, hy⟩ : ∃ y, m[k]? = some y := ⟨_, List.getElem?_eq_getElem (by rw [HLE.out]; exact hkt)⟩
                  obtain ⟨y1, y2⟩ := HSAME.out k x y hx hy
                  obtain ⟨adl, A8, c8, rfl, _, hcl⟩ := (HVL.out.only HW.out).elem hx
                  obtain ⟨adm, A9, c9, rfl, hLm, hcm⟩ := (HVM.out.only HW.out).elem hy
                  obtain ⟨u1, u2, u3, u4, u5⟩ := (vesB_iff y).1 (HGM.out.all k y hy).1
                  have u6 := fine_sum _ _ u4
                  have hlv := level_c hLm (HT.out.below (HS.out.trans HW.out).nil_below) (HLM.out.all y (List.mem_of_getElem? hy))
                  rw [level_good HGM.out hy] at hlv
                  obtain ⟨xn, xc, xl⟩ := x
                  obtain ⟨yn, yc, yl⟩ := y
                  dsimp only at y1 y2 u1 u2 u3 u4 u5 u6 hlv hcl hcm
                  subst y1 y2
                  have HLV := Lib.hid hlv
                  have HCL := Lib.hid hcl
                  have HCM := Lib.hid hcm
                  generalize sumL yl = v at *
                  clear hlv hcl hcm hLm u1 u2 u3 u4 hx hy
                  go_wp2_with (first
                    | (with_reducible refine wpList_load_at rfl 25 (.tmp 121) rfl (adm.add (k * 3)) rfl _ _ HCM.out Tryd.underlying25 rfl (by kernel_rfl) ?_)
                    | (go_at_call 16; refine HLV.out.mono ?_; rintro e10 w10 ⟨rfl, h10⟩; have HS10 := Lib.hid h10; clear h10; refine (fun (h : Hid _) => h.out) ?_))
                  refine Lib.hid ?_
                  clear HLV
                  go_wp2
                  refine L.grow_start [] 37 ((0, true, false) :: (1, true, false) :: (2, true, false) :: (3, true, false) :: (4, true, false) :: (5, true, false) :: (6, true, true) :: (7, true, true) :: (8, true, true) :: (9, true, true) :: (10, true, true) :: (11, true, true) :: (12, true, false) :: (13, true, false) :: (14, true, false) :: (15, true, false) :: (16, true, false) :: (17, true, false) :: (18, true, true) :: (19, true, true) :: (20, true, true) :: (21, true, true) :: (22, true, true) :: (23, true, true) :: (24, true, true) :: (25, true, true) :: (26, true, true) :: (27, true, true) :: (28, true, true) :: (29, true, false) :: (30, true, false) :: (31, true, true) :: (32, true, true) :: (33, true, true) :: (34, true, true) :: (35, true, true) :: (36, true, true) :: []) (by kernel_rfl) (([], [10], some 124) :: ([], [16], some 125) :: ([0, 1], [124, 125], some 126) :: ([2], [126], some 127) :: ([3], [127], some 128) :: ([], [0], some 129) :: ([], [16], some 130) :: ([5, 6], [129, 130], some 131) :: ([7], [131], some 132) :: ([8], [132], some 133) :: ([4, 9], [128, 133], some 134) :: ([10], [134], some 135) :: ([11], [10, 135], some 136) :: ([11], [16, 135], some 137) :: ([12, 13, 11], [136, 137, 135], some 138) :: ([14, 11], [138, 135], some 139) :: ([15, 11], [139, 135], some 140) :: ([11], [0, 135], some 141) :: ([11], [16, 135], some 142) :: ([17, 18, 11], [141, 142, 135], some 143) :: ([19, 11], [143, 135], some 144) :: ([20, 11], [144, 135], some 145) :: ([16, 21, 11], [140, 145, 135], some 146) :: ([11, 22], [135, 146], some 147) :: ([23, 11], [147], some 148) :: ([24], [17, 148], some 149) :: ([25, 24], [149, 148], some 150) :: ([24, 26], [148, 150], some 151) :: ([27, 24], [151], some 152) :: ([28], [17, 152], some 153) :: ([28], [10, 152], some 154) :: ([28], [16, 152], some 155) :: ([30, 31, 28], [154, 155, 152], some 156) :: ([32, 28], [156, 152], some 157) :: ([33, 28], [157, 152], some 158) :: ([29, 34, 28], [153, 158, 152], some 159) :: ([28, 35], [152, 159], some 160) :: []) (by kernel_rfl) (by kernel_rfl) (n := 37) rfl (by kernel_rfl) (fun _ _ _ _ _ h => h) (fun wg hog => ?_)
                  refine L.growe_start (N := 162) (by rfl) ?_
                  have a0 : ∀ w', Only [] wg w' → w'.cell? (adm.add (k * 3)) = some (.string yn) := fun w' h => cell_f0 (HCM.out.only (HS10.out.trans (hog.trans h)) (by simp)) rfl
                  have a1 : ∀ w', Only [] wg w' → w'.cell? ⟨(adm.add (k * 3)).block, (adm.add (k * 3)).off + 1, none⟩ = some (.int .i64 yc) := fun w' h => cell_fj (HCM.out.only (HS10.out.trans (hog.trans h)) (by simp)) 1 (by omega) rfl
                  have b0 : ∀ w', Only [] wg w' → w'.cell? (adl.add (k * 3)) = some (.string yn) := fun w' h => cell_f0 (HCL.out.only (HS10.out.trans (hog.trans h)) (by simp)) rfl
                  have b1 : ∀ w', Only [] wg w' → w'.cell? ⟨(adl.add (k * 3)).block, (adl.add (k * 3)).off + 1, none⟩ = some (.int .i64 yc) := fun w' h => cell_fj (HCL.out.only (HS10.out.trans (hog.trans h)) (by simp)) 1 (by omega) rfl
                  have HG2 := Lib.hid (HS10.out.trans hog)
                  have hne : (yn.toList == yn.toList) = true := beq_self_eq_true _
                  have u5' : ¬ yc < v := by omega
                  have u6' : ¬ v < 0 := by omega
                  clear hog
                  iterate 37 (first | (refine L.ge_off rfl rfl rfl (by rfl) ?_) | (refine L.ge_move rfl rfl rfl (by rfl) rfl (by simp [L.evE, L.lk, Act.eval, hne]; rfl) ?_) | (refine L.ge_pick rfl rfl rfl (by rfl) rfl (by simp [L.evE, L.lk, Act.eval, hne]; rfl) (by simp [L.evE, L.lk, Act.eval, hne]; rfl) ?_) | (refine L.ge_val rfl rfl rfl (by rfl) (by intro w' hw'; simp [execOp, L.evE, L.lk, Act.eval, hne]; go_simp; rfl) ?_))
                  refine L.ge_done ?_
                  simp only [L.puts, Act.put, goInt, List.setIfInBounds_toArray, List.set_cons_zero, List.set_cons_succ]
                  clear a0 a1 b0 b1 hne
                  go_wp2
                  go_roundw
                  case rel => exact ⟨k + 1, by go_num, by omega, Lib.hid (HW.out.trans HG2.out)⟩
                  case measure => simp [intOf]; omega
                · have hkt' : (l.length : Int) ≤ k := by omega
                  go_wp2
                  go_roundw
                  case rel => exact ⟨i + 1, B, d, m, by go_num, by rw [HLE.out], by omega, Lib.hid (HVM.out.only HW.out), HLM, HGM, Lib.hid (HS.out.trans HW.out)⟩
                  case measure => simp [intOf]; omega
      · have hkb : (kd == 1) = false := beq_eq_false_iff_ne.2 hk1
        as_aux_lemma =>
          go_wp2
          go_loopw [14, 15] (fun v14 v15 w2 => ∃ (j : Nat) (g : Int), v15 = .int .i64 j ∧ v14 = .int .i64 g ∧ j ≤ out.length ∧ Hid (g = sumF (fun y => y.f1) (out.take j)) ∧ Hid (Only [] w8 w2)) (fun _ v15 _ => out.length - (intOf v15).toNat)
          case atStart => exact ⟨0, 0, rfl, rfl, by omega, Lib.hid rfl, Lib.hid (Only.refl _ _)⟩
          case round =>
            obtain ⟨j, g, rfl, rfl, hj, HGG, HW⟩ := hrel
            by_cases hjt : j < out.length
            · have hjt' : (j : Int) < out.length := by omega
              have hj0 : (0 : Int) ≤ j := by omega
              have hj60 : (j : Int) ≤ 60 := by have := HOUT.out.1; omega
              obtain ⟨y, hy⟩ : ∃ y, out[j]? = some y := ⟨_, List.getElem?_eq_getElem hjt⟩
              obtain ⟨ad2, rfl, hcs⟩ := HOM.out.elem hy
              have hyb := HOUT.out.2.1 y (List.mem_of_getElem? hy)
              have hgb := sumF_le (fun y : S37 => y.f1) 1125899906842624 (by decide) (out.take j) (fun x hx => HOUT.out.2.1 x (List.mem_of_mem_take hx))
              rw [← HGG.out, List.length_take, Nat.min_eq_left hj] at hgb
              have HNX := Lib.hid (take_next (fun y : S37 => y.f1) hy)
              have g0 : 0 ≤ g := hgb.1
              have g9 : g ≤ 67553994410557440 := by have := hgb.2; omega
              obtain ⟨yn, yg⟩ := y
              have m1 := cell_fj (hcs.only HW.out (by simp)) 1 (by omega) rfl
              have y0 : 0 ≤ yg := hyb.1
              have y9 : yg ≤ 1125899906842624 := hyb.2
              clear hcs hyb hgb hy
              go_wp2
              go_roundw
              case rel => exact ⟨j + 1, g + yg, by go_num, rfl, by omega, Lib.hid (by rw [HNX.out, HGG.out]), HW⟩
              case measure => simp [intOf]; omega
            · have hjt' : (out.length : Int) ≤ j := by omega
              have HGL := Lib.hid (show g = sumL out from by rw [HGG.out, List.take_of_length_le (by omega)]; rfl)
              replace HS := Lib.hid (HS.out.trans HW.out)
              replace HVM := Lib.hid (HVM.out.only HW.out)
              replace HVL := Lib.hid (HVL.out.only HW.out)
              clear HOM HW HGG m4
              have m0 := cell_f0 (HCS.out wr HS.out) rfl
              go_wp2
              go_loopw [16, 17] (fun v16 _ w2 => ∃ (k : Nat), v16 = .int .i64 k ∧ k ≤ l.length ∧ Hid (Only [] wr w2)) (fun v16 _ _ => l.length - (intOf v16).toNat)
              case atStart => exact ⟨0, rfl, by omega, Lib.hid (Only.refl _ _)⟩
              case round =>
                obtain ⟨k, rfl, hk, HW⟩ := hrel
                clear m0
                by_cases hkt : k < l.length
                · have hkt' : (k : Int) < l.length := by omega
                  have hk0 : (0 : Int) ≤ k := by omega
                  have hk60 : (k : Int) ≤ 60 := by have := HLN.out; omega
                  obtain ⟨x, hx⟩ : ∃ x, l[k]? = some x := ⟨_, List.getElem?_eq_getElem hkt⟩
                  obtain ⟨y, hy⟩ : ∃ y, m[k]? = some y := ⟨_, List.getElem?_eq_getElem (by rw [HLE.out]; exact hkt)⟩
                  obtain ⟨y1, y2⟩ := HSAME.out k x y hx hy
                  obtain ⟨adl, A8, c8, rfl, _, hcl⟩ := (HVL.out.only HW.out).elem hx
                  obtain ⟨adm, A9, c9, rfl, hLm, hcm⟩ := (HVM.out.only HW.out).elem hy
                  obtain ⟨u1, u2, u3, u4, u5⟩ := (vesB_iff y).1 (HGM.out.all k y hy).1
                  have u6 := fine_sum _ _ u4
                  have hlv := level_c hLm (HT.out.below (HS.out.trans HW.out).nil_below) (HLM.out.all y (List.mem_of_getElem? hy))
                  rw [level_good HGM.out hy] at hlv
                  obtain ⟨xn, xc, xl⟩ := x
                  obtain ⟨yn, yc, yl⟩ := y
                  dsimp only at y1 y2 u1 u2 u3 u4 u5 u6 hlv hcl hcm
                  subst y1 y2
                  have HLV := Lib.hid hlv
                  have HCL := Lib.hid hcl
                  have HCM := Lib.hid hcm
                  generalize sumL yl = v at *
                  clear hlv hcl hcm hLm u1 u2 u3 u4 hx hy
                  go_wp2_with (first
                    | (with_reducible refine wpList_load_at rfl 25 (.tmp 121) rfl (adm.add (k * 3)) rfl _ _ HCM.out Tryd.underlying25 rfl (by kernel_rfl) ?_)
                    | (go_at_call 16; refine HLV.out.mono ?_; rintro e10 w10 ⟨rfl, h10⟩; have HS10 := Lib.hid h10; clear h10; refine (fun (h : Hid _) => h.out) ?_))
                  refine Lib.hid ?_
                  clear HLV
                  go_wp2
                  refine L.grow_start [] 37 ((0, true, false) :: (1, true, false) :: (2, true, false) :: (3, true, false) :: (4, true, false) :: (5, true, false) :: (6, true, true) :: (7, true, true) :: (8, true, true) :: (9, true, true) :: (10, true, true) :: (11, true, true) :: (12, true, false) :: (13, true, false) :: (14, true, false) :: (15, true, false) :: (16, true, false) :: (17, true, false) :: (18, true, true) :: (19, true, true) :: (20, true, true) :: (21, true, true) :: (22, true, true) :: (23, true, true) :: (24, true, true) :: (25, true, true) :: (26, true, true) :: (27, true, true) :: (28, true, true) :: (29, true, false) :: (30, true, false) :: (31, true, true) :: (32, true, true) :: (33, true, true) :: (34, true, true) :: (35, true, true) :: (36, true, true) :: []) (by kernel_rfl) (([], [10], some 124) :: ([], [16], some 125) :: ([0, 1], [124, 125], some 126) :: ([2], [126], some 127) :: ([3], [127], some 128) :: ([], [0], some 129) :: ([], [16], some 130) :: ([5, 6], [129, 130], some 131) :: ([7], [131], some 132) :: ([8], [132], some 133) :: ([4, 9], [128, 133], some 134) :: ([10], [134], some 135) :: ([11], [10, 135], some 136) :: ([11], [16, 135], some 137) :: ([12, 13, 11], [136, 137, 135], some 138) :: ([14, 11], [138, 135], some 139) :: ([15, 11], [139, 135], some 140) :: ([11], [0, 135], some 141) :: ([11], [16, 135], some 142) :: ([17, 18, 11], [141, 142, 135], some 143) :: ([19, 11], [143, 135], some 144) :: ([20, 11], [144, 135], some 145) :: ([16, 21, 11], [140, 145, 135], some 146) :: ([11, 22], [135, 146], some 147) :: ([23, 11], [147], some 148) :: ([24], [17, 148], some 149) :: ([25, 24], [149, 148], some 150) :: ([24, 26], [148, 150], some 151) :: ([27, 24], [151], some 152) :: ([28], [17, 152], some 153) :: ([28], [10, 152], some 154) :: ([28], [16, 152], some 155) :: ([30, 31, 28], [154, 155, 152], some 156) :: ([32, 28], [156, 152], some 157) :: ([33, 28], [157, 152], some 158) :: ([29, 34, 28], [153, 158, 152], some 159) :: ([28, 35], [152, 159], some 160) :: []) (by kernel_rfl) (by kernel_rfl) (n := 37) rfl (by kernel_rfl) (fun _ _ _ _ _ h => h) (fun wg hog => ?_)
                  refine L.growe_start (N := 162) (by rfl) ?_
                  have a0 : ∀ w', Only [] wg w' → w'.cell? (adm.add (k * 3)) = some (.string yn) := fun w' h => cell_f0 (HCM.out.only (HS10.out.trans (hog.trans h)) (by simp)) rfl
                  have a1 : ∀ w', Only [] wg w' → w'.cell? ⟨(adm.add (k * 3)).block, (adm.add (k * 3)).off + 1, none⟩ = some (.int .i64 yc) := fun w' h => cell_fj (HCM.out.only (HS10.out.trans (hog.trans h)) (by simp)) 1 (by omega) rfl
                  have b0 : ∀ w', Only [] wg w' → w'.cell? (adl.add (k * 3)) = some (.string yn) := fun w' h => cell_f0 (HCL.out.only (HS10.out.trans (hog.trans h)) (by simp)) rfl
                  have b1 : ∀ w', Only [] wg w' → w'.cell? ⟨(adl.add (k * 3)).block, (adl.add (k * 3)).off + 1, none⟩ = some (.int .i64 yc) := fun w' h => cell_fj (HCL.out.only (HS10.out.trans (hog.trans h)) (by simp)) 1 (by omega) rfl
                  have HG2 := Lib.hid (HS10.out.trans hog)
                  have hne : (yn.toList == yn.toList) = true := beq_self_eq_true _
                  have u5' : ¬ yc < v := by omega
                  have u6' : ¬ v < 0 := by omega
                  clear hog
                  iterate 37 (first | (refine L.ge_off rfl rfl rfl (by rfl) ?_) | (refine L.ge_move rfl rfl rfl (by rfl) rfl (by simp [L.evE, L.lk, Act.eval, hne]; rfl) ?_) | (refine L.ge_pick rfl rfl rfl (by rfl) rfl (by simp [L.evE, L.lk, Act.eval, hne]; rfl) (by simp [L.evE, L.lk, Act.eval, hne]; rfl) ?_) | (refine L.ge_val rfl rfl rfl (by rfl) (by intro w' hw'; simp [execOp, L.evE, L.lk, Act.eval, hne]; go_simp; rfl) ?_))
                  refine L.ge_done ?_
                  simp only [L.puts, Act.put, goInt, List.setIfInBounds_toArray, List.set_cons_zero, List.set_cons_succ]
                  clear a0 a1 b0 b1 hne
                  go_wp2
                  go_roundw
                  case rel => exact ⟨k + 1, by go_num, by omega, Lib.hid (HW.out.trans HG2.out)⟩
                  case measure => simp [intOf]; omega
                · have hkt' : (l.length : Int) ≤ k := by omega
                  go_wp2
                  go_roundw
                  case rel => exact ⟨i + 1, B, d, m, by go_num, by rw [HLE.out], by omega, Lib.hid (HVM.out.only HW.out), HLM, HGM, Lib.hid (HS.out.trans HW.out)⟩
                  case measure => simp [intOf]; omega
    · have heb : (e == 0) = false := beq_eq_false_iff_ne.2 he
      by_cases hk1 : kd = 1
      · subst hk1
        as_aux_lemma =>
          go_wp2
          go_loopw [14, 15] (fun v14 v15 w2 => ∃ (j : Nat) (g : Int), v15 = .int .i64 j ∧ v14 = .int .i64 g ∧ j ≤ out.length ∧ Hid (g = sumF (fun y => y.f1) (out.take j)) ∧ Hid (Only [] w8 w2)) (fun _ v15 _ => out.length - (intOf v15).toNat)
          case atStart => exact ⟨0, 0, rfl, rfl, by omega, Lib.hid rfl, Lib.hid (Only.refl _ _)⟩
          case round =>
            obtain ⟨j, g, rfl, rfl, hj, HGG, HW⟩ := hrel
            by_cases hjt : j < out.length
            · have hjt' : (j : Int) < out.length := by omega
              have hj0 : (0 : Int) ≤ j := by omega
              have hj60 : (j : Int) ≤ 60 := by have := HOUT.out.1; omega
              obtain ⟨y, hy⟩ : ∃ y, out[j]? = some y := ⟨_, List.getElem?_eq_getElem hjt⟩
              obtain ⟨ad2, rfl, hcs⟩ := HOM.out.elem hy
              have hyb := HOUT.out.2.1 y (List.mem_of_getElem? hy)
              have hgb := sumF_le (fun y : S37 => y.f1) 1125899906842624 (by decide) (out.take j) (fun x hx => HOUT.out.2.1 x (List.mem_of_mem_take hx))
              rw [← HGG.out, List.length_take, Nat.min_eq_left hj] at hgb
              have HNX := Lib.hid (take_next (fun y : S37 => y.f1) hy)
              have g0 : 0 ≤ g := hgb.1
              have g9 : g ≤ 67553994410557440 := by have := hgb.2; omega
              obtain ⟨yn, yg⟩ := y
              have m1 := cell_fj (hcs.only HW.out (by simp)) 1 (by omega) rfl
              have y0 : 0 ≤ yg := hyb.1
              have y9 : yg ≤ 1125899906842624 := hyb.2
              clear hcs hyb hgb hy
              go_wp2
              go_roundw
              case rel => exact ⟨j + 1, g + yg, by go_num, rfl, by omega, Lib.hid (by rw [HNX.out, HGG.out]), HW⟩
              case measure => simp [intOf]; omega
            · have hjt' : (out.length : Int) ≤ j := by omega
              have HGL := Lib.hid (show g = sumL out from by rw [HGG.out, List.take_of_length_le (by omega)]; rfl)
              replace HS := Lib.hid (HS.out.trans HW.out)
              replace HVM := Lib.hid (HVM.out.only HW.out)
              replace HVL := Lib.hid (HVL.out.only HW.out)
              clear HOM HW HGG m4
              have m0 := cell_f0 (HCS.out wr HS.out) rfl
              have hgn : g = -n := by rw [HGL.out]; simpa using HGONE.out
              subst hgn
              clear HGL
              go_wp2
              go_loopw [16, 17] (fun v16 _ w2 => ∃ (k : Nat), v16 = .int .i64 k ∧ k ≤ l.length ∧ Hid (Only [] wr w2)) (fun v16 _ _ => l.length - (intOf v16).toNat)
              case atStart => exact ⟨0, rfl, by omega, Lib.hid (Only.refl _ _)⟩
              case round =>
                obtain ⟨k, rfl, hk, HW⟩ := hrel
                clear m0
                by_cases hkt : k < l.length
                · have hkt' : (k : Int) < l.length := by omega
                  have hk0 : (0 : Int) ≤ k := by omega
                  have hk60 : (k : Int) ≤ 60 := by have := HLN.out; omega
                  obtain ⟨x, hx⟩ : ∃ x, l[k]? = some x := ⟨_, List.getElem?_eq_getElem hkt⟩
                  obtain ⟨y, hy⟩ : ∃ y, m[k]? = some y := ⟨_, List.getElem?_eq_getElem (by rw [HLE.out]; exact hkt)⟩
                  obtain ⟨y1, y2⟩ := HSAME.out k x y hx hy
                  obtain ⟨adl, A8, c8, rfl, _, hcl⟩ := (HVL.out.only HW.out).elem hx
                  obtain ⟨adm, A9, c9, rfl, hLm, hcm⟩ := (HVM.out.only HW.out).elem hy
                  obtain ⟨u1, u2, u3, u4, u5⟩ := (vesB_iff y).1 (HGM.out.all k y hy).1
                  have u6 := fine_sum _ _ u4
                  have hlv := level_c hLm (HT.out.below (HS.out.trans HW.out).nil_below) (HLM.out.all y (List.mem_of_getElem? hy))
                  rw [level_good HGM.out hy] at hlv
                  obtain ⟨xn, xc, xl⟩ := x
                  obtain ⟨yn, yc, yl⟩ := y
                  dsimp only at y1 y2 u1 u2 u3 u4 u5 u6 hlv hcl hcm
                  subst y1 y2
                  have HLV := Lib.hid hlv
                  have HCL := Lib.hid hcl
                  have HCM := Lib.hid hcm
                  generalize sumL yl = v at *
                  clear hlv hcl hcm hLm u1 u2 u3 u4 hx hy
                  go_wp2_with (first
                    | (with_reducible refine wpList_load_at rfl 25 (.tmp 121) rfl (adm.add (k * 3)) rfl _ _ HCM.out Tryd.underlying25 rfl (by kernel_rfl) ?_)
                    | (go_at_call 16; refine HLV.out.mono ?_; rintro e10 w10 ⟨rfl, h10⟩; have HS10 := Lib.hid h10; clear h10; refine (fun (h : Hid _) => h.out) ?_))
                  refine Lib.hid ?_
                  clear HLV
                  go_wp2
                  refine L.grow_start [] 37 ((0, true, false) :: (1, true, false) :: (2, true, false) :: (3, true, false) :: (4, true, false) :: (5, true, false) :: (6, true, true) :: (7, true, true) :: (8, true, true) :: (9, true, true) :: (10, true, true) :: (11, true, true) :: (12, true, false) :: (13, true, false) :: (14, true, false) :: (15, true, false) :: (16, true, false) :: (17, true, false) :: (18, true, true) :: (19, true, true) :: (20, true, true) :: (21, true, true) :: (22, true, true) :: (23, true, true) :: (24, true, true) :: (25, true, true) :: (26, true, true) :: (27, true, true) :: (28, true, true) :: (29, true, false) :: (30, true, false) :: (31, true, true) :: (32, true, true) :: (33, true, true) :: (34, true, true) :: (35, true, true) :: (36, true, true) :: []) (by kernel_rfl) (([], [10], some 124) :: ([], [16], some 125) :: ([0, 1], [124, 125], some 126) :: ([2], [126], some 127) :: ([3], [127], some 128) :: ([], [0], some 129) :: ([], [16], some 130) :: ([5, 6], [129, 130], some 131) :: ([7], [131], some 132) :: ([8], [132], some 133) :: ([4, 9], [128, 133], some 134) :: ([10], [134], some 135) :: ([11], [10, 135], some 136) :: ([11], [16, 135], some 137) :: ([12, 13, 11], [136, 137, 135], some 138) :: ([14, 11], [138, 135], some 139) :: ([15, 11], [139, 135], some 140) :: ([11], [0, 135], some 141) :: ([11], [16, 135], some 142) :: ([17, 18, 11], [141, 142, 135], some 143) :: ([19, 11], [143, 135], some 144) :: ([20, 11], [144, 135], some 145) :: ([16, 21, 11], [140, 145, 135], some 146) :: ([11, 22], [135, 146], some 147) :: ([23, 11], [147], some 148) :: ([24], [17, 148], some 149) :: ([25, 24], [149, 148], some 150) :: ([24, 26], [148, 150], some 151) :: ([27, 24], [151], some 152) :: ([28], [17, 152], some 153) :: ([28], [10, 152], some 154) :: ([28], [16, 152], some 155) :: ([30, 31, 28], [154, 155, 152], some 156) :: ([32, 28], [156, 152], some 157) :: ([33, 28], [157, 152], some 158) :: ([29, 34, 28], [153, 158, 152], some 159) :: ([28, 35], [152, 159], some 160) :: []) (by kernel_rfl) (by kernel_rfl) (n := 37) rfl (by kernel_rfl) (fun _ _ _ _ _ h => h) (fun wg hog => ?_)
                  refine L.growe_start (N := 162) (by rfl) ?_
                  have a0 : ∀ w', Only [] wg w' → w'.cell? (adm.add (k * 3)) = some (.string yn) := fun w' h => cell_f0 (HCM.out.only (HS10.out.trans (hog.trans h)) (by simp)) rfl
                  have a1 : ∀ w', Only [] wg w' → w'.cell? ⟨(adm.add (k * 3)).block, (adm.add (k * 3)).off + 1, none⟩ = some (.int .i64 yc) := fun w' h => cell_fj (HCM.out.only (HS10.out.trans (hog.trans h)) (by simp)) 1 (by omega) rfl
                  have b0 : ∀ w', Only [] wg w' → w'.cell? (adl.add (k * 3)) = some (.string yn) := fun w' h => cell_f0 (HCL.out.only (HS10.out.trans (hog.trans h)) (by simp)) rfl
                  have b1 : ∀ w', Only [] wg w' → w'.cell? ⟨(adl.add (k * 3)).block, (adl.add (k * 3)).off + 1, none⟩ = some (.int .i64 yc) := fun w' h => cell_fj (HCL.out.only (HS10.out.trans (hog.trans h)) (by simp)) 1 (by omega) rfl
                  have HG2 := Lib.hid (HS10.out.trans hog)
                  have hne : (yn.toList == yn.toList) = true := beq_self_eq_true _
                  have u5' : ¬ yc < v := by omega
                  have u6' : ¬ v < 0 := by omega
                  clear hog
                  iterate 37 (first | (refine L.ge_off rfl rfl rfl (by rfl) ?_) | (refine L.ge_move rfl rfl rfl (by rfl) rfl (by simp [L.evE, L.lk, Act.eval, hne]; rfl) ?_) | (refine L.ge_pick rfl rfl rfl (by rfl) rfl (by simp [L.evE, L.lk, Act.eval, hne]; rfl) (by simp [L.evE, L.lk, Act.eval, hne]; rfl) ?_) | (refine L.ge_val rfl rfl rfl (by rfl) (by intro w' hw'; simp [execOp, L.evE, L.lk, Act.eval, hne]; go_simp; rfl) ?_))
                  refine L.ge_done ?_
                  simp only [L.puts, Act.put, goInt, List.setIfInBounds_toArray, List.set_cons_zero, List.set_cons_succ]
                  clear a0 a1 b0 b1 hne
                  go_wp2
                  go_roundw
                  case rel => exact ⟨k + 1, by go_num, by omega, Lib.hid (HW.out.trans HG2.out)⟩
                  case measure => simp [intOf]; omega
                · have hkt' : (l.length : Int) ≤ k := by omega
                  go_wp2
                  go_roundw
                  case rel => exact ⟨i + 1, B, d, m, by go_num, by rw [HLE.out], by omega, Lib.hid (HVM.out.only HW.out), HLM, HGM, Lib.hid (HS.out.trans HW.out)⟩
                  case measure => simp [intOf]; omega
      · have hkb : (kd == 1) = false := beq_eq_false_iff_ne.2 hk1
        as_aux_lemma =>
          go_wp2
          go_loopw [14, 15] (fun v14 v15 w2 => ∃ (j : Nat) (g : Int), v15 = .int .i64 j ∧ v14 = .int .i64 g ∧ j ≤ out.length ∧ Hid (g = sumF (fun y => y.f1) (out.take j)) ∧ Hid (Only [] w8 w2)) (fun _ v15 _ => out.length - (intOf v15).toNat)
          case atStart => exact ⟨0, 0, rfl, rfl, by omega, Lib.hid rfl, Lib.hid (Only.refl _ _)⟩
          case round =>
            obtain ⟨j, g, rfl, rfl, hj, HGG, HW⟩ := hrel
            by_cases hjt : j < out.length
            · have hjt' : (j : Int) < out.length := by omega
              have hj0 : (0 : Int) ≤ j := by omega
              have hj60 : (j : Int) ≤ 60 := by have := HOUT.out.1; omega
              obtain ⟨y, hy⟩ : ∃ y, out[j]? = some y := ⟨_, List.getElem?_eq_getElem hjt⟩
              obtain ⟨ad2, rfl, hcs⟩ := HOM.out.elem hy
              have hyb := HOUT.out.2.1 y (List.mem_of_getElem? hy)
              have hgb := sumF_le (fun y : S37 => y.f1) 1125899906842624 (by decide) (out.take j) (fun x hx => HOUT.out.2.1 x (List.mem_of_mem_take hx))
              rw [← HGG.out, List.length_take, Nat.min_eq_left hj] at hgb
              have HNX := Lib.hid (take_next (fun y : S37 => y.f1) hy)
              have g0 : 0 ≤ g := hgb.1
              have g9 : g ≤ 67553994410557440 := by have := hgb.2; omega
              obtain ⟨yn, yg⟩ := y
              have m1 := cell_fj (hcs.only HW.out (by simp)) 1 (by omega) rfl
              have y0 : 0 ≤ yg := hyb.1
              have y9 : yg ≤ 1125899906842624 := hyb.2
              clear hcs hyb hgb hy
              go_wp2
              go_roundw
              case rel => exact ⟨j + 1, g + yg, by go_num, rfl, by omega, Lib.hid (by rw [HNX.out, HGG.out]), HW⟩
              case measure => simp [intOf]; omega
            · have hjt' : (out.length : Int) ≤ j := by omega
              have HGL := Lib.hid (show g = sumL out from by rw [HGG.out, List.take_of_length_le (by omega)]; rfl)
              replace HS := Lib.hid (HS.out.trans HW.out)
              replace HVM := Lib.hid (HVM.out.only HW.out)
              replace HVL := Lib.hid (HVL.out.only HW.out)
              clear HOM HW HGG m4
              have m0 := cell_f0 (HCS.out wr HS.out) rfl
              go_wp2
              go_loopw [16, 17] (fun v16 _ w2 => ∃ (k : Nat), v16 = .int .i64 k ∧ k ≤ l.length ∧ Hid (Only [] wr w2)) (fun v16 _ _ => l.length - (intOf v16).toNat)
              case atStart => exact ⟨0, rfl, by omega, Lib.hid (Only.refl _ _)⟩
              case round =>
                obtain ⟨k, rfl, hk, HW⟩ := hrel
                clear m0
                by_cases hkt : k < l.length
                · have hkt' : (k : Int) < l.length := by omega
                  have hk0 : (0 : Int) ≤ k := by omega
                  have hk60 : (k : Int) ≤ 60 := by have := HLN.out; omega
                  obtain ⟨x, hx⟩ : ∃ x, l[k]? = some x := ⟨_, List.getElem?_eq_getElem hkt⟩
                  obtain ⟨y, hy⟩ : ∃ y, m[k]? = some y := ⟨_, List.getElem?_eq_getElem (by rw [HLE.out]; exact hkt)⟩
                  obtain ⟨y1, y2⟩ := HSAME.out k x y hx hy
                  obtain ⟨adl, A8, c8, rfl, _, hcl⟩ := (HVL.out.only HW.out).elem hx
                  obtain ⟨adm, A9, c9, rfl, hLm, hcm⟩ := (HVM.out.only HW.out).elem hy
                  obtain ⟨u1, u2, u3, u4, u5⟩ := (vesB_iff y).1 (HGM.out.all k y hy).1
                  have u6 := fine_sum _ _ u4
                  have hlv := level_c hLm (HT.out.below (HS.out.trans HW.out).nil_below) (HLM.out.all y (List.mem_of_getElem? hy))
                  rw [level_good HGM.out hy] at hlv
                  obtain ⟨xn, xc, xl⟩ := x
                  obtain ⟨yn, yc, yl⟩ := y
                  dsimp only at y1 y2 u1 u2 u3 u4 u5 u6 hlv hcl hcm
                  subst y1 y2
                  have HLV := Lib.hid hlv
                  have HCL := Lib.hid hcl
                  have HCM := Lib.hid hcm
                  generalize sumL yl = v at *
                  clear hlv hcl hcm hLm u1 u2 u3 u4 hx hy
                  go_wp2_with (first
                    | (with_reducible refine wpList_load_at rfl 25 (.tmp 121) rfl (adm.add (k * 3)) rfl _ _ HCM.out Tryd.underlying25 rfl (by kernel_rfl) ?_)
                    | (go_at_call 16; refine HLV.out.mono ?_; rintro e10 w10 ⟨rfl, h10⟩; have HS10 := Lib.hid h10; clear h10; refine (fun (h : Hid _) => h.out) ?_))
                  refine Lib.hid ?_
                  clear HLV
                  go_wp2
                  refine L.grow_start [] 37 ((0, true, false) :: (1, true, false) :: (2, true, false) :: (3, true, false) :: (4, true, false) :: (5, true, false) :: (6, true, true) :: (7, true, true) :: (8, true, true) :: (9, true, true) :: (10, true, true) :: (11, true, true) :: (12, true, false) :: (13, true, false) :: (14, true, false) :: (15, true, false) :: (16, true, false) :: (17, true, false) :: (18, true, true) :: (19, true, true) :: (20, true, true) :: (21, true, true) :: (22, true, true) :: (23, true, true) :: (24, true, true) :: (25, true, true) :: (26, true, true) :: (27, true, true) :: (28, true, true) :: (29, true, false) :: (30, true, false) :: (31, true, true) :: (32, true, true) :: (33, true, true) :: (34, true, true) :: (35, true, true) :: (36, true, true) :: []) (by kernel_rfl) (([], [10], some 124) :: ([], [16], some 125) :: ([0, 1], [124, 125], some 126) :: ([2], [126], some 127) :: ([3], [127], some 128) :: ([], [0], some 129) :: ([], [16], some 130) :: ([5, 6], [129, 130], some 131) :: ([7], [131], some 132) :: ([8], [132], some 133) :: ([4, 9], [128, 133], some 134) :: ([10], [134], some 135) :: ([11], [10, 135], some 136) :: ([11], [16, 135], some 137) :: ([12, 13, 11], [136, 137, 135], some 138) :: ([14, 11], [138, 135], some 139) :: ([15, 11], [139, 135], some 140) :: ([11], [0, 135], some 141) :: ([11], [16, 135], some 142) :: ([17, 18, 11], [141, 142, 135], some 143) :: ([19, 11], [143, 135], some 144) :: ([20, 11], [144, 135], some 145) :: ([16, 21, 11], [140, 145, 135], some 146) :: ([11, 22], [135, 146], some 147) :: ([23, 11], [147], some 148) :: ([24], [17, 148], some 149) :: ([25, 24], [149, 148], some 150) :: ([24, 26], [148, 150], some 151) :: ([27, 24], [151], some 152) :: ([28], [17, 152], some 153) :: ([28], [10, 152], some 154) :: ([28], [16, 152], some 155) :: ([30, 31, 28], [154, 155, 152], some 156) :: ([32, 28], [156, 152], some 157) :: ([33, 28], [157, 152], some 158) :: ([29, 34, 28], [153, 158, 152], some 159) :: ([28, 35], [152, 159], some 160) :: []) (by kernel_rfl) (by kernel_rfl) (n := 37) rfl (by kernel_rfl) (fun _ _ _ _ _ h => h) (fun wg hog => ?_)
                  refine L.growe_start (N := 162) (by rfl) ?_
                  have a0 : ∀ w', Only [] wg w' → w'.cell? (adm.add (k * 3)) = some (.string yn) := fun w' h => cell_f0 (HCM.out.only (HS10.out.trans (hog.trans h)) (by simp)) rfl
                  have a1 : ∀ w', Only [] wg w' → w'.cell? ⟨(adm.add (k * 3)).block, (adm.add (k * 3)).off + 1, none⟩ = some (.int .i64 yc) := fun w' h => cell_fj (HCM.out.only (HS10.out.trans (hog.trans h)) (by simp)) 1 (by omega) rfl
                  have b0 : ∀ w', Only [] wg w' → w'.cell? (adl.add (k * 3)) = some (.string yn) := fun w' h => cell_f0 (HCL.out.only (HS10.out.trans (hog.trans h)) (by simp)) rfl
                  have b1 : ∀ w', Only [] wg w' → w'.cell? ⟨(adl.add (k * 3)).block, (adl.add (k * 3)).off + 1, none⟩ = some (.int .i64 yc) := fun w' h => cell_fj (HCL.out.only (HS10.out.trans (hog.trans h)) (by simp)) 1 (by omega) rfl
                  have HG2 := Lib.hid (HS10.out.trans hog)
                  have hne : (yn.toList == yn.toList) = true := beq_self_eq_true _
                  have u5' : ¬ yc < v := by omega
                  have u6' : ¬ v < 0 := by omega
                  clear hog
                  iterate 37 (first | (refine L.ge_off rfl rfl rfl (by rfl) ?_) | (refine L.ge_move rfl rfl rfl (by rfl) rfl (by simp [L.evE, L.lk, Act.eval, hne]; rfl) ?_) | (refine L.ge_pick rfl rfl rfl (by rfl) rfl (by simp [L.evE, L.lk, Act.eval, hne]; rfl) (by simp [L.evE, L.lk, Act.eval, hne]; rfl) ?_) | (refine L.ge_val rfl rfl rfl (by rfl) (by intro w' hw'; simp [execOp, L.evE, L.lk, Act.eval, hne]; go_simp; rfl) ?_))
                  refine L.ge_done ?_
                  simp only [L.puts, Act.put, goInt, List.setIfInBounds_toArray, List.set_cons_zero, List.set_cons_succ]
                  clear a0 a1 b0 b1 hne
                  go_wp2
                  go_roundw
                  case rel => exact ⟨k + 1, by go_num, by omega, Lib.hid (HW.out.trans HG2.out)⟩
                  case measure => simp [intOf]; omega
                · have hkt' : (l.length : Int) ≤ k := by omega
                  go_wp2
                  go_roundw
                  case rel => exact ⟨i + 1, B, d, m, by go_num, by rw [HLE.out], by omega, Lib.hid (HVM.out.only HW.out), HLM, HGM, Lib.hid (HS.out.trans HW.out)⟩
                  case measure => simp [intOf]; omega
end Go.Proofs.YtejecmjajdhiiaaDoor.Print
/-! ### LgWalk6 -/
namespace Go.Proofs.YtejecmjajdhiiaaDoor.Print
open Go.RowKit Go.Proofs.YtejecmjajdhiiaaDoorW.PrintWords Go.Proofs.YtejecmjajdhiiaaDoorW.PrintLast Go.Proofs.YtejecmjajdhiiaaDoorW.PrintMore
set_option linter.unusedSimpArgs false
set_option linter.unusedVariables false
attribute [local go_sem high] beq_self_eq_true
set_option maxHeartbeats 8000000 in
set_option maxRecDepth 100000 in
theorem lots_any (A0 : Option Addr) (c0 : Nat) (l0 : List S25) (A1 : Option Addr) (c1 : Nat) (ops : List S41) (lot : ByteArray) (w : World) (h0 : VAt w A0 c0 l0) (h1 : OAt w A1 c1 ops) (hT : Tabs w) (hr : ∀ x ∈ l0, -9223372036854775808 ≤ x.f1 ∧ x.f1 ≤ 9223372036854775807) :
    Calls Tryd.prog 7 #[.slice A0 l0.length c0, .slice A1 ops.length c1, .string lot] w fun e w' => e = .returned (.bool true) ∧ Below w.heap.size w w' := by
  have HV := Lib.hid h0
  have HO := Lib.hid h1
  have HT := Lib.hid hT
  have HR := Lib.hid hr
  have HAW := Lib.hid (awake_c w hT)
  obtain ⟨lb, hb⟩ : ∃ b, lightM l0 = b := ⟨_, rfl⟩
  have HB := Lib.hid hb
  have HLI := Lib.hid (show ∀ W, Only [] w W → Calls Tryd.prog 11 #[.slice A0 l0.length c0] W fun e w' => e = .returned (.bool lb) ∧ Only [] W w' from fun W h => hb ▸ light_c (h0.only h))
  obtain ⟨fb, hf⟩ : ∃ b, fewM ops = b := ⟨_, rfl⟩
  have HFB := Lib.hid hf
  have HFW := Lib.hid (show ∀ W, Only [] w W → Calls Tryd.prog 28 #[.slice A1 ops.length c1, .int .i64 60] W fun e w' => e = .returned (.bool fb) ∧ Only [] W w' from fun W h => hf ▸ few_c (h1.only h))
  clear h0 h1 hT hr hb hf
  go_enter Tryd.func7, Tryd.ntmps7
  go_wp2_with (go_at_call 10; refine HAW.out.mono ?_; rintro e w1 ⟨rfl, h1⟩; have HS1 := Lib.hid h1; clear h1; refine (fun (h : Hid _) => h.out) ?_)
  refine Lib.hid ?_
  go_wp2_with (go_at_call 11; refine (HLI.out w1 HS1.out).mono ?_; rintro e w2 ⟨rfl, h2⟩; have HS2 := Lib.hid (HS1.out.trans h2); clear h2; refine (fun (h : Hid _) => h.out) ?_)
  refine Lib.hid ?_
  go_wp2_with (go_at_call 28; refine (HFW.out w2 HS2.out).mono ?_; rintro e w3 ⟨rfl, h3⟩; have HS3 := Lib.hid (HS2.out.trans h3); clear h3; refine (fun (h : Hid _) => h.out) ?_)
  refine Lib.hid ?_
  clear HAW HLI HFW HS1 HS2
  cases lb
  · go_wp2
    go_ret
    exact ⟨rfl, HS3.out.nil_below⟩
  cases fb
  · go_wp2
    go_ret
    exact ⟨rfl, HS3.out.nil_below⟩
  by_cases hlo : (200 : Int) < lot.size
  · go_wp2
    go_ret
    exact ⟨rfl, HS3.out.nil_below⟩
  have hlo' : (lot.size : Int) ≤ 200 := by omega
  clear hlo
  have hL : Lite l0 := lite_of HB.out HR.out
  have HL := Lib.hid hL
  obtain ⟨c, hc⟩ : ∃ c, checkM l0 = c := ⟨_, rfl⟩
  have HC := Lib.hid hc
  have HCK := Lib.hid (show ∀ W, Only [] w W → Calls Tryd.prog 12 #[.slice A0 l0.length c0] W fun e w' => e = .returned (.int .i64 c) ∧ Only [] W w' from fun W h => hc ▸ check_c (HV.out.only h) (HT.out.below h.nil_below) hL)
  clear hc hL HB HR
  by_cases hc0 : c = 0
  rotate_left
  · have hcb : (c != 0) = true := bne_iff_ne.2 hc0
    go_wp2_with (go_at_call 12; refine (HCK.out w3 HS3.out).mono ?_; rintro e w4 ⟨rfl, h4⟩; have HS4 := Lib.hid (HS3.out.trans h4); clear h4)
    go_ret
    exact ⟨rfl, HS4.out.nil_below⟩
  subst hc0
  go_wp2_with (go_at_call 12; refine (HCK.out w3 HS3.out).mono ?_; rintro e w4 ⟨rfl, h4⟩; have HS4 := Lib.hid (HS3.out.trans h4); clear h4; refine (fun (h : Hid _) => h.out) ?_)
  refine Lib.hid ?_
  clear HCK HS3
  have HG := Lib.hid ((good_iff l0).1 HC.out)
  have HFM := Lib.hid (few_mem HFB.out)
  clear HC HFB
  go_wp2
  go_loopw [0, 10, 11, 12, 13, 14, 15, 16] (fun v0 v8 _ _ _ _ _ _ wr => ∃ (i : Nat) (A : Option Addr) (c : Nat) (l : List S25), v8 = .int .i64 i ∧ v0 = .slice A l.length c ∧ i ≤ ops.length ∧ Hid (VAt wr A c l) ∧ Hid (Lite l) ∧ Hid (Good l) ∧ Hid (Only [] w wr)) (fun _ v8 _ _ _ _ _ _ _ => ops.length - (intOf v8).toNat)
  case atStart => exact ⟨0, A0, c0, l0, rfl, rfl, by omega, Lib.hid (HV.out.only HS4.out), HL, HG, HS4⟩
  case round =>
    obtain ⟨i, A, c, l, rfl, rfl, hi, HV1, HL1, HG1, HS⟩ := hrel
    clear HS4 HV HL HG
    by_cases hlt : i < ops.length
    rotate_left
    · have hlt' : (ops.length : Int) ≤ i := by omega
      go_wp2
      go_ret
      exact ⟨rfl, HS.out.nil_below⟩
    have hlt' : (i : Int) < ops.length := by omega
    have hi0 : (0 : Int) ≤ i := by omega
    have hi60 : (i : Int) ≤ 60 := by have := HFM.out.1; omega
    obtain ⟨o, ho⟩ : ∃ o, ops[i]? = some o := ⟨_, List.getElem?_eq_getElem hlt⟩
    obtain ⟨ad, rfl, hcs⟩ := HO.out.elem ho
    have hos := HFM.out.2 o (List.mem_of_getElem? ho)
    have hstep := step_ok HL1.out HG1.out o (by omega)
    have hsb := ofM_bound HG1.out lot
    have HLN := Lib.hid HL1.out.len
    have HSU := Lib.hid (of_c HV1.out HL1.out HG1.out lot)
    have HDN := Lib.hid (fun (W : World) (h : Only [] wr W) => done_c (HV1.out.only h) (HT.out.below (HS.out.trans h).nil_below) HL1.out o (by omega))
    generalize doneM l o = D at *
    obtain ⟨m, n, out, e⟩ := D
    obtain ⟨kd, na, nb, nl, ng⟩ := o
    obtain ⟨z1, z2, ⟨z3, z4⟩, z5, z6, z7, z8, z9, z10⟩ := hstep
    dsimp only at HDN z1 z2 z3 z4 z5 z6 z7 z8 z9 hcs
    have hzo := z10 lot
    dsimp only at hzo
    have hsm := ofM_bound z2 lot
    have HLM := Lib.hid z1
    have HGM := Lib.hid z2
    have HLE := Lib.hid z3
    have HSAME := Lib.hid z4
    have HZO := Lib.hid hzo
    have HPOS := Lib.hid z6
    have HOUT := Lib.hid z9
    have HCS := Lib.hid (show ∀ W, Only [] w W → CellsAt W (ad.add (i * 5)) [.int .i64 kd, .string na, .string nb, .string nl, .int .i64 ng] from fun W h => hcs.only h (by simp))
    clear z1 z2 z3 z4 z5 z6 z7 z9 z10 hcs hos ho hzo
    obtain ⟨n8, n9⟩ := z8
    obtain ⟨s0, s1⟩ := hsb
    obtain ⟨s2, s3⟩ := hsm
    generalize hsl : ofM lot l = s at *
    have HSL := Lib.hid hsl
    clear hsl
    have hs6 : s ≤ 6755399441055744 := s1
    rw [HLE.out] at HDN
    go_wp2_with (go_at_call 30; refine HSU.out.mono ?_; rintro e5 w5 ⟨rfl, h5⟩; have HS5 := Lib.hid h5; clear h5; refine (fun (h : Hid _) => h.out) ?_)
    refine Lib.hid ?_
    clear HSU
    go_wp2_with (first
      | (with_reducible refine wpList_load_at rfl 41 (.tmp 56) rfl (ad.add (i * 5)) rfl _ _ (HCS.out w5 (HS.out.trans HS5.out)) Tryd.underlying41 rfl (by kernel_rfl) ?_)
      | (go_at_call 29; refine (HDN.out w5 HS5.out).mono ?_; rintro e6 w6 ⟨B, d, C, q, rfl, hV, hO, h6⟩; have HS6 := Lib.hid (HS5.out.trans h6); have HVM := Lib.hid hV; have HOM := Lib.hid hO; clear h6 hV hO; refine (fun (h : Hid _) => h.out) ?_))
    refine Lib.hid ?_
    clear HDN HS5
    have HSU := Lib.hid (show ∀ W, Only [] w6 W → Calls Tryd.prog 30 #[.slice B l.length d, .string lot] W fun e w' => e = .returned (.int .i64 (ofM lot m)) ∧ Only [] W w' from fun W h => by
      have := of_c (HVM.out.only h) HLM.out HGM.out lot
      rw [HLE.out] at this
      exact this)
    replace HS := Lib.hid (HS.out.trans HS6.out)
    clear HV1
    have m0 := cell_f0 (HCS.out w6 HS.out) rfl
    have m3 := cell_fj (HCS.out w6 HS.out) 3 (by omega) rfl
    by_cases he : e = 0
    · subst he
      by_cases hk1 : kd = 0
      · subst hk1
        by_cases hnl : nl = lot
        · replace hnl := hnl.symm
          subst hnl
          as_aux_lemma =>
            have HZ : Hid (ofM lot m = (s + n) - ofL lot out) := Lib.hid (by have h := HZO.out; rw [if_pos ⟨rfl, rfl, rfl⟩] at h; exact h)
            clear HZO
            have q1 : -1125899906842624 ≤ (s + n) := by omega
            have q2 : (s + n) ≤ 11258999068426240 := by omega
            go_wp2
            go_loopw [11, 16] (fun v11 v16 w2 => ∃ (j : Nat) (g : Int), v16 = .int .i64 j ∧ v11 = .int .i64 g ∧ j ≤ out.length ∧ Hid (g = (s + n) - sumF (ofY lot) (out.take j)) ∧ Hid (Only [] w6 w2)) (fun _ v16 _ => out.length - (intOf v16).toNat)
            case atStart => exact ⟨0, (s + n), rfl, by go_num, by omega, Lib.hid (by show (s + n) = (s + n) - 0; omega), Lib.hid (Only.refl _ _)⟩
            case round =>
              obtain ⟨j, g, rfl, rfl, hj, HGG, HW⟩ := hrel
              clear m0 m3
              by_cases hjt : j < out.length
              · have hjt' : (j : Int) < out.length := by omega
                have hj0 : (0 : Int) ≤ j := by omega
                have hj60 : (j : Int) ≤ 60 := by have := HOUT.out.1; omega
                obtain ⟨y, hy⟩ : ∃ y, out[j]? = some y := ⟨_, List.getElem?_eq_getElem hjt⟩
                obtain ⟨ad2, rfl, hcs⟩ := HOM.out.elem hy
                have hyb := HOUT.out.2.1 y (List.mem_of_getElem? hy)
                have hgb := sumF_le (ofY lot) 1125899906842624 (by decide) (out.take j) (fun x hx => by have := HOUT.out.2.1 x (List.mem_of_mem_take hx); unfold ofY; split <;> omega)
                rw [List.length_take, Nat.min_eq_left hj] at hgb
                have HNX := Lib.hid (take_next (ofY lot) hy)
                have g9 : g ≤ 67553994410557440 := by have := HGG.out; omega
                have g0 : -78812993478983680 ≤ g := by have := HGG.out; omega
                obtain ⟨yn, yg⟩ := y
                have n0 := cell_f0 (hcs.only HW.out (by simp)) rfl
                have n1 := cell_fj (hcs.only HW.out (by simp)) 1 (by omega) rfl
                have y0 : 0 ≤ yg := hyb.1
                have y9 : yg ≤ 1125899906842624 := hyb.2
                clear hcs hyb hgb hy
                by_cases hyl : yn = lot
                · replace hyl := hyl.symm
                  subst hyl
                  go_wp2
                  go_roundw
                  case rel =>
                    have e : ofY lot ⟨lot, yg⟩ = yg := if_pos rfl
                    have h := HGG.out
                    have h2 := HNX.out
                    exact ⟨j + 1, g - yg, by go_num, rfl, by omega, Lib.hid (by omega), HW⟩
                  case measure => simp [intOf]; omega
                · have hqc : (yn.toList == lot.toList) = false := by rw [bytes_beq, decide_eq_false hyl]
                  have HYL := Lib.hid hyl
                  clear hyl
                  go_wp2
                  go_roundw
                  case rel =>
                    have e : ofY lot ⟨yn, yg⟩ = 0 := if_neg HYL.out
                    have h := HGG.out
                    have h2 := HNX.out
                    exact ⟨j + 1, g, by go_num, rfl, by omega, Lib.hid (by omega), HW⟩
                  case measure => simp [intOf]; omega
              · have hjt' : (out.length : Int) ≤ j := by omega
                have hg := HGG.out
                rw [List.take_of_length_le (by omega)] at hg
                have hg2 : g = ofM lot m := by rw [HZ.out, hg]; rfl
                have HSU2 := Lib.hid (HSU.out wr HW.out)
                rw [← hg2] at HSU2
                clear HSU hg hg2 HGG HZ
                go_wp2_with (go_at_call 30; refine HSU2.out.mono ?_; rintro e9 w9 ⟨rfl, h9⟩; have HS9 := Lib.hid (HW.out.trans h9); clear h9; refine (fun (h : Hid _) => h.out) ?_)
                refine Lib.hid ?_
                clear HSU2
                go_wp2
                go_roundw
                case rel => exact ⟨i + 1, B, d, m, by go_num, by rw [HLE.out], by omega, Lib.hid (HVM.out.only HS9.out), HLM, HGM, Lib.hid (HS.out.trans HS9.out)⟩
                case measure => simp [intOf]; omega
        · have hqn : (nl.toList == lot.toList) = false := by rw [bytes_beq, decide_eq_false hnl]
          as_aux_lemma =>
            have HZ : Hid (ofM lot m = s - ofL lot out) := Lib.hid (by have h := HZO.out; rw [if_neg (fun h => hnl h.2.2), Int.add_zero] at h; exact h)
            clear HZO
            have q1 : -1125899906842624 ≤ s := by omega
            have q2 : s ≤ 11258999068426240 := by omega
            go_wp2
            go_loopw [11, 16] (fun v11 v16 w2 => ∃ (j : Nat) (g : Int), v16 = .int .i64 j ∧ v11 = .int .i64 g ∧ j ≤ out.length ∧ Hid (g = s - sumF (ofY lot) (out.take j)) ∧ Hid (Only [] w6 w2)) (fun _ v16 _ => out.length - (intOf v16).toNat)
            case atStart => exact ⟨0, s, rfl, by go_num, by omega, Lib.hid (by show s = s - 0; omega), Lib.hid (Only.refl _ _)⟩
            case round =>
              obtain ⟨j, g, rfl, rfl, hj, HGG, HW⟩ := hrel
              clear m0 m3
              by_cases hjt : j < out.length
              · have hjt' : (j : Int) < out.length := by omega
                have hj0 : (0 : Int) ≤ j := by omega
                have hj60 : (j : Int) ≤ 60 := by have := HOUT.out.1; omega
                obtain ⟨y, hy⟩ : ∃ y, out[j]? = some y := ⟨_, List.getElem?_eq_getElem hjt⟩
                obtain ⟨ad2, rfl, hcs⟩ := HOM.out.elem hy
                have hyb := HOUT.out.2.1 y (List.mem_of_getElem? hy)
                have hgb := sumF_le (ofY lot) 1125899906842624 (by decide) (out.take j) (fun x hx => by have := HOUT.out.2.1 x (List.mem_of_mem_take hx); unfold ofY; split <;> omega)
                rw [List.length_take, Nat.min_eq_left hj] at hgb
                have HNX := Lib.hid (take_next (ofY lot) hy)
                have g9 : g ≤ 67553994410557440 := by have := HGG.out; omega
                have g0 : -78812993478983680 ≤ g := by have := HGG.out; omega
                obtain ⟨yn, yg⟩ := y
                have n0 := cell_f0 (hcs.only HW.out (by simp)) rfl
                have n1 := cell_fj (hcs.only HW.out (by simp)) 1 (by omega) rfl
                have y0 : 0 ≤ yg := hyb.1
                have y9 : yg ≤ 1125899906842624 := hyb.2
                clear hcs hyb hgb hy
                by_cases hyl : yn = lot
                · replace hyl := hyl.symm
                  subst hyl
                  go_wp2
                  go_roundw
                  case rel =>
                    have e : ofY lot ⟨lot, yg⟩ = yg := if_pos rfl
                    have h := HGG.out
                    have h2 := HNX.out
                    exact ⟨j + 1, g - yg, by go_num, rfl, by omega, Lib.hid (by omega), HW⟩
                  case measure => simp [intOf]; omega
                · have hqc : (yn.toList == lot.toList) = false := by rw [bytes_beq, decide_eq_false hyl]
                  have HYL := Lib.hid hyl
                  clear hyl
                  go_wp2
                  go_roundw
                  case rel =>
                    have e : ofY lot ⟨yn, yg⟩ = 0 := if_neg HYL.out
                    have h := HGG.out
                    have h2 := HNX.out
                    exact ⟨j + 1, g, by go_num, rfl, by omega, Lib.hid (by omega), HW⟩
                  case measure => simp [intOf]; omega
              · have hjt' : (out.length : Int) ≤ j := by omega
                have hg := HGG.out
                rw [List.take_of_length_le (by omega)] at hg
                have hg2 : g = ofM lot m := by rw [HZ.out, hg]; rfl
                have HSU2 := Lib.hid (HSU.out wr HW.out)
                rw [← hg2] at HSU2
                clear HSU hg hg2 HGG HZ
                go_wp2_with (go_at_call 30; refine HSU2.out.mono ?_; rintro e9 w9 ⟨rfl, h9⟩; have HS9 := Lib.hid (HW.out.trans h9); clear h9; refine (fun (h : Hid _) => h.out) ?_)
                refine Lib.hid ?_
                clear HSU2
                go_wp2
                go_roundw
                case rel => exact ⟨i + 1, B, d, m, by go_num, by rw [HLE.out], by omega, Lib.hid (HVM.out.only HS9.out), HLM, HGM, Lib.hid (HS.out.trans HS9.out)⟩
                case measure => simp [intOf]; omega
      · have hkb : (kd == 0) = false := beq_eq_false_iff_ne.2 hk1
        as_aux_lemma =>
          have HZ : Hid (ofM lot m = s - ofL lot out) := Lib.hid (by have h := HZO.out; rw [if_neg (fun h => hk1 h.2.1), Int.add_zero] at h; exact h)
          clear HZO
          have q1 : -1125899906842624 ≤ s := by omega
          have q2 : s ≤ 11258999068426240 := by omega
          go_wp2
          go_loopw [11, 16] (fun v11 v16 w2 => ∃ (j : Nat) (g : Int), v16 = .int .i64 j ∧ v11 = .int .i64 g ∧ j ≤ out.length ∧ Hid (g = s - sumF (ofY lot) (out.take j)) ∧ Hid (Only [] w6 w2)) (fun _ v16 _ => out.length - (intOf v16).toNat)
          case atStart => exact ⟨0, s, rfl, by go_num, by omega, Lib.hid (by show s = s - 0; omega), Lib.hid (Only.refl _ _)⟩
          case round =>
            obtain ⟨j, g, rfl, rfl, hj, HGG, HW⟩ := hrel
            clear m0 m3
            by_cases hjt : j < out.length
            · have hjt' : (j : Int) < out.length := by omega
              have hj0 : (0 : Int) ≤ j := by omega
              have hj60 : (j : Int) ≤ 60 := by have := HOUT.out.1; omega
              obtain ⟨y, hy⟩ : ∃ y, out[j]? = some y := ⟨_, List.getElem?_eq_getElem hjt⟩
              obtain ⟨ad2, rfl, hcs⟩ := HOM.out.elem hy
              have hyb := HOUT.out.2.1 y (List.mem_of_getElem? hy)
              have hgb := sumF_le (ofY lot) 1125899906842624 (by decide) (out.take j) (fun x hx => by have := HOUT.out.2.1 x (List.mem_of_mem_take hx); unfold ofY; split <;> omega)
              rw [List.length_take, Nat.min_eq_left hj] at hgb
              have HNX := Lib.hid (take_next (ofY lot) hy)
              have g9 : g ≤ 67553994410557440 := by have := HGG.out; omega
              have g0 : -78812993478983680 ≤ g := by have := HGG.out; omega
              obtain ⟨yn, yg⟩ := y
              have n0 := cell_f0 (hcs.only HW.out (by simp)) rfl
              have n1 := cell_fj (hcs.only HW.out (by simp)) 1 (by omega) rfl
              have y0 : 0 ≤ yg := hyb.1
              have y9 : yg ≤ 1125899906842624 := hyb.2
              clear hcs hyb hgb hy
              by_cases hyl : yn = lot
              · replace hyl := hyl.symm
                subst hyl
                go_wp2
                go_roundw
                case rel =>
                  have e : ofY lot ⟨lot, yg⟩ = yg := if_pos rfl
                  have h := HGG.out
                  have h2 := HNX.out
                  exact ⟨j + 1, g - yg, by go_num, rfl, by omega, Lib.hid (by omega), HW⟩
                case measure => simp [intOf]; omega
              · have hqc : (yn.toList == lot.toList) = false := by rw [bytes_beq, decide_eq_false hyl]
                have HYL := Lib.hid hyl
                clear hyl
                go_wp2
                go_roundw
                case rel =>
                  have e : ofY lot ⟨yn, yg⟩ = 0 := if_neg HYL.out
                  have h := HGG.out
                  have h2 := HNX.out
                  exact ⟨j + 1, g, by go_num, rfl, by omega, Lib.hid (by omega), HW⟩
                case measure => simp [intOf]; omega
            · have hjt' : (out.length : Int) ≤ j := by omega
              have hg := HGG.out
              rw [List.take_of_length_le (by omega)] at hg
              have hg2 : g = ofM lot m := by rw [HZ.out, hg]; rfl
              have HSU2 := Lib.hid (HSU.out wr HW.out)
              rw [← hg2] at HSU2
              clear HSU hg hg2 HGG HZ
              go_wp2_with (go_at_call 30; refine HSU2.out.mono ?_; rintro e9 w9 ⟨rfl, h9⟩; have HS9 := Lib.hid (HW.out.trans h9); clear h9; refine (fun (h : Hid _) => h.out) ?_)
              refine Lib.hid ?_
              clear HSU2
              go_wp2
              go_roundw
              case rel => exact ⟨i + 1, B, d, m, by go_num, by rw [HLE.out], by omega, Lib.hid (HVM.out.only HS9.out), HLM, HGM, Lib.hid (HS.out.trans HS9.out)⟩
              case measure => simp [intOf]; omega
    · have heb : (e == 0) = false := beq_eq_false_iff_ne.2 he
      as_aux_lemma =>
        have HZ : Hid (ofM lot m = s - ofL lot out) := Lib.hid (by have h := HZO.out; rw [if_neg (fun h => he h.1), Int.add_zero] at h; exact h)
        clear HZO
        have q1 : -1125899906842624 ≤ s := by omega
        have q2 : s ≤ 11258999068426240 := by omega
        go_wp2
        go_loopw [11, 16] (fun v11 v16 w2 => ∃ (j : Nat) (g : Int), v16 = .int .i64 j ∧ v11 = .int .i64 g ∧ j ≤ out.length ∧ Hid (g = s - sumF (ofY lot) (out.take j)) ∧ Hid (Only [] w6 w2)) (fun _ v16 _ => out.length - (intOf v16).toNat)
        case atStart => exact ⟨0, s, rfl, by go_num, by omega, Lib.hid (by show s = s - 0; omega), Lib.hid (Only.refl _ _)⟩
        case round =>
          obtain ⟨j, g, rfl, rfl, hj, HGG, HW⟩ := hrel
          clear m0 m3
          by_cases hjt : j < out.length
          · have hjt' : (j : Int) < out.length := by omega
            have hj0 : (0 : Int) ≤ j := by omega
            have hj60 : (j : Int) ≤ 60 := by have := HOUT.out.1; omega
            obtain ⟨y, hy⟩ : ∃ y, out[j]? = some y := ⟨_, List.getElem?_eq_getElem hjt⟩
            obtain ⟨ad2, rfl, hcs⟩ := HOM.out.elem hy
            have hyb := HOUT.out.2.1 y (List.mem_of_getElem? hy)
            have hgb := sumF_le (ofY lot) 1125899906842624 (by decide) (out.take j) (fun x hx => by have := HOUT.out.2.1 x (List.mem_of_mem_take hx); unfold ofY; split <;> omega)
            rw [List.length_take, Nat.min_eq_left hj] at hgb
            have HNX := Lib.hid (take_next (ofY lot) hy)
            have g9 : g ≤ 67553994410557440 := by have := HGG.out; omega
            have g0 : -78812993478983680 ≤ g := by have := HGG.out; omega
            obtain ⟨yn, yg⟩ := y
            have n0 := cell_f0 (hcs.only HW.out (by simp)) rfl
            have n1 := cell_fj (hcs.only HW.out (by simp)) 1 (by omega) rfl
            have y0 : 0 ≤ yg := hyb.1
            have y9 : yg ≤ 1125899906842624 := hyb.2
            clear hcs hyb hgb hy
            by_cases hyl : yn = lot
            · replace hyl := hyl.symm
              subst hyl
              go_wp2
              go_roundw
              case rel =>
                have e : ofY lot ⟨lot, yg⟩ = yg := if_pos rfl
                have h := HGG.out
                have h2 := HNX.out
                exact ⟨j + 1, g - yg, by go_num, rfl, by omega, Lib.hid (by omega), HW⟩
              case measure => simp [intOf]; omega
            · have hqc : (yn.toList == lot.toList) = false := by rw [bytes_beq, decide_eq_false hyl]
              have HYL := Lib.hid hyl
              clear hyl
              go_wp2
              go_roundw
              case rel =>
                have e : ofY lot ⟨yn, yg⟩ = 0 := if_neg HYL.out
                have h := HGG.out
                have h2 := HNX.out
                exact ⟨j + 1, g, by go_num, rfl, by omega, Lib.hid (by omega), HW⟩
              case measure => simp [intOf]; omega
          · have hjt' : (out.length : Int) ≤ j := by omega
            have hg := HGG.out
            rw [List.take_of_length_le (by omega)] at hg
            have hg2 : g = ofM lot m := by rw [HZ.out, hg]; rfl
            have HSU2 := Lib.hid (HSU.out wr HW.out)
            rw [← hg2] at HSU2
            clear HSU hg hg2 HGG HZ
            go_wp2_with (go_at_call 30; refine HSU2.out.mono ?_; rintro e9 w9 ⟨rfl, h9⟩; have HS9 := Lib.hid (HW.out.trans h9); clear h9; refine (fun (h : Hid _) => h.out) ?_)
            refine Lib.hid ?_
            clear HSU2
            go_wp2
            go_roundw
            case rel => exact ⟨i + 1, B, d, m, by go_num, by rw [HLE.out], by omega, Lib.hid (HVM.out.only HS9.out), HLM, HGM, Lib.hid (HS.out.trans HS9.out)⟩
            case measure => simp [intOf]; omega
end Go.Proofs.YtejecmjajdhiiaaDoor.Print
/-! ### LgWalkB -/
namespace Go.Proofs.YtejecmjajdhiiaaDoor.Print
open Go.RowKit Go.Proofs.YtejecmjajdhiiaaDoorW.PrintWords Go.Proofs.YtejecmjajdhiiaaDoorW.PrintLast Go.Proofs.YtejecmjajdhiiaaDoorW.PrintMore
set_option linter.unusedVariables false
theorem vess_at {A0 : Option Addr} {cap0 : Nat} {y0 : List VesR} {w : World} (hl0 : y0.length ≤ cap0) (hb0 : cap0 * 48 ≤ 140737488351232) (hr0 : rdRow 3 rVes w A0 y0) : VAt w A0 cap0 (y0.map gVes) := ⟨by simpa using hl0, C_vesr (by omega) hr0⟩
end Go.Proofs.YtejecmjajdhiiaaDoor.Print
/-! ### LgWalkC -/
namespace Go.Proofs.YtejecmjajdhiiaaDoor.Print
open Go.RowKit Go.Proofs.YtejecmjajdhiiaaDoorW.PrintWords Go.Proofs.YtejecmjajdhiiaaDoorW.PrintLast Go.Proofs.YtejecmjajdhiiaaDoorW.PrintMore
set_option linter.unusedVariables false
theorem ledgerKeeps_walk (A0 : Option Addr) (cap0 : Nat) (y0 : List VesR) (A1 : Option Addr) (cap1 : Nat) (y1 : List OpR) (w : World) (hl0 : y0.length ≤ cap0) (hb0 : cap0 * 48 ≤ 140737488351232) (hr0 : rdRow 3 rVes w A0 y0) (hl1 : y1.length ≤ cap1) (hb1 : cap1 * 64 ≤ 140737488351232) (hr1 : rdRow 5 rOp w A1 y1) (hT : Tabs w) :
    Calls Tryd.prog 6 #[.slice A0 y0.length cap0, .slice A1 y1.length cap1] w fun e w' => e = .returned (.bool true) ∧ Below w.heap.size w w' := by
  have h := keeps_any A0 cap0 (y0.map gVes) A1 cap1 (y1.map gOp) w (vess_at hl0 hb0 hr0) (ops_at hl1 hb1 hr1) hT (ves_range hr0)
  rw [List.length_map, List.length_map] at h
  exact h
theorem ledgerLots_walk (A0 : Option Addr) (cap0 : Nat) (y0 : List VesR) (A1 : Option Addr) (cap1 : Nat) (y1 : List OpR) (a2 : ByteArray) (w : World) (hl0 : y0.length ≤ cap0) (hb0 : cap0 * 48 ≤ 140737488351232) (hr0 : rdRow 3 rVes w A0 y0) (hl1 : y1.length ≤ cap1) (hb1 : cap1 * 64 ≤ 140737488351232) (hr1 : rdRow 5 rOp w A1 y1) (w2 : a2.size ≤ 140737488351232) (hT : Tabs w) :
    Calls Tryd.prog 7 #[.slice A0 y0.length cap0, .slice A1 y1.length cap1, .string a2] w fun e w' => e = .returned (.bool true) ∧ Below w.heap.size w w' := by
  have h := lots_any A0 cap0 (y0.map gVes) A1 cap1 (y1.map gOp) a2 w (vess_at hl0 hb0 hr0) (ops_at hl1 hb1 hr1) hT (ves_range hr0)
  rw [List.length_map, List.length_map] at h
  exact h
end Go.Proofs.YtejecmjajdhiiaaDoor.Print
/-! ### LedgerKeepsRow -/
namespace Go.Proofs.YtejecmjajdhiiaaDoor.ledgerKeeps
open Go.ChangeShapes Go.WideShapes Go.ChangeAt Go.RowKit Go.Shelf Go.Lib Go.Proofs.YtejecmjajdhiiaaDoor.Print
open Go.ChangeMaps (open_string shut_string)
set_option linter.unusedVariables false
set_option linter.unusedSimpArgs false
theorem own : ownKnob Tryd.prog.godebug = none := by kernel_rfl
theorem laidOut : laidOutB Tryd.prog = true := by kernel_rfl
set_option maxRecDepth 100000 in
theorem lifted (os : Os) (started : os.Started) (H : Type) (enc : TypeId × Value → H) :
    ReturnsInHanded {} Tryd.checked os 6 .any (fun w args => (Rows.ledgerKeepsSpec.pre enc Tryd.prog Tryd.f6 [] false w args ∧ laidMetH Tryd.prog Rows.ledgerKeepsRow.laid w) ∧ sizedMet enc Tryd.prog Tryd.f6 (OpenSpec.ofChange Rows.ledgerKeepsSpec) false w args) (Rows.ledgerKeepsSpec.post enc Tryd.prog Tryd.f6 false true false false) := by
  refine returnsInHanded_of_change_and (C := Tryd.checked) (X := fun w _ => laidMetH Tryd.prog Rows.ledgerKeepsRow.laid w) (fun _ _ _ hh h => h.of_heap hh) own started (by kernel_rfl) Tryd.func6
    (ChangeSpec.witness_shaped (enc := enc) (C := Tryd.checked) (os := os) (X := fun w _ => laidMetH Tryd.prog Rows.ledgerKeepsRow.laid w) false (World.laidAll Tryd.prog os Rows.ledgerKeepsRow.laid) #[.slice none 0 0, .slice none 0 0] 8 (World.laidAll_os _ _ _)
      (World.shaped_of_ZipB (by kernel_rfl) (by kernel_rfl)) (by kernel_rfl) (by kernel_rfl) (by kernel_rfl)
      (by rw [MakeChecks.laidMetH_plain _ _ _ (by kernel_rfl)]; exact laidMet_laidAll _ (by kernel_rfl) (by kernel_rfl))) ?_
  intro W base args ds gs before hval0 hW hcnd hsz0 hL0 _
  have hL : laidMet Tryd.prog Rows.ledgerKeepsRow.laid W := by
    have h := hL0
    rw [MakeChecks.laidMetH_plain _ _ _ (by kernel_rfl)] at h
    exact h
  have hT : Tabs W := utf8Tabs_of_readsT (U8Types.of196 Tryd.laysValid) ⟨by kernel_rfl, by kernel_rfl, by kernel_rfl, by kernel_rfl, by kernel_rfl, by kernel_rfl, by kernel_rfl⟩ (Pinned.utf8First_eq ▸ Lib.laidMet.reads hL (.tail _ (.head _))) ((show Rows.laid_unicode_utf8_acceptRanges = acceptData from rfl) ▸ Lib.laidMet.reads hL (.head _))
  have hsz : (DataW.weightsEach Tryd.prog (Tryd.f6.params.toList ++ Rows.ledgerKeepsSpec.plain.varTypes Tryd.prog) (ds ++ gs)).all (· ≤ reachBytes) = true := hsz0
  have hval : ∀ (j : Nat) t v, Tryd.f6.params[j]? = some t → args[j]? = some v → Value.okWide Tryd.prog W .any base t v := hval0
  have hW' := hW
  obtain ⟨p, q, hA0, hV, rfl, hfz, hnd⟩ := hW
  have hA : DataW.TrodAll enc Tryd.prog W 0 (fun _ => true) true Tryd.f6.params.toList args.toList ds p := hA0
  rw [Tryd.params6] at hA hval hsz
  obtain ⟨v0, vs0, d0, ds0, p0, q0, hargs, rfl, rfl, h0, r0⟩ := trodAll_cons hA
  obtain ⟨v1, vs1, d1, ds1, p1, q1, rfl, rfl, rfl, h1, r1⟩ := trodAll_cons r0
  obtain ⟨rfl, rfl, rfl⟩ := trodAll_nil r1
  obtain rfl : args = #[v0, v1] := by cases args; simp_all
  obtain ⟨rfl, rfl⟩ := trodVars_none hV
  have k0 := h0
  have lt0 : ∀ x ∈ p0, x.block < W.heap.size := by obtain ⟨m, hm⟩ := k0; exact DataW.trod_lt m _ _ _ hm
  obtain ⟨y0, r0_⟩ := opens_arg (vess_opens enc W) h0 (weights_each hsz (j := 0) (t := 22) rfl rfl)
  obtain ⟨A0, len0, cap0, rfl⟩ := okWide_slice Tryd.underlying22 (hval 0 22 v0 rfl rfl)
  obtain ⟨A0_, cap0_, e0, hl0, hb0, hm0, hr0⟩ := r0_
  simp only [Value.cells, List.cons.injEq, Value.slice.injEq, and_true] at e0
  obtain ⟨rfl, rfl, rfl⟩ := e0
  have k1 := h1
  have lt1 : ∀ x ∈ p1, x.block < W.heap.size := by obtain ⟨m, hm⟩ := k1; exact DataW.trod_lt m _ _ _ hm
  obtain ⟨y1, r1_⟩ := opens_arg (ops_opens enc W) h1 (weights_each hsz (j := 1) (t := 47) rfl rfl)
  obtain ⟨A1, len1, cap1, rfl⟩ := okWide_slice Tryd.underlying47 (hval 1 47 v1 rfl rfl)
  obtain ⟨A1_, cap1_, e1, hl1, hb1, hm1, hr1⟩ := r1_
  simp only [Value.cells, List.cons.injEq, Value.slice.injEq, and_true] at e1
  obtain ⟨rfl, rfl, rfl⟩ := e1
  clear hA0 hval0 hsz0 hsz
  refine (ledgerKeeps_walk A0 cap0 y0 A1 cap1 y1 W hl0 hb0 hr0 hl1 hb1 hr1 hT).mono fun e W' ⟨he, bel⟩ => ?_
  subst he
  exact ⟨_, rfl, _, _, _, [], _, [], hW', trodAll_mk1 (shut_bool Tryd.underlying4 _), (trodAll_cons_mk (Below.trod laidOut (by kernel_rfl) (of_decide_eq_true (by kernel_rfl)) k0 bel lt0) (trodAll_cons_mk (Below.trod laidOut (by kernel_rfl) (of_decide_eq_true (by kernel_rfl)) k1 bel lt1) trodAll_mk0)), rfl, bel.frame _, fun h => by cases h⟩
theorem over : Rows.ledgerKeepsRow.holds Tryd.pinned (OpenSpec.ofChange Rows.ledgerKeepsSpec) :=
  OpenClaim.holds_of_wide 6 Tryd.f6 rfl rfl rfl rfl rfl rfl rfl ⟨rfl, rfl, rfl, rfl, rfl⟩ rfl rfl rfl rfl rfl (by kernel_rfl) Tryd.func6 (by kernel_rfl)
    (of_decide_eq_true (by kernel_rfl)) (by unfold Func.isWrapper; first | (rw [if_pos (by decide +kernel)]; kernel_rfl) | (rw [if_neg (by decide +kernel)]; exact ⟨rfl, rfl⟩))
    (fun os started H enc _ => lifted os started H enc)
theorem card_holds : Claim7.holds Tryd.pinned (.plain (OpenSpec.ofChange Rows.ledgerKeepsSpec)) Rows.ledgerKeepsCard :=
  Claim7.holds_tied_plain_at .later [] [.data, .pinned] true (true, "1e2c74985228763f400c529450084ef6c0ff92b2eeb5cdba4427b354947f12d5") false over (fun _ h => by cases h) (by kernel_rfl) (fun _ h => by cases h) ledgerKeeps_row_tie rfl ⟨rfl, rfl⟩ (by kernel_rfl) rfl
    (fun f fn hf hfn => by
      obtain rfl : f = 6 := Option.some.inj ((show Tryd.prog.funcNamed "malthouse/malthouselaw13.LedgerKeeps" = some 6 by kernel_rfl).symm.trans hf) |>.symm
      obtain rfl : fn = Tryd.f6 := (Option.some.inj (Tryd.func6.symm.trans hfn)).symm
      exact ⟨by kernel_rfl, fun j t ht => by
        rw [Tryd.params6] at ht
        have hm : t ∈ [22, 47] := by simpa using Array.mem_of_getElem? ht
        have hall : ([22, 47].all fun u => !Tryd.prog.wantsStandIn u) = true := by kernel_rfl
        exact (show Tryd.prog.wantsStandIn t = false by simpa using List.all_eq_true.1 hall t hm)⟩)
    (by kernel_rfl)
theorem proved : Rows.LedgerKeepsCardSaid := card_holds
#print axioms proved
end Go.Proofs.YtejecmjajdhiiaaDoor.ledgerKeeps
namespace Go.Proofs.YtejecmjajdhiiaaDoor
/-- The card, under a short name, for the claim. -/
theorem ledgerKeeps_holds : Rows.LedgerKeepsCardSaid := ledgerKeeps.proved
end Go.Proofs.YtejecmjajdhiiaaDoor
/-! ### LedgerLotsRow -/
namespace Go.Proofs.YtejecmjajdhiiaaDoor.ledgerLots
open Go.ChangeShapes Go.WideShapes Go.ChangeAt Go.RowKit Go.Shelf Go.Lib Go.Proofs.YtejecmjajdhiiaaDoor.Print
open Go.ChangeMaps (open_string shut_string)
set_option linter.unusedVariables false
set_option linter.unusedSimpArgs false
theorem own : ownKnob Tryd.prog.godebug = none := by kernel_rfl
theorem laidOut : laidOutB Tryd.prog = true := by kernel_rfl
set_option maxRecDepth 100000 in
theorem lifted (os : Os) (started : os.Started) (H : Type) (enc : TypeId × Value → H) :
    ReturnsInHanded {} Tryd.checked os 7 .any (fun w args => (Rows.ledgerLotsSpec.pre enc Tryd.prog Tryd.f7 [] false w args ∧ laidMetH Tryd.prog Rows.ledgerLotsRow.laid w) ∧ sizedMet enc Tryd.prog Tryd.f7 (OpenSpec.ofChange Rows.ledgerLotsSpec) false w args) (Rows.ledgerLotsSpec.post enc Tryd.prog Tryd.f7 false true false false) := by
  refine returnsInHanded_of_change_and (C := Tryd.checked) (X := fun w _ => laidMetH Tryd.prog Rows.ledgerLotsRow.laid w) (fun _ _ _ hh h => h.of_heap hh) own started (by kernel_rfl) Tryd.func7
    (ChangeSpec.witness_shaped (enc := enc) (C := Tryd.checked) (os := os) (X := fun w _ => laidMetH Tryd.prog Rows.ledgerLotsRow.laid w) false (World.laidAll Tryd.prog os Rows.ledgerLotsRow.laid) #[.slice none 0 0, .slice none 0 0, .string ByteArray.empty] 8 (World.laidAll_os _ _ _)
      (World.shaped_of_ZipB (by kernel_rfl) (by kernel_rfl)) (by kernel_rfl) (by kernel_rfl) (by kernel_rfl)
      (by rw [MakeChecks.laidMetH_plain _ _ _ (by kernel_rfl)]; exact laidMet_laidAll _ (by kernel_rfl) (by kernel_rfl))) ?_
  intro W base args ds gs before hval0 hW hcnd hsz0 hL0 _
  have hL : laidMet Tryd.prog Rows.ledgerLotsRow.laid W := by
    have h := hL0
    rw [MakeChecks.laidMetH_plain _ _ _ (by kernel_rfl)] at h
    exact h
  have hT : Tabs W := utf8Tabs_of_readsT (U8Types.of196 Tryd.laysValid) ⟨by kernel_rfl, by kernel_rfl, by kernel_rfl, by kernel_rfl, by kernel_rfl, by kernel_rfl, by kernel_rfl⟩ (Pinned.utf8First_eq ▸ Lib.laidMet.reads hL (.tail _ (.head _))) ((show Rows.laid_unicode_utf8_acceptRanges = acceptData from rfl) ▸ Lib.laidMet.reads hL (.head _))
  have hsz : (DataW.weightsEach Tryd.prog (Tryd.f7.params.toList ++ Rows.ledgerLotsSpec.plain.varTypes Tryd.prog) (ds ++ gs)).all (· ≤ reachBytes) = true := hsz0
  have hval : ∀ (j : Nat) t v, Tryd.f7.params[j]? = some t → args[j]? = some v → Value.okWide Tryd.prog W .any base t v := hval0
  have hW' := hW
  obtain ⟨p, q, hA0, hV, rfl, hfz, hnd⟩ := hW
  have hA : DataW.TrodAll enc Tryd.prog W 0 (fun _ => true) true Tryd.f7.params.toList args.toList ds p := hA0
  rw [Tryd.params7] at hA hval hsz
  obtain ⟨v0, vs0, d0, ds0, p0, q0, hargs, rfl, rfl, h0, r0⟩ := trodAll_cons hA
  obtain ⟨v1, vs1, d1, ds1, p1, q1, rfl, rfl, rfl, h1, r1⟩ := trodAll_cons r0
  obtain ⟨v2, vs2, d2, ds2, p2, q2, rfl, rfl, rfl, h2, r2⟩ := trodAll_cons r1
  obtain ⟨rfl, rfl, rfl⟩ := trodAll_nil r2
  obtain rfl : args = #[v0, v1, v2] := by cases args; simp_all
  obtain ⟨rfl, rfl⟩ := trodVars_none hV
  have k0 := h0
  have lt0 : ∀ x ∈ p0, x.block < W.heap.size := by obtain ⟨m, hm⟩ := k0; exact DataW.trod_lt m _ _ _ hm
  obtain ⟨y0, r0_⟩ := opens_arg (vess_opens enc W) h0 (weights_each hsz (j := 0) (t := 22) rfl rfl)
  obtain ⟨A0, len0, cap0, rfl⟩ := okWide_slice Tryd.underlying22 (hval 0 22 v0 rfl rfl)
  obtain ⟨A0_, cap0_, e0, hl0, hb0, hm0, hr0⟩ := r0_
  simp only [Value.cells, List.cons.injEq, Value.slice.injEq, and_true] at e0
  obtain ⟨rfl, rfl, rfl⟩ := e0
  have k1 := h1
  have lt1 : ∀ x ∈ p1, x.block < W.heap.size := by obtain ⟨m, hm⟩ := k1; exact DataW.trod_lt m _ _ _ hm
  obtain ⟨y1, r1_⟩ := opens_arg (ops_opens enc W) h1 (weights_each hsz (j := 1) (t := 47) rfl rfl)
  obtain ⟨A1, len1, cap1, rfl⟩ := okWide_slice Tryd.underlying47 (hval 1 47 v1 rfl rfl)
  obtain ⟨A1_, cap1_, e1, hl1, hb1, hm1, hr1⟩ := r1_
  simp only [Value.cells, List.cons.injEq, Value.slice.injEq, and_true] at e1
  obtain ⟨rfl, rfl, rfl⟩ := e1
  obtain ⟨a2, rfl, rfl, rfl, y2⟩ := open_string Tryd.underlying9 (hval 2 9 v2 rfl rfl) h2
  have w2 : a2.size ≤ 140737488351232 := by
    have z := sized_string hsz (j := 2) (t := 9) rfl rfl
    rw [Array.length_toList] at z
    exact z
  clear hA0 hval0 hsz0 hsz
  refine (ledgerLots_walk A0 cap0 y0 A1 cap1 y1 a2 W hl0 hb0 hr0 hl1 hb1 hr1 w2 hT).mono fun e W' ⟨he, bel⟩ => ?_
  subst he
  exact ⟨_, rfl, _, _, _, [], _, [], hW', trodAll_mk1 (shut_bool Tryd.underlying4 _), (trodAll_cons_mk (Below.trod laidOut (by kernel_rfl) (of_decide_eq_true (by kernel_rfl)) k0 bel lt0) (trodAll_cons_mk (Below.trod laidOut (by kernel_rfl) (of_decide_eq_true (by kernel_rfl)) k1 bel lt1) (trodAll_cons_mk (shut_string Tryd.underlying9 y2) trodAll_mk0))), rfl, bel.frame _, fun h => by cases h⟩
theorem over : Rows.ledgerLotsRow.holds Tryd.pinned (OpenSpec.ofChange Rows.ledgerLotsSpec) :=
  OpenClaim.holds_of_wide 7 Tryd.f7 rfl rfl rfl rfl rfl rfl rfl ⟨rfl, rfl, rfl, rfl, rfl⟩ rfl rfl rfl rfl rfl (by kernel_rfl) Tryd.func7 (by kernel_rfl)
    (of_decide_eq_true (by kernel_rfl)) (by unfold Func.isWrapper; first | (rw [if_pos (by decide +kernel)]; kernel_rfl) | (rw [if_neg (by decide +kernel)]; exact ⟨rfl, rfl⟩))
    (fun os started H enc _ => lifted os started H enc)
theorem card_holds : Claim7.holds Tryd.pinned (.plain (OpenSpec.ofChange Rows.ledgerLotsSpec)) Rows.ledgerLotsCard :=
  Claim7.holds_tied_plain_at .later [] [.data, .pinned] true (true, "1e2c74985228763f400c529450084ef6c0ff92b2eeb5cdba4427b354947f12d5") false over (fun _ h => by cases h) (by kernel_rfl) (fun _ h => by cases h) ledgerLots_row_tie rfl ⟨rfl, rfl⟩ (by kernel_rfl) rfl
    (fun f fn hf hfn => by
      obtain rfl : f = 7 := Option.some.inj ((show Tryd.prog.funcNamed "malthouse/malthouselaw13.LedgerLots" = some 7 by kernel_rfl).symm.trans hf) |>.symm
      obtain rfl : fn = Tryd.f7 := (Option.some.inj (Tryd.func7.symm.trans hfn)).symm
      exact ⟨by kernel_rfl, fun j t ht => by
        rw [Tryd.params7] at ht
        have hm : t ∈ [22, 47, 9] := by simpa using Array.mem_of_getElem? ht
        have hall : ([22, 47, 9].all fun u => !Tryd.prog.wantsStandIn u) = true := by kernel_rfl
        exact (show Tryd.prog.wantsStandIn t = false by simpa using List.all_eq_true.1 hall t hm)⟩)
    (by kernel_rfl)
theorem proved : Rows.LedgerLotsCardSaid := card_holds
#print axioms proved
end Go.Proofs.YtejecmjajdhiiaaDoor.ledgerLots
namespace Go.Proofs.YtejecmjajdhiiaaDoor
/-- The card, under a short name, for the claim. -/
theorem ledgerLots_holds : Rows.LedgerLotsCardSaid := ledgerLots.proved
end Go.Proofs.YtejecmjajdhiiaaDoor
/-! ### LgRef -/
namespace Go.Proofs.YtejecmjajdhiiaaDoor.Print
open Go.RowKit Go.Proofs.YtejecmjajdhiiaaDoorW.PrintWords Go.Proofs.YtejecmjajdhiiaaDoorW.PrintLast Go.Proofs.YtejecmjajdhiiaaDoorW.PrintMore
set_option linter.unusedSimpArgs false
set_option linter.unusedVariables false
/-- Names are short. -/
structure Slim (l : List S25) : Prop where
  name : ∀ x ∈ l, x.f0.size ≤ 200
  lots : ∀ x ∈ l, ∀ y ∈ x.f2, y.f0.size ≤ 200
theorem slim_of {l : List S25} (h : lightM l = true) : Slim l := by
  unfold lightM at h
  simp only [Bool.and_eq_true, decide_eq_true_eq, List.all_eq_true] at h
  refine ⟨fun x hx => ?_, fun x hx y hy => ?_⟩
  · have h2 := h.2 x hx
    unfold vesL at h2
    simp only [Bool.and_eq_true, decide_eq_true_eq, List.all_eq_true] at h2
    exact h2.1.2
  · have h2 := h.2 x hx
    unfold vesL at h2
    simp only [Bool.and_eq_true, decide_eq_true_eq, List.all_eq_true] at h2
    exact of_decide_eq_true (h2.2 y hy)
theorem refname (s : ByteArray) (hs : s.size ≤ 200) (K : Nat) (hK : 220 ≤ K) : malthouseref01_Name.f K s = some (nameB s) := by
  have := ref_name_is s (by omega) (K - s.size - 20)
  rwa [show K - s.size - 20 + s.size + 20 = K by omega] at this
theorem names_beq (a b : ByteArray) : a.toList = b.toList ↔ a = b := by
  constructor
  · intro h
    have := bytes_beq a b
    rw [h, beq_self_eq_true] at this
    exact of_decide_eq_true this.symm
  · rintro rfl
    rfl
theorem lots_loop (L : List S37) (hL : ∀ x ∈ L, x.f0.size ≤ 200) (hl : L.length ≤ 1000000) : ∀ (f i K : Nat) (left cap : Int), -9223372036854775808 ≤ cap → cap ≤ 9223372036854775807 → L.length ≤ i + f → i ≤ L.length → f + 300 ≤ K → (left = cap ∨ 0 ≤ left ∧ left ≤ cap) →
    malthouseref13_lots.l0 K L left (i : Int) = some (leftM left (prevOf L i) (L.drop i)).isSome := by
  intro f
  induction f with
  | zero =>
    intro i K left cap c1 c2 h1 h2 hK h3
    obtain ⟨K, rfl⟩ : ∃ K', K = K' + 1 := ⟨K - 1, by omega⟩
    simp only [malthouseref13_lots.l0]
    rw [if_neg (by omega), List.drop_eq_nil_of_le (by omega)]
    rfl
  | succ f ih =>
    intro i K left cap c1 c2 h1 h2 hK h3
    obtain ⟨K, rfl⟩ : ∃ K', K = K' + 1 := ⟨K - 1, by omega⟩
    simp only [malthouseref13_lots.l0]
    by_cases hi : i < L.length
    · have e : rd_T37 L (i : Int) = L[i] := getD_at L _ i hi
      rw [if_pos (by omega), if_pos (by omega), e, refname _ (hL _ (List.getElem_mem hi)) K (by omega), List.drop_eq_getElem_cons hi]
      simp only [Option.bind_some]
      obtain ⟨x, hx⟩ : ∃ x, L[i] = x := ⟨_, rfl⟩
      rw [hx]
      have hx2 : L[i]? = some x := by rw [List.getElem?_eq_getElem hi, hx]
      have hnext : leftM left (prevOf L i) (x :: L.drop (i + 1)) = if lotB left (prevOf L i) x = true then leftM (left - x.f1) (some x.f0) (L.drop (i + 1)) else none := rfl
      rw [hnext]
      have hp : prevOf L (i + 1) = some x.f0 := by show (L[i]?).map (·.f0) = _; rw [hx2]; rfl
      cases hn : nameB x.f0
      · rw [if_neg (by simp), if_neg (by unfold lotB; simp [hn])]
        rfl
      rw [if_pos rfl]
      by_cases h4 : x.f1 < 1
      · rw [if_pos h4, if_neg (by unfold lotB; simp only [Bool.and_eq_true, decide_eq_true_eq]; omega)]
        rfl
      rw [if_neg h4]
      by_cases h5 : x.f1 > left
      · rw [if_pos h5, if_neg (by unfold lotB; simp only [Bool.and_eq_true, decide_eq_true_eq]; omega)]
        rfl
      rw [if_neg h5]
      have hstep := ih (i + 1) K (left - x.f1) cap c1 c2 (by omega) (by omega) (by omega) (by right; omega)
      rw [hp] at hstep
      rw [wrap_small (left - x.f1) (by omega) (by omega), wrap_small ((i : Int) + 1) (by omega) (by omega), show (i : Int) + 1 = ((i + 1 : Nat) : Int) by omega, hstep]
      cases i with
      | zero =>
        rw [if_neg (by omega), if_pos (by unfold lotB; simp only [Bool.and_eq_true, decide_eq_true_eq]; exact ⟨⟨⟨hn, by omega⟩, by omega⟩, by simp [prevOf]⟩)]
      | succ i =>
        have e2 : rd_T37 L (wrap64 (((i + 1 : Nat) : Int) - 1)) = L[i] := by
          rw [wrap_small _ (by omega) (by omega), show ((i + 1 : Nat) : Int) - 1 = (i : Int) by omega]
          exact getD_at L _ i (by omega)
        have hpi : prevOf L (i + 1) = some L[i].f0 := by show (L[i]?).map (·.f0) = _; rw [List.getElem?_eq_getElem (by omega)]; rfl
        rw [if_pos (by omega), e2, wrap_small _ (by omega) (by omega), if_pos (by omega), if_pos (by omega)]
        by_cases h6 : x.f0 = L[i].f0
        · rw [if_pos ((names_beq _ _).2 h6), if_neg (by unfold lotB; rw [hpi, h6]; simp)]
          rfl
        · rw [if_neg (fun h => h6 ((names_beq _ _).1 h)), if_pos (by unfold lotB; simp only [Bool.and_eq_true, decide_eq_true_eq]; exact ⟨⟨⟨hn, by omega⟩, by omega⟩, by rw [hpi]; simpa using fun h => h6 h.symm⟩)]
    · rw [if_neg (by omega), List.drop_eq_nil_of_le (by omega)]
      rfl
theorem lots_is (L : List S37) (cap : Int) (c1 : -9223372036854775808 ≤ cap) (c2 : cap ≤ 9223372036854775807) (hL : ∀ x ∈ L, x.f0.size ≤ 200) (hl : L.length ≤ 60) (K : Nat) (hK : 400 ≤ K) : malthouseref13_lots.f K L cap = some (leftM cap none L).isSome := by
  unfold malthouseref13_lots.f
  have := lots_loop L hL (by omega) L.length 0 K cap cap c1 c2 (by omega) (by omega) (by omega) (.inl rfl)
  rw [List.drop_zero] at this
  exact this
theorem place_loop (l : List S25) (a : ByteArray) (hl : l.length ≤ 1000) : ∀ (f i K : Nat), l.length ≤ i + f → f + 1 ≤ K → malthouseref13_Place.l0 K l a (i : Int) = some (firstFrom (vesselIs a) i (l.drop i)) := by
  intro f
  induction f with
  | zero =>
    intro i K h1 hK
    obtain ⟨K, rfl⟩ : ∃ K', K = K' + 1 := ⟨K - 1, by omega⟩
    simp only [malthouseref13_Place.l0]
    rw [if_neg (by omega), List.drop_eq_nil_of_le (by omega)]
    rfl
  | succ f ih =>
    intro i K h1 hK
    obtain ⟨K, rfl⟩ : ∃ K', K = K' + 1 := ⟨K - 1, by omega⟩
    simp only [malthouseref13_Place.l0]
    by_cases hi : i < l.length
    · have e : rd_T25 l (i : Int) = l[i] := getD_at l _ i hi
      rw [if_pos (by omega), if_pos (by omega), e, firstFrom_drop _ l i hi]
      by_cases h : l[i].f0.toList = a.toList
      · rw [if_pos h, if_pos (by unfold vesselIs; rw [h]; exact beq_self_eq_true _)]
      · rw [if_neg h, if_neg (by unfold vesselIs; simpa using h), wrap_small _ (by omega) (by omega), show (i : Int) + 1 = ((i + 1 : Nat) : Int) by omega]
        exact ih (i + 1) K (by omega) (by omega)
    · rw [if_neg (by omega), List.drop_eq_nil_of_le (by omega)]
      rfl
theorem place_is (l : List S25) (a : ByteArray) (hl : l.length ≤ 60) (K : Nat) (hK : 100 ≤ K) : malthouseref13_Place.f K l a = some (firstFrom (vesselIs a) 0 l) := by
  unfold malthouseref13_Place.f
  have := place_loop l a (by omega) l.length 0 K (by omega) (by omega)
  rw [List.drop_zero] at this
  exact this
theorem first_le (l : List S25) (x : S25) : ∀ (k i : Nat), l[i]? = some x → firstFrom (vesselIs x.f0) k l ≤ ((k + i : Nat) : Int) ∧ 0 ≤ firstFrom (vesselIs x.f0) k l := by
  have hv : vesselIs x.f0 x = true := by unfold vesselIs; simp
  induction l with
  | nil => intro k i h; simp at h
  | cons y l ih =>
    intro k i h
    unfold firstFrom
    by_cases hy : vesselIs x.f0 y = true
    · rw [if_pos hy]
      omega
    · rw [if_neg hy]
      cases i with
      | zero =>
        obtain rfl := Option.some.inj h
        exact absurd hv hy
      | succ i =>
        have := ih (k + 1) i h
        omega
theorem rcheck_loop (l : List S25) (hl : Lite l) (hs : Slim l) : ∀ (f i K : Nat), l.length ≤ i + f → i ≤ l.length → 2 * f + 500 ≤ K → malthouseref13_Check.l0 K l (i : Int) = some (checkGo l i (l.drop i)) := by
  have hln := hl.len
  intro f
  induction f with
  | zero =>
    intro i K h1 h2 hK
    obtain ⟨K, rfl⟩ : ∃ K', K = K' + 1 := ⟨K - 1, by omega⟩
    simp only [malthouseref13_Check.l0]
    rw [if_neg (by omega), List.drop_eq_nil_of_le (by omega)]
    rfl
  | succ f ih =>
    intro i K h1 h2 hK
    obtain ⟨K, rfl⟩ : ∃ K', K = K' + 1 + 1 := ⟨K - 2, by omega⟩
    simp only [malthouseref13_Check.l0]
    by_cases hi : i < l.length
    · have e : rd_T25 l (i : Int) = l[i] := getD_at l _ i hi
      have hx2 : l[i]? = some l[i] := List.getElem?_eq_getElem hi
      have hxl := hl.all _ (List.getElem_mem hi)
      have hxn := hs.name _ (List.getElem_mem hi)
      have hxo := hs.lots _ (List.getElem_mem hi)
      rw [List.drop_eq_getElem_cons hi]
      obtain ⟨x, hx⟩ : ∃ x, l[i] = x := ⟨_, rfl⟩
      rw [hx] at e hx2 hxl hxn hxo ⊢
      rw [if_pos (by omega), if_pos (by omega), e, refname _ hxn (K + 1) (by omega)]
      simp only [Option.bind_some]
      have hc : checkGo l i (x :: l.drop (i + 1)) = if vesB x = true then (if firstFrom (vesselIs x.f0) 0 l < i then 5 else if 5 < x.f2.length then 2 else checkGo l (i + 1) (l.drop (i + 1))) else 1 := rfl
      rw [hc]
      have hflag : (if nameB x.f0 = true then (if x.f1 < 1 then malthouseref13_Check.j1 (K + 1) l (i : Int) true else malthouseref13_Check.j1 (K + 1) l (i : Int) (decide (x.f1 > 1125899906842624))) else malthouseref13_Check.j1 (K + 1) l (i : Int) true) = malthouseref13_Check.j1 (K + 1) l (i : Int) (!(nameB x.f0 && decide (1 ≤ x.f1) && decide (x.f1 ≤ 1125899906842624))) := by
        cases hn : nameB x.f0
        · rw [if_neg (by simp)]; simp
        · rw [if_pos rfl]
          by_cases h1 : x.f1 < 1
          · rw [if_pos h1]
            have : ¬ 1 ≤ x.f1 := by omega
            simp [this]
          · rw [if_neg h1]
            have h1' : 1 ≤ x.f1 := by omega
            by_cases h2 : x.f1 > 1125899906842624
            · have : ¬ x.f1 ≤ 1125899906842624 := by omega
              simp [h2, this]
            · have h2' : x.f1 ≤ 1125899906842624 := by omega
              simp [h1', h2, h2']
      rw [hflag]
      simp only [malthouseref13_Check.j1]
      cases hb : (nameB x.f0 && decide (1 ≤ x.f1) && decide (x.f1 ≤ 1125899906842624))
      · rw [if_pos (by simp), if_neg (by unfold vesB; rw [hb]; simp)]
      · rw [if_neg (by simp), if_pos (by omega), if_pos (by omega), e, lots_is x.f2 x.f1 hxl.lo hxl.hi hxo hxl.len K (by omega)]
        simp only [Option.bind_some]
        cases hq : (leftM x.f1 none x.f2).isSome
        · rw [if_neg (by simp), if_neg (by unfold vesB; rw [hb, hq]; simp)]
        · have hv : vesB x = true := by unfold vesB; rw [hb, hq]; rfl
          rw [if_pos rfl, if_pos hv, place_is l x.f0 (by omega) K (by omega)]
          simp only [Option.bind_some]
          have hfl := first_le l x 0 i hx2
          by_cases h5 : firstFrom (vesselIs x.f0) 0 l < i
          · rw [if_neg (by omega), if_pos h5]
          · rw [if_pos (by omega), if_neg h5]
            by_cases h6 : 5 < x.f2.length
            · rw [if_pos (by omega), if_pos h6]
            · rw [if_neg (by omega), if_neg h6, wrap_small _ (by omega) (by omega), show (i : Int) + 1 = ((i + 1 : Nat) : Int) by omega]
              exact ih (i + 1) K (by omega) (by omega) (by omega)
    · rw [if_neg (by omega), List.drop_eq_nil_of_le (by omega)]
      rfl
theorem rcheck_is {l : List S25} (hl : Lite l) (hs : Slim l) (K : Nat) (hK : 700 ≤ K) : malthouseref13_Check.f K l = some (checkM l) := by
  have hln := hl.len
  unfold malthouseref13_Check.f checkM
  by_cases h6 : 6 < l.length
  · rw [if_pos (by omega), if_pos h6]
  · rw [if_neg (by omega), if_neg h6]
    have := rcheck_loop l hl hs l.length 0 K (by omega) (by omega) (by omega)
    rw [List.drop_zero] at this
    exact this
theorem grams_loop (L : List S37) (hl : L.length ≤ 60) (hL : ∀ y ∈ L, 0 ≤ y.f1 ∧ y.f1 ≤ 1125899906842624) : ∀ (f i K : Nat) (s : Int), L.length ≤ i + f → f + 1 ≤ K → 0 ≤ s → s + f * 1125899906842624 ≤ 4611686018427387904 → malthouseref13_grams.l0 K L s (i : Int) = some (s + sumL (L.drop i)) := by
  intro f
  induction f with
  | zero =>
    intro i K s h1 hK h2 h3
    obtain ⟨K, rfl⟩ : ∃ K', K = K' + 1 := ⟨K - 1, by omega⟩
    simp only [malthouseref13_grams.l0]
    rw [if_neg (by omega), List.drop_eq_nil_of_le (by omega)]
    show some s = some (s + 0)
    rw [Int.add_zero]
  | succ f ih =>
    intro i K s h1 hK h2 h3
    obtain ⟨K, rfl⟩ : ∃ K', K = K' + 1 := ⟨K - 1, by omega⟩
    simp only [malthouseref13_grams.l0]
    by_cases hi : i < L.length
    · have e : rd_T37 L (i : Int) = L[i] := getD_at L _ i hi
      have hy := hL _ (List.getElem_mem hi)
      rw [if_pos (by omega), if_pos (by omega), e, wrap_small (s + L[i].f1) (by omega) (by omega), wrap_small _ (by omega) (by omega), show (i : Int) + 1 = ((i + 1 : Nat) : Int) by omega, ih (i + 1) K (s + L[i].f1) (by omega) (by omega) (by omega) (by omega), List.drop_eq_getElem_cons hi, sumL_cons]
      congr 1
      omega
    · rw [if_neg (by omega), List.drop_eq_nil_of_le (by omega)]
      show some s = some (s + 0)
      rw [Int.add_zero]
theorem grams_is {l : List S25} (hl : Lite l) (hg : Good l) {i : Nat} {x : S25} (hx : l[i]? = some x) (K : Nat) (hK : 100 ≤ K) : malthouseref13_grams.f K x.f2 = some (sumL x.f2) := by
  obtain ⟨q1, q2, q3, q4, q5⟩ := (vesB_iff _).1 (hg.all i _ hx).1
  have hxl := (hl.all x (List.mem_of_getElem? hx)).len
  unfold malthouseref13_grams.f
  have h := grams_loop x.f2 hxl (fun y hy => by have := fine_low _ _ q4 y hy; omega) x.f2.length 0 K 0 (by omega) (by omega) (by omega) (by omega)
  rw [List.drop_zero, Int.zero_add] at h
  exact h
theorem rlevel_is {x : S25} (hl : Lite [x]) (hs : Slim [x]) (K : Nat) (hK : 700 ≤ K) : malthouseref13_Level.f K x.f0 x.f1 x.f2 = some (levelM x) := by
  unfold malthouseref13_Level.f
  have h2 : ([(⟨x.f0, x.f1, x.f2⟩ : S25)] : List S25) = [x] := rfl
  rw [h2, rcheck_is hl hs K hK]
  simp only [Option.bind_some]
  by_cases hg : checkM [x] = 0
  · have hG := (good_iff _).1 hg
    rw [if_pos hg, grams_is hl hG (i := 0) rfl K (by omega), level_good hG (j := 0) rfl]
    rfl
  · rw [if_neg hg]
    unfold levelM
    rw [if_neg hg]
theorem rsum_loop (l : List S25) (hl : Lite l) (hg : Good l) : ∀ (f i K : Nat) (s : Int), l.length ≤ i + f → f + 200 ≤ K → 0 ≤ s → s + sumF (fun x => sumL x.f2) (l.drop i) ≤ 6755399441055744 → malthouseref13_Sum.l0 K l s (i : Int) = some (s + sumF (fun x => sumL x.f2) (l.drop i)) := by
  have hln := hl.len
  intro f
  induction f with
  | zero =>
    intro i K s h1 hK h2 h3
    obtain ⟨K, rfl⟩ : ∃ K', K = K' + 1 := ⟨K - 1, by omega⟩
    simp only [malthouseref13_Sum.l0]
    rw [if_neg (by omega), List.drop_eq_nil_of_le (by omega)]
    show some s = some (s + 0)
    rw [Int.add_zero]
  | succ f ih =>
    intro i K s h1 hK h2 h3
    obtain ⟨K, rfl⟩ : ∃ K', K = K' + 1 := ⟨K - 1, by omega⟩
    simp only [malthouseref13_Sum.l0]
    by_cases hi : i < l.length
    · have e : rd_T25 l (i : Int) = l[i] := getD_at l _ i hi
      have hx : l[i]? = some l[i] := List.getElem?_eq_getElem hi
      rw [List.drop_eq_getElem_cons hi, sumF_cons] at h3 ⊢
      obtain ⟨q1, q2, q3, q4, q5⟩ := (vesB_iff _).1 (hg.all i _ hx).1
      have hs0 := fine_sum _ _ q4
      have hsr := (sumF_le (fun x : S25 => sumL x.f2) 1125899906842624 (by decide) (l.drop (i + 1)) (fun x hx => by
        obtain ⟨j, hj⟩ := List.mem_iff_getElem?.1 (List.mem_of_mem_drop hx)
        obtain ⟨q1, q2, q3, q4, q5⟩ := (vesB_iff x).1 (hg.all j x hj).1
        have := fine_sum _ _ q4
        omega)).1
      rw [if_pos (by omega), if_pos (by omega), e, grams_is hl hg hx K (by omega)]
      simp only [Option.bind_some]
      rw [wrap_small (s + sumL l[i].f2) (by omega) (by omega), wrap_small _ (by omega) (by omega), show (i : Int) + 1 = ((i + 1 : Nat) : Int) by omega, ih (i + 1) K (s + sumL l[i].f2) (by omega) (by omega) (by omega) (by omega)]
      congr 1
      omega
    · rw [if_neg (by omega), List.drop_eq_nil_of_le (by omega)]
      show some s = some (s + 0)
      rw [Int.add_zero]
/-- The sum, of any vessels. -/
def sumA (l : List S25) : Int := if checkM l = 0 then sumM l else 0
theorem rsum_is {l : List S25} (hl : Lite l) (hs : Slim l) (K : Nat) (hK : 700 ≤ K) : malthouseref13_Sum.f K l = some (sumA l) := by
  unfold malthouseref13_Sum.f sumA
  rw [rcheck_is hl hs K hK]
  simp only [Option.bind_some]
  by_cases hg : checkM l = 0
  · have hG := (good_iff l).1 hg
    have hb := sum_bound hG
    have hln := hl.len
    rw [if_pos hg, if_pos hg]
    have h := rsum_loop l hl hG l.length 0 K 0 (by omega) (by omega) (by omega) (by rw [List.drop_zero, Int.zero_add]; exact hb.2)
    rw [List.drop_zero, Int.zero_add] at h
    exact h
  · rw [if_neg hg, if_neg hg]
theorem suma_is {l : List S25} (hl : Lite l) : ledger_Sum.f 100000 l = some (sumA l) := by
  unfold sumA
  by_cases hg : checkM l = 0
  · rw [if_pos hg]
    exact sum_is hl ((good_iff l).1 hg)
  · unfold ledger_Sum.f
    rw [check_lite hl]
    simp only [Option.bind_some]
    rw [if_neg hg, if_neg hg]
end Go.Proofs.YtejecmjajdhiiaaDoor.Print
/-! ### LgWalk1 -/
namespace Go.Proofs.YtejecmjajdhiiaaDoor.Print
open Go.RowKit Go.Proofs.YtejecmjajdhiiaaDoorW.PrintWords Go.Proofs.YtejecmjajdhiiaaDoorW.PrintLast Go.Proofs.YtejecmjajdhiiaaDoorW.PrintMore
set_option linter.unusedSimpArgs false
set_option linter.unusedVariables false
attribute [local go_sem high] beq_self_eq_true
theorem infoVs : (Tryd.prog.info? 25).map (fun i => (i.zero, i.size, i.bytes)) = some (some (.agg #[.string ⟨#[]⟩, .int .i64 0, .slice none 0 0]), 3, 48) := by kernel_rfl
theorem fill_one3 (z a b c : Value) (hz : z.cells.size = 3) (h1 : (Value.agg #[a, b, c]).cells = #[a, b, c]) : Instr.fill (fun i => some (i * 3, 3)) ((Array.range (1 * 3)).map (z.cells[· % z.cells.size]!)) [(0, .agg #[a, b, c])] = some #[a, b, c] := by
  generalize hA : ((Array.range (1 * 3)).map (z.cells[· % z.cells.size]!)) = arr
  have h2 : arr.size = 3 := by rw [← hA]; simp
  match arr, h2 with
  | ⟨[x, y, q]⟩, _ => simp [Instr.fill, Value.cells]
/-- One vessel, in a row of its own. -/
theorem one_at {w : World} {b : Nat} {A : Option Addr} {c : Nat} {x : S25} (h : CellsAt w ⟨b, 0, none⟩ [.string x.f0, .int .i64 x.f1, .slice A x.f2.length c]) (hl : LAt w A c x.f2) : VAt w (some ⟨b, 0, none⟩) 1 [x] :=
  ⟨Nat.le_refl _, C_ves (hs := [.slice A x.f2.length c]) rfl (by simp) (fun _ => ⟨_, rfl, h⟩) (fun j y u hj hu => by
    match j with
    | 0 =>
      obtain rfl := Option.some.inj hj
      obtain rfl := Option.some.inj hu
      exact ⟨A, c, rfl, hl⟩
    | j + 1 => simp at hj)⟩
section
variable {w : World} {A : Option Addr} {c : Nat} {l : List S25}
theorem rcheck_c (h : VAt w A c l) (hl : Lite l) (hs : Slim l) : Calls Tryd.prog 13 #[.slice A l.length c] w fun e w' => e = .returned (.int .i64 (checkM l)) ∧ Only [] w w' :=
  (malthouseref13_Check.calls 700 A c l _ w h.2 h.1 (rcheck_is hl hs 700 (by omega))).mono fun _ _ h => ⟨h.1, .of_below h.2⟩
theorem suma_c (h : VAt w A c l) (hT : Tabs w) (hl : Lite l) : Calls Tryd.prog 14 #[.slice A l.length c] w fun e w' => e = .returned (.int .i64 (sumA l)) ∧ Only [] w w' :=
  (ledger_Sum.calls 100000 A c l _ w h.2 h.1 hT (suma_is hl)).mono fun _ _ h => ⟨h.1, .of_below h.2⟩
theorem rsum_c (h : VAt w A c l) (hl : Lite l) (hs : Slim l) : Calls Tryd.prog 15 #[.slice A l.length c] w fun e w' => e = .returned (.int .i64 (sumA l)) ∧ Only [] w w' :=
  (malthouseref13_Sum.calls 700 A c l _ w h.2 h.1 (rsum_is hl hs 700 (by omega))).mono fun _ _ h => ⟨h.1, .of_below h.2⟩
theorem rlevel_c {A2 : Option Addr} {c2 : Nat} {x : S25} (h : LAt w A2 c2 x.f2) (hl : Lite [x]) (hs : Slim [x]) : Calls Tryd.prog 17 #[.agg #[.string x.f0, .int .i64 x.f1, .slice A2 x.f2.length c2]] w fun e w' => e = .returned (.int .i64 (levelM x)) ∧ Only [] w w' :=
  (malthouseref13_Level.calls 700 x.f0 x.f1 (fun k_ => k_ < w.heap.size) A2 c2 x.f2 _ w (Kd.V_mk h.1 (Kd.C_F k37_heap h.2)) (rlevel_is hl hs 700 (by omega))).mono fun _ _ h => ⟨h.1, .of_below h.2⟩
end
set_option maxHeartbeats 8000000 in
set_option maxRecDepth 100000 in
theorem checks_any (A0 : Option Addr) (c0 : Nat) (l0 : List S25) (x : S25) (A1 : Option Addr) (c1 : Nat) (w : World) (h0 : VAt w A0 c0 l0) (h1 : LAt w A1 c1 x.f2) (hx : -9223372036854775808 ≤ x.f1 ∧ x.f1 ≤ 9223372036854775807) (hT : Tabs w) (hr : ∀ x ∈ l0, -9223372036854775808 ≤ x.f1 ∧ x.f1 ≤ 9223372036854775807) :
    Calls Tryd.prog 3 #[.slice A0 l0.length c0, .agg #[.string x.f0, .int .i64 x.f1, .slice A1 x.f2.length c1]] w fun e w' => e = .returned (.bool true) ∧ Below w.heap.size w w' := by
  have HV := Lib.hid h0
  have HA := Lib.hid h1
  have HT := Lib.hid hT
  have HR := Lib.hid hr
  have HX := Lib.hid hx
  obtain ⟨lb, hb⟩ : ∃ b, lightM l0 = b := ⟨_, rfl⟩
  obtain ⟨vb, hv⟩ : ∃ b, lightM [x] = b := ⟨_, rfl⟩
  have HB := Lib.hid hb
  have HVB := Lib.hid hv
  have HAW := Lib.hid (fun (W : World) (h : Only [] w W) => awake_c W (hT.below h.nil_below))
  have HLI := Lib.hid (show ∀ W, Only [] w W → Calls Tryd.prog 11 #[.slice A0 l0.length c0] W fun e w' => e = .returned (.bool lb) ∧ Only [] W w' from fun W h => hb ▸ light_c (h0.only h))
  clear h0 h1 hT hr hx hb hv
  go_enter Tryd.func3, Tryd.ntmps3
  go_wp2_with (go_at_call 10; refine (fun (h : Hid _) => h.out) ?_)
  refine Lib.hid ?_
  have HS := Lib.hid ((St.nil w).alloc [.string x.f0, .int .i64 x.f1, .slice A1 x.f2.length c1] 25)
  simp only [List.nil_append] at HS
  generalize hW : w.alloc (.cells #[.string x.f0, .int .i64 x.f1, .slice A1 x.f2.length c1] 25) = W0 at *
  clear hW
  have HS0 := Lib.hid HS.out.only
  refine (HAW.out W0 HS0.out).mono ?_
  rintro e W1 ⟨rfl, h1⟩
  replace HS := Lib.hid (HS.out.keep h1)
  clear h1 HS0
  simp only []
  have HS1 := Lib.hid HS.out.only
  go_wp2_with (go_at_call 11; refine (HLI.out W1 HS1.out).mono ?_; rintro e w2 ⟨rfl, h2⟩; replace HS := Lib.hid (HS.out.keep h2); clear h2; refine (fun (h : Hid _) => h.out) ?_)
  refine Lib.hid ?_
  clear HAW HLI HS1
  have HC0 := Lib.hid (HS.out.cells 0 rfl)
  go_wp2_with (first
    | (with_reducible refine wpList_load_at rfl 25 (.tmp 3) rfl ⟨w.heap.size, 0, none⟩ rfl _ _ HC0.out Tryd.underlying25 rfl (by kernel_rfl) ?_)
    | (with_reducible refine wpList_one rfl 22 (.tmp 11) rfl 25 Tryd.underlying22 (.agg #[.string ⟨#[]⟩, .int .i64 0, .slice none 0 0]) 3 48 infoVs (by omega) (by omega) (.agg #[.string x.f0, .int .i64 x.f1, .slice A1 x.f2.length c1]) rfl #[.string x.f0, .int .i64 x.f1, .slice A1 x.f2.length c1] (fill_one3 _ _ _ _ rfl rfl) ?_; refine (fun (h : Hid _) => h.out) ?_))
  refine Lib.hid ?_
  replace HS := Lib.hid (HS.out.alloc [.string x.f0, .int .i64 x.f1, .slice A1 x.f2.length c1] 25)
  simp only [List.cons_append, List.nil_append] at HS
  generalize hW : w2.alloc (.cells #[.string x.f0, .int .i64 x.f1, .slice A1 x.f2.length c1] 25) = W3 at *
  clear hW HC0
  generalize w2.heap.size = b2 at *
  have HL2 := Lib.hid (show Calls Tryd.prog 11 #[.slice (some ⟨b2, 0, none⟩) 1 1] W3 fun e w' => e = .returned (.bool vb) ∧ Only [] W3 w' from by
    have := light_c (one_at (HS.out.cells 1 rfl) (HA.out.only HS.out.only))
    rw [HVB.out] at this
    exact this)
  go_wp2_with (go_at_call 11; refine HL2.out.mono ?_; rintro e w4 ⟨rfl, h4⟩; replace HS := Lib.hid (HS.out.keep h4); clear h4; refine (fun (h : Hid _) => h.out) ?_)
  refine Lib.hid ?_
  clear HL2
  have HS4 := Lib.hid HS.out.only
  cases lb
  · go_wp2
    go_ret
    exact ⟨rfl, HS4.out.nil_below⟩
  cases vb
  · go_wp2
    go_ret
    exact ⟨rfl, HS4.out.nil_below⟩
  have hL : Lite l0 := lite_of HB.out HR.out
  have hL1 : Lite [x] := lite_of HVB.out (fun y hy => by obtain rfl : y = x := by simpa using hy
                                                         exact HX.out)
  have hS := slim_of HB.out
  have hS1 := slim_of HVB.out
  have HC0 := Lib.hid (HS.out.cells 0 rfl)
  have HV4 := Lib.hid (HV.out.only HS4.out)
  have HA4 := Lib.hid (HA.out.only HS4.out)
  have HT4 := Lib.hid (HT.out.below HS4.out.nil_below)
  have K1 := Lib.hid (show ∀ W, Only [] w4 W → Calls Tryd.prog 12 #[.slice A0 l0.length c0] W fun e w' => e = .returned (.int .i64 (checkM l0)) ∧ Only [] W w' from fun W h => check_c (HV4.out.only h) (HT4.out.below h.nil_below) hL)
  have K2 := Lib.hid (show ∀ W, Only [] w4 W → Calls Tryd.prog 13 #[.slice A0 l0.length c0] W fun e w' => e = .returned (.int .i64 (checkM l0)) ∧ Only [] W w' from fun W h => rcheck_c (HV4.out.only h) hL hS)
  have K3 := Lib.hid (show ∀ W, Only [] w4 W → Calls Tryd.prog 14 #[.slice A0 l0.length c0] W fun e w' => e = .returned (.int .i64 (sumA l0)) ∧ Only [] W w' from fun W h => suma_c (HV4.out.only h) (HT4.out.below h.nil_below) hL)
  have K4 := Lib.hid (show ∀ W, Only [] w4 W → Calls Tryd.prog 15 #[.slice A0 l0.length c0] W fun e w' => e = .returned (.int .i64 (sumA l0)) ∧ Only [] W w' from fun W h => rsum_c (HV4.out.only h) hL hS)
  have K5 := Lib.hid (show ∀ W, Only [] w4 W → Calls Tryd.prog 16 #[.agg #[.string x.f0, .int .i64 x.f1, .slice A1 x.f2.length c1]] W fun e w' => e = .returned (.int .i64 (levelM x)) ∧ Only [] W w' from fun W h => level_c (HA4.out.only h) (HT4.out.below h.nil_below) (hL1.all x (by simp)))
  have K6 := Lib.hid (show ∀ W, Only [] w4 W → Calls Tryd.prog 17 #[.agg #[.string x.f0, .int .i64 x.f1, .slice A1 x.f2.length c1]] W fun e w' => e = .returned (.int .i64 (levelM x)) ∧ Only [] W w' from fun W h => rlevel_c (HA4.out.only h) hL1 hS1)
  clear hL hL1 hS hS1 HB HVB HR HX HV HA HT
  generalize checkM l0 = v1 at *
  generalize sumA l0 = v2 at *
  generalize levelM x = v3 at *
  go_wp2
  refine L.grow_start [] 20 ((0, true, false) :: (2, true, false) :: (1, false, true) :: (3, false, true) :: (4, true, true) :: (5, true, true) :: (6, true, false) :: (8, true, false) :: (7, true, true) :: (9, true, true) :: (10, true, true) :: (11, true, true) :: (12, true, true) :: (13, true, false) :: (15, true, false) :: (14, true, true) :: (16, true, true) :: (17, true, true) :: (18, true, true) :: (19, true, true) :: []) (by kernel_rfl) (([], [0], some 25) :: ([0], [25], some 26) :: ([], [0], some 27) :: ([2, 1], [27], some 28) :: ([1, 3], [26, 28], some 29) :: ([4, 3], [29], some 30) :: ([5], [0, 30], some 31) :: ([6, 5, 5], [31, 30], some 32) :: ([5], [0, 30], some 33) :: ([8, 7, 5], [33, 30], some 34) :: ([7, 9, 5], [32, 34, 30], some 35) :: ([5, 10], [30, 35], some 36) :: ([11, 9], [36], some 37) :: ([12], [3, 37], some 38) :: ([13, 12, 12], [38, 37], some 39) :: ([12], [3, 37], some 40) :: ([15, 14, 12], [40, 37], some 41) :: ([14, 16, 12], [39, 41, 37], some 42) :: ([12, 17], [37, 42], some 43) :: ([18, 16, 0, 1, 2, 3, 4, 5, 6, 7, 8, 9, 10, 11, 12, 13, 14, 15, 16, 17, 18], [43], some 4) :: []) (by kernel_rfl) (by kernel_rfl) (n := 20) rfl (by kernel_rfl) (fun _ _ _ _ _ h => h) (fun wg hog => ?_)
  refine L.growe_start (N := 44) (by rfl) ?_
  have HG0 := Lib.hid hog
  clear hog
  iterate 2 (first | (refine L.ge_off rfl rfl rfl (by rfl) ?_) | (refine L.ge_move rfl rfl rfl (by rfl) rfl (by simp [L.evE, L.lk, Act.eval]; rfl) ?_) | (refine L.ge_pick rfl rfl rfl (by rfl) rfl (by simp [L.evE, L.lk, Act.eval]; rfl) (by simp [L.evE, L.lk, Act.eval]; rfl) ?_) | (refine L.ge_val rfl rfl rfl (by rfl) (by intro w' hw'; simp [execOp, L.evE, L.lk, Act.eval]; go_simp; rfl) ?_))
  refine L.ge_call rfl rfl rfl (by rfl) rfl (by simp [L.evE, L.lk, Act.eval]; rfl) (by go_simp) ?_
  refine (K1.out wg HG0.out).mono ?_
  rintro e W5 ⟨rfl, hc⟩
  refine ⟨_, rfl, hc, ?_⟩
  have HG1 := Lib.hid (HG0.out.trans hc)
  clear hc HG0
  refine L.ge_call rfl rfl rfl (by rfl) rfl (by simp [L.evE, L.lk, Act.eval]; rfl) (by go_simp) ?_
  refine (K2.out W5 HG1.out).mono ?_
  rintro e W6 ⟨rfl, hc⟩
  refine ⟨_, rfl, hc, ?_⟩
  have HG2 := Lib.hid (HG1.out.trans hc)
  clear hc HG1
  iterate 4 (first | (refine L.ge_off rfl rfl rfl (by rfl) ?_) | (refine L.ge_move rfl rfl rfl (by rfl) rfl (by simp [L.evE, L.lk, Act.eval]; rfl) ?_) | (refine L.ge_pick rfl rfl rfl (by rfl) rfl (by simp [L.evE, L.lk, Act.eval]; rfl) (by simp [L.evE, L.lk, Act.eval]; rfl) ?_) | (refine L.ge_val rfl rfl rfl (by rfl) (by intro w' hw'; simp [execOp, L.evE, L.lk, Act.eval]; go_simp; rfl) ?_))
  refine L.ge_call rfl rfl rfl (by rfl) rfl (by simp [L.evE, L.lk, Act.eval]; rfl) (by go_simp) ?_
  refine (K3.out W6 HG2.out).mono ?_
  rintro e W7 ⟨rfl, hc⟩
  refine ⟨_, rfl, hc, ?_⟩
  have HG3 := Lib.hid (HG2.out.trans hc)
  clear hc HG2
  refine L.ge_call rfl rfl rfl (by rfl) rfl (by simp [L.evE, L.lk, Act.eval]; rfl) (by go_simp) ?_
  refine (K4.out W7 HG3.out).mono ?_
  rintro e W8 ⟨rfl, hc⟩
  refine ⟨_, rfl, hc, ?_⟩
  have HG4 := Lib.hid (HG3.out.trans hc)
  clear hc HG3
  iterate 3 (first | (refine L.ge_off rfl rfl rfl (by rfl) ?_) | (refine L.ge_move rfl rfl rfl (by rfl) rfl (by simp [L.evE, L.lk, Act.eval]; rfl) ?_) | (refine L.ge_pick rfl rfl rfl (by rfl) rfl (by simp [L.evE, L.lk, Act.eval]; rfl) (by simp [L.evE, L.lk, Act.eval]; rfl) ?_) | (refine L.ge_val rfl rfl rfl (by rfl) (by intro w' hw'; simp [execOp, L.evE, L.lk, Act.eval]; go_simp; rfl) ?_))
  refine ge_load_at rfl rfl rfl (by rfl) _ _ rfl ⟨w.heap.size, 0, none⟩ (by simp [L.evE, L.lk, Act.eval]) _ _ (fun w' h => HC0.out.only (HG4.out.trans h) (by simp)) Tryd.underlying25 rfl (by kernel_rfl) ?_
  refine ge_load_at rfl rfl rfl (by rfl) _ _ rfl ⟨w.heap.size, 0, none⟩ (by simp [L.evE, L.lk, Act.eval]) _ _ (fun w' h => HC0.out.only (HG4.out.trans h) (by simp)) Tryd.underlying25 rfl (by kernel_rfl) ?_
  refine L.ge_call rfl rfl rfl (by rfl) rfl (by simp [L.evE, L.lk, Act.eval]; rfl) (by go_simp) ?_
  refine (K5.out W8 HG4.out).mono ?_
  rintro e W9 ⟨rfl, hc⟩
  refine ⟨_, rfl, hc, ?_⟩
  have HG5 := Lib.hid (HG4.out.trans hc)
  clear hc HG4
  refine L.ge_call rfl rfl rfl (by rfl) rfl (by simp [L.evE, L.lk, Act.eval]; rfl) (by go_simp) ?_
  refine (K6.out W9 HG5.out).mono ?_
  rintro e W10 ⟨rfl, hc⟩
  refine ⟨_, rfl, hc, ?_⟩
  have HG6 := Lib.hid (HG5.out.trans hc)
  clear hc HG5
  iterate 3 (first | (refine L.ge_off rfl rfl rfl (by rfl) ?_) | (refine L.ge_move rfl rfl rfl (by rfl) rfl (by simp [L.evE, L.lk, Act.eval]; rfl) ?_) | (refine L.ge_pick rfl rfl rfl (by rfl) rfl (by simp [L.evE, L.lk, Act.eval]; rfl) (by simp [L.evE, L.lk, Act.eval]; rfl) ?_) | (refine L.ge_val rfl rfl rfl (by rfl) (by intro w' hw'; simp [execOp, L.evE, L.lk, Act.eval]; go_simp; rfl) ?_))
  refine L.ge_done ?_
  simp only [L.puts, Act.put, goInt, List.setIfInBounds_toArray, List.set_cons_zero, List.set_cons_succ]
  have HZ := Lib.hid (HS4.out.trans HG6.out)
  go_wp2
  go_ret
  exact ⟨rfl, HZ.out.nil_below⟩
theorem ves_in {w : World} {cs : Array Value} {y : VesR} (hz : cs.size = 3) (r : rVes w (Value.agg cs).cells.toList y) : ∃ A c, cs = #[.string (gVes y).f0, .int .i64 (gVes y).f1, .slice A (gVes y).f2.length c] ∧ LAt w A c (gVes y).f2 ∧ -9223372036854775808 ≤ (gVes y).f1 ∧ (gVes y).f1 ≤ 9223372036854775807 := by
  have e0 : (Value.agg cs).cells.toList = cs.toList := rfl
  rw [e0] at r
  obtain ⟨a, b, c, h3⟩ := len3 (es := cs.toList) (by simpa using hz)
  rw [h3] at r
  obtain ⟨⟨h1, _⟩, ⟨h2, hw⟩, ⟨A0, c0, e1, hl1, _, hm1, hr1⟩, _⟩ := r
  simp at h1 h2 e1
  subst h1 h2 e1
  have k1 := C_lotr (by omega) hr1
  have e : y.2.2.1.length = (gVes y).f2.length := by show _ = (y.2.2.1.map gLot).length; rw [List.length_map]
  refine ⟨A0, c0, ?_, ⟨by rw [← e]; exact hl1, k1⟩, wf_i64 hw⟩
  rw [← e]
  exact Array.toList_inj.1 h3
theorem ledgerChecks_walk (A0 : Option Addr) (cap0 : Nat) (y0 : List VesR) (cs1 : Array Value) (y1 : VesR) (w : World) (hl0 : y0.length ≤ cap0) (hb0 : cap0 * 48 ≤ 140737488351232) (hr0 : rdRow 3 rVes w A0 y0) (hz1 : cs1.size = Tryd.prog.cellsOf 25) (r1 : rVes w (Value.agg cs1).cells.toList y1) (hT : Tabs w) :
    Calls Tryd.prog 3 #[.slice A0 y0.length cap0, .agg cs1] w fun e w' => e = .returned (.bool true) ∧ Below w.heap.size w w' := by
  obtain ⟨A1, c1, rfl, h1, hx⟩ := ves_in (hz1.trans (by kernel_rfl)) r1
  have h := checks_any A0 cap0 (y0.map gVes) (gVes y1) A1 c1 w (vess_at hl0 hb0 hr0) h1 hx hT (ves_range hr0)
  rw [List.length_map] at h
  exact h
end Go.Proofs.YtejecmjajdhiiaaDoor.Print
