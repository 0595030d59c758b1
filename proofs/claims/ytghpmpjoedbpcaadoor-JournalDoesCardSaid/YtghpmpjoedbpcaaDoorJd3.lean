import Derived.Test.YtghpmpjoedbpcaaDoorJd2
import Derived.Great.BuildSlice
import Derived.Laws.RangeAny
import Derived.Lib.TrimUEq
set_option linter.unusedVariables false
set_option linter.unusedSimpArgs false
namespace Go.Proofs.YtghpmpjoedbpcaaDoorW.PrintWords
end Go.Proofs.YtghpmpjoedbpcaaDoorW.PrintWords
namespace Go.Proofs.YtghpmpjoedbpcaaDoorW.PrintLast
end Go.Proofs.YtghpmpjoedbpcaaDoorW.PrintLast
namespace Go.Proofs.YtghpmpjoedbpcaaDoorW.PrintMore
end Go.Proofs.YtghpmpjoedbpcaaDoorW.PrintMore
/-! ### Print9 -/
namespace Go.Proofs.YtghpmpjoedbpcaaDoor.Print
open Go.RowKit Go.Proofs.YtghpmpjoedbpcaaDoorW.PrintWords Go.Proofs.YtghpmpjoedbpcaaDoorW.PrintLast Go.Proofs.YtghpmpjoedbpcaaDoorW.PrintMore
attribute [local go_sem] min2_int min_two
set_option linter.unusedVariables false
set_option linter.unusedSimpArgs false
mutual
def malthouseref01_Quote.j0 : Nat → ByteArray → Bool → ByteArray → List Int → List Int → Option (ByteArray × Bool)
  | 0, _, _, _, _, _ => none
  | k + 1, x0, x19, x226000, x226001, x226002 => if x19 = true then (some ((⟨#[]⟩ : ByteArray), false)) else (malthouseref01_Quote.l0 k x0 0 x226000 x226001 x226002)
def malthouseref01_Quote.l0 : Nat → ByteArray → Int → ByteArray → List Int → List Int → Option (ByteArray × Bool)
  | 0, _, _, _, _, _ => none
  | k + 1, x0, x6, x226000, x226001, x226002 => if x6 < (x226001.length : Int) then (if 0 ≤ x6 then (if (rd x226001 x6) < 32 then (some ((⟨#[]⟩ : ByteArray), false)) else (if (rd x226001 x6) = 34 then (some ((⟨#[]⟩ : ByteArray), false)) else (malthouseref01_Quote.l0 k x0 (wrap64 (x6 + 1)) x226000 x226001 x226002))) else (none)) else (if 1 + x0.size ≤ 9223372036854775807 then (if ((⟨#[34]⟩ : ByteArray) ++ x0).size + 1 ≤ 9223372036854775807 then (some (((⟨#[34]⟩ : ByteArray) ++ x0) ++ (⟨#[34]⟩ : ByteArray), true)) else (none)) else (none))
end
def malthouseref01_Quote.f (k : Nat) (a0 : ByteArray) : Option (ByteArray × Bool) := (malthouseref01_Runes.f k a0).bind fun bt217 => (if bt217.2.2.2 = true then (malthouseref01_Quote.j0 k a0 (decide ((bt217.2.1.length : Int) > 20)) bt217.1 bt217.2.1 bt217.2.2.1) else (malthouseref01_Quote.j0 k a0 true bt217.1 bt217.2.1 bt217.2.2.1))
set_option maxHeartbeats 8000000 in
set_option maxRecDepth 100000 in
theorem malthouseref01_Quote.calls (k : Nat) (a0 : ByteArray) (r1 : ByteArray) (r2 : Bool) (w : World) (h : malthouseref01_Quote.f k a0 = some (r1, r2)) :
    Calls Tryd.prog 56 #[.string a0] w fun e w' => e = .returned (.tuple #[.string r1, .bool r2]) ∧ Below w.heap.size w w' := by
  have hu83 := Tryd.underlying83
  have HB := Aside0.mk (Below.refl w.heap.size w)
  have H : ((malthouseref01_Runes.f k a0).bind fun bt217 => (if bt217.2.2.2 = true then (malthouseref01_Quote.j0 k a0 (decide ((bt217.2.1.length : Int) > 20)) bt217.1 bt217.2.1 bt217.2.2.1) else (malthouseref01_Quote.j0 k a0 true bt217.1 bt217.2.1 bt217.2.2.1))) = some (r1, r2) := h
  clear h
  replace H := Option.bind_eq_some_iff.mp H
  obtain ⟨⟨t217, t218, t221, t224⟩, A20, H⟩ := H
  replace H : (if t224 = true then (malthouseref01_Quote.j0 k a0 (decide ((t218.length : Int) > 20)) t217 t218 t221) else (malthouseref01_Quote.j0 k a0 true t217 t218 t221)) = some (r1, r2) := H
  have A2 := Aside0.mk A20
  clear A20
  have HC3 := Aside0.mk H
  clear H
  go_enter Tryd.func56, Tryd.ntmps56
  go_upto_region 2 with (first | ((with_reducible refine gate_callee (f := 61) rfl ?_); refine goesL_ (some 9) rfl rfl Tryd.func61 (by kernel_rfl) rfl #[.string a0] rfl (by (try simp only [List.map_toArray, List.map_cons, List.map_nil]); first | done | rfl | (simp only [List.length_drop, List.length_take]; rfl)) ?_; (with_reducible refine (malthouseref01_Runes.calls k a0 t217 t218 t221 t224 _ A2.out).mono ?_); rintro e w4 ⟨v219, v222, rfl, ho0, ho1, hb⟩; refine ⟨_, rfl, ?_⟩; have n0_ := Aside0.mk (Kd.R_lower ho0 (below_size (by repeat (first | (with_reducible first | exact HB.out | apply below_alloc | apply pw_below_drewN | apply below_drew1) | exact HB.out)))); have n1_ := Aside0.mk (Kd.R_lower ho1 (below_size (by repeat (first | (with_reducible first | exact HB.out | apply below_alloc | apply pw_below_drewN | apply below_drew1) | exact HB.out)))); have n2_ := Aside0.mk (below_step (by repeat (first | (with_reducible first | exact HB.out | apply below_alloc | apply pw_below_drewN | apply below_drew1) | exact HB.out)) hb); clear HB; have HO220 := n0_; have HO223 := n1_; have HB := n2_; clear n0_ n1_ n2_; (try clear hb); (try clear hb2); (try clear hk); (try clear hi); (try clear ho0); (try clear ho1)) | ((with_reducible refine gate_dst (N := 4) rfl ?_); (try (refine gate_guard (by rfl) ?_; dsimp only)); refine box_event ?hg (N := 4) ?hd (cs := #[.string (⟨#[]⟩ : ByteArray), .slice none 0 0, .slice none 0 0]) (t := 83) ?hr ?_; (case hd => rfl); (case hg => rfl); (case hr => first | (go_simp; done) | (go_simp; rfl)); intro gb225 hg w5 hbox hb; have n0_ := Aside0.mk (Kd.R_below (by (with_reducible repeat (first | apply Kd.R_alloc | apply Kd.R_drewN | apply Kd.R_drew)); exact HO220.out) hb); have n1_ := Aside0.mk (Kd.R_below (by (with_reducible repeat (first | apply Kd.R_alloc | apply Kd.R_drewN | apply Kd.R_drew)); exact HO223.out) hb); have n2_ := Aside0.mk (below_step (by repeat (first | (with_reducible first | exact HB.out | apply below_alloc | apply pw_below_drewN | apply below_drew1) | exact HB.out)) hb); have n3_ := Aside0.mk (hbox); have n4_ := Aside0.mk ((by rw [hg]; exact (below_size (by repeat (first | (with_reducible first | exact HB.out | apply below_alloc | apply pw_below_drewN | apply below_drew1) | exact HB.out))) : w.heap.size ≤ gb225)); have n5_ := Aside0.mk ((by rw [hg]; exact (below_size (by repeat (first | (with_reducible first | exact HB.out | apply below_alloc | apply pw_below_drewN | apply below_drew1) | exact HB.out))) : w.heap.size ≤ gb225)); clear HO220; clear HO223; clear HB; have HO220 := n0_; have HO223 := n1_; have HB := n2_; have BK225 := n3_; have GW225 := n4_; have GE225 := n5_; clear n0_ n1_ n2_ n3_ n4_ n5_; clear hb hbox hg; have hcz6_0 : w5.cell? ⟨gb225, 0, none⟩ = some (.string (⟨#[]⟩ : ByteArray)) := (blk_cell BK225.out 0).trans rfl; have hcz6_1 : w5.cell? ⟨gb225, 1, none⟩ = some (.slice none 0 0) := (blk_cell BK225.out 1).trans rfl; have hcz6_2 : w5.cell? ⟨gb225, 2, none⟩ = some (.slice none 0 0) := (blk_cell BK225.out 2).trans rfl; have hfz6_0 := blk_frozen BK225.out 0; have hfz6_1 := blk_frozen BK225.out 1; have hfz6_2 := blk_frozen BK225.out 2; obtain ⟨Ao7, co7, eo7⟩ := Kd.R_slice HO220.out; subst eo7; obtain ⟨Ao8, co8, eo8⟩ := Kd.R_slice HO223.out; subst eo8))
  (try simp only [Act.put, List.setIfInBounds_toArray, List.set_cons_zero, List.set_cons_succ])
  go_cut [19] (fun v19 wc => ∃ (kq : Nat) (x19_2 : Bool), v19 = .bool x19_2 ∧ Aside0 (malthouseref01_Quote.j0 kq a0 x19_2 t217 t218 t221 = some (r1, r2)) ∧ Aside0 (kq ≤ k) ∧ Aside0 (Kd.R (Kd.int .i64) 3 wc w.heap.size (fun k_ => some k_ ≠ ((.slice Ao8 t221.length co8) : Value).ownBlock) (.slice Ao7 t218.length co7) t218) ∧ Aside0 (Kd.R (Kd.int .i64) 3 wc w.heap.size (fun k_ => some k_ ≠ ((.slice Ao7 t218.length co7) : Value).ownBlock) (.slice Ao8 t221.length co8) t221) ∧ Aside0 (wc.heap[gb225]? = some (.cells #[.string t217, (.slice Ao7 t218.length co7), (.slice Ao8 t221.length co8)] 83 (0, 0))) ∧ Aside0 (Below w.heap.size w wc))
  case first =>
    have H := HC3.out
    clear HC3
    by_cases c9 : t224 = true
    · subst c9
      have H1 : (malthouseref01_Quote.j0 k a0 (decide ((t218.length : Int) > 20)) t217 t218 t221) = some (r1, r2) := by rw [if_pos rfl] at H; exact H
      clear H
      have H := H1
      clear H1
      have H' := Aside0.mk H
      clear H
      have hcz10_0 : w5.cell? ⟨gb225, 0, none⟩ = some (.string (⟨#[]⟩ : ByteArray)) := (blk_cell BK225.out 0).trans rfl
      have hcz10_1 : w5.cell? ⟨gb225, 1, none⟩ = some (.slice none 0 0) := (blk_cell BK225.out 1).trans rfl
      have hcz10_2 : w5.cell? ⟨gb225, 2, none⟩ = some (.slice none 0 0) := (blk_cell BK225.out 2).trans rfl
      have hfz10_0 := blk_frozen BK225.out 0
      have hfz10_1 := blk_frozen BK225.out 1
      have hfz10_2 := blk_frozen BK225.out 2
      go_wp2
      go_meet
      case rel => exact ⟨_, (decide ((t218.length : Int) > 20)), (by first | rfl | (simp; done) | (simp [*]; done)), H', ⟨by first | omega | exact Nat.le_refl _⟩, ⟨by (with_reducible repeat (first | apply Kd.R_alloc | apply Kd.R_drewN | apply Kd.R_drew)); exact Kd.R_mono (Kd.R_far (p := ⟨gb225, 2, none⟩) (Kd.R_far (p := ⟨gb225, 1, none⟩) (Kd.R_far (p := ⟨gb225, 0, none⟩) (Kd.R_types HO220.out BK225.out (by decide)) (fun _ hk => hk.2) (.string t217)) (fun _ hk => hk.2) (.slice Ao7 t218.length co7)) (fun _ hk => hk.2) (.slice Ao8 t221.length co8)) (fun _ hk => hk.1)⟩, ⟨by (with_reducible repeat (first | apply Kd.R_alloc | apply Kd.R_drewN | apply Kd.R_drew)); exact Kd.R_mono (Kd.R_far (p := ⟨gb225, 2, none⟩) (Kd.R_far (p := ⟨gb225, 1, none⟩) (Kd.R_far (p := ⟨gb225, 0, none⟩) (Kd.R_types HO223.out BK225.out (by decide)) (fun _ hk => hk.2) (.string t217)) (fun _ hk => hk.2) (.slice Ao7 t218.length co7)) (fun _ hk => hk.2) (.slice Ao8 t221.length co8)) (fun _ hk => hk.1)⟩, ⟨by (with_reducible repeat (first | refine blk_drewN ?_ _ | refine blk_drew ?_ | refine blk_alloc ?_ _)); refine blk_put (cs := #[.string t217, .slice Ao7 t218.length co7, .slice none 0 0]) ?_ 2 _ rfl; (with_reducible repeat (first | refine blk_drewN ?_ _ | refine blk_drew ?_ | refine blk_alloc ?_ _)); refine blk_put (cs := #[.string t217, .slice none 0 0, .slice none 0 0]) ?_ 1 _ rfl; (with_reducible repeat (first | refine blk_drewN ?_ _ | refine blk_drew ?_ | refine blk_alloc ?_ _)); refine blk_put (cs := #[.string (⟨#[]⟩ : ByteArray), .slice none 0 0, .slice none 0 0]) ?_ 0 _ rfl; (with_reducible repeat (first | refine blk_drewN ?_ _ | refine blk_drew ?_ | refine blk_alloc ?_ _)); exact BK225.out⟩, ⟨by repeat (first | (with_reducible first | exact HB.out | apply below_alloc | apply pw_below_drewN | apply below_drew1 | refine below_set ?_ GE225.out) | exact HB.out)⟩⟩
    · replace c9 := Bool.eq_false_iff.mpr c9
      subst c9
      have H1 : (malthouseref01_Quote.j0 k a0 true t217 t218 t221) = some (r1, r2) := by rw [if_neg (show ¬ (false = true) by decide)] at H; exact H
      clear H
      have H := H1
      clear H1
      have H' := Aside0.mk H
      clear H
      go_wp2
      go_meet
      case rel => exact ⟨_, (true), (by first | rfl | (simp; done) | (simp [*]; done)), H', ⟨by first | omega | exact Nat.le_refl _⟩, ⟨by (with_reducible repeat (first | apply Kd.R_alloc | apply Kd.R_drewN | apply Kd.R_drew)); exact Kd.R_mono (Kd.R_far (p := ⟨gb225, 2, none⟩) (Kd.R_far (p := ⟨gb225, 1, none⟩) (Kd.R_far (p := ⟨gb225, 0, none⟩) (Kd.R_types HO220.out BK225.out (by decide)) (fun _ hk => hk.2) (.string t217)) (fun _ hk => hk.2) (.slice Ao7 t218.length co7)) (fun _ hk => hk.2) (.slice Ao8 t221.length co8)) (fun _ hk => hk.1)⟩, ⟨by (with_reducible repeat (first | apply Kd.R_alloc | apply Kd.R_drewN | apply Kd.R_drew)); exact Kd.R_mono (Kd.R_far (p := ⟨gb225, 2, none⟩) (Kd.R_far (p := ⟨gb225, 1, none⟩) (Kd.R_far (p := ⟨gb225, 0, none⟩) (Kd.R_types HO223.out BK225.out (by decide)) (fun _ hk => hk.2) (.string t217)) (fun _ hk => hk.2) (.slice Ao7 t218.length co7)) (fun _ hk => hk.2) (.slice Ao8 t221.length co8)) (fun _ hk => hk.1)⟩, ⟨by (with_reducible repeat (first | refine blk_drewN ?_ _ | refine blk_drew ?_ | refine blk_alloc ?_ _)); refine blk_put (cs := #[.string t217, .slice Ao7 t218.length co7, .slice none 0 0]) ?_ 2 _ rfl; (with_reducible repeat (first | refine blk_drewN ?_ _ | refine blk_drew ?_ | refine blk_alloc ?_ _)); refine blk_put (cs := #[.string t217, .slice none 0 0, .slice none 0 0]) ?_ 1 _ rfl; (with_reducible repeat (first | refine blk_drewN ?_ _ | refine blk_drew ?_ | refine blk_alloc ?_ _)); refine blk_put (cs := #[.string (⟨#[]⟩ : ByteArray), .slice none 0 0, .slice none 0 0]) ?_ 0 _ rfl; (with_reducible repeat (first | refine blk_drewN ?_ _ | refine blk_drew ?_ | refine blk_alloc ?_ _)); exact BK225.out⟩, ⟨by repeat (first | (with_reducible first | exact HB.out | apply below_alloc | apply pw_below_drewN | apply below_drew1 | refine below_set ?_ GE225.out) | exact HB.out)⟩⟩
  case rest =>
    clear HC3
    try clear p2
    try clear c5
    try clear c6
    try clear c9
    try clear hcz10_0
    try clear hcz10_1
    try clear hcz10_2
    try clear hcz6_0
    try clear hcz6_1
    try clear hcz6_2
    try clear hfz10_0
    try clear hfz10_1
    try clear hfz10_2
    try clear hfz6_0
    try clear hfz6_1
    try clear hfz6_2
    obtain ⟨kq, x19_2, rfl, HA, HJ2, HO_226001, HO_226002, BK225, HB⟩ := hcut
    cases kq with
    | zero => exact absurd HA.out (by simp [malthouseref01_Quote.j0])
    | succ kj2 =>
      have H := HA.out
      clear HA
      simp only [malthouseref01_Quote.j0] at H
      by_cases c11 : x19_2 = true
      · subst c11
        have H1 : (some ((⟨#[]⟩ : ByteArray), false)) = some (r1, r2) := by rw [if_pos rfl] at H; exact H
        clear H
        have H := H1
        clear H1
        simp only [Option.some.injEq, Prod.mk.injEq] at H
        obtain ⟨rfl, rfl⟩ := H
        go_wp2
        go_ret2
        exact ⟨by first | rfl | (simp [errW_none, errW_some] <;> rfl) | (simp [*, errW_none, errW_some] <;> rfl), by repeat (first | (with_reducible first | exact HB.out | apply below_alloc | apply pw_below_drewN | apply below_drew1 | refine below_set ?_ GE225.out) | exact HB.out)⟩
      · replace c11 := Bool.eq_false_iff.mpr c11
        subst c11
        have H1 : (malthouseref01_Quote.l0 kj2 a0 0 t217 t218 t221) = some (r1, r2) := by rw [if_neg (show ¬ (false = true) by decide)] at H; exact H
        clear H
        have H := H1
        clear H1
        have H' := Aside0.mk H
        clear H
        go_wp2
        go_loopg [6] kj2 (fun kq v6 w' => ∃ (x6_2 : Int), v6 = .int .i64 x6_2 ∧ Aside0 (malthouseref01_Quote.l0 kq a0 x6_2 t217 t218 t221 = some (r1, r2)) ∧ Aside0 (kq ≤ kj2) ∧ Aside0 (Kd.R (Kd.int .i64) 3 w' w.heap.size (fun k_ => some k_ ≠ ((.slice Ao8 t221.length co8) : Value).ownBlock) (.slice Ao7 t218.length co7) t218) ∧ Aside0 (Kd.R (Kd.int .i64) 3 w' w.heap.size (fun k_ => some k_ ≠ ((.slice Ao7 t218.length co7) : Value).ownBlock) (.slice Ao8 t221.length co8) t221) ∧ Aside0 (w'.heap[gb225]? = some (.cells #[.string t217, (.slice Ao7 t218.length co7), (.slice Ao8 t221.length co8)] 83 (0, 0))) ∧ Aside0 (Below w.heap.size w w'))
        case atStart => exact ⟨(0), (by first | rfl | (simp; done) | (simp [*]; done)), H', ⟨Nat.le_refl _⟩, ⟨by (with_reducible repeat (first | apply Kd.R_alloc | apply Kd.R_drewN | apply Kd.R_drew)); exact HO_226001.out⟩, ⟨by (with_reducible repeat (first | apply Kd.R_alloc | apply Kd.R_drewN | apply Kd.R_drew)); exact HO_226002.out⟩, ⟨by (with_reducible repeat (first | refine blk_drewN ?_ _ | refine blk_drew ?_ | refine blk_alloc ?_ _)); exact BK225.out⟩, ⟨by repeat (first | (with_reducible first | exact HB.out | apply below_alloc | apply pw_below_drewN | apply below_drew1 | refine below_set ?_ GE225.out) | exact HB.out)⟩⟩
        case round =>
          clear H'
          try clear c1
          try clear p2
          try clear c5
          try clear c6
          try clear c9
          try clear c11
          try clear hcz10_0
          try clear hcz10_1
          try clear hcz10_2
          try clear hcz6_0
          try clear hcz6_1
          try clear hcz6_2
          try clear hfz10_0
          try clear hfz10_1
          try clear hfz10_2
          try clear hfz6_0
          try clear hfz6_1
          try clear hfz6_2
          try clear p2
          obtain ⟨x6_2, rfl, HA, HK2, HO_226001, HO_226002, BK225, HB⟩ := hrel
          cases gk with
          | zero => exact absurd HA.out (by simp [malthouseref01_Quote.l0])
          | succ k2 =>
            have H := HA.out
            clear HA
            simp only [malthouseref01_Quote.l0] at H
            by_cases c12 : x6_2 < (t218.length : Int)
            · rw [if_pos c12] at H
              have c12b0 : decide (x6_2 < (t218.length : Int)) = true := decide_eq_true c12
              clear c12
              by_cases c13 : 0 ≤ x6_2
              · rw [if_pos c13] at H
                have c13b0 : decide (0 ≤ x6_2) = true := decide_eq_true c13
                clear c13
                by_cases c14 : (rd t218 x6_2) < 32
                · rw [if_pos c14] at H
                  have c14b0 : decide ((rd t218 x6_2) < 32) = true := decide_eq_true c14
                  clear c14
                  simp only [Option.some.injEq, Prod.mk.injEq] at H
                  obtain ⟨rfl, rfl⟩ := H
                  have hcz15_0 : wr.cell? ⟨gb225, 0, none⟩ = some (.string t217) := (blk_cell BK225.out 0).trans rfl
                  have hcz15_1 : wr.cell? ⟨gb225, 1, none⟩ = some (.slice Ao7 t218.length co7) := (blk_cell BK225.out 1).trans rfl
                  have hcz15_2 : wr.cell? ⟨gb225, 2, none⟩ = some (.slice Ao8 t221.length co8) := (blk_cell BK225.out 2).trans rfl
                  have hfz15_0 := blk_frozen BK225.out 0
                  have hfz15_1 := blk_frozen BK225.out 1
                  have hfz15_2 := blk_frozen BK225.out 2
                  have p226 : 0 ≤ (x6_2 : Int) := of_decide_eq_true (by first | (with_reducible assumption) | assumption)
                  have q226 : x6_2 < (t218.length : Int) := of_decide_eq_true (by first | (with_reducible assumption) | assumption)
                  obtain ⟨ad226, e226, hx226_0⟩ := Kd.at_int (Kd.R_reads' HO_226001.out).2.2 x6_2 p226 q226
                  cases e226
                  replace p226 := eq_true p226
                  replace q226 := eq_true q226
                  go_wp2
                  go_ret2
                  exact ⟨by first | rfl | (simp [errW_none, errW_some] <;> rfl) | (simp [*, errW_none, errW_some] <;> rfl), by repeat (first | (with_reducible first | exact HB.out | apply below_alloc | apply pw_below_drewN | apply below_drew1 | refine below_set ?_ GE225.out) | exact HB.out)⟩
                · rw [if_neg c14] at H
                  have c14b0 : decide ((rd t218 x6_2) < 32) = false := decide_eq_false c14
                  clear c14
                  by_cases c16 : (rd t218 x6_2) = 34
                  · rw [if_pos c16] at H
                    have c16b0 : ((rd t218 x6_2) == 34) = true := beq_iff_eq.mpr c16
                    have c16b1 : ((rd t218 x6_2) != 34) = false := bne_eq_false_iff_eq.mpr c16
                    clear c16
                    simp only [Option.some.injEq, Prod.mk.injEq] at H
                    obtain ⟨rfl, rfl⟩ := H
                    have hcz17_0 : wr.cell? ⟨gb225, 0, none⟩ = some (.string t217) := (blk_cell BK225.out 0).trans rfl
                    have hcz17_1 : wr.cell? ⟨gb225, 1, none⟩ = some (.slice Ao7 t218.length co7) := (blk_cell BK225.out 1).trans rfl
                    have hcz17_2 : wr.cell? ⟨gb225, 2, none⟩ = some (.slice Ao8 t221.length co8) := (blk_cell BK225.out 2).trans rfl
                    have hfz17_0 := blk_frozen BK225.out 0
                    have hfz17_1 := blk_frozen BK225.out 1
                    have hfz17_2 := blk_frozen BK225.out 2
                    have p226 : 0 ≤ (x6_2 : Int) := of_decide_eq_true (by first | (with_reducible assumption) | assumption)
                    have q226 : x6_2 < (t218.length : Int) := of_decide_eq_true (by first | (with_reducible assumption) | assumption)
                    obtain ⟨ad226, e226, hx226_0⟩ := Kd.at_int (Kd.R_reads' HO_226001.out).2.2 x6_2 p226 q226
                    cases e226
                    replace p226 := eq_true p226
                    replace q226 := eq_true q226
                    have p227 : 0 ≤ (x6_2 : Int) := of_decide_eq_true (by first | (with_reducible assumption) | assumption)
                    have q227 : x6_2 < (t218.length : Int) := of_decide_eq_true (by first | (with_reducible assumption) | assumption)
                    obtain ⟨ad227, e227, hx227_0⟩ := Kd.at_int (Kd.R_reads' HO_226001.out).2.2 x6_2 p227 q227
                    obtain rfl : ad226 = ad227 := (by injection e227)
                    replace p227 := eq_true p227
                    replace q227 := eq_true q227
                    go_wp2
                    go_ret2
                    exact ⟨by first | rfl | (simp [errW_none, errW_some] <;> rfl) | (simp [*, errW_none, errW_some] <;> rfl), by repeat (first | (with_reducible first | exact HB.out | apply below_alloc | apply pw_below_drewN | apply below_drew1 | refine below_set ?_ GE225.out) | exact HB.out)⟩
                  · rw [if_neg c16] at H
                    have c16b0 : ((rd t218 x6_2) == 34) = false := beq_eq_false_iff_ne.mpr c16
                    have c16b1 : ((rd t218 x6_2) != 34) = true := bne_iff_ne.mpr c16
                    have H' := Aside0.mk H
                    clear H
                    have hcz18_0 : wr.cell? ⟨gb225, 0, none⟩ = some (.string t217) := (blk_cell BK225.out 0).trans rfl
                    have hcz18_1 : wr.cell? ⟨gb225, 1, none⟩ = some (.slice Ao7 t218.length co7) := (blk_cell BK225.out 1).trans rfl
                    have hcz18_2 : wr.cell? ⟨gb225, 2, none⟩ = some (.slice Ao8 t221.length co8) := (blk_cell BK225.out 2).trans rfl
                    have hfz18_0 := blk_frozen BK225.out 0
                    have hfz18_1 := blk_frozen BK225.out 1
                    have hfz18_2 := blk_frozen BK225.out 2
                    have p226 : 0 ≤ (x6_2 : Int) := of_decide_eq_true (by first | (with_reducible assumption) | assumption)
                    have q226 : x6_2 < (t218.length : Int) := of_decide_eq_true (by first | (with_reducible assumption) | assumption)
                    obtain ⟨ad226, e226, hx226_0⟩ := Kd.at_int (Kd.R_reads' HO_226001.out).2.2 x6_2 p226 q226
                    cases e226
                    replace p226 := eq_true p226
                    replace q226 := eq_true q226
                    have p227 : 0 ≤ (x6_2 : Int) := of_decide_eq_true (by first | (with_reducible assumption) | assumption)
                    have q227 : x6_2 < (t218.length : Int) := of_decide_eq_true (by first | (with_reducible assumption) | assumption)
                    obtain ⟨ad227, e227, hx227_0⟩ := Kd.at_int (Kd.R_reads' HO_226001.out).2.2 x6_2 p227 q227
                    obtain rfl : ad226 = ad227 := (by injection e227)
                    replace p227 := eq_true p227
                    replace q227 := eq_true q227
                    go_wp2
                    go_roundg k2
                    case measure => have := HJ2.out; have := HK2.out; omega
                    case rel => exact ⟨(wrap64 (x6_2 + 1)), (by first | rfl | (simp; done) | (simp [*]; done)), H', ⟨by have := HJ2.out; have := HK2.out; omega⟩, ⟨by (with_reducible repeat (first | apply Kd.R_alloc | apply Kd.R_drewN | apply Kd.R_drew)); exact HO_226001.out⟩, ⟨by (with_reducible repeat (first | apply Kd.R_alloc | apply Kd.R_drewN | apply Kd.R_drew)); exact HO_226002.out⟩, ⟨by (with_reducible repeat (first | refine blk_drewN ?_ _ | refine blk_drew ?_ | refine blk_alloc ?_ _)); exact BK225.out⟩, ⟨by repeat (first | (with_reducible first | exact HB.out | apply below_alloc | apply pw_below_drewN | apply below_drew1 | refine below_set ?_ GE225.out) | exact HB.out)⟩⟩
              · rw [if_neg c13] at H
                exact absurd H (by simp)
            · rw [if_neg c12] at H
              have c12b0 : decide (x6_2 < (t218.length : Int)) = false := decide_eq_false c12
              clear c12
              by_cases c19 : 1 + a0.size ≤ 9223372036854775807
              · rw [if_pos c19] at H
                have c19b0 := eq_true c19
                have c19b1 : decide (1 + a0.size ≤ 9223372036854775807) = true := decide_eq_true c19
                try have c19b2 : (9223372036854775807 < 1 + a0.size) = False := eq_false (Nat.not_lt.2 c19)
                by_cases c20 : ((⟨#[34]⟩ : ByteArray) ++ a0).size + 1 ≤ 9223372036854775807
                · rw [if_pos c20] at H
                  have c20b0 := eq_true c20
                  have c20b1 : decide (((⟨#[34]⟩ : ByteArray) ++ a0).size + 1 ≤ 9223372036854775807) = true := decide_eq_true c20
                  try have c20b2 : (9223372036854775807 < ((⟨#[34]⟩ : ByteArray) ++ a0).size + 1) = False := eq_false (Nat.not_lt.2 c20)
                  have c20b3 := c20
                  simp only [ByteArray.size_append, show (⟨#[34]⟩ : ByteArray).size = 1 from rfl] at c20b3
                  simp only [Option.some.injEq, Prod.mk.injEq] at H
                  obtain ⟨rfl, rfl⟩ := H
                  have hcz21_0 : wr.cell? ⟨gb225, 0, none⟩ = some (.string t217) := (blk_cell BK225.out 0).trans rfl
                  have hcz21_1 : wr.cell? ⟨gb225, 1, none⟩ = some (.slice Ao7 t218.length co7) := (blk_cell BK225.out 1).trans rfl
                  have hcz21_2 : wr.cell? ⟨gb225, 2, none⟩ = some (.slice Ao8 t221.length co8) := (blk_cell BK225.out 2).trans rfl
                  have hfz21_0 := blk_frozen BK225.out 0
                  have hfz21_1 := blk_frozen BK225.out 1
                  have hfz21_2 := blk_frozen BK225.out 2
                  go_wp2
                  go_ret2
                  exact ⟨by first | rfl | (simp [errW_none, errW_some] <;> rfl) | (simp [*, errW_none, errW_some] <;> rfl), by repeat (first | (with_reducible first | exact HB.out | apply below_alloc | apply pw_below_drewN | apply below_drew1 | refine below_set ?_ GE225.out) | exact HB.out)⟩
                · rw [if_neg c20] at H
                  exact absurd H (by simp)
              · rw [if_neg c19] at H
                exact absurd H (by simp)
def malthouseref18_entry.f (k : Nat) (a0_0 : Int) (a0_1 : Int) (a0_2 : Int) (a0_3 : ByteArray) (a0_4 : Int) (a0_5 : Int) : Option (Bool) := (malthouseref01_Quote.f k a0_3).bind fun bt229 => (if bt229.2 = true then (if a0_0 ≥ 0 then (if a0_0 ≤ 1099511627776 then (if a0_1 ≥ 0 then (if a0_1 ≤ 1099511627776 then (if a0_2 ≥ 0 then (some (decide (a0_2 ≤ 5))) else (some false)) else (some false)) else (some false)) else (some false)) else (some false)) else (some false))
set_option maxHeartbeats 8000000 in
set_option maxRecDepth 100000 in
theorem malthouseref18_entry.calls (k : Nat) (a0_0 : Int) (a0_1 : Int) (a0_2 : Int) (a0_3 : ByteArray) (a0_4 : Int) (a0_5 : Int) (r : Bool) (w : World) (h : malthouseref18_entry.f k a0_0 a0_1 a0_2 a0_3 a0_4 a0_5 = some r) :
    Calls Tryd.prog 44 #[.agg #[.int .i64 a0_0, .int .i64 a0_1, .int .i64 a0_2, .string a0_3, .int .i64 a0_4, .int .i64 a0_5]] w fun e w' => e = .returned (.bool r) ∧ Below w.heap.size w w' := by
  have hu27 := Tryd.underlying27
  have HB := Aside0.mk (Below.refl w.heap.size w)
  have H : ((malthouseref01_Quote.f k a0_3).bind fun bt229 => (if bt229.2 = true then (if a0_0 ≥ 0 then (if a0_0 ≤ 1099511627776 then (if a0_1 ≥ 0 then (if a0_1 ≤ 1099511627776 then (if a0_2 ≥ 0 then (some (decide (a0_2 ≤ 5))) else (some false)) else (some false)) else (some false)) else (some false)) else (some false)) else (some false))) = some r := h
  clear h
  replace H := Option.bind_eq_some_iff.mp H
  obtain ⟨⟨t229, t230⟩, A20, H⟩ := H
  replace H : (if t230 = true then (if a0_0 ≥ 0 then (if a0_0 ≤ 1099511627776 then (if a0_1 ≥ 0 then (if a0_1 ≤ 1099511627776 then (if a0_2 ≥ 0 then (some (decide (a0_2 ≤ 5))) else (some false)) else (some false)) else (some false)) else (some false)) else (some false)) else (some false)) = some r := H
  have A2 := Aside0.mk A20
  clear A20
  by_cases c3 : t230 = true
  · subst c3
    have H1 : (if a0_0 ≥ 0 then (if a0_0 ≤ 1099511627776 then (if a0_1 ≥ 0 then (if a0_1 ≤ 1099511627776 then (if a0_2 ≥ 0 then (some (decide (a0_2 ≤ 5))) else (some false)) else (some false)) else (some false)) else (some false)) else (some false)) = some r := by rw [if_pos rfl] at H; exact H
    clear H
    have H := H1
    clear H1
    by_cases c4 : a0_0 ≥ 0
    · rw [if_pos c4] at H
      have c4b0 : decide (0 ≤ a0_0) = true := decide_eq_true c4
      clear c4
      by_cases c5 : a0_0 ≤ 1099511627776
      · rw [if_pos c5] at H
        have c5b0 : decide (a0_0 ≤ 1099511627776) = true := decide_eq_true c5
        clear c5
        by_cases c6 : a0_1 ≥ 0
        · rw [if_pos c6] at H
          have c6b0 : decide (0 ≤ a0_1) = true := decide_eq_true c6
          clear c6
          by_cases c7 : a0_1 ≤ 1099511627776
          · rw [if_pos c7] at H
            have c7b0 : decide (a0_1 ≤ 1099511627776) = true := decide_eq_true c7
            clear c7
            by_cases c8 : a0_2 ≥ 0
            · rw [if_pos c8] at H
              have c8b0 : decide (0 ≤ a0_2) = true := decide_eq_true c8
              clear c8
              obtain rfl := Option.some.inj H
              go_enter Tryd.func44, Tryd.ntmps44
              go_wp2_with (first | ((with_reducible refine gate_dst (N := 1) rfl ?_); refine box_event ?hg (N := 1) ?hd (cs := #[.int .i64 a0_0, .int .i64 a0_1, .int .i64 a0_2, .string a0_3, .int .i64 a0_4, .int .i64 a0_5]) (t := 27) ?hr ?_; (case hd => rfl); (case hg => rfl); (case hr => first | (go_simp; done) | (go_simp; rfl)); intro gb228 hg w9 hbox hb; have n0_ := Aside0.mk (below_step (by repeat (first | (with_reducible first | exact HB.out | apply below_alloc | apply pw_below_drewN | apply below_drew1) | exact HB.out)) hb); have n1_ := Aside0.mk (hbox); have n2_ := Aside0.mk ((by rw [hg]; exact (below_size (by repeat (first | (with_reducible first | exact HB.out | apply below_alloc | apply pw_below_drewN | apply below_drew1) | exact HB.out))) : w.heap.size ≤ gb228)); have n3_ := Aside0.mk ((by rw [hg]; exact (below_size (by repeat (first | (with_reducible first | exact HB.out | apply below_alloc | apply pw_below_drewN | apply below_drew1) | exact HB.out))) : w.heap.size ≤ gb228)); clear HB; have HB := n0_; have BK228 := n1_; have GW228 := n2_; have GE228 := n3_; clear n0_ n1_ n2_ n3_; clear hb hbox hg; have hcz10_0 : w9.cell? ⟨gb228, 0, none⟩ = some (.int .i64 a0_0) := (blk_cell BK228.out 0).trans rfl; have hcz10_1 : w9.cell? ⟨gb228, 1, none⟩ = some (.int .i64 a0_1) := (blk_cell BK228.out 1).trans rfl; have hcz10_2 : w9.cell? ⟨gb228, 2, none⟩ = some (.int .i64 a0_2) := (blk_cell BK228.out 2).trans rfl; have hcz10_3 : w9.cell? ⟨gb228, 3, none⟩ = some (.string a0_3) := (blk_cell BK228.out 3).trans rfl; have hcz10_4 : w9.cell? ⟨gb228, 4, none⟩ = some (.int .i64 a0_4) := (blk_cell BK228.out 4).trans rfl; have hcz10_5 : w9.cell? ⟨gb228, 5, none⟩ = some (.int .i64 a0_5) := (blk_cell BK228.out 5).trans rfl; have hfz10_0 := blk_frozen BK228.out 0; have hfz10_1 := blk_frozen BK228.out 1; have hfz10_2 := blk_frozen BK228.out 2; have hfz10_3 := blk_frozen BK228.out 3; have hfz10_4 := blk_frozen BK228.out 4; have hfz10_5 := blk_frozen BK228.out 5) | ((with_reducible refine gate_callee (f := 56) rfl ?_); refine goesL_ (some 8) rfl rfl Tryd.func56 (by kernel_rfl) rfl #[.string a0_3] rfl (by (try simp only [List.map_toArray, List.map_cons, List.map_nil]); first | done | rfl | (simp only [List.length_drop, List.length_take]; rfl)) ?_; (with_reducible refine (malthouseref01_Quote.calls k a0_3 t229 true _ A2.out).mono ?_); rintro e w11 ⟨rfl, hb⟩; refine ⟨_, rfl, ?_⟩; have n0_ := Aside0.mk (blk_below (g := gb228) (o := .cells #[.int .i64 a0_0, .int .i64 a0_1, .int .i64 a0_2, .string a0_3, .int .i64 a0_4, .int .i64 a0_5] 27 (0, 0)) (by (with_reducible repeat (first | refine blk_drewN ?_ _ | refine blk_drew ?_ | refine blk_alloc ?_ _)); exact BK228.out) hb); have n1_ := Aside0.mk (below_step (by repeat (first | (with_reducible first | exact HB.out | apply below_alloc | apply pw_below_drewN | apply below_drew1 | refine below_set ?_ GE228.out) | exact HB.out)) hb); clear BK228; clear HB; have BK228 := n0_; have HB := n1_; clear n0_ n1_; (try clear hb); (try clear hb2); (try clear hk); (try clear hi); have hcz12_0 : w11.cell? ⟨gb228, 0, none⟩ = some (.int .i64 a0_0) := (blk_cell BK228.out 0).trans rfl; have hcz12_1 : w11.cell? ⟨gb228, 1, none⟩ = some (.int .i64 a0_1) := (blk_cell BK228.out 1).trans rfl; have hcz12_2 : w11.cell? ⟨gb228, 2, none⟩ = some (.int .i64 a0_2) := (blk_cell BK228.out 2).trans rfl; have hcz12_3 : w11.cell? ⟨gb228, 3, none⟩ = some (.string a0_3) := (blk_cell BK228.out 3).trans rfl; have hcz12_4 : w11.cell? ⟨gb228, 4, none⟩ = some (.int .i64 a0_4) := (blk_cell BK228.out 4).trans rfl; have hcz12_5 : w11.cell? ⟨gb228, 5, none⟩ = some (.int .i64 a0_5) := (blk_cell BK228.out 5).trans rfl; have hfz12_0 := blk_frozen BK228.out 0; have hfz12_1 := blk_frozen BK228.out 1; have hfz12_2 := blk_frozen BK228.out 2; have hfz12_3 := blk_frozen BK228.out 3; have hfz12_4 := blk_frozen BK228.out 4; have hfz12_5 := blk_frozen BK228.out 5))
              go_ret
              exact ⟨by first | rfl | (simp [errW_none, errW_some] <;> rfl) | (simp [*, errW_none, errW_some] <;> rfl), by repeat (first | (with_reducible first | exact HB.out | apply below_alloc | apply pw_below_drewN | apply below_drew1 | refine below_set ?_ GE228.out) | exact HB.out)⟩
            · rw [if_neg c8] at H
              have c8b0 : decide (0 ≤ a0_2) = false := decide_eq_false c8
              clear c8
              obtain rfl := Option.some.inj H
              go_enter Tryd.func44, Tryd.ntmps44
              go_wp2_with (first | ((with_reducible refine gate_dst (N := 1) rfl ?_); refine box_event ?hg (N := 1) ?hd (cs := #[.int .i64 a0_0, .int .i64 a0_1, .int .i64 a0_2, .string a0_3, .int .i64 a0_4, .int .i64 a0_5]) (t := 27) ?hr ?_; (case hd => rfl); (case hg => rfl); (case hr => first | (go_simp; done) | (go_simp; rfl)); intro gb228 hg w13 hbox hb; have n0_ := Aside0.mk (below_step (by repeat (first | (with_reducible first | exact HB.out | apply below_alloc | apply pw_below_drewN | apply below_drew1) | exact HB.out)) hb); have n1_ := Aside0.mk (hbox); have n2_ := Aside0.mk ((by rw [hg]; exact (below_size (by repeat (first | (with_reducible first | exact HB.out | apply below_alloc | apply pw_below_drewN | apply below_drew1) | exact HB.out))) : w.heap.size ≤ gb228)); have n3_ := Aside0.mk ((by rw [hg]; exact (below_size (by repeat (first | (with_reducible first | exact HB.out | apply below_alloc | apply pw_below_drewN | apply below_drew1) | exact HB.out))) : w.heap.size ≤ gb228)); clear HB; have HB := n0_; have BK228 := n1_; have GW228 := n2_; have GE228 := n3_; clear n0_ n1_ n2_ n3_; clear hb hbox hg; have hcz14_0 : w13.cell? ⟨gb228, 0, none⟩ = some (.int .i64 a0_0) := (blk_cell BK228.out 0).trans rfl; have hcz14_1 : w13.cell? ⟨gb228, 1, none⟩ = some (.int .i64 a0_1) := (blk_cell BK228.out 1).trans rfl; have hcz14_2 : w13.cell? ⟨gb228, 2, none⟩ = some (.int .i64 a0_2) := (blk_cell BK228.out 2).trans rfl; have hcz14_3 : w13.cell? ⟨gb228, 3, none⟩ = some (.string a0_3) := (blk_cell BK228.out 3).trans rfl; have hcz14_4 : w13.cell? ⟨gb228, 4, none⟩ = some (.int .i64 a0_4) := (blk_cell BK228.out 4).trans rfl; have hcz14_5 : w13.cell? ⟨gb228, 5, none⟩ = some (.int .i64 a0_5) := (blk_cell BK228.out 5).trans rfl; have hfz14_0 := blk_frozen BK228.out 0; have hfz14_1 := blk_frozen BK228.out 1; have hfz14_2 := blk_frozen BK228.out 2; have hfz14_3 := blk_frozen BK228.out 3; have hfz14_4 := blk_frozen BK228.out 4; have hfz14_5 := blk_frozen BK228.out 5) | ((with_reducible refine gate_callee (f := 56) rfl ?_); refine goesL_ (some 8) rfl rfl Tryd.func56 (by kernel_rfl) rfl #[.string a0_3] rfl (by (try simp only [List.map_toArray, List.map_cons, List.map_nil]); first | done | rfl | (simp only [List.length_drop, List.length_take]; rfl)) ?_; (with_reducible refine (malthouseref01_Quote.calls k a0_3 t229 true _ A2.out).mono ?_); rintro e w15 ⟨rfl, hb⟩; refine ⟨_, rfl, ?_⟩; have n0_ := Aside0.mk (blk_below (g := gb228) (o := .cells #[.int .i64 a0_0, .int .i64 a0_1, .int .i64 a0_2, .string a0_3, .int .i64 a0_4, .int .i64 a0_5] 27 (0, 0)) (by (with_reducible repeat (first | refine blk_drewN ?_ _ | refine blk_drew ?_ | refine blk_alloc ?_ _)); exact BK228.out) hb); have n1_ := Aside0.mk (below_step (by repeat (first | (with_reducible first | exact HB.out | apply below_alloc | apply pw_below_drewN | apply below_drew1 | refine below_set ?_ GE228.out) | exact HB.out)) hb); clear BK228; clear HB; have BK228 := n0_; have HB := n1_; clear n0_ n1_; (try clear hb); (try clear hb2); (try clear hk); (try clear hi); have hcz16_0 : w15.cell? ⟨gb228, 0, none⟩ = some (.int .i64 a0_0) := (blk_cell BK228.out 0).trans rfl; have hcz16_1 : w15.cell? ⟨gb228, 1, none⟩ = some (.int .i64 a0_1) := (blk_cell BK228.out 1).trans rfl; have hcz16_2 : w15.cell? ⟨gb228, 2, none⟩ = some (.int .i64 a0_2) := (blk_cell BK228.out 2).trans rfl; have hcz16_3 : w15.cell? ⟨gb228, 3, none⟩ = some (.string a0_3) := (blk_cell BK228.out 3).trans rfl; have hcz16_4 : w15.cell? ⟨gb228, 4, none⟩ = some (.int .i64 a0_4) := (blk_cell BK228.out 4).trans rfl; have hcz16_5 : w15.cell? ⟨gb228, 5, none⟩ = some (.int .i64 a0_5) := (blk_cell BK228.out 5).trans rfl; have hfz16_0 := blk_frozen BK228.out 0; have hfz16_1 := blk_frozen BK228.out 1; have hfz16_2 := blk_frozen BK228.out 2; have hfz16_3 := blk_frozen BK228.out 3; have hfz16_4 := blk_frozen BK228.out 4; have hfz16_5 := blk_frozen BK228.out 5))
              go_ret
              exact ⟨by first | rfl | (simp [errW_none, errW_some] <;> rfl) | (simp [*, errW_none, errW_some] <;> rfl), by repeat (first | (with_reducible first | exact HB.out | apply below_alloc | apply pw_below_drewN | apply below_drew1 | refine below_set ?_ GE228.out) | exact HB.out)⟩
          · rw [if_neg c7] at H
            have c7b0 : decide (a0_1 ≤ 1099511627776) = false := decide_eq_false c7
            clear c7
            obtain rfl := Option.some.inj H
            go_enter Tryd.func44, Tryd.ntmps44
            go_wp2_with (first | ((with_reducible refine gate_dst (N := 1) rfl ?_); refine box_event ?hg (N := 1) ?hd (cs := #[.int .i64 a0_0, .int .i64 a0_1, .int .i64 a0_2, .string a0_3, .int .i64 a0_4, .int .i64 a0_5]) (t := 27) ?hr ?_; (case hd => rfl); (case hg => rfl); (case hr => first | (go_simp; done) | (go_simp; rfl)); intro gb228 hg w17 hbox hb; have n0_ := Aside0.mk (below_step (by repeat (first | (with_reducible first | exact HB.out | apply below_alloc | apply pw_below_drewN | apply below_drew1) | exact HB.out)) hb); have n1_ := Aside0.mk (hbox); have n2_ := Aside0.mk ((by rw [hg]; exact (below_size (by repeat (first | (with_reducible first | exact HB.out | apply below_alloc | apply pw_below_drewN | apply below_drew1) | exact HB.out))) : w.heap.size ≤ gb228)); have n3_ := Aside0.mk ((by rw [hg]; exact (below_size (by repeat (first | (with_reducible first | exact HB.out | apply below_alloc | apply pw_below_drewN | apply below_drew1) | exact HB.out))) : w.heap.size ≤ gb228)); clear HB; have HB := n0_; have BK228 := n1_; have GW228 := n2_; have GE228 := n3_; clear n0_ n1_ n2_ n3_; clear hb hbox hg; have hcz18_0 : w17.cell? ⟨gb228, 0, none⟩ = some (.int .i64 a0_0) := (blk_cell BK228.out 0).trans rfl; have hcz18_1 : w17.cell? ⟨gb228, 1, none⟩ = some (.int .i64 a0_1) := (blk_cell BK228.out 1).trans rfl; have hcz18_2 : w17.cell? ⟨gb228, 2, none⟩ = some (.int .i64 a0_2) := (blk_cell BK228.out 2).trans rfl; have hcz18_3 : w17.cell? ⟨gb228, 3, none⟩ = some (.string a0_3) := (blk_cell BK228.out 3).trans rfl; have hcz18_4 : w17.cell? ⟨gb228, 4, none⟩ = some (.int .i64 a0_4) := (blk_cell BK228.out 4).trans rfl; have hcz18_5 : w17.cell? ⟨gb228, 5, none⟩ = some (.int .i64 a0_5) := (blk_cell BK228.out 5).trans rfl; have hfz18_0 := blk_frozen BK228.out 0; have hfz18_1 := blk_frozen BK228.out 1; have hfz18_2 := blk_frozen BK228.out 2; have hfz18_3 := blk_frozen BK228.out 3; have hfz18_4 := blk_frozen BK228.out 4; have hfz18_5 := blk_frozen BK228.out 5) | ((with_reducible refine gate_callee (f := 56) rfl ?_); refine goesL_ (some 8) rfl rfl Tryd.func56 (by kernel_rfl) rfl #[.string a0_3] rfl (by (try simp only [List.map_toArray, List.map_cons, List.map_nil]); first | done | rfl | (simp only [List.length_drop, List.length_take]; rfl)) ?_; (with_reducible refine (malthouseref01_Quote.calls k a0_3 t229 true _ A2.out).mono ?_); rintro e w19 ⟨rfl, hb⟩; refine ⟨_, rfl, ?_⟩; have n0_ := Aside0.mk (blk_below (g := gb228) (o := .cells #[.int .i64 a0_0, .int .i64 a0_1, .int .i64 a0_2, .string a0_3, .int .i64 a0_4, .int .i64 a0_5] 27 (0, 0)) (by (with_reducible repeat (first | refine blk_drewN ?_ _ | refine blk_drew ?_ | refine blk_alloc ?_ _)); exact BK228.out) hb); have n1_ := Aside0.mk (below_step (by repeat (first | (with_reducible first | exact HB.out | apply below_alloc | apply pw_below_drewN | apply below_drew1 | refine below_set ?_ GE228.out) | exact HB.out)) hb); clear BK228; clear HB; have BK228 := n0_; have HB := n1_; clear n0_ n1_; (try clear hb); (try clear hb2); (try clear hk); (try clear hi); have hcz20_0 : w19.cell? ⟨gb228, 0, none⟩ = some (.int .i64 a0_0) := (blk_cell BK228.out 0).trans rfl; have hcz20_1 : w19.cell? ⟨gb228, 1, none⟩ = some (.int .i64 a0_1) := (blk_cell BK228.out 1).trans rfl; have hcz20_2 : w19.cell? ⟨gb228, 2, none⟩ = some (.int .i64 a0_2) := (blk_cell BK228.out 2).trans rfl; have hcz20_3 : w19.cell? ⟨gb228, 3, none⟩ = some (.string a0_3) := (blk_cell BK228.out 3).trans rfl; have hcz20_4 : w19.cell? ⟨gb228, 4, none⟩ = some (.int .i64 a0_4) := (blk_cell BK228.out 4).trans rfl; have hcz20_5 : w19.cell? ⟨gb228, 5, none⟩ = some (.int .i64 a0_5) := (blk_cell BK228.out 5).trans rfl; have hfz20_0 := blk_frozen BK228.out 0; have hfz20_1 := blk_frozen BK228.out 1; have hfz20_2 := blk_frozen BK228.out 2; have hfz20_3 := blk_frozen BK228.out 3; have hfz20_4 := blk_frozen BK228.out 4; have hfz20_5 := blk_frozen BK228.out 5))
            go_ret
            exact ⟨by first | rfl | (simp [errW_none, errW_some] <;> rfl) | (simp [*, errW_none, errW_some] <;> rfl), by repeat (first | (with_reducible first | exact HB.out | apply below_alloc | apply pw_below_drewN | apply below_drew1 | refine below_set ?_ GE228.out) | exact HB.out)⟩
        · rw [if_neg c6] at H
          have c6b0 : decide (0 ≤ a0_1) = false := decide_eq_false c6
          clear c6
          obtain rfl := Option.some.inj H
          go_enter Tryd.func44, Tryd.ntmps44
          go_wp2_with (first | ((with_reducible refine gate_dst (N := 1) rfl ?_); refine box_event ?hg (N := 1) ?hd (cs := #[.int .i64 a0_0, .int .i64 a0_1, .int .i64 a0_2, .string a0_3, .int .i64 a0_4, .int .i64 a0_5]) (t := 27) ?hr ?_; (case hd => rfl); (case hg => rfl); (case hr => first | (go_simp; done) | (go_simp; rfl)); intro gb228 hg w21 hbox hb; have n0_ := Aside0.mk (below_step (by repeat (first | (with_reducible first | exact HB.out | apply below_alloc | apply pw_below_drewN | apply below_drew1) | exact HB.out)) hb); have n1_ := Aside0.mk (hbox); have n2_ := Aside0.mk ((by rw [hg]; exact (below_size (by repeat (first | (with_reducible first | exact HB.out | apply below_alloc | apply pw_below_drewN | apply below_drew1) | exact HB.out))) : w.heap.size ≤ gb228)); have n3_ := Aside0.mk ((by rw [hg]; exact (below_size (by repeat (first | (with_reducible first | exact HB.out | apply below_alloc | apply pw_below_drewN | apply below_drew1) | exact HB.out))) : w.heap.size ≤ gb228)); clear HB; have HB := n0_; have BK228 := n1_; have GW228 := n2_; have GE228 := n3_; clear n0_ n1_ n2_ n3_; clear hb hbox hg; have hcz22_0 : w21.cell? ⟨gb228, 0, none⟩ = some (.int .i64 a0_0) := (blk_cell BK228.out 0).trans rfl; have hcz22_1 : w21.cell? ⟨gb228, 1, none⟩ = some (.int .i64 a0_1) := (blk_cell BK228.out 1).trans rfl; have hcz22_2 : w21.cell? ⟨gb228, 2, none⟩ = some (.int .i64 a0_2) := (blk_cell BK228.out 2).trans rfl; have hcz22_3 : w21.cell? ⟨gb228, 3, none⟩ = some (.string a0_3) := (blk_cell BK228.out 3).trans rfl; have hcz22_4 : w21.cell? ⟨gb228, 4, none⟩ = some (.int .i64 a0_4) := (blk_cell BK228.out 4).trans rfl; have hcz22_5 : w21.cell? ⟨gb228, 5, none⟩ = some (.int .i64 a0_5) := (blk_cell BK228.out 5).trans rfl; have hfz22_0 := blk_frozen BK228.out 0; have hfz22_1 := blk_frozen BK228.out 1; have hfz22_2 := blk_frozen BK228.out 2; have hfz22_3 := blk_frozen BK228.out 3; have hfz22_4 := blk_frozen BK228.out 4; have hfz22_5 := blk_frozen BK228.out 5) | ((with_reducible refine gate_callee (f := 56) rfl ?_); refine goesL_ (some 8) rfl rfl Tryd.func56 (by kernel_rfl) rfl #[.string a0_3] rfl (by (try simp only [List.map_toArray, List.map_cons, List.map_nil]); first | done | rfl | (simp only [List.length_drop, List.length_take]; rfl)) ?_; (with_reducible refine (malthouseref01_Quote.calls k a0_3 t229 true _ A2.out).mono ?_); rintro e w23 ⟨rfl, hb⟩; refine ⟨_, rfl, ?_⟩; have n0_ := Aside0.mk (blk_below (g := gb228) (o := .cells #[.int .i64 a0_0, .int .i64 a0_1, .int .i64 a0_2, .string a0_3, .int .i64 a0_4, .int .i64 a0_5] 27 (0, 0)) (by (with_reducible repeat (first | refine blk_drewN ?_ _ | refine blk_drew ?_ | refine blk_alloc ?_ _)); exact BK228.out) hb); have n1_ := Aside0.mk (below_step (by repeat (first | (with_reducible first | exact HB.out | apply below_alloc | apply pw_below_drewN | apply below_drew1 | refine below_set ?_ GE228.out) | exact HB.out)) hb); clear BK228; clear HB; have BK228 := n0_; have HB := n1_; clear n0_ n1_; (try clear hb); (try clear hb2); (try clear hk); (try clear hi); have hcz24_0 : w23.cell? ⟨gb228, 0, none⟩ = some (.int .i64 a0_0) := (blk_cell BK228.out 0).trans rfl; have hcz24_1 : w23.cell? ⟨gb228, 1, none⟩ = some (.int .i64 a0_1) := (blk_cell BK228.out 1).trans rfl; have hcz24_2 : w23.cell? ⟨gb228, 2, none⟩ = some (.int .i64 a0_2) := (blk_cell BK228.out 2).trans rfl; have hcz24_3 : w23.cell? ⟨gb228, 3, none⟩ = some (.string a0_3) := (blk_cell BK228.out 3).trans rfl; have hcz24_4 : w23.cell? ⟨gb228, 4, none⟩ = some (.int .i64 a0_4) := (blk_cell BK228.out 4).trans rfl; have hcz24_5 : w23.cell? ⟨gb228, 5, none⟩ = some (.int .i64 a0_5) := (blk_cell BK228.out 5).trans rfl; have hfz24_0 := blk_frozen BK228.out 0; have hfz24_1 := blk_frozen BK228.out 1; have hfz24_2 := blk_frozen BK228.out 2; have hfz24_3 := blk_frozen BK228.out 3; have hfz24_4 := blk_frozen BK228.out 4; have hfz24_5 := blk_frozen BK228.out 5))
          go_ret
          exact ⟨by first | rfl | (simp [errW_none, errW_some] <;> rfl) | (simp [*, errW_none, errW_some] <;> rfl), by repeat (first | (with_reducible first | exact HB.out | apply below_alloc | apply pw_below_drewN | apply below_drew1 | refine below_set ?_ GE228.out) | exact HB.out)⟩
      · rw [if_neg c5] at H
        have c5b0 : decide (a0_0 ≤ 1099511627776) = false := decide_eq_false c5
        clear c5
        obtain rfl := Option.some.inj H
        go_enter Tryd.func44, Tryd.ntmps44
        go_wp2_with (first | ((with_reducible refine gate_dst (N := 1) rfl ?_); refine box_event ?hg (N := 1) ?hd (cs := #[.int .i64 a0_0, .int .i64 a0_1, .int .i64 a0_2, .string a0_3, .int .i64 a0_4, .int .i64 a0_5]) (t := 27) ?hr ?_; (case hd => rfl); (case hg => rfl); (case hr => first | (go_simp; done) | (go_simp; rfl)); intro gb228 hg w25 hbox hb; have n0_ := Aside0.mk (below_step (by repeat (first | (with_reducible first | exact HB.out | apply below_alloc | apply pw_below_drewN | apply below_drew1) | exact HB.out)) hb); have n1_ := Aside0.mk (hbox); have n2_ := Aside0.mk ((by rw [hg]; exact (below_size (by repeat (first | (with_reducible first | exact HB.out | apply below_alloc | apply pw_below_drewN | apply below_drew1) | exact HB.out))) : w.heap.size ≤ gb228)); have n3_ := Aside0.mk ((by rw [hg]; exact (below_size (by repeat (first | (with_reducible first | exact HB.out | apply below_alloc | apply pw_below_drewN | apply below_drew1) | exact HB.out))) : w.heap.size ≤ gb228)); clear HB; have HB := n0_; have BK228 := n1_; have GW228 := n2_; have GE228 := n3_; clear n0_ n1_ n2_ n3_; clear hb hbox hg; have hcz26_0 : w25.cell? ⟨gb228, 0, none⟩ = some (.int .i64 a0_0) := (blk_cell BK228.out 0).trans rfl; have hcz26_1 : w25.cell? ⟨gb228, 1, none⟩ = some (.int .i64 a0_1) := (blk_cell BK228.out 1).trans rfl; have hcz26_2 : w25.cell? ⟨gb228, 2, none⟩ = some (.int .i64 a0_2) := (blk_cell BK228.out 2).trans rfl; have hcz26_3 : w25.cell? ⟨gb228, 3, none⟩ = some (.string a0_3) := (blk_cell BK228.out 3).trans rfl; have hcz26_4 : w25.cell? ⟨gb228, 4, none⟩ = some (.int .i64 a0_4) := (blk_cell BK228.out 4).trans rfl; have hcz26_5 : w25.cell? ⟨gb228, 5, none⟩ = some (.int .i64 a0_5) := (blk_cell BK228.out 5).trans rfl; have hfz26_0 := blk_frozen BK228.out 0; have hfz26_1 := blk_frozen BK228.out 1; have hfz26_2 := blk_frozen BK228.out 2; have hfz26_3 := blk_frozen BK228.out 3; have hfz26_4 := blk_frozen BK228.out 4; have hfz26_5 := blk_frozen BK228.out 5) | ((with_reducible refine gate_callee (f := 56) rfl ?_); refine goesL_ (some 8) rfl rfl Tryd.func56 (by kernel_rfl) rfl #[.string a0_3] rfl (by (try simp only [List.map_toArray, List.map_cons, List.map_nil]); first | done | rfl | (simp only [List.length_drop, List.length_take]; rfl)) ?_; (with_reducible refine (malthouseref01_Quote.calls k a0_3 t229 true _ A2.out).mono ?_); rintro e w27 ⟨rfl, hb⟩; refine ⟨_, rfl, ?_⟩; have n0_ := Aside0.mk (blk_below (g := gb228) (o := .cells #[.int .i64 a0_0, .int .i64 a0_1, .int .i64 a0_2, .string a0_3, .int .i64 a0_4, .int .i64 a0_5] 27 (0, 0)) (by (with_reducible repeat (first | refine blk_drewN ?_ _ | refine blk_drew ?_ | refine blk_alloc ?_ _)); exact BK228.out) hb); have n1_ := Aside0.mk (below_step (by repeat (first | (with_reducible first | exact HB.out | apply below_alloc | apply pw_below_drewN | apply below_drew1 | refine below_set ?_ GE228.out) | exact HB.out)) hb); clear BK228; clear HB; have BK228 := n0_; have HB := n1_; clear n0_ n1_; (try clear hb); (try clear hb2); (try clear hk); (try clear hi); have hcz28_0 : w27.cell? ⟨gb228, 0, none⟩ = some (.int .i64 a0_0) := (blk_cell BK228.out 0).trans rfl; have hcz28_1 : w27.cell? ⟨gb228, 1, none⟩ = some (.int .i64 a0_1) := (blk_cell BK228.out 1).trans rfl; have hcz28_2 : w27.cell? ⟨gb228, 2, none⟩ = some (.int .i64 a0_2) := (blk_cell BK228.out 2).trans rfl; have hcz28_3 : w27.cell? ⟨gb228, 3, none⟩ = some (.string a0_3) := (blk_cell BK228.out 3).trans rfl; have hcz28_4 : w27.cell? ⟨gb228, 4, none⟩ = some (.int .i64 a0_4) := (blk_cell BK228.out 4).trans rfl; have hcz28_5 : w27.cell? ⟨gb228, 5, none⟩ = some (.int .i64 a0_5) := (blk_cell BK228.out 5).trans rfl; have hfz28_0 := blk_frozen BK228.out 0; have hfz28_1 := blk_frozen BK228.out 1; have hfz28_2 := blk_frozen BK228.out 2; have hfz28_3 := blk_frozen BK228.out 3; have hfz28_4 := blk_frozen BK228.out 4; have hfz28_5 := blk_frozen BK228.out 5))
        go_ret
        exact ⟨by first | rfl | (simp [errW_none, errW_some] <;> rfl) | (simp [*, errW_none, errW_some] <;> rfl), by repeat (first | (with_reducible first | exact HB.out | apply below_alloc | apply pw_below_drewN | apply below_drew1 | refine below_set ?_ GE228.out) | exact HB.out)⟩
    · rw [if_neg c4] at H
      have c4b0 : decide (0 ≤ a0_0) = false := decide_eq_false c4
      clear c4
      obtain rfl := Option.some.inj H
      go_enter Tryd.func44, Tryd.ntmps44
      go_wp2_with (first | ((with_reducible refine gate_dst (N := 1) rfl ?_); refine box_event ?hg (N := 1) ?hd (cs := #[.int .i64 a0_0, .int .i64 a0_1, .int .i64 a0_2, .string a0_3, .int .i64 a0_4, .int .i64 a0_5]) (t := 27) ?hr ?_; (case hd => rfl); (case hg => rfl); (case hr => first | (go_simp; done) | (go_simp; rfl)); intro gb228 hg w29 hbox hb; have n0_ := Aside0.mk (below_step (by repeat (first | (with_reducible first | exact HB.out | apply below_alloc | apply pw_below_drewN | apply below_drew1) | exact HB.out)) hb); have n1_ := Aside0.mk (hbox); have n2_ := Aside0.mk ((by rw [hg]; exact (below_size (by repeat (first | (with_reducible first | exact HB.out | apply below_alloc | apply pw_below_drewN | apply below_drew1) | exact HB.out))) : w.heap.size ≤ gb228)); have n3_ := Aside0.mk ((by rw [hg]; exact (below_size (by repeat (first | (with_reducible first | exact HB.out | apply below_alloc | apply pw_below_drewN | apply below_drew1) | exact HB.out))) : w.heap.size ≤ gb228)); clear HB; have HB := n0_; have BK228 := n1_; have GW228 := n2_; have GE228 := n3_; clear n0_ n1_ n2_ n3_; clear hb hbox hg; have hcz30_0 : w29.cell? ⟨gb228, 0, none⟩ = some (.int .i64 a0_0) := (blk_cell BK228.out 0).trans rfl; have hcz30_1 : w29.cell? ⟨gb228, 1, none⟩ = some (.int .i64 a0_1) := (blk_cell BK228.out 1).trans rfl; have hcz30_2 : w29.cell? ⟨gb228, 2, none⟩ = some (.int .i64 a0_2) := (blk_cell BK228.out 2).trans rfl; have hcz30_3 : w29.cell? ⟨gb228, 3, none⟩ = some (.string a0_3) := (blk_cell BK228.out 3).trans rfl; have hcz30_4 : w29.cell? ⟨gb228, 4, none⟩ = some (.int .i64 a0_4) := (blk_cell BK228.out 4).trans rfl; have hcz30_5 : w29.cell? ⟨gb228, 5, none⟩ = some (.int .i64 a0_5) := (blk_cell BK228.out 5).trans rfl; have hfz30_0 := blk_frozen BK228.out 0; have hfz30_1 := blk_frozen BK228.out 1; have hfz30_2 := blk_frozen BK228.out 2; have hfz30_3 := blk_frozen BK228.out 3; have hfz30_4 := blk_frozen BK228.out 4; have hfz30_5 := blk_frozen BK228.out 5) | ((with_reducible refine gate_callee (f := 56) rfl ?_); refine goesL_ (some 8) rfl rfl Tryd.func56 (by kernel_rfl) rfl #[.string a0_3] rfl (by (try simp only [List.map_toArray, List.map_cons, List.map_nil]); first | done | rfl | (simp only [List.length_drop, List.length_take]; rfl)) ?_; (with_reducible refine (malthouseref01_Quote.calls k a0_3 t229 true _ A2.out).mono ?_); rintro e w31 ⟨rfl, hb⟩; refine ⟨_, rfl, ?_⟩; have n0_ := Aside0.mk (blk_below (g := gb228) (o := .cells #[.int .i64 a0_0, .int .i64 a0_1, .int .i64 a0_2, .string a0_3, .int .i64 a0_4, .int .i64 a0_5] 27 (0, 0)) (by (with_reducible repeat (first | refine blk_drewN ?_ _ | refine blk_drew ?_ | refine blk_alloc ?_ _)); exact BK228.out) hb); have n1_ := Aside0.mk (below_step (by repeat (first | (with_reducible first | exact HB.out | apply below_alloc | apply pw_below_drewN | apply below_drew1 | refine below_set ?_ GE228.out) | exact HB.out)) hb); clear BK228; clear HB; have BK228 := n0_; have HB := n1_; clear n0_ n1_; (try clear hb); (try clear hb2); (try clear hk); (try clear hi); have hcz32_0 : w31.cell? ⟨gb228, 0, none⟩ = some (.int .i64 a0_0) := (blk_cell BK228.out 0).trans rfl; have hcz32_1 : w31.cell? ⟨gb228, 1, none⟩ = some (.int .i64 a0_1) := (blk_cell BK228.out 1).trans rfl; have hcz32_2 : w31.cell? ⟨gb228, 2, none⟩ = some (.int .i64 a0_2) := (blk_cell BK228.out 2).trans rfl; have hcz32_3 : w31.cell? ⟨gb228, 3, none⟩ = some (.string a0_3) := (blk_cell BK228.out 3).trans rfl; have hcz32_4 : w31.cell? ⟨gb228, 4, none⟩ = some (.int .i64 a0_4) := (blk_cell BK228.out 4).trans rfl; have hcz32_5 : w31.cell? ⟨gb228, 5, none⟩ = some (.int .i64 a0_5) := (blk_cell BK228.out 5).trans rfl; have hfz32_0 := blk_frozen BK228.out 0; have hfz32_1 := blk_frozen BK228.out 1; have hfz32_2 := blk_frozen BK228.out 2; have hfz32_3 := blk_frozen BK228.out 3; have hfz32_4 := blk_frozen BK228.out 4; have hfz32_5 := blk_frozen BK228.out 5))
      go_ret
      exact ⟨by first | rfl | (simp [errW_none, errW_some] <;> rfl) | (simp [*, errW_none, errW_some] <;> rfl), by repeat (first | (with_reducible first | exact HB.out | apply below_alloc | apply pw_below_drewN | apply below_drew1 | refine below_set ?_ GE228.out) | exact HB.out)⟩
  · replace c3 := Bool.eq_false_iff.mpr c3
    subst c3
    have H1 : (some false) = some r := by rw [if_neg (show ¬ (false = true) by decide)] at H; exact H
    clear H
    have H := H1
    clear H1
    obtain rfl := Option.some.inj H
    go_enter Tryd.func44, Tryd.ntmps44
    go_wp2_with (first | ((with_reducible refine gate_dst (N := 1) rfl ?_); refine box_event ?hg (N := 1) ?hd (cs := #[.int .i64 a0_0, .int .i64 a0_1, .int .i64 a0_2, .string a0_3, .int .i64 a0_4, .int .i64 a0_5]) (t := 27) ?hr ?_; (case hd => rfl); (case hg => rfl); (case hr => first | (go_simp; done) | (go_simp; rfl)); intro gb228 hg w33 hbox hb; have n0_ := Aside0.mk (below_step (by repeat (first | (with_reducible first | exact HB.out | apply below_alloc | apply pw_below_drewN | apply below_drew1) | exact HB.out)) hb); have n1_ := Aside0.mk (hbox); have n2_ := Aside0.mk ((by rw [hg]; exact (below_size (by repeat (first | (with_reducible first | exact HB.out | apply below_alloc | apply pw_below_drewN | apply below_drew1) | exact HB.out))) : w.heap.size ≤ gb228)); have n3_ := Aside0.mk ((by rw [hg]; exact (below_size (by repeat (first | (with_reducible first | exact HB.out | apply below_alloc | apply pw_below_drewN | apply below_drew1) | exact HB.out))) : w.heap.size ≤ gb228)); clear HB; have HB := n0_; have BK228 := n1_; have GW228 := n2_; have GE228 := n3_; clear n0_ n1_ n2_ n3_; clear hb hbox hg; have hcz34_0 : w33.cell? ⟨gb228, 0, none⟩ = some (.int .i64 a0_0) := (blk_cell BK228.out 0).trans rfl; have hcz34_1 : w33.cell? ⟨gb228, 1, none⟩ = some (.int .i64 a0_1) := (blk_cell BK228.out 1).trans rfl; have hcz34_2 : w33.cell? ⟨gb228, 2, none⟩ = some (.int .i64 a0_2) := (blk_cell BK228.out 2).trans rfl; have hcz34_3 : w33.cell? ⟨gb228, 3, none⟩ = some (.string a0_3) := (blk_cell BK228.out 3).trans rfl; have hcz34_4 : w33.cell? ⟨gb228, 4, none⟩ = some (.int .i64 a0_4) := (blk_cell BK228.out 4).trans rfl; have hcz34_5 : w33.cell? ⟨gb228, 5, none⟩ = some (.int .i64 a0_5) := (blk_cell BK228.out 5).trans rfl; have hfz34_0 := blk_frozen BK228.out 0; have hfz34_1 := blk_frozen BK228.out 1; have hfz34_2 := blk_frozen BK228.out 2; have hfz34_3 := blk_frozen BK228.out 3; have hfz34_4 := blk_frozen BK228.out 4; have hfz34_5 := blk_frozen BK228.out 5) | ((with_reducible refine gate_callee (f := 56) rfl ?_); refine goesL_ (some 8) rfl rfl Tryd.func56 (by kernel_rfl) rfl #[.string a0_3] rfl (by (try simp only [List.map_toArray, List.map_cons, List.map_nil]); first | done | rfl | (simp only [List.length_drop, List.length_take]; rfl)) ?_; (with_reducible refine (malthouseref01_Quote.calls k a0_3 t229 false _ A2.out).mono ?_); rintro e w35 ⟨rfl, hb⟩; refine ⟨_, rfl, ?_⟩; have n0_ := Aside0.mk (blk_below (g := gb228) (o := .cells #[.int .i64 a0_0, .int .i64 a0_1, .int .i64 a0_2, .string a0_3, .int .i64 a0_4, .int .i64 a0_5] 27 (0, 0)) (by (with_reducible repeat (first | refine blk_drewN ?_ _ | refine blk_drew ?_ | refine blk_alloc ?_ _)); exact BK228.out) hb); have n1_ := Aside0.mk (below_step (by repeat (first | (with_reducible first | exact HB.out | apply below_alloc | apply pw_below_drewN | apply below_drew1 | refine below_set ?_ GE228.out) | exact HB.out)) hb); clear BK228; clear HB; have BK228 := n0_; have HB := n1_; clear n0_ n1_; (try clear hb); (try clear hb2); (try clear hk); (try clear hi)))
    go_ret
    exact ⟨by first | rfl | (simp [errW_none, errW_some] <;> rfl) | (simp [*, errW_none, errW_some] <;> rfl), by repeat (first | (with_reducible first | exact HB.out | apply below_alloc | apply pw_below_drewN | apply below_drew1 | refine below_set ?_ GE228.out) | exact HB.out)⟩
mutual
def malthouseref18_Right.l0 : Nat → Int → List (S27) → List (S35) → Int → Option (Bool)
  | 0, _, _, _, _ => none
  | k + 1, x3, x232000, x232001, x232002 => if x3 < (x232000.length : Int) then (if 0 ≤ x3 then ((malthouseref18_entry.f k ((rd_T27 x232000 x3).f0) ((rd_T27 x232000 x3).f1) ((rd_T27 x232000 x3).f2) ((rd_T27 x232000 x3).f3) ((rd_T27 x232000 x3).f4) ((rd_T27 x232000 x3).f5)).bind fun t233 => (if t233 = true then (malthouseref18_Right.l0 k (wrap64 (x3 + 1)) x232000 x232001 x232002) else (some false))) else (none)) else (malthouseref18_Right.l1 k 0 0 x232000 x232001 x232002)
def malthouseref18_Right.l1 : Nat → Int → Int → List (S27) → List (S35) → Int → Option (Bool)
  | 0, _, _, _, _, _ => none
  | k + 1, x5, x6, x232000, x232001, x232002 => if x6 < (x232001.length : Int) then (if 0 ≤ x6 then (if ((rd_T35 x232001 x6).f0) ≤ x5 then (some false) else (if ((rd_T35 x232001 x6).f0) > 1099511627776 then (some false) else (if ((rd_T35 x232001 x6).f1) < 0 then (some false) else (if ((rd_T35 x232001 x6).f1) > 40 then (some false) else (if ((rd_T35 x232001 x6).f2) < 0 then (some false) else (if ((rd_T35 x232001 x6).f2) > 1099511627776 then (some false) else (malthouseref18_Right.l1 k ((rd_T35 x232001 x6).f0) (wrap64 (x6 + 1)) x232000 x232001 x232002))))))) else (none)) else (if x232002 ≥ 0 then (if x232002 ≤ 1099511627776 then ((malthouseref18_sum.f k x232000 x232001 x232002).bind fun t236 => (some (decide (t236 ≤ 120)))) else (some false)) else (some false))
end
def malthouseref18_Right.f (k : Nat) (l0_0 : List (S27)) (l0_1 : List (S35)) (a0_2 : Int) : Option (Bool) := malthouseref18_Right.l0 k 0 l0_0 l0_1 a0_2
set_option maxHeartbeats 8000000 in
set_option maxRecDepth 100000 in
theorem malthouseref18_Right.calls (k : Nat) (A0_0 : Option Addr) (c0_0 : Nat) (l0_0 : List (S27)) (A0_1 : Option Addr) (c0_1 : Nat) (l0_1 : List (S35)) (a0_2 : Int) (r : Bool) (w : World) (hr0_0 : Kd.C k27 w A0_0 l0_0.length l0_0) (hc0_0 : l0_0.length ≤ c0_0) (hr0_1 : Kd.C k35 w A0_1 l0_1.length l0_1) (hc0_1 : l0_1.length ≤ c0_1) (h : malthouseref18_Right.f k l0_0 l0_1 a0_2 = some r) :
    Calls Tryd.prog 28 #[.agg #[.slice A0_0 l0_0.length c0_0, .slice A0_1 l0_1.length c0_1, .int .i64 a0_2]] w fun e w' => e = .returned (.bool r) ∧ Below w.heap.size w w' := by
  have hu25 := Tryd.underlying25
  have hu27 := Tryd.underlying27
  have hu35 := Tryd.underlying35
  have HR0_0 := Aside0.mk hr0_0
  have HC0_0 := Aside0.mk hc0_0
  clear hr0_0 hc0_0
  have HR0_1 := Aside0.mk hr0_1
  have HC0_1 := Aside0.mk hc0_1
  clear hr0_1 hc0_1
  have HB := Aside0.mk (Below.refl w.heap.size w)
  have H : (malthouseref18_Right.l0 k 0 l0_0 l0_1 a0_2) = some r := h
  clear h
  have H' := Aside0.mk H
  clear H
  go_enter Tryd.func28, Tryd.ntmps28
  go_wp2_with (first | ((with_reducible refine gate_dst (N := 1) rfl ?_); refine box_event ?hg (N := 1) ?hd (cs := #[.slice A0_0 l0_0.length c0_0, .slice A0_1 l0_1.length c0_1, .int .i64 a0_2]) (t := 25) ?hr ?_; (case hd => rfl); (case hg => rfl); (case hr => first | (go_simp; done) | (go_simp; rfl)); intro gb231 hg w2 hbox hb; have n0_ := Aside0.mk (below_step (by repeat (first | (with_reducible first | exact HB.out | apply below_alloc | apply pw_below_drewN | apply below_drew1) | exact HB.out)) hb); have n1_ := Aside0.mk (hbox); have n2_ := Aside0.mk ((by rw [hg]; exact (below_size (by repeat (first | (with_reducible first | exact HB.out | apply below_alloc | apply pw_below_drewN | apply below_drew1) | exact HB.out))) : w.heap.size ≤ gb231)); have n3_ := Aside0.mk ((by rw [hg]; exact (below_size (by repeat (first | (with_reducible first | exact HB.out | apply below_alloc | apply pw_below_drewN | apply below_drew1) | exact HB.out))) : w.heap.size ≤ gb231)); clear HB; have HB := n0_; have BK231 := n1_; have GW231 := n2_; have GE231 := n3_; clear n0_ n1_ n2_ n3_; clear hb hbox hg))
  go_loopg [3] k (fun kq v3 w' => ∃ (x3_1 : Int), v3 = .int .i64 x3_1 ∧ Aside0 (malthouseref18_Right.l0 kq x3_1 l0_0 l0_1 a0_2 = some r) ∧ Aside0 (kq ≤ k) ∧ Aside0 (w'.heap[gb231]? = some (.cells #[(.slice A0_0 l0_0.length c0_0), (.slice A0_1 l0_1.length c0_1), .int .i64 a0_2] 25 (0, 0))) ∧ Aside0 (Below w.heap.size w w'))
  case atStart => exact ⟨(0), (by first | rfl | (simp; done) | (simp [*]; done)), H', ⟨Nat.le_refl _⟩, ⟨by (with_reducible repeat (first | refine blk_drewN ?_ _ | refine blk_drew ?_ | refine blk_alloc ?_ _)); exact BK231.out⟩, ⟨by repeat (first | (with_reducible first | exact HB.out | apply below_alloc | apply pw_below_drewN | apply below_drew1 | refine below_set ?_ GE231.out) | exact HB.out)⟩⟩
  case round =>
    clear H'
    try clear c2
    try clear p2
    obtain ⟨x3_1, rfl, HA, HK1, BK231, HB⟩ := hrel
    cases gk with
    | zero => exact absurd HA.out (by simp [malthouseref18_Right.l0])
    | succ k1 =>
      have H := HA.out
      clear HA
      simp only [malthouseref18_Right.l0] at H
      by_cases c3 : x3_1 < (l0_0.length : Int)
      · rw [if_pos c3] at H
        have c3b0 : decide (x3_1 < (l0_0.length : Int)) = true := decide_eq_true c3
        clear c3
        by_cases c4 : 0 ≤ x3_1
        · rw [if_pos c4] at H
          have c4b0 : decide (0 ≤ x3_1) = true := decide_eq_true c4
          clear c4
          replace H := Option.bind_eq_some_iff.mp H
          obtain ⟨t233, A50, H⟩ := H
          replace H : (if t233 = true then (malthouseref18_Right.l0 k1 (wrap64 (x3_1 + 1)) l0_0 l0_1 a0_2) else (some false)) = some r := H
          have A5 := Aside0.mk A50
          clear A50
          by_cases c6 : t233 = true
          · subst c6
            have H1 : (malthouseref18_Right.l0 k1 (wrap64 (x3_1 + 1)) l0_0 l0_1 a0_2) = some r := by rw [if_pos rfl] at H; exact H
            clear H
            have H := H1
            clear H1
            have H' := Aside0.mk H
            clear H
            have hcz7_0 : wr.cell? ⟨gb231, 0, none⟩ = some (.slice A0_0 l0_0.length c0_0) := (blk_cell BK231.out 0).trans rfl
            have hcz7_1 : wr.cell? ⟨gb231, 1, none⟩ = some (.slice A0_1 l0_1.length c0_1) := (blk_cell BK231.out 1).trans rfl
            have hcz7_2 : wr.cell? ⟨gb231, 2, none⟩ = some (.int .i64 a0_2) := (blk_cell BK231.out 2).trans rfl
            have hfz7_0 := blk_frozen BK231.out 0
            have hfz7_1 := blk_frozen BK231.out 1
            have hfz7_2 := blk_frozen BK231.out 2
            have p232 : 0 ≤ (x3_1 : Int) := of_decide_eq_true (by first | (with_reducible assumption) | assumption)
            have q232 : x3_1 < (l0_0.length : Int) := of_decide_eq_true (by first | (with_reducible assumption) | assumption)
            obtain ⟨ad232, e232, hx232_0, hx232_1, hx232_2, hx232_3, hx232_4, hx232_5⟩ := at_T27 HR0_0.out x3_1 p232 q232
            cases e232
            replace hx232_0 := (HB.out.cell (World.block_lt_of_cell? w _ hx232_0)).trans hx232_0
            replace hx232_1 := (HB.out.cell (World.block_lt_of_cell? w _ hx232_1)).trans hx232_1
            replace hx232_2 := (HB.out.cell (World.block_lt_of_cell? w _ hx232_2)).trans hx232_2
            replace hx232_3 := (HB.out.cell (World.block_lt_of_cell? w _ hx232_3)).trans hx232_3
            replace hx232_4 := (HB.out.cell (World.block_lt_of_cell? w _ hx232_4)).trans hx232_4
            replace hx232_5 := (HB.out.cell (World.block_lt_of_cell? w _ hx232_5)).trans hx232_5
            replace p232 := eq_true p232
            replace q232 := eq_true q232
            go_wp2_with (first | ((with_reducible refine gate_callee (f := 44) rfl ?_); refine goesL_ (some 20) rfl rfl Tryd.func44 (by kernel_rfl) rfl #[.agg #[.int .i64 ((rd_T27 l0_0 x3_1).f0), .int .i64 ((rd_T27 l0_0 x3_1).f1), .int .i64 ((rd_T27 l0_0 x3_1).f2), .string ((rd_T27 l0_0 x3_1).f3), .int .i64 ((rd_T27 l0_0 x3_1).f4), .int .i64 ((rd_T27 l0_0 x3_1).f5)]] rfl (by (try simp only [List.map_toArray, List.map_cons, List.map_nil]); first | done | rfl | (simp only [List.length_drop, List.length_take]; rfl)) ?_; (with_reducible refine (malthouseref18_entry.calls k1 ((rd_T27 l0_0 x3_1).f0) ((rd_T27 l0_0 x3_1).f1) ((rd_T27 l0_0 x3_1).f2) ((rd_T27 l0_0 x3_1).f3) ((rd_T27 l0_0 x3_1).f4) ((rd_T27 l0_0 x3_1).f5) true _ A5.out).mono ?_); rintro e w8 ⟨rfl, hb⟩; refine ⟨_, rfl, ?_⟩; have n0_ := Aside0.mk (blk_below (g := gb231) (o := .cells #[.slice (some ad232) l0_0.length c0_0, .slice A0_1 l0_1.length c0_1, .int .i64 a0_2] 25 (0, 0)) (by (with_reducible repeat (first | refine blk_drewN ?_ _ | refine blk_drew ?_ | refine blk_alloc ?_ _)); exact BK231.out) hb); have n1_ := Aside0.mk (below_step (by repeat (first | (with_reducible first | exact HB.out | apply below_alloc | apply pw_below_drewN | apply below_drew1 | refine below_set ?_ GE231.out) | exact HB.out)) hb); clear BK231; clear HB; have BK231 := n0_; have HB := n1_; clear n0_ n1_; (try clear hb); (try clear hb2); (try clear hk); (try clear hi)))
            go_roundg k1
            case measure => have := HK1.out; omega
            case rel => exact ⟨(wrap64 (x3_1 + 1)), (by first | rfl | (simp; done) | (simp [*]; done)), H', ⟨by have := HK1.out; omega⟩, ⟨by (with_reducible repeat (first | refine blk_drewN ?_ _ | refine blk_drew ?_ | refine blk_alloc ?_ _)); exact BK231.out⟩, ⟨by repeat (first | (with_reducible first | exact HB.out | apply below_alloc | apply pw_below_drewN | apply below_drew1 | refine below_set ?_ GE231.out) | exact HB.out)⟩⟩
          · replace c6 := Bool.eq_false_iff.mpr c6
            subst c6
            have H1 : (some false) = some r := by rw [if_neg (show ¬ (false = true) by decide)] at H; exact H
            clear H
            have H := H1
            clear H1
            obtain rfl := Option.some.inj H
            have hcz9_0 : wr.cell? ⟨gb231, 0, none⟩ = some (.slice A0_0 l0_0.length c0_0) := (blk_cell BK231.out 0).trans rfl
            have hcz9_1 : wr.cell? ⟨gb231, 1, none⟩ = some (.slice A0_1 l0_1.length c0_1) := (blk_cell BK231.out 1).trans rfl
            have hcz9_2 : wr.cell? ⟨gb231, 2, none⟩ = some (.int .i64 a0_2) := (blk_cell BK231.out 2).trans rfl
            have hfz9_0 := blk_frozen BK231.out 0
            have hfz9_1 := blk_frozen BK231.out 1
            have hfz9_2 := blk_frozen BK231.out 2
            have p232 : 0 ≤ (x3_1 : Int) := of_decide_eq_true (by first | (with_reducible assumption) | assumption)
            have q232 : x3_1 < (l0_0.length : Int) := of_decide_eq_true (by first | (with_reducible assumption) | assumption)
            obtain ⟨ad232, e232, hx232_0, hx232_1, hx232_2, hx232_3, hx232_4, hx232_5⟩ := at_T27 HR0_0.out x3_1 p232 q232
            cases e232
            replace hx232_0 := (HB.out.cell (World.block_lt_of_cell? w _ hx232_0)).trans hx232_0
            replace hx232_1 := (HB.out.cell (World.block_lt_of_cell? w _ hx232_1)).trans hx232_1
            replace hx232_2 := (HB.out.cell (World.block_lt_of_cell? w _ hx232_2)).trans hx232_2
            replace hx232_3 := (HB.out.cell (World.block_lt_of_cell? w _ hx232_3)).trans hx232_3
            replace hx232_4 := (HB.out.cell (World.block_lt_of_cell? w _ hx232_4)).trans hx232_4
            replace hx232_5 := (HB.out.cell (World.block_lt_of_cell? w _ hx232_5)).trans hx232_5
            replace p232 := eq_true p232
            replace q232 := eq_true q232
            go_wp2_with (first | ((with_reducible refine gate_callee (f := 44) rfl ?_); refine goesL_ (some 20) rfl rfl Tryd.func44 (by kernel_rfl) rfl #[.agg #[.int .i64 ((rd_T27 l0_0 x3_1).f0), .int .i64 ((rd_T27 l0_0 x3_1).f1), .int .i64 ((rd_T27 l0_0 x3_1).f2), .string ((rd_T27 l0_0 x3_1).f3), .int .i64 ((rd_T27 l0_0 x3_1).f4), .int .i64 ((rd_T27 l0_0 x3_1).f5)]] rfl (by (try simp only [List.map_toArray, List.map_cons, List.map_nil]); first | done | rfl | (simp only [List.length_drop, List.length_take]; rfl)) ?_; (with_reducible refine (malthouseref18_entry.calls k1 ((rd_T27 l0_0 x3_1).f0) ((rd_T27 l0_0 x3_1).f1) ((rd_T27 l0_0 x3_1).f2) ((rd_T27 l0_0 x3_1).f3) ((rd_T27 l0_0 x3_1).f4) ((rd_T27 l0_0 x3_1).f5) false _ A5.out).mono ?_); rintro e w10 ⟨rfl, hb⟩; refine ⟨_, rfl, ?_⟩; have n0_ := Aside0.mk (blk_below (g := gb231) (o := .cells #[.slice (some ad232) l0_0.length c0_0, .slice A0_1 l0_1.length c0_1, .int .i64 a0_2] 25 (0, 0)) (by (with_reducible repeat (first | refine blk_drewN ?_ _ | refine blk_drew ?_ | refine blk_alloc ?_ _)); exact BK231.out) hb); have n1_ := Aside0.mk (below_step (by repeat (first | (with_reducible first | exact HB.out | apply below_alloc | apply pw_below_drewN | apply below_drew1 | refine below_set ?_ GE231.out) | exact HB.out)) hb); clear BK231; clear HB; have BK231 := n0_; have HB := n1_; clear n0_ n1_; (try clear hb); (try clear hb2); (try clear hk); (try clear hi)))
            go_ret
            exact ⟨by first | rfl | (simp [errW_none, errW_some] <;> rfl) | (simp [*, errW_none, errW_some] <;> rfl), by repeat (first | (with_reducible first | exact HB.out | apply below_alloc | apply pw_below_drewN | apply below_drew1 | refine below_set ?_ GE231.out) | exact HB.out)⟩
        · rw [if_neg c4] at H
          exact absurd H (by simp)
      · rw [if_neg c3] at H
        have c3b0 : decide (x3_1 < (l0_0.length : Int)) = false := decide_eq_false c3
        clear c3
        have H' := Aside0.mk H
        clear H
        have hcz11_0 : wr.cell? ⟨gb231, 0, none⟩ = some (.slice A0_0 l0_0.length c0_0) := (blk_cell BK231.out 0).trans rfl
        have hcz11_1 : wr.cell? ⟨gb231, 1, none⟩ = some (.slice A0_1 l0_1.length c0_1) := (blk_cell BK231.out 1).trans rfl
        have hcz11_2 : wr.cell? ⟨gb231, 2, none⟩ = some (.int .i64 a0_2) := (blk_cell BK231.out 2).trans rfl
        have hfz11_0 := blk_frozen BK231.out 0
        have hfz11_1 := blk_frozen BK231.out 1
        have hfz11_2 := blk_frozen BK231.out 2
        go_wp2
        go_loopg [5, 6] k1 (fun kq v5 v6 w' => ∃ (x5_2 : Int) (x6_2 : Int), v5 = .int .i64 x5_2 ∧ v6 = .int .i64 x6_2 ∧ Aside0 (malthouseref18_Right.l1 kq x5_2 x6_2 l0_0 l0_1 a0_2 = some r) ∧ Aside0 (kq ≤ k1) ∧ Aside0 (w'.heap[gb231]? = some (.cells #[(.slice A0_0 l0_0.length c0_0), (.slice A0_1 l0_1.length c0_1), .int .i64 a0_2] 25 (0, 0))) ∧ Aside0 (Below w.heap.size w w'))
        case atStart => exact ⟨(0), (0), (by first | rfl | (simp; done) | (simp [*]; done)), (by first | rfl | (simp; done) | (simp [*]; done)), H', ⟨Nat.le_refl _⟩, ⟨by (with_reducible repeat (first | refine blk_drewN ?_ _ | refine blk_drew ?_ | refine blk_alloc ?_ _)); exact BK231.out⟩, ⟨by repeat (first | (with_reducible first | exact HB.out | apply below_alloc | apply pw_below_drewN | apply below_drew1 | refine below_set ?_ GE231.out) | exact HB.out)⟩⟩
        case round =>
          clear H'
          try clear c2
          try clear p2
          try clear q2
          try clear hx2
          try clear c3
          try clear c3b0
          try clear c4
          try clear c4b0
          try clear c6
          try clear p6
          try clear hcz11_0
          try clear hcz11_1
          try clear hcz11_2
          try clear hcz7_0
          try clear hcz7_1
          try clear hcz7_2
          try clear hcz9_0
          try clear hcz9_1
          try clear hcz9_2
          try clear hfz11_0
          try clear hfz11_1
          try clear hfz11_2
          try clear hfz7_0
          try clear hfz7_1
          try clear hfz7_2
          try clear hfz9_0
          try clear hfz9_1
          try clear hfz9_2
          try clear hx232_0
          try clear hx232_1
          try clear hx232_2
          try clear hx232_3
          try clear hx232_4
          try clear hx232_5
          try clear p2
          try clear p232
          try clear q232
          obtain ⟨x5_2, x6_2, rfl, rfl, HA, HK2, BK231, HB⟩ := hrel
          cases gk with
          | zero => exact absurd HA.out (by simp [malthouseref18_Right.l1])
          | succ k2 =>
            have H := HA.out
            clear HA
            simp only [malthouseref18_Right.l1] at H
            by_cases c12 : x6_2 < (l0_1.length : Int)
            · rw [if_pos c12] at H
              have c12b0 : decide (x6_2 < (l0_1.length : Int)) = true := decide_eq_true c12
              clear c12
              by_cases c13 : 0 ≤ x6_2
              · rw [if_pos c13] at H
                have c13b0 : decide (0 ≤ x6_2) = true := decide_eq_true c13
                clear c13
                by_cases c14 : ((rd_T35 l0_1 x6_2).f0) ≤ x5_2
                · rw [if_pos c14] at H
                  have c14b0 : decide (((rd_T35 l0_1 x6_2).f0) ≤ x5_2) = true := decide_eq_true c14
                  clear c14
                  obtain rfl := Option.some.inj H
                  have hcz15_0 : wr.cell? ⟨gb231, 0, none⟩ = some (.slice A0_0 l0_0.length c0_0) := (blk_cell BK231.out 0).trans rfl
                  have hcz15_1 : wr.cell? ⟨gb231, 1, none⟩ = some (.slice A0_1 l0_1.length c0_1) := (blk_cell BK231.out 1).trans rfl
                  have hcz15_2 : wr.cell? ⟨gb231, 2, none⟩ = some (.int .i64 a0_2) := (blk_cell BK231.out 2).trans rfl
                  have hfz15_0 := blk_frozen BK231.out 0
                  have hfz15_1 := blk_frozen BK231.out 1
                  have hfz15_2 := blk_frozen BK231.out 2
                  have p234 : 0 ≤ (x6_2 : Int) := of_decide_eq_true (by first | (with_reducible assumption) | assumption)
                  have q234 : x6_2 < (l0_1.length : Int) := of_decide_eq_true (by first | (with_reducible assumption) | assumption)
                  obtain ⟨ad234, e234, hx234_0, hx234_1, hx234_2⟩ := at_T35 HR0_1.out x6_2 p234 q234
                  cases e234
                  replace hx234_0 := (HB.out.cell (World.block_lt_of_cell? w _ hx234_0)).trans hx234_0
                  replace hx234_1 := (HB.out.cell (World.block_lt_of_cell? w _ hx234_1)).trans hx234_1
                  replace hx234_2 := (HB.out.cell (World.block_lt_of_cell? w _ hx234_2)).trans hx234_2
                  replace p234 := eq_true p234
                  replace q234 := eq_true q234
                  go_wp2_with (first | ((with_reducible refine gate_dst (N := 7) rfl ?_); refine box_event ?hg (N := 7) ?hd (cs := #[.int .i64 0, .int .i64 0, .int .i64 0]) (t := 35) ?hr ?_; (case hd => rfl); (case hg => rfl); (case hr => first | (go_simp; done) | (go_simp; rfl)); intro gb235 hg w16 hbox hb; have n0_ := Aside0.mk (blk_below (g := gb231) (o := .cells #[.slice A0_0 l0_0.length c0_0, .slice (some ad234) l0_1.length c0_1, .int .i64 a0_2] 25 (0, 0)) (by (with_reducible repeat (first | refine blk_drewN ?_ _ | refine blk_drew ?_ | refine blk_alloc ?_ _)); exact BK231.out) hb); have n1_ := Aside0.mk (below_step (by repeat (first | (with_reducible first | exact HB.out | apply below_alloc | apply pw_below_drewN | apply below_drew1 | refine below_set ?_ GE231.out) | exact HB.out)) hb); have n2_ := Aside0.mk (hbox); have n3_ := Aside0.mk ((by rw [hg]; exact (below_size (by repeat (first | (with_reducible first | exact HB.out | apply below_alloc | apply pw_below_drewN | apply below_drew1 | refine below_set ?_ GE231.out) | exact HB.out))) : w.heap.size ≤ gb235)); have n4_ := Aside0.mk ((by rw [hg]; exact (below_size (by repeat (first | (with_reducible first | exact HB.out | apply below_alloc | apply pw_below_drewN | apply below_drew1 | refine below_set ?_ GE231.out) | exact HB.out))) : w.heap.size ≤ gb235)); have n5_ := Aside0.mk ((by rw [hg]; exact Nat.ne_of_lt (blk_lt (g := gb231) (o := .cells #[.slice A0_0 l0_0.length c0_0, .slice (some ad234) l0_1.length c0_1, .int .i64 a0_2] 25 (0, 0)) (by (with_reducible repeat (first | refine blk_drewN ?_ _ | refine blk_drew ?_ | refine blk_alloc ?_ _)); exact BK231.out)) : gb231 ≠ gb235)); have n6_ := Aside0.mk ((by rw [hg]; exact Nat.ne_of_gt (blk_lt (g := gb231) (o := .cells #[.slice A0_0 l0_0.length c0_0, .slice (some ad234) l0_1.length c0_1, .int .i64 a0_2] 25 (0, 0)) (by (with_reducible repeat (first | refine blk_drewN ?_ _ | refine blk_drew ?_ | refine blk_alloc ?_ _)); exact BK231.out)) : gb235 ≠ gb231)); clear BK231; clear HB; have BK231 := n0_; have HB := n1_; have BK235 := n2_; have GW235 := n3_; have GE235 := n4_; have NB231_235 := n5_; have NB235_231 := n6_; clear n0_ n1_ n2_ n3_ n4_ n5_ n6_; clear hb hbox hg; have hnb17 := NB235_231.out; have hnc17 := NB231_235.out; have hcz18_0 : w16.cell? ⟨gb235, 0, none⟩ = some (.int .i64 0) := (blk_cell BK235.out 0).trans rfl; have hcz18_1 : w16.cell? ⟨gb235, 1, none⟩ = some (.int .i64 0) := (blk_cell BK235.out 1).trans rfl; have hcz18_2 : w16.cell? ⟨gb235, 2, none⟩ = some (.int .i64 0) := (blk_cell BK235.out 2).trans rfl; have hfz18_0 := blk_frozen BK235.out 0; have hfz18_1 := blk_frozen BK235.out 1; have hfz18_2 := blk_frozen BK235.out 2))
                  go_ret
                  exact ⟨by first | rfl | (simp [errW_none, errW_some] <;> rfl) | (simp [*, errW_none, errW_some] <;> rfl), by repeat (first | (with_reducible first | exact HB.out | apply below_alloc | apply pw_below_drewN | apply below_drew1 | refine below_set ?_ GE231.out | refine below_set ?_ GE235.out) | exact HB.out)⟩
                · rw [if_neg c14] at H
                  have c14b0 : decide (((rd_T35 l0_1 x6_2).f0) ≤ x5_2) = false := decide_eq_false c14
                  clear c14
                  by_cases c19 : ((rd_T35 l0_1 x6_2).f0) > 1099511627776
                  · rw [if_pos c19] at H
                    have c19b0 : decide (1099511627776 < ((rd_T35 l0_1 x6_2).f0)) = true := decide_eq_true c19
                    clear c19
                    obtain rfl := Option.some.inj H
                    have hcz20_0 : wr.cell? ⟨gb231, 0, none⟩ = some (.slice A0_0 l0_0.length c0_0) := (blk_cell BK231.out 0).trans rfl
                    have hcz20_1 : wr.cell? ⟨gb231, 1, none⟩ = some (.slice A0_1 l0_1.length c0_1) := (blk_cell BK231.out 1).trans rfl
                    have hcz20_2 : wr.cell? ⟨gb231, 2, none⟩ = some (.int .i64 a0_2) := (blk_cell BK231.out 2).trans rfl
                    have hfz20_0 := blk_frozen BK231.out 0
                    have hfz20_1 := blk_frozen BK231.out 1
                    have hfz20_2 := blk_frozen BK231.out 2
                    have p234 : 0 ≤ (x6_2 : Int) := of_decide_eq_true (by first | (with_reducible assumption) | assumption)
                    have q234 : x6_2 < (l0_1.length : Int) := of_decide_eq_true (by first | (with_reducible assumption) | assumption)
                    obtain ⟨ad234, e234, hx234_0, hx234_1, hx234_2⟩ := at_T35 HR0_1.out x6_2 p234 q234
                    cases e234
                    replace hx234_0 := (HB.out.cell (World.block_lt_of_cell? w _ hx234_0)).trans hx234_0
                    replace hx234_1 := (HB.out.cell (World.block_lt_of_cell? w _ hx234_1)).trans hx234_1
                    replace hx234_2 := (HB.out.cell (World.block_lt_of_cell? w _ hx234_2)).trans hx234_2
                    replace p234 := eq_true p234
                    replace q234 := eq_true q234
                    go_wp2_with (first | ((with_reducible refine gate_dst (N := 7) rfl ?_); refine box_event ?hg (N := 7) ?hd (cs := #[.int .i64 0, .int .i64 0, .int .i64 0]) (t := 35) ?hr ?_; (case hd => rfl); (case hg => rfl); (case hr => first | (go_simp; done) | (go_simp; rfl)); intro gb235 hg w21 hbox hb; have n0_ := Aside0.mk (blk_below (g := gb231) (o := .cells #[.slice A0_0 l0_0.length c0_0, .slice (some ad234) l0_1.length c0_1, .int .i64 a0_2] 25 (0, 0)) (by (with_reducible repeat (first | refine blk_drewN ?_ _ | refine blk_drew ?_ | refine blk_alloc ?_ _)); exact BK231.out) hb); have n1_ := Aside0.mk (below_step (by repeat (first | (with_reducible first | exact HB.out | apply below_alloc | apply pw_below_drewN | apply below_drew1 | refine below_set ?_ GE231.out) | exact HB.out)) hb); have n2_ := Aside0.mk (hbox); have n3_ := Aside0.mk ((by rw [hg]; exact (below_size (by repeat (first | (with_reducible first | exact HB.out | apply below_alloc | apply pw_below_drewN | apply below_drew1 | refine below_set ?_ GE231.out) | exact HB.out))) : w.heap.size ≤ gb235)); have n4_ := Aside0.mk ((by rw [hg]; exact (below_size (by repeat (first | (with_reducible first | exact HB.out | apply below_alloc | apply pw_below_drewN | apply below_drew1 | refine below_set ?_ GE231.out) | exact HB.out))) : w.heap.size ≤ gb235)); have n5_ := Aside0.mk ((by rw [hg]; exact Nat.ne_of_lt (blk_lt (g := gb231) (o := .cells #[.slice A0_0 l0_0.length c0_0, .slice (some ad234) l0_1.length c0_1, .int .i64 a0_2] 25 (0, 0)) (by (with_reducible repeat (first | refine blk_drewN ?_ _ | refine blk_drew ?_ | refine blk_alloc ?_ _)); exact BK231.out)) : gb231 ≠ gb235)); have n6_ := Aside0.mk ((by rw [hg]; exact Nat.ne_of_gt (blk_lt (g := gb231) (o := .cells #[.slice A0_0 l0_0.length c0_0, .slice (some ad234) l0_1.length c0_1, .int .i64 a0_2] 25 (0, 0)) (by (with_reducible repeat (first | refine blk_drewN ?_ _ | refine blk_drew ?_ | refine blk_alloc ?_ _)); exact BK231.out)) : gb235 ≠ gb231)); clear BK231; clear HB; have BK231 := n0_; have HB := n1_; have BK235 := n2_; have GW235 := n3_; have GE235 := n4_; have NB231_235 := n5_; have NB235_231 := n6_; clear n0_ n1_ n2_ n3_ n4_ n5_ n6_; clear hb hbox hg; have hnb22 := NB235_231.out; have hnc22 := NB231_235.out; have hcz23_0 : w21.cell? ⟨gb235, 0, none⟩ = some (.int .i64 0) := (blk_cell BK235.out 0).trans rfl; have hcz23_1 : w21.cell? ⟨gb235, 1, none⟩ = some (.int .i64 0) := (blk_cell BK235.out 1).trans rfl; have hcz23_2 : w21.cell? ⟨gb235, 2, none⟩ = some (.int .i64 0) := (blk_cell BK235.out 2).trans rfl; have hfz23_0 := blk_frozen BK235.out 0; have hfz23_1 := blk_frozen BK235.out 1; have hfz23_2 := blk_frozen BK235.out 2))
                    go_ret
                    exact ⟨by first | rfl | (simp [errW_none, errW_some] <;> rfl) | (simp [*, errW_none, errW_some] <;> rfl), by repeat (first | (with_reducible first | exact HB.out | apply below_alloc | apply pw_below_drewN | apply below_drew1 | refine below_set ?_ GE231.out | refine below_set ?_ GE235.out) | exact HB.out)⟩
                  · rw [if_neg c19] at H
                    have c19b0 : decide (1099511627776 < ((rd_T35 l0_1 x6_2).f0)) = false := decide_eq_false c19
                    clear c19
                    by_cases c24 : ((rd_T35 l0_1 x6_2).f1) < 0
                    · rw [if_pos c24] at H
                      have c24b0 : decide (((rd_T35 l0_1 x6_2).f1) < 0) = true := decide_eq_true c24
                      clear c24
                      obtain rfl := Option.some.inj H
                      have hcz25_0 : wr.cell? ⟨gb231, 0, none⟩ = some (.slice A0_0 l0_0.length c0_0) := (blk_cell BK231.out 0).trans rfl
                      have hcz25_1 : wr.cell? ⟨gb231, 1, none⟩ = some (.slice A0_1 l0_1.length c0_1) := (blk_cell BK231.out 1).trans rfl
                      have hcz25_2 : wr.cell? ⟨gb231, 2, none⟩ = some (.int .i64 a0_2) := (blk_cell BK231.out 2).trans rfl
                      have hfz25_0 := blk_frozen BK231.out 0
                      have hfz25_1 := blk_frozen BK231.out 1
                      have hfz25_2 := blk_frozen BK231.out 2
                      have p234 : 0 ≤ (x6_2 : Int) := of_decide_eq_true (by first | (with_reducible assumption) | assumption)
                      have q234 : x6_2 < (l0_1.length : Int) := of_decide_eq_true (by first | (with_reducible assumption) | assumption)
                      obtain ⟨ad234, e234, hx234_0, hx234_1, hx234_2⟩ := at_T35 HR0_1.out x6_2 p234 q234
                      cases e234
                      replace hx234_0 := (HB.out.cell (World.block_lt_of_cell? w _ hx234_0)).trans hx234_0
                      replace hx234_1 := (HB.out.cell (World.block_lt_of_cell? w _ hx234_1)).trans hx234_1
                      replace hx234_2 := (HB.out.cell (World.block_lt_of_cell? w _ hx234_2)).trans hx234_2
                      replace p234 := eq_true p234
                      replace q234 := eq_true q234
                      go_wp2_with (first | ((with_reducible refine gate_dst (N := 7) rfl ?_); refine box_event ?hg (N := 7) ?hd (cs := #[.int .i64 0, .int .i64 0, .int .i64 0]) (t := 35) ?hr ?_; (case hd => rfl); (case hg => rfl); (case hr => first | (go_simp; done) | (go_simp; rfl)); intro gb235 hg w26 hbox hb; have n0_ := Aside0.mk (blk_below (g := gb231) (o := .cells #[.slice A0_0 l0_0.length c0_0, .slice (some ad234) l0_1.length c0_1, .int .i64 a0_2] 25 (0, 0)) (by (with_reducible repeat (first | refine blk_drewN ?_ _ | refine blk_drew ?_ | refine blk_alloc ?_ _)); exact BK231.out) hb); have n1_ := Aside0.mk (below_step (by repeat (first | (with_reducible first | exact HB.out | apply below_alloc | apply pw_below_drewN | apply below_drew1 | refine below_set ?_ GE231.out) | exact HB.out)) hb); have n2_ := Aside0.mk (hbox); have n3_ := Aside0.mk ((by rw [hg]; exact (below_size (by repeat (first | (with_reducible first | exact HB.out | apply below_alloc | apply pw_below_drewN | apply below_drew1 | refine below_set ?_ GE231.out) | exact HB.out))) : w.heap.size ≤ gb235)); have n4_ := Aside0.mk ((by rw [hg]; exact (below_size (by repeat (first | (with_reducible first | exact HB.out | apply below_alloc | apply pw_below_drewN | apply below_drew1 | refine below_set ?_ GE231.out) | exact HB.out))) : w.heap.size ≤ gb235)); have n5_ := Aside0.mk ((by rw [hg]; exact Nat.ne_of_lt (blk_lt (g := gb231) (o := .cells #[.slice A0_0 l0_0.length c0_0, .slice (some ad234) l0_1.length c0_1, .int .i64 a0_2] 25 (0, 0)) (by (with_reducible repeat (first | refine blk_drewN ?_ _ | refine blk_drew ?_ | refine blk_alloc ?_ _)); exact BK231.out)) : gb231 ≠ gb235)); have n6_ := Aside0.mk ((by rw [hg]; exact Nat.ne_of_gt (blk_lt (g := gb231) (o := .cells #[.slice A0_0 l0_0.length c0_0, .slice (some ad234) l0_1.length c0_1, .int .i64 a0_2] 25 (0, 0)) (by (with_reducible repeat (first | refine blk_drewN ?_ _ | refine blk_drew ?_ | refine blk_alloc ?_ _)); exact BK231.out)) : gb235 ≠ gb231)); clear BK231; clear HB; have BK231 := n0_; have HB := n1_; have BK235 := n2_; have GW235 := n3_; have GE235 := n4_; have NB231_235 := n5_; have NB235_231 := n6_; clear n0_ n1_ n2_ n3_ n4_ n5_ n6_; clear hb hbox hg; have hnb27 := NB235_231.out; have hnc27 := NB231_235.out; have hcz28_0 : w26.cell? ⟨gb235, 0, none⟩ = some (.int .i64 0) := (blk_cell BK235.out 0).trans rfl; have hcz28_1 : w26.cell? ⟨gb235, 1, none⟩ = some (.int .i64 0) := (blk_cell BK235.out 1).trans rfl; have hcz28_2 : w26.cell? ⟨gb235, 2, none⟩ = some (.int .i64 0) := (blk_cell BK235.out 2).trans rfl; have hfz28_0 := blk_frozen BK235.out 0; have hfz28_1 := blk_frozen BK235.out 1; have hfz28_2 := blk_frozen BK235.out 2))
                      go_ret
                      exact ⟨by first | rfl | (simp [errW_none, errW_some] <;> rfl) | (simp [*, errW_none, errW_some] <;> rfl), by repeat (first | (with_reducible first | exact HB.out | apply below_alloc | apply pw_below_drewN | apply below_drew1 | refine below_set ?_ GE231.out | refine below_set ?_ GE235.out) | exact HB.out)⟩
                    · rw [if_neg c24] at H
                      have c24b0 : decide (((rd_T35 l0_1 x6_2).f1) < 0) = false := decide_eq_false c24
                      clear c24
                      by_cases c29 : ((rd_T35 l0_1 x6_2).f1) > 40
                      · rw [if_pos c29] at H
                        have c29b0 : decide (40 < ((rd_T35 l0_1 x6_2).f1)) = true := decide_eq_true c29
                        clear c29
                        obtain rfl := Option.some.inj H
                        have hcz30_0 : wr.cell? ⟨gb231, 0, none⟩ = some (.slice A0_0 l0_0.length c0_0) := (blk_cell BK231.out 0).trans rfl
                        have hcz30_1 : wr.cell? ⟨gb231, 1, none⟩ = some (.slice A0_1 l0_1.length c0_1) := (blk_cell BK231.out 1).trans rfl
                        have hcz30_2 : wr.cell? ⟨gb231, 2, none⟩ = some (.int .i64 a0_2) := (blk_cell BK231.out 2).trans rfl
                        have hfz30_0 := blk_frozen BK231.out 0
                        have hfz30_1 := blk_frozen BK231.out 1
                        have hfz30_2 := blk_frozen BK231.out 2
                        have p234 : 0 ≤ (x6_2 : Int) := of_decide_eq_true (by first | (with_reducible assumption) | assumption)
                        have q234 : x6_2 < (l0_1.length : Int) := of_decide_eq_true (by first | (with_reducible assumption) | assumption)
                        obtain ⟨ad234, e234, hx234_0, hx234_1, hx234_2⟩ := at_T35 HR0_1.out x6_2 p234 q234
                        cases e234
                        replace hx234_0 := (HB.out.cell (World.block_lt_of_cell? w _ hx234_0)).trans hx234_0
                        replace hx234_1 := (HB.out.cell (World.block_lt_of_cell? w _ hx234_1)).trans hx234_1
                        replace hx234_2 := (HB.out.cell (World.block_lt_of_cell? w _ hx234_2)).trans hx234_2
                        replace p234 := eq_true p234
                        replace q234 := eq_true q234
                        go_wp2_with (first | ((with_reducible refine gate_dst (N := 7) rfl ?_); refine box_event ?hg (N := 7) ?hd (cs := #[.int .i64 0, .int .i64 0, .int .i64 0]) (t := 35) ?hr ?_; (case hd => rfl); (case hg => rfl); (case hr => first | (go_simp; done) | (go_simp; rfl)); intro gb235 hg w31 hbox hb; have n0_ := Aside0.mk (blk_below (g := gb231) (o := .cells #[.slice A0_0 l0_0.length c0_0, .slice (some ad234) l0_1.length c0_1, .int .i64 a0_2] 25 (0, 0)) (by (with_reducible repeat (first | refine blk_drewN ?_ _ | refine blk_drew ?_ | refine blk_alloc ?_ _)); exact BK231.out) hb); have n1_ := Aside0.mk (below_step (by repeat (first | (with_reducible first | exact HB.out | apply below_alloc | apply pw_below_drewN | apply below_drew1 | refine below_set ?_ GE231.out) | exact HB.out)) hb); have n2_ := Aside0.mk (hbox); have n3_ := Aside0.mk ((by rw [hg]; exact (below_size (by repeat (first | (with_reducible first | exact HB.out | apply below_alloc | apply pw_below_drewN | apply below_drew1 | refine below_set ?_ GE231.out) | exact HB.out))) : w.heap.size ≤ gb235)); have n4_ := Aside0.mk ((by rw [hg]; exact (below_size (by repeat (first | (with_reducible first | exact HB.out | apply below_alloc | apply pw_below_drewN | apply below_drew1 | refine below_set ?_ GE231.out) | exact HB.out))) : w.heap.size ≤ gb235)); have n5_ := Aside0.mk ((by rw [hg]; exact Nat.ne_of_lt (blk_lt (g := gb231) (o := .cells #[.slice A0_0 l0_0.length c0_0, .slice (some ad234) l0_1.length c0_1, .int .i64 a0_2] 25 (0, 0)) (by (with_reducible repeat (first | refine blk_drewN ?_ _ | refine blk_drew ?_ | refine blk_alloc ?_ _)); exact BK231.out)) : gb231 ≠ gb235)); have n6_ := Aside0.mk ((by rw [hg]; exact Nat.ne_of_gt (blk_lt (g := gb231) (o := .cells #[.slice A0_0 l0_0.length c0_0, .slice (some ad234) l0_1.length c0_1, .int .i64 a0_2] 25 (0, 0)) (by (with_reducible repeat (first | refine blk_drewN ?_ _ | refine blk_drew ?_ | refine blk_alloc ?_ _)); exact BK231.out)) : gb235 ≠ gb231)); clear BK231; clear HB; have BK231 := n0_; have HB := n1_; have BK235 := n2_; have GW235 := n3_; have GE235 := n4_; have NB231_235 := n5_; have NB235_231 := n6_; clear n0_ n1_ n2_ n3_ n4_ n5_ n6_; clear hb hbox hg; have hnb32 := NB235_231.out; have hnc32 := NB231_235.out; have hcz33_0 : w31.cell? ⟨gb235, 0, none⟩ = some (.int .i64 0) := (blk_cell BK235.out 0).trans rfl; have hcz33_1 : w31.cell? ⟨gb235, 1, none⟩ = some (.int .i64 0) := (blk_cell BK235.out 1).trans rfl; have hcz33_2 : w31.cell? ⟨gb235, 2, none⟩ = some (.int .i64 0) := (blk_cell BK235.out 2).trans rfl; have hfz33_0 := blk_frozen BK235.out 0; have hfz33_1 := blk_frozen BK235.out 1; have hfz33_2 := blk_frozen BK235.out 2))
                        go_ret
                        exact ⟨by first | rfl | (simp [errW_none, errW_some] <;> rfl) | (simp [*, errW_none, errW_some] <;> rfl), by repeat (first | (with_reducible first | exact HB.out | apply below_alloc | apply pw_below_drewN | apply below_drew1 | refine below_set ?_ GE231.out | refine below_set ?_ GE235.out) | exact HB.out)⟩
                      · rw [if_neg c29] at H
                        have c29b0 : decide (40 < ((rd_T35 l0_1 x6_2).f1)) = false := decide_eq_false c29
                        clear c29
                        by_cases c34 : ((rd_T35 l0_1 x6_2).f2) < 0
                        · rw [if_pos c34] at H
                          have c34b0 : decide (((rd_T35 l0_1 x6_2).f2) < 0) = true := decide_eq_true c34
                          clear c34
                          obtain rfl := Option.some.inj H
                          have hcz35_0 : wr.cell? ⟨gb231, 0, none⟩ = some (.slice A0_0 l0_0.length c0_0) := (blk_cell BK231.out 0).trans rfl
                          have hcz35_1 : wr.cell? ⟨gb231, 1, none⟩ = some (.slice A0_1 l0_1.length c0_1) := (blk_cell BK231.out 1).trans rfl
                          have hcz35_2 : wr.cell? ⟨gb231, 2, none⟩ = some (.int .i64 a0_2) := (blk_cell BK231.out 2).trans rfl
                          have hfz35_0 := blk_frozen BK231.out 0
                          have hfz35_1 := blk_frozen BK231.out 1
                          have hfz35_2 := blk_frozen BK231.out 2
                          have p234 : 0 ≤ (x6_2 : Int) := of_decide_eq_true (by first | (with_reducible assumption) | assumption)
                          have q234 : x6_2 < (l0_1.length : Int) := of_decide_eq_true (by first | (with_reducible assumption) | assumption)
                          obtain ⟨ad234, e234, hx234_0, hx234_1, hx234_2⟩ := at_T35 HR0_1.out x6_2 p234 q234
                          cases e234
                          replace hx234_0 := (HB.out.cell (World.block_lt_of_cell? w _ hx234_0)).trans hx234_0
                          replace hx234_1 := (HB.out.cell (World.block_lt_of_cell? w _ hx234_1)).trans hx234_1
                          replace hx234_2 := (HB.out.cell (World.block_lt_of_cell? w _ hx234_2)).trans hx234_2
                          replace p234 := eq_true p234
                          replace q234 := eq_true q234
                          go_wp2_with (first | ((with_reducible refine gate_dst (N := 7) rfl ?_); refine box_event ?hg (N := 7) ?hd (cs := #[.int .i64 0, .int .i64 0, .int .i64 0]) (t := 35) ?hr ?_; (case hd => rfl); (case hg => rfl); (case hr => first | (go_simp; done) | (go_simp; rfl)); intro gb235 hg w36 hbox hb; have n0_ := Aside0.mk (blk_below (g := gb231) (o := .cells #[.slice A0_0 l0_0.length c0_0, .slice (some ad234) l0_1.length c0_1, .int .i64 a0_2] 25 (0, 0)) (by (with_reducible repeat (first | refine blk_drewN ?_ _ | refine blk_drew ?_ | refine blk_alloc ?_ _)); exact BK231.out) hb); have n1_ := Aside0.mk (below_step (by repeat (first | (with_reducible first | exact HB.out | apply below_alloc | apply pw_below_drewN | apply below_drew1 | refine below_set ?_ GE231.out) | exact HB.out)) hb); have n2_ := Aside0.mk (hbox); have n3_ := Aside0.mk ((by rw [hg]; exact (below_size (by repeat (first | (with_reducible first | exact HB.out | apply below_alloc | apply pw_below_drewN | apply below_drew1 | refine below_set ?_ GE231.out) | exact HB.out))) : w.heap.size ≤ gb235)); have n4_ := Aside0.mk ((by rw [hg]; exact (below_size (by repeat (first | (with_reducible first | exact HB.out | apply below_alloc | apply pw_below_drewN | apply below_drew1 | refine below_set ?_ GE231.out) | exact HB.out))) : w.heap.size ≤ gb235)); have n5_ := Aside0.mk ((by rw [hg]; exact Nat.ne_of_lt (blk_lt (g := gb231) (o := .cells #[.slice A0_0 l0_0.length c0_0, .slice (some ad234) l0_1.length c0_1, .int .i64 a0_2] 25 (0, 0)) (by (with_reducible repeat (first | refine blk_drewN ?_ _ | refine blk_drew ?_ | refine blk_alloc ?_ _)); exact BK231.out)) : gb231 ≠ gb235)); have n6_ := Aside0.mk ((by rw [hg]; exact Nat.ne_of_gt (blk_lt (g := gb231) (o := .cells #[.slice A0_0 l0_0.length c0_0, .slice (some ad234) l0_1.length c0_1, .int .i64 a0_2] 25 (0, 0)) (by (with_reducible repeat (first | refine blk_drewN ?_ _ | refine blk_drew ?_ | refine blk_alloc ?_ _)); exact BK231.out)) : gb235 ≠ gb231)); clear BK231; clear HB; have BK231 := n0_; have HB := n1_; have BK235 := n2_; have GW235 := n3_; have GE235 := n4_; have NB231_235 := n5_; have NB235_231 := n6_; clear n0_ n1_ n2_ n3_ n4_ n5_ n6_; clear hb hbox hg; have hnb37 := NB235_231.out; have hnc37 := NB231_235.out; have hcz38_0 : w36.cell? ⟨gb235, 0, none⟩ = some (.int .i64 0) := (blk_cell BK235.out 0).trans rfl; have hcz38_1 : w36.cell? ⟨gb235, 1, none⟩ = some (.int .i64 0) := (blk_cell BK235.out 1).trans rfl; have hcz38_2 : w36.cell? ⟨gb235, 2, none⟩ = some (.int .i64 0) := (blk_cell BK235.out 2).trans rfl; have hfz38_0 := blk_frozen BK235.out 0; have hfz38_1 := blk_frozen BK235.out 1; have hfz38_2 := blk_frozen BK235.out 2))
                          go_ret
                          exact ⟨by first | rfl | (simp [errW_none, errW_some] <;> rfl) | (simp [*, errW_none, errW_some] <;> rfl), by repeat (first | (with_reducible first | exact HB.out | apply below_alloc | apply pw_below_drewN | apply below_drew1 | refine below_set ?_ GE231.out | refine below_set ?_ GE235.out) | exact HB.out)⟩
                        · rw [if_neg c34] at H
                          have c34b0 : decide (((rd_T35 l0_1 x6_2).f2) < 0) = false := decide_eq_false c34
                          clear c34
                          by_cases c39 : ((rd_T35 l0_1 x6_2).f2) > 1099511627776
                          · rw [if_pos c39] at H
                            have c39b0 : decide (1099511627776 < ((rd_T35 l0_1 x6_2).f2)) = true := decide_eq_true c39
                            clear c39
                            obtain rfl := Option.some.inj H
                            have hcz40_0 : wr.cell? ⟨gb231, 0, none⟩ = some (.slice A0_0 l0_0.length c0_0) := (blk_cell BK231.out 0).trans rfl
                            have hcz40_1 : wr.cell? ⟨gb231, 1, none⟩ = some (.slice A0_1 l0_1.length c0_1) := (blk_cell BK231.out 1).trans rfl
                            have hcz40_2 : wr.cell? ⟨gb231, 2, none⟩ = some (.int .i64 a0_2) := (blk_cell BK231.out 2).trans rfl
                            have hfz40_0 := blk_frozen BK231.out 0
                            have hfz40_1 := blk_frozen BK231.out 1
                            have hfz40_2 := blk_frozen BK231.out 2
                            have p234 : 0 ≤ (x6_2 : Int) := of_decide_eq_true (by first | (with_reducible assumption) | assumption)
                            have q234 : x6_2 < (l0_1.length : Int) := of_decide_eq_true (by first | (with_reducible assumption) | assumption)
                            obtain ⟨ad234, e234, hx234_0, hx234_1, hx234_2⟩ := at_T35 HR0_1.out x6_2 p234 q234
                            cases e234
                            replace hx234_0 := (HB.out.cell (World.block_lt_of_cell? w _ hx234_0)).trans hx234_0
                            replace hx234_1 := (HB.out.cell (World.block_lt_of_cell? w _ hx234_1)).trans hx234_1
                            replace hx234_2 := (HB.out.cell (World.block_lt_of_cell? w _ hx234_2)).trans hx234_2
                            replace p234 := eq_true p234
                            replace q234 := eq_true q234
                            go_wp2_with (first | ((with_reducible refine gate_dst (N := 7) rfl ?_); refine box_event ?hg (N := 7) ?hd (cs := #[.int .i64 0, .int .i64 0, .int .i64 0]) (t := 35) ?hr ?_; (case hd => rfl); (case hg => rfl); (case hr => first | (go_simp; done) | (go_simp; rfl)); intro gb235 hg w41 hbox hb; have n0_ := Aside0.mk (blk_below (g := gb231) (o := .cells #[.slice A0_0 l0_0.length c0_0, .slice (some ad234) l0_1.length c0_1, .int .i64 a0_2] 25 (0, 0)) (by (with_reducible repeat (first | refine blk_drewN ?_ _ | refine blk_drew ?_ | refine blk_alloc ?_ _)); exact BK231.out) hb); have n1_ := Aside0.mk (below_step (by repeat (first | (with_reducible first | exact HB.out | apply below_alloc | apply pw_below_drewN | apply below_drew1 | refine below_set ?_ GE231.out) | exact HB.out)) hb); have n2_ := Aside0.mk (hbox); have n3_ := Aside0.mk ((by rw [hg]; exact (below_size (by repeat (first | (with_reducible first | exact HB.out | apply below_alloc | apply pw_below_drewN | apply below_drew1 | refine below_set ?_ GE231.out) | exact HB.out))) : w.heap.size ≤ gb235)); have n4_ := Aside0.mk ((by rw [hg]; exact (below_size (by repeat (first | (with_reducible first | exact HB.out | apply below_alloc | apply pw_below_drewN | apply below_drew1 | refine below_set ?_ GE231.out) | exact HB.out))) : w.heap.size ≤ gb235)); have n5_ := Aside0.mk ((by rw [hg]; exact Nat.ne_of_lt (blk_lt (g := gb231) (o := .cells #[.slice A0_0 l0_0.length c0_0, .slice (some ad234) l0_1.length c0_1, .int .i64 a0_2] 25 (0, 0)) (by (with_reducible repeat (first | refine blk_drewN ?_ _ | refine blk_drew ?_ | refine blk_alloc ?_ _)); exact BK231.out)) : gb231 ≠ gb235)); have n6_ := Aside0.mk ((by rw [hg]; exact Nat.ne_of_gt (blk_lt (g := gb231) (o := .cells #[.slice A0_0 l0_0.length c0_0, .slice (some ad234) l0_1.length c0_1, .int .i64 a0_2] 25 (0, 0)) (by (with_reducible repeat (first | refine blk_drewN ?_ _ | refine blk_drew ?_ | refine blk_alloc ?_ _)); exact BK231.out)) : gb235 ≠ gb231)); clear BK231; clear HB; have BK231 := n0_; have HB := n1_; have BK235 := n2_; have GW235 := n3_; have GE235 := n4_; have NB231_235 := n5_; have NB235_231 := n6_; clear n0_ n1_ n2_ n3_ n4_ n5_ n6_; clear hb hbox hg; have hnb42 := NB235_231.out; have hnc42 := NB231_235.out; have hcz43_0 : w41.cell? ⟨gb235, 0, none⟩ = some (.int .i64 0) := (blk_cell BK235.out 0).trans rfl; have hcz43_1 : w41.cell? ⟨gb235, 1, none⟩ = some (.int .i64 0) := (blk_cell BK235.out 1).trans rfl; have hcz43_2 : w41.cell? ⟨gb235, 2, none⟩ = some (.int .i64 0) := (blk_cell BK235.out 2).trans rfl; have hfz43_0 := blk_frozen BK235.out 0; have hfz43_1 := blk_frozen BK235.out 1; have hfz43_2 := blk_frozen BK235.out 2))
                            go_ret
                            exact ⟨by first | rfl | (simp [errW_none, errW_some] <;> rfl) | (simp [*, errW_none, errW_some] <;> rfl), by repeat (first | (with_reducible first | exact HB.out | apply below_alloc | apply pw_below_drewN | apply below_drew1 | refine below_set ?_ GE231.out | refine below_set ?_ GE235.out) | exact HB.out)⟩
                          · rw [if_neg c39] at H
                            have c39b0 : decide (1099511627776 < ((rd_T35 l0_1 x6_2).f2)) = false := decide_eq_false c39
                            clear c39
                            have H' := Aside0.mk H
                            clear H
                            have hcz44_0 : wr.cell? ⟨gb231, 0, none⟩ = some (.slice A0_0 l0_0.length c0_0) := (blk_cell BK231.out 0).trans rfl
                            have hcz44_1 : wr.cell? ⟨gb231, 1, none⟩ = some (.slice A0_1 l0_1.length c0_1) := (blk_cell BK231.out 1).trans rfl
                            have hcz44_2 : wr.cell? ⟨gb231, 2, none⟩ = some (.int .i64 a0_2) := (blk_cell BK231.out 2).trans rfl
                            have hfz44_0 := blk_frozen BK231.out 0
                            have hfz44_1 := blk_frozen BK231.out 1
                            have hfz44_2 := blk_frozen BK231.out 2
                            have p234 : 0 ≤ (x6_2 : Int) := of_decide_eq_true (by first | (with_reducible assumption) | assumption)
                            have q234 : x6_2 < (l0_1.length : Int) := of_decide_eq_true (by first | (with_reducible assumption) | assumption)
                            obtain ⟨ad234, e234, hx234_0, hx234_1, hx234_2⟩ := at_T35 HR0_1.out x6_2 p234 q234
                            cases e234
                            replace hx234_0 := (HB.out.cell (World.block_lt_of_cell? w _ hx234_0)).trans hx234_0
                            replace hx234_1 := (HB.out.cell (World.block_lt_of_cell? w _ hx234_1)).trans hx234_1
                            replace hx234_2 := (HB.out.cell (World.block_lt_of_cell? w _ hx234_2)).trans hx234_2
                            replace p234 := eq_true p234
                            replace q234 := eq_true q234
                            go_wp2_with (first | ((with_reducible refine gate_dst (N := 7) rfl ?_); refine box_event ?hg (N := 7) ?hd (cs := #[.int .i64 0, .int .i64 0, .int .i64 0]) (t := 35) ?hr ?_; (case hd => rfl); (case hg => rfl); (case hr => first | (go_simp; done) | (go_simp; rfl)); intro gb235 hg w45 hbox hb; have n0_ := Aside0.mk (blk_below (g := gb231) (o := .cells #[.slice A0_0 l0_0.length c0_0, .slice (some ad234) l0_1.length c0_1, .int .i64 a0_2] 25 (0, 0)) (by (with_reducible repeat (first | refine blk_drewN ?_ _ | refine blk_drew ?_ | refine blk_alloc ?_ _)); exact BK231.out) hb); have n1_ := Aside0.mk (below_step (by repeat (first | (with_reducible first | exact HB.out | apply below_alloc | apply pw_below_drewN | apply below_drew1 | refine below_set ?_ GE231.out) | exact HB.out)) hb); have n2_ := Aside0.mk (hbox); have n3_ := Aside0.mk ((by rw [hg]; exact (below_size (by repeat (first | (with_reducible first | exact HB.out | apply below_alloc | apply pw_below_drewN | apply below_drew1 | refine below_set ?_ GE231.out) | exact HB.out))) : w.heap.size ≤ gb235)); have n4_ := Aside0.mk ((by rw [hg]; exact (below_size (by repeat (first | (with_reducible first | exact HB.out | apply below_alloc | apply pw_below_drewN | apply below_drew1 | refine below_set ?_ GE231.out) | exact HB.out))) : w.heap.size ≤ gb235)); have n5_ := Aside0.mk ((by rw [hg]; exact Nat.ne_of_lt (blk_lt (g := gb231) (o := .cells #[.slice A0_0 l0_0.length c0_0, .slice (some ad234) l0_1.length c0_1, .int .i64 a0_2] 25 (0, 0)) (by (with_reducible repeat (first | refine blk_drewN ?_ _ | refine blk_drew ?_ | refine blk_alloc ?_ _)); exact BK231.out)) : gb231 ≠ gb235)); have n6_ := Aside0.mk ((by rw [hg]; exact Nat.ne_of_gt (blk_lt (g := gb231) (o := .cells #[.slice A0_0 l0_0.length c0_0, .slice (some ad234) l0_1.length c0_1, .int .i64 a0_2] 25 (0, 0)) (by (with_reducible repeat (first | refine blk_drewN ?_ _ | refine blk_drew ?_ | refine blk_alloc ?_ _)); exact BK231.out)) : gb235 ≠ gb231)); clear BK231; clear HB; have BK231 := n0_; have HB := n1_; have BK235 := n2_; have GW235 := n3_; have GE235 := n4_; have NB231_235 := n5_; have NB235_231 := n6_; clear n0_ n1_ n2_ n3_ n4_ n5_ n6_; clear hb hbox hg; have hnb46 := NB235_231.out; have hnc46 := NB231_235.out; have hcz47_0 : w45.cell? ⟨gb235, 0, none⟩ = some (.int .i64 0) := (blk_cell BK235.out 0).trans rfl; have hcz47_1 : w45.cell? ⟨gb235, 1, none⟩ = some (.int .i64 0) := (blk_cell BK235.out 1).trans rfl; have hcz47_2 : w45.cell? ⟨gb235, 2, none⟩ = some (.int .i64 0) := (blk_cell BK235.out 2).trans rfl; have hfz47_0 := blk_frozen BK235.out 0; have hfz47_1 := blk_frozen BK235.out 1; have hfz47_2 := blk_frozen BK235.out 2))
                            go_roundg k2
                            case measure => have := HK1.out; have := HK2.out; omega
                            case rel => exact ⟨((rd_T35 l0_1 x6_2).f0), (wrap64 (x6_2 + 1)), (by first | rfl | (simp; done) | (simp [*]; done)), (by first | rfl | (simp; done) | (simp [*]; done)), H', ⟨by have := HK1.out; have := HK2.out; omega⟩, ⟨by (with_reducible repeat (first | refine blk_drewN ?_ _ | refine blk_drew ?_ | refine blk_alloc ?_ _)); refine blk_far ?_ NB231_235.out _; (with_reducible repeat (first | refine blk_drewN ?_ _ | refine blk_drew ?_ | refine blk_alloc ?_ _)); refine blk_far ?_ NB231_235.out _; (with_reducible repeat (first | refine blk_drewN ?_ _ | refine blk_drew ?_ | refine blk_alloc ?_ _)); refine blk_far ?_ NB231_235.out _; (with_reducible repeat (first | refine blk_drewN ?_ _ | refine blk_drew ?_ | refine blk_alloc ?_ _)); exact BK231.out⟩, ⟨by repeat (first | (with_reducible first | exact HB.out | apply below_alloc | apply pw_below_drewN | apply below_drew1 | refine below_set ?_ GE231.out | refine below_set ?_ GE235.out) | exact HB.out)⟩⟩
              · rw [if_neg c13] at H
                exact absurd H (by simp)
            · rw [if_neg c12] at H
              have c12b0 : decide (x6_2 < (l0_1.length : Int)) = false := decide_eq_false c12
              clear c12
              by_cases c48 : a0_2 ≥ 0
              · rw [if_pos c48] at H
                have c48b0 : decide (0 ≤ a0_2) = true := decide_eq_true c48
                clear c48
                by_cases c49 : a0_2 ≤ 1099511627776
                · rw [if_pos c49] at H
                  have c49b0 : decide (a0_2 ≤ 1099511627776) = true := decide_eq_true c49
                  clear c49
                  replace H := Option.bind_eq_some_iff.mp H
                  obtain ⟨t236, A500, H⟩ := H
                  replace H : (some (decide (t236 ≤ 120))) = some r := H
                  have A50 := Aside0.mk A500
                  clear A500
                  obtain rfl := Option.some.inj H
                  have hcz51_0 : wr.cell? ⟨gb231, 0, none⟩ = some (.slice A0_0 l0_0.length c0_0) := (blk_cell BK231.out 0).trans rfl
                  have hcz51_1 : wr.cell? ⟨gb231, 1, none⟩ = some (.slice A0_1 l0_1.length c0_1) := (blk_cell BK231.out 1).trans rfl
                  have hcz51_2 : wr.cell? ⟨gb231, 2, none⟩ = some (.int .i64 a0_2) := (blk_cell BK231.out 2).trans rfl
                  have hfz51_0 := blk_frozen BK231.out 0
                  have hfz51_1 := blk_frozen BK231.out 1
                  have hfz51_2 := blk_frozen BK231.out 2
                  go_wp2_with (first | (go_at_call 41; (with_reducible refine (malthouseref18_sum.calls k2 _ _ l0_0 _ _ l0_1 a0_2 t236 _ ?side1 ?side2 ?side3 ?side4 A50.out).mono ?_); (case side1 => repeat (first | exact (Kd.C_below HR0_0.out HB.out) | (with_reducible refine Kd.C_alloc ?_ _) | (with_reducible refine Kd.C_drewN ?_ _) | (with_reducible refine Kd.C_drew ?_))); (case side2 => exact HC0_0.out); (case side3 => repeat (first | exact (Kd.C_below HR0_1.out HB.out) | (with_reducible refine Kd.C_alloc ?_ _) | (with_reducible refine Kd.C_drewN ?_ _) | (with_reducible refine Kd.C_drew ?_))); (case side4 => exact HC0_1.out); rintro e w52 ⟨rfl, hb⟩; have n0_ := Aside0.mk (blk_below (g := gb231) (o := .cells #[.slice A0_0 l0_0.length c0_0, .slice A0_1 l0_1.length c0_1, .int .i64 a0_2] 25 (0, 0)) (by (with_reducible repeat (first | refine blk_drewN ?_ _ | refine blk_drew ?_ | refine blk_alloc ?_ _)); exact BK231.out) hb); have n1_ := Aside0.mk (below_step (by repeat (first | (with_reducible first | exact HB.out | apply below_alloc | apply pw_below_drewN | apply below_drew1 | refine below_set ?_ GE231.out) | exact HB.out)) hb); clear BK231; clear HB; have BK231 := n0_; have HB := n1_; clear n0_ n1_; (try clear hb); (try clear hb2); (try clear hk); (try clear hi)))
                  go_ret
                  exact ⟨by first | rfl | (simp [errW_none, errW_some] <;> rfl) | (simp [*, errW_none, errW_some] <;> rfl), by repeat (first | (with_reducible first | exact HB.out | apply below_alloc | apply pw_below_drewN | apply below_drew1 | refine below_set ?_ GE231.out) | exact HB.out)⟩
                · rw [if_neg c49] at H
                  have c49b0 : decide (a0_2 ≤ 1099511627776) = false := decide_eq_false c49
                  clear c49
                  obtain rfl := Option.some.inj H
                  have hcz53_0 : wr.cell? ⟨gb231, 0, none⟩ = some (.slice A0_0 l0_0.length c0_0) := (blk_cell BK231.out 0).trans rfl
                  have hcz53_1 : wr.cell? ⟨gb231, 1, none⟩ = some (.slice A0_1 l0_1.length c0_1) := (blk_cell BK231.out 1).trans rfl
                  have hcz53_2 : wr.cell? ⟨gb231, 2, none⟩ = some (.int .i64 a0_2) := (blk_cell BK231.out 2).trans rfl
                  have hfz53_0 := blk_frozen BK231.out 0
                  have hfz53_1 := blk_frozen BK231.out 1
                  have hfz53_2 := blk_frozen BK231.out 2
                  go_wp2
                  go_ret
                  exact ⟨by first | rfl | (simp [errW_none, errW_some] <;> rfl) | (simp [*, errW_none, errW_some] <;> rfl), by repeat (first | (with_reducible first | exact HB.out | apply below_alloc | apply pw_below_drewN | apply below_drew1 | refine below_set ?_ GE231.out) | exact HB.out)⟩
              · rw [if_neg c48] at H
                have c48b0 : decide (0 ≤ a0_2) = false := decide_eq_false c48
                clear c48
                obtain rfl := Option.some.inj H
                have hcz54_0 : wr.cell? ⟨gb231, 0, none⟩ = some (.slice A0_0 l0_0.length c0_0) := (blk_cell BK231.out 0).trans rfl
                have hcz54_1 : wr.cell? ⟨gb231, 1, none⟩ = some (.slice A0_1 l0_1.length c0_1) := (blk_cell BK231.out 1).trans rfl
                have hcz54_2 : wr.cell? ⟨gb231, 2, none⟩ = some (.int .i64 a0_2) := (blk_cell BK231.out 2).trans rfl
                have hfz54_0 := blk_frozen BK231.out 0
                have hfz54_1 := blk_frozen BK231.out 1
                have hfz54_2 := blk_frozen BK231.out 2
                go_wp2
                go_ret
                exact ⟨by first | rfl | (simp [errW_none, errW_some] <;> rfl) | (simp [*, errW_none, errW_some] <;> rfl), by repeat (first | (with_reducible first | exact HB.out | apply below_alloc | apply pw_below_drewN | apply below_drew1 | refine below_set ?_ GE231.out) | exact HB.out)⟩
end Go.Proofs.YtghpmpjoedbpcaaDoor.Print
/-! ### QtRef -/
namespace Go.Proofs.YtghpmpjoedbpcaaDoor.Print
open Go.RowKit Go.Proofs.YtghpmpjoedbpcaaDoorW.PrintWords Go.Proofs.YtghpmpjoedbpcaaDoorW.PrintLast Go.Proofs.YtghpmpjoedbpcaaDoorW.PrintMore
set_option linter.unusedSimpArgs false
set_option linter.unusedVariables false
def byteAt (s : ByteArray) (i : Nat) : Nat := (s.get! i).toNat
theorem byteAt_lt (s : ByteArray) (i : Nat) : byteAt s i < 256 := (s.get! i).toNat_lt
theorem bt_byteAt (s : ByteArray) (i : Nat) (h : i < s.size) : bt s (i : Int) = byteAt s i := by
  unfold bt byteAt
  have e : s.get! i = s[i]'h := by have := get_at s i h; simpa using this
  rw [Int.toNat_natCast, dif_pos h, e]
theorem wrap_small (x : Int) (h0 : -9223372036854775808 ≤ x) (h1 : x ≤ 9223372036854775807) : wrap64 x = x := by unfold wrap64; omega
theorem rune_step (s : ByteArray) (i j m : Nat) (x6 n least : Int) (hs : s.size ≤ 140737488351232) (hj : (j : Int) < n) (hlt : i + j < s.size) (hx0 : 0 ≤ x6) (hx1 : x6 ≤ 2000000) :
    malthouseref01_Rune.l0 (m + 1) s i x6 n least j = if 128 ≤ byteAt s (i + j) ∧ byteAt s (i + j) < 192 then malthouseref01_Rune.l0 m s i (64 * x6 + byteAt s (i + j) - 128) n least ((j + 1 : Nat) : Int) else some (0, 0) := by
  have hb := byteAt_lt s (i + j)
  have e1 : wrap64 ((i : Int) + j) = ((i + j : Nat) : Int) := by rw [wrap_small _ (by omega) (by omega)]; omega
  have e2 := bt_byteAt s (i + j) hlt
  simp only [malthouseref01_Rune.l0]
  rw [if_pos hj, e1, if_pos (by omega), if_pos (by omega), e2, wrap_small (byteAt s (i + j) : Int) (by omega) (by omega), wrap_small (64 * x6) (by omega) (by omega), wrap_small (64 * x6 + (byteAt s (i + j) : Int)) (by omega) (by omega), wrap_small (64 * x6 + (byteAt s (i + j) : Int) - 128) (by omega) (by omega), wrap_small ((j : Int) + 1) (by omega) (by omega)]
  by_cases h1 : byteAt s (i + j) < 128
  · rw [if_pos (by omega), if_neg (by omega)]
  · rw [if_neg (by omega)]
    by_cases h2 : 192 ≤ byteAt s (i + j)
    · rw [if_pos (by omega), if_neg (by omega)]
    · rw [if_neg (by omega), if_pos (by omega)]
      rfl
theorem rune_end (s : ByteArray) (i : Int) (j : Int) (m : Nat) (x6 n least : Int) (hj : ¬ j < n) :
    malthouseref01_Rune.l0 (m + 1) s i x6 n least j = if least ≤ x6 ∧ x6 ≤ 1114111 ∧ (x6 < 55296 ∨ 57343 < x6) then some (x6, n) else some (0, 0) := by
  simp only [malthouseref01_Rune.l0]
  rw [if_neg hj]
  by_cases h1 : x6 < least
  · rw [if_pos h1, if_neg (by omega)]
  · rw [if_neg h1]
    by_cases h2 : x6 > 1114111
    · rw [if_pos h2, if_neg (by omega)]
    · rw [if_neg h2]
      by_cases h3 : x6 ≥ 55296
      · rw [if_pos h3]
        by_cases h4 : x6 ≤ 57343
        · rw [if_pos h4, if_neg (by omega)]
        · rw [if_neg h4, if_pos (by omega)]
      · rw [if_neg h3, if_pos (by omega)]
theorem rune_begin (s : ByteArray) (i m : Nat) (x6 n least : Int) (hs : s.size ≤ 140737488351232) (hi : i < s.size) :
    malthouseref01_Rune.j2 (m + 1) s i x6 n least = if n ≤ ((s.size - i : Nat) : Int) then malthouseref01_Rune.l0 m s i x6 n least 1 else some (0, 0) := by
  simp only [malthouseref01_Rune.j2]
  rw [wrap_small ((s.size : Int) - i) (by omega) (by omega)]
  by_cases h : n > (s.size : Int) - i
  · rw [if_pos h, if_neg (by omega)]
  · rw [if_neg h, if_pos (by omega)]
/-- What the reference's Rune answers. -/
def runeR (d : Nat × Nat) (b0 : Nat) : Int × Int := if 128 ≤ b0 ∧ d = (65533, 1) then (0, 0) else ((d.1 : Int), (d.2 : Int))
set_option maxHeartbeats 4000000 in
set_option maxRecDepth 100000 in
theorem rune_is (s : ByteArray) (i k : Nat) (hs : s.size ≤ 140737488351232) (hi : i < s.size) : malthouseref01_Rune.f (k + 8) s (i : Int) = some (runeR (Utf8.decode s i) (byteAt s i)) := by
  have h0 := byteAt_lt s i
  have h1 := byteAt_lt s (i + 1)
  have h2 := byteAt_lt s (i + 2)
  have h3 := byteAt_lt s (i + 3)
  have e0 := bt_byteAt s i hi
  rw [Lib.decode_at]
  show _ = some (runeR (Lib.decodeN (s.size - i) (byteAt s i) (byteAt s (i + 1)) (byteAt s (i + 2)) (byteAt s (i + 3))) (byteAt s i))
  unfold malthouseref01_Rune.f
  rw [if_pos (by omega), if_pos (by omega), e0, wrap_small (byteAt s i : Int) (by omega) (by omega)]
  have r2 := fun m x6 n least (hn : 1 < n) (hl : i + 1 < s.size) (a : 0 ≤ x6) (b : x6 ≤ 2000000) => rune_step s i 1 m x6 n least hs hn hl a b
  have r3 := fun m x6 n least (hn : 2 < n) (hl : i + 2 < s.size) (a : 0 ≤ x6) (b : x6 ≤ 2000000) => rune_step s i 2 m x6 n least hs hn hl a b
  have r4 := fun m x6 n least (hn : 3 < n) (hl : i + 3 < s.size) (a : 0 ≤ x6) (b : x6 ≤ 2000000) => rune_step s i 3 m x6 n least hs hn hl a b
  have rb := fun m x6 n least => rune_begin s i m x6 n least hs hi
  generalize hN : s.size - i = N at *
  generalize byteAt s i = b0 at *
  generalize byteAt s (i + 1) = b1 at *
  generalize byteAt s (i + 2) = b2 at *
  generalize byteAt s (i + 3) = b3 at *
  by_cases c0 : b0 < 128
  · rw [if_pos (by omega)]
    unfold runeR Lib.decodeN
    rw [if_neg (by omega), if_pos c0]
    rfl
  rw [if_neg (by omega)]
  by_cases c1 : b0 < 192
  · rw [if_neg (by omega)]
    simp only [malthouseref01_Rune.j0, malthouseref01_Rune.j1]
    rw [if_neg (by simp), if_neg (by omega), if_neg (by simp), if_neg (by omega)]
    unfold Lib.decodeN
    rw [if_neg (by omega), if_neg (by omega), if_neg (by omega), if_neg (by omega)]
    unfold runeR
    rw [if_pos ⟨by omega, rfl⟩]
  rw [if_pos (by omega)]
  simp only [malthouseref01_Rune.j0, malthouseref01_Rune.j1, decide_eq_true_eq]
  have fin : ∀ (x : Nat) (w : Nat), (x, w) ≠ (65533, 1) → some ((x : Int), (w : Int)) = some (runeR (x, w) b0) := fun x w h => by
    unfold runeR
    rw [if_neg (fun hh => h hh.2)]
  have bad : some ((0 : Int), (0 : Int)) = some (runeR (65533, 1) b0) := by
    unfold runeR
    rw [if_pos ⟨by omega, rfl⟩]
  by_cases c2 : b0 < 224
  · rw [if_pos (by omega), wrap_small _ (by omega) (by omega), rb]
    by_cases d1 : 1 < N
    · rw [if_pos (by omega), show ((1 : Int)) = ((1 : Nat) : Int) from rfl, r2 _ _ _ _ (by omega) (by omega) (by omega) (by omega)]
      by_cases d2 : 128 ≤ b1 ∧ b1 < 192
      · rw [if_pos d2]
        unfold Lib.decodeN
        rw [if_neg (by omega), if_pos (by omega)]
        by_cases d3 : b0 % 32 * 64 + b1 % 64 ≥ 128
        · rw [if_pos d3, rune_end _ _ _ _ _ _ _ (by omega), if_pos (by omega), ← fin _ _ (by simp)]
          congr 2; omega
        · rw [if_neg d3, rune_end _ _ _ _ _ _ _ (by omega), if_neg (by omega)]; exact bad
      · rw [if_neg d2]
        unfold Lib.decodeN
        rw [if_neg (by omega), if_neg (by omega), if_neg (by omega), if_neg (by omega)]; exact bad
    · rw [if_neg (by omega)]
      unfold Lib.decodeN
      rw [if_neg (by omega), if_neg (by omega), if_neg (by omega), if_neg (by omega)]; exact bad
  rw [if_neg (by omega), if_pos (by omega)]
  by_cases c3 : b0 < 240
  · rw [if_pos (by omega), wrap_small _ (by omega) (by omega), rb]
    by_cases d1 : 2 < N
    · rw [if_pos (by omega), show ((1 : Int)) = ((1 : Nat) : Int) from rfl, r2 _ _ _ _ (by omega) (by omega) (by omega) (by omega)]
      by_cases d2 : 128 ≤ b1 ∧ b1 < 192
      · rw [if_pos d2, show 1 + 1 = 2 from rfl, r3 _ _ _ _ (by omega) (by omega) (by omega) (by omega)]
        by_cases d3 : 128 ≤ b2 ∧ b2 < 192
        · rw [if_pos d3]
          unfold Lib.decodeN
          rw [if_neg (by omega), if_neg (by omega), if_pos (by omega)]
          by_cases d4 : b0 % 16 * 4096 + b1 % 64 * 64 + b2 % 64 ≥ 2048 ∧ (b0 % 16 * 4096 + b1 % 64 * 64 + b2 % 64 < 55296 ∨ (57344 ≤ b0 % 16 * 4096 + b1 % 64 * 64 + b2 % 64 ∧ b0 % 16 * 4096 + b1 % 64 * 64 + b2 % 64 ≤ 1114111))
          · rw [if_pos d4, rune_end _ _ _ _ _ _ _ (by omega), if_pos (by omega), ← fin _ _ (by simp)]
            congr 2; omega
          · rw [if_neg d4, rune_end _ _ _ _ _ _ _ (by omega), if_neg (by omega)]; exact bad
        · rw [if_neg d3]
          unfold Lib.decodeN
          rw [if_neg (by omega), if_neg (by omega), if_neg (by omega), if_neg (by omega)]; exact bad
      · rw [if_neg d2]
        unfold Lib.decodeN
        rw [if_neg (by omega), if_neg (by omega), if_neg (by omega), if_neg (by omega)]; exact bad
    · rw [if_neg (by omega)]
      unfold Lib.decodeN
      rw [if_neg (by omega), if_neg (by omega), if_neg (by omega), if_neg (by omega)]; exact bad
  rw [if_neg (by omega), if_pos (by omega)]
  by_cases c4 : b0 < 248
  · rw [if_pos (by omega), wrap_small _ (by omega) (by omega), rb]
    by_cases d1 : 3 < N
    · rw [if_pos (by omega), show ((1 : Int)) = ((1 : Nat) : Int) from rfl, r2 _ _ _ _ (by omega) (by omega) (by omega) (by omega)]
      by_cases d2 : 128 ≤ b1 ∧ b1 < 192
      · rw [if_pos d2, show 1 + 1 = 2 from rfl, r3 _ _ _ _ (by omega) (by omega) (by omega) (by omega)]
        by_cases d3 : 128 ≤ b2 ∧ b2 < 192
        · rw [if_pos d3, show 2 + 1 = 3 from rfl, r4 _ _ _ _ (by omega) (by omega) (by omega) (by omega)]
          by_cases d5 : 128 ≤ b3 ∧ b3 < 192
          · rw [if_pos d5]
            unfold Lib.decodeN
            rw [if_neg (by omega), if_neg (by omega), if_neg (by omega), if_pos (by omega)]
            by_cases d4 : b0 % 8 * 262144 + b1 % 64 * 4096 + b2 % 64 * 64 + b3 % 64 ≥ 65536 ∧ (b0 % 8 * 262144 + b1 % 64 * 4096 + b2 % 64 * 64 + b3 % 64 < 55296 ∨ (57344 ≤ b0 % 8 * 262144 + b1 % 64 * 4096 + b2 % 64 * 64 + b3 % 64 ∧ b0 % 8 * 262144 + b1 % 64 * 4096 + b2 % 64 * 64 + b3 % 64 ≤ 1114111))
            · rw [if_pos d4, rune_end _ _ _ _ _ _ _ (by omega), if_pos (by omega), ← fin _ _ (by simp)]
              congr 2; omega
            · rw [if_neg d4, rune_end _ _ _ _ _ _ _ (by omega), if_neg (by omega)]; exact bad
          · rw [if_neg d5]
            unfold Lib.decodeN
            rw [if_neg (by omega), if_neg (by omega), if_neg (by omega), if_neg (by omega)]; exact bad
        · rw [if_neg d3]
          unfold Lib.decodeN
          rw [if_neg (by omega), if_neg (by omega), if_neg (by omega), if_neg (by omega)]; exact bad
      · rw [if_neg d2]
        unfold Lib.decodeN
        rw [if_neg (by omega), if_neg (by omega), if_neg (by omega), if_neg (by omega)]; exact bad
    · rw [if_neg (by omega)]
      unfold Lib.decodeN
      rw [if_neg (by omega), if_neg (by omega), if_neg (by omega), if_neg (by omega)]; exact bad
  · rw [if_neg (by omega)]
    unfold Lib.decodeN
    rw [if_neg (by omega), if_neg (by omega), if_neg (by omega), if_neg (by omega)]; exact bad
/-- A text's runes from a place on, where each begins, is there no bad byte. -/
def runesFrom (s : ByteArray) : Nat → Nat → List Int × List Int × Bool
  | 0, _ => ([], [(s.size : Int)], true)
  | f + 1, p => if p < s.size then
      (if (Utf8.decode s p).1 = 65533 ∧ (Utf8.decode s p).2 = 1 then ([], [], false)
       else (((Utf8.decode s p).1 : Int) :: (runesFrom s f (p + (Utf8.decode s p).2)).1, (p : Int) :: (runesFrom s f (p + (Utf8.decode s p).2)).2.1, (runesFrom s f (p + (Utf8.decode s p).2)).2.2)) else ([], [(s.size : Int)], true)
theorem decode_small (s : ByteArray) (p : Nat) (h : byteAt s p < 128) : Utf8.decode s p = (byteAt s p, 1) := by
  rw [Lib.decode_at]
  unfold Lib.decodeN
  rw [if_pos (by exact h)]
  rfl
theorem runeR_good (s : ByteArray) (p : Nat) (h : ¬ ((Utf8.decode s p).1 = 65533 ∧ (Utf8.decode s p).2 = 1)) : runeR (Utf8.decode s p) (byteAt s p) = (((Utf8.decode s p).1 : Int), ((Utf8.decode s p).2 : Int)) := by
  unfold runeR
  rw [if_neg]
  rintro ⟨_, h2⟩
  exact h (by rw [h2]; exact ⟨rfl, rfl⟩)
theorem runeR_bad (s : ByteArray) (p : Nat) (h : (Utf8.decode s p).1 = 65533 ∧ (Utf8.decode s p).2 = 1) : runeR (Utf8.decode s p) (byteAt s p) = (0, 0) := by
  unfold runeR
  rw [if_pos]
  refine ⟨?_, Prod.ext h.1 h.2⟩
  rcases Nat.lt_or_ge (byteAt s p) 128 with hb | hb
  · rw [decode_small s p hb] at h
    have := h.1
    simp only at this
    omega
  · exact hb
theorem decode_width (s : ByteArray) (p : Nat) (h : p < s.size) : 1 ≤ (Utf8.decode s p).2 ∧ p + (Utf8.decode s p).2 ≤ s.size ∧ (Utf8.decode s p).2 ≤ 4 := by
  rw [Lib.decode_at]
  unfold Lib.decodeN
  repeat' split
  all_goals (simp only; omega)
set_option maxRecDepth 100000 in
theorem runes_loop (s S : ByteArray) (hs : s.size ≤ 1000000000) : ∀ (f p k : Nat) (rs qs : List Int), s.size ≤ p + f → p ≤ s.size → rs.length ≤ p → qs.length ≤ p →
    malthouseref01_Runes.l0 (k + f + 9) s (p : Int) S rs qs = some (S, rs ++ (runesFrom s f p).1, qs ++ (runesFrom s f p).2.1, (runesFrom s f p).2.2) := by
  intro f
  induction f with
  | zero =>
    intro p k rs qs h1 h2 h3 h4
    have e : k + 0 + 9 = (k + 8) + 1 := by omega
    rw [e]
    generalize k + 8 = K
    simp only [malthouseref01_Runes.l0, runesFrom]
    rw [if_neg (by omega), if_pos (by omega)]
    simp
  | succ f ih =>
    intro p k rs qs h1 h2 h3 h4
    have e : k + (f + 1) + 9 = (k + f + 9) + 1 := by omega
    rw [e]
    have ih' := fun p rs qs => ih p k rs qs
    have hrune := rune_is s p (k + f + 1) (by omega)
    rw [show k + f + 1 + 8 = k + f + 9 by omega] at hrune
    clear ih e
    generalize k + f + 9 = K at *
    by_cases hp : p < s.size
    · simp only [malthouseref01_Runes.l0, runesFrom]
      rw [if_pos (by omega), hrune hp]
      simp only [Option.bind_some]
      obtain ⟨w1, w2, w3⟩ := decode_width s p hp
      rw [if_pos hp]
      by_cases hb : (Utf8.decode s p).1 = 65533 ∧ (Utf8.decode s p).2 = 1
      · rw [runeR_bad s p hb, if_pos rfl, if_pos hb]
        simp
      · rw [runeR_good s p hb, if_neg hb]
        simp only
        rw [if_neg (by omega), if_pos (by omega), if_pos (by omega), wrap_small _ (by omega) (by omega)]
        have := ih' (p + (Utf8.decode s p).2) (rs ++ [((Utf8.decode s p).1 : Int)]) (qs ++ [(p : Int)]) (by omega) w2 (by simp; omega) (by simp; omega)
        rw [show (p : Int) + ((Utf8.decode s p).2 : Int) = ((p + (Utf8.decode s p).2 : Nat) : Int) by omega, this]
        simp
    · simp only [malthouseref01_Runes.l0, runesFrom]
      rw [if_neg (by omega), if_pos (by omega), if_neg hp]
      simp
theorem runes_is (s : ByteArray) (hs : s.size ≤ 1000000000) (k : Nat) : malthouseref01_Runes.f (k + s.size + 9) s = some (s, (runesFrom s s.size 0).1, (runesFrom s s.size 0).2.1, (runesFrom s s.size 0).2.2) := by
  have := runes_loop s s hs s.size 0 k [] [] (by omega) (by omega) (by simp) (by simp)
  simpa [malthouseref01_Runes.f] using this
theorem valid_from (s : ByteArray) : ∀ (f p : Nat), s.size ≤ p + f → p ≤ s.size → (runesFrom s f p).2.2 = Lib.validD (s.data.toList.drop p) := by
  have hsz : s.data.toList.length = s.size := by rw [Array.length_toList]; rfl
  intro f
  induction f with
  | zero =>
    intro p h1 h2
    rw [List.drop_eq_nil_of_le (by omega)]
    rfl
  | succ f ih =>
    intro p h1 h2
    simp only [runesFrom]
    by_cases hp : p < s.size
    · rw [if_pos hp]
      have hne : s.data.toList.drop p ≠ [] := by
        intro h
        have := congrArg List.length h
        rw [List.length_drop] at this
        simp at this
        omega
      rw [Lib.validD_step _ hne, Lib.decodeL_drop]
      obtain ⟨w1, w2, w3⟩ := decode_width s p hp
      by_cases hb : (Utf8.decode s p).1 = 65533 ∧ (Utf8.decode s p).2 = 1
      · rw [if_pos hb, if_pos hb]
      · rw [if_neg hb, if_neg hb]
        simp only
        rw [ih _ (by omega) w2, List.drop_drop]
    · rw [if_neg hp, List.drop_eq_nil_of_le (by omega)]
      rfl
theorem count_from (s : ByteArray) : ∀ (f p : Nat), s.size ≤ p + f → p ≤ s.size → (runesFrom s f p).2.2 = true → (runesFrom s f p).1.length = Lib.runeCountFrom s f p := by
  intro f
  induction f with
  | zero => intro p _ _ _; rfl
  | succ f ih =>
    intro p h1 h2 h3
    simp only [runesFrom, Lib.runeCountFrom] at h3 ⊢
    by_cases hp : p < s.size
    · rw [if_pos hp] at h3 ⊢
      rw [if_pos hp]
      obtain ⟨w1, w2, w3⟩ := decode_width s p hp
      by_cases hb : (Utf8.decode s p).1 = 65533 ∧ (Utf8.decode s p).2 = 1
      · rw [if_pos hb] at h3; cases h3
      · rw [if_neg hb] at h3 ⊢
        simp only at h3 ⊢
        rw [List.length_cons, ih _ (by omega) w2 h3]
        omega
    · rw [if_neg hp, if_neg hp]; rfl
def oddR (r : Int) : Bool := decide (r < 32) || decide (r = 34)
theorem odd_from (s : ByteArray) : ∀ (f p : Nat), s.size ≤ p + f → p ≤ s.size → (runesFrom s f p).2.2 = true → (runesFrom s f p).1.any oddR = oddFrom s f p := by
  intro f
  induction f with
  | zero => intro p _ _ _; rfl
  | succ f ih =>
    intro p h1 h2 h3
    simp only [runesFrom, oddFrom] at h3 ⊢
    by_cases hp : p < s.size
    · rw [if_pos hp] at h3 ⊢
      rw [if_pos hp]
      obtain ⟨w1, w2, w3⟩ := decode_width s p hp
      by_cases hb : (Utf8.decode s p).1 = 65533 ∧ (Utf8.decode s p).2 = 1
      · rw [if_pos hb] at h3; cases h3
      · rw [if_neg hb] at h3 ⊢
        simp only at h3 ⊢
        rw [List.any_cons, ih _ (by omega) w2 h3]
        unfold oddR
        congr 2
        · simp; omega
        · simp; omega
    · rw [if_neg hp, if_neg hp]; rfl
theorem quote_loop (s S : ByteArray) (rs qs : List Int) (hs : s.size ≤ 1000000000) (hl : rs.length ≤ 1000000000) : ∀ (f i k : Nat), rs.length ≤ i + f → i ≤ rs.length → f < k →
    malthouseref01_Quote.l0 k s (i : Int) S rs qs = some (if (rs.drop i).any oddR = true then (⟨#[]⟩, false) else ((⟨#[34]⟩ : ByteArray) ++ s ++ (⟨#[34]⟩ : ByteArray), true)) := by
  have e1 : (⟨#[34]⟩ : ByteArray).size = 1 := rfl
  have fin : ∀ k : Nat, malthouseref01_Quote.l0 (k + 1) s ((rs.length : Nat) : Int) S rs qs = some ((⟨#[34]⟩ : ByteArray) ++ s ++ (⟨#[34]⟩ : ByteArray), true) := by
    intro k
    rw [malthouseref01_Quote.l0, if_neg (by omega), if_pos (by omega), if_pos (by rw [ByteArray.size_append, e1]; omega)]
  intro f
  induction f with
  | zero =>
    intro i k h1 h2 hk
    obtain ⟨k, rfl⟩ : ∃ m, k = m + 1 := ⟨k - 1, by omega⟩
    obtain rfl : i = rs.length := by omega
    rw [fin k, List.drop_eq_nil_of_le (by omega)]
    rfl
  | succ f ih =>
    intro i k h1 h2 hk
    obtain ⟨k, rfl⟩ : ∃ m, k = m + 1 := ⟨k - 1, by omega⟩
    by_cases hi : i < rs.length
    · have e : rd rs (i : Int) = rs[i] := getD_at rs 0 i hi
      rw [malthouseref01_Quote.l0, if_pos (by omega), if_pos (by omega), e, List.drop_eq_getElem_cons hi, List.any_cons, wrap_small _ (by omega) (by omega), show (i : Int) + 1 = ((i + 1 : Nat) : Int) by omega, ih (i + 1) k (by omega) (by omega) (by omega)]
      by_cases h3 : rs[i] < 32
      · rw [if_pos h3, if_pos (by unfold oddR; simp [h3])]
      · rw [if_neg h3]
        by_cases h4 : rs[i] = 34
        · rw [if_pos h4, if_pos (by unfold oddR; simp [h4])]
        · rw [if_neg h4, show oddR rs[i] = false by unfold oddR; simp [h3, h4], Bool.false_or]
    · obtain rfl : i = rs.length := by omega
      rw [fin k, List.drop_eq_nil_of_le (by omega)]
      rfl
theorem ref_quote_is (s : ByteArray) (hs : s.size ≤ 1000000000) (k : Nat) (hk : s.size + 20 ≤ k) : malthouseref01_Quote.f k s = some (quoteZ s) := by
  have hr := runes_is s hs (k - s.size - 9)
  rw [show k - s.size - 9 + s.size + 9 = k by omega] at hr
  unfold malthouseref01_Quote.f
  rw [hr]
  simp only [Option.bind_some]
  have hv := valid_from s s.size 0 (by omega) (by omega)
  rw [List.drop_zero] at hv
  obtain ⟨k, rfl⟩ : ∃ m, k = m + 1 := ⟨k - 1, by omega⟩
  unfold quoteZ
  rw [← hv]
  cases hok : (runesFrom s s.size 0).2.2 with
  | false =>
    rw [if_neg (by simp), malthouseref01_Quote.j0, if_pos rfl]
    simp
  | true =>
    have hc := count_from s s.size 0 (by omega) (by omega) hok
    have ho := odd_from s s.size 0 (by omega) (by omega) hok
    have hle := Lib.runeCount_le s
    have hrc : (runesFrom s s.size 0).1.length = Lib.runeCount s := hc
    have e20 : decide (((runesFrom s s.size 0).1.length : Int) > 20) = decide (20 < Lib.runeCount s) := by
      rw [hrc]
      congr 1
      refine propext ⟨fun h => ?_, fun h => ?_⟩ <;> omega
    rw [if_pos rfl, e20, malthouseref01_Quote.j0]
    have hq := quote_loop s s (runesFrom s s.size 0).1 (runesFrom s s.size 0).2.1 hs (by omega) (runesFrom s s.size 0).1.length 0 k (by omega) (by omega) (by omega)
    rw [List.drop_zero, ho] at hq
    by_cases h20 : 20 < Lib.runeCount s
    · rw [if_pos (decide_eq_true h20), if_pos h20]
      rfl
    · rw [if_neg (by rw [decide_eq_false h20]; simp), if_neg h20]
      exact hq
end Go.Proofs.YtghpmpjoedbpcaaDoor.Print
/-! ### Print10 -/
namespace Go.Proofs.YtghpmpjoedbpcaaDoor.Print
open Go.RowKit Go.Proofs.YtghpmpjoedbpcaaDoorW.PrintWords Go.Proofs.YtghpmpjoedbpcaaDoorW.PrintLast Go.Proofs.YtghpmpjoedbpcaaDoorW.PrintMore
attribute [local go_sem] min2_int min_two
set_option linter.unusedVariables false
set_option linter.unusedSimpArgs false
def malthouseref18_Place.l0 : Nat → Int → Int → List (S27) → List (S35) → Int → Option (Int)
  | 0, _, _, _, _, _ => none
  | k + 1, x1, x5, x238000, x238001, x238002 => if x5 < (x238001.length : Int) then (if 0 ≤ x5 then (if ((rd_T35 x238001 x5).f0) = x1 then (some x5) else (malthouseref18_Place.l0 k x1 (wrap64 (x5 + 1)) x238000 x238001 x238002)) else (none)) else (some (-1))
def malthouseref18_Place.f (k : Nat) (l0_0 : List (S27)) (l0_1 : List (S35)) (a0_2 : Int) (a1 : Int) : Option (Int) := malthouseref18_Place.l0 k a1 0 l0_0 l0_1 a0_2
set_option maxHeartbeats 8000000 in
set_option maxRecDepth 100000 in
theorem malthouseref18_Place.calls (k : Nat) (A0_0 : Option Addr) (c0_0 : Nat) (l0_0 : List (S27)) (A0_1 : Option Addr) (c0_1 : Nat) (l0_1 : List (S35)) (a0_2 : Int) (a1 : Int) (r : Int) (w : World) (hr0_0 : Kd.C k27 w A0_0 l0_0.length l0_0) (hc0_0 : l0_0.length ≤ c0_0) (hr0_1 : Kd.C k35 w A0_1 l0_1.length l0_1) (hc0_1 : l0_1.length ≤ c0_1) (h : malthouseref18_Place.f k l0_0 l0_1 a0_2 a1 = some r) :
    Calls Tryd.prog 40 #[.agg #[.slice A0_0 l0_0.length c0_0, .slice A0_1 l0_1.length c0_1, .int .i64 a0_2], .int .i64 a1] w fun e w' => e = .returned (.int .i64 r) ∧ Below w.heap.size w w' := by
  have hu25 := Tryd.underlying25
  have HR0_0 := Aside0.mk hr0_0
  have HC0_0 := Aside0.mk hc0_0
  clear hr0_0 hc0_0
  have HR0_1 := Aside0.mk hr0_1
  have HC0_1 := Aside0.mk hc0_1
  clear hr0_1 hc0_1
  have HB := Aside0.mk (Below.refl w.heap.size w)
  have H : (malthouseref18_Place.l0 k a1 0 l0_0 l0_1 a0_2) = some r := h
  clear h
  have H' := Aside0.mk H
  clear H
  go_enter Tryd.func40, Tryd.ntmps40
  go_wp2_with (first | ((with_reducible refine gate_dst (N := 2) rfl ?_); refine box_event ?hg (N := 2) ?hd (cs := #[.slice A0_0 l0_0.length c0_0, .slice A0_1 l0_1.length c0_1, .int .i64 a0_2]) (t := 25) ?hr ?_; (case hd => rfl); (case hg => rfl); (case hr => first | (go_simp; done) | (go_simp; rfl)); intro gb237 hg w3 hbox hb; have n0_ := Aside0.mk (below_step (by repeat (first | (with_reducible first | exact HB.out | apply below_alloc | apply pw_below_drewN | apply below_drew1) | exact HB.out)) hb); have n1_ := Aside0.mk (hbox); have n2_ := Aside0.mk ((by rw [hg]; exact (below_size (by repeat (first | (with_reducible first | exact HB.out | apply below_alloc | apply pw_below_drewN | apply below_drew1) | exact HB.out))) : w.heap.size ≤ gb237)); have n3_ := Aside0.mk ((by rw [hg]; exact (below_size (by repeat (first | (with_reducible first | exact HB.out | apply below_alloc | apply pw_below_drewN | apply below_drew1) | exact HB.out))) : w.heap.size ≤ gb237)); clear HB; have HB := n0_; have BK237 := n1_; have GW237 := n2_; have GE237 := n3_; clear n0_ n1_ n2_ n3_; clear hb hbox hg))
  go_loopg [5] k (fun kq v5 w' => ∃ (x5_1 : Int), v5 = .int .i64 x5_1 ∧ Aside0 (malthouseref18_Place.l0 kq a1 x5_1 l0_0 l0_1 a0_2 = some r) ∧ Aside0 (kq ≤ k) ∧ Aside0 (w'.heap[gb237]? = some (.cells #[(.slice A0_0 l0_0.length c0_0), (.slice A0_1 l0_1.length c0_1), .int .i64 a0_2] 25 (0, 0))) ∧ Aside0 (Below w.heap.size w w'))
  case atStart => exact ⟨(0), (by first | rfl | (simp; done) | (simp [*]; done)), H', ⟨Nat.le_refl _⟩, ⟨by (with_reducible repeat (first | refine blk_drewN ?_ _ | refine blk_drew ?_ | refine blk_alloc ?_ _)); exact BK237.out⟩, ⟨by repeat (first | (with_reducible first | exact HB.out | apply below_alloc | apply pw_below_drewN | apply below_drew1 | refine below_set ?_ GE237.out) | exact HB.out)⟩⟩
  case round =>
    clear H'
    try clear p2
    obtain ⟨x5_1, rfl, HA, HK1, BK237, HB⟩ := hrel
    cases gk with
    | zero => exact absurd HA.out (by simp [malthouseref18_Place.l0])
    | succ k1 =>
      have H := HA.out
      clear HA
      simp only [malthouseref18_Place.l0] at H
      by_cases c4 : x5_1 < (l0_1.length : Int)
      · rw [if_pos c4] at H
        have c4b0 : decide (x5_1 < (l0_1.length : Int)) = true := decide_eq_true c4
        clear c4
        by_cases c5 : 0 ≤ x5_1
        · rw [if_pos c5] at H
          have c5b0 : decide (0 ≤ x5_1) = true := decide_eq_true c5
          clear c5
          by_cases c6 : ((rd_T35 l0_1 x5_1).f0) = a1
          · rw [if_pos c6] at H
            have c6b0 : (((rd_T35 l0_1 x5_1).f0) == a1) = true := beq_iff_eq.mpr c6
            have c6b1 : (((rd_T35 l0_1 x5_1).f0) != a1) = false := bne_eq_false_iff_eq.mpr c6
            clear c6
            obtain rfl := Option.some.inj H
            have hcz7_0 : wr.cell? ⟨gb237, 0, none⟩ = some (.slice A0_0 l0_0.length c0_0) := (blk_cell BK237.out 0).trans rfl
            have hcz7_1 : wr.cell? ⟨gb237, 1, none⟩ = some (.slice A0_1 l0_1.length c0_1) := (blk_cell BK237.out 1).trans rfl
            have hcz7_2 : wr.cell? ⟨gb237, 2, none⟩ = some (.int .i64 a0_2) := (blk_cell BK237.out 2).trans rfl
            have hfz7_0 := blk_frozen BK237.out 0
            have hfz7_1 := blk_frozen BK237.out 1
            have hfz7_2 := blk_frozen BK237.out 2
            have p238 : 0 ≤ (x5_1 : Int) := of_decide_eq_true (by first | (with_reducible assumption) | assumption)
            have q238 : x5_1 < (l0_1.length : Int) := of_decide_eq_true (by first | (with_reducible assumption) | assumption)
            obtain ⟨ad238, e238, hx238_0, hx238_1, hx238_2⟩ := at_T35 HR0_1.out x5_1 p238 q238
            cases e238
            replace hx238_0 := (HB.out.cell (World.block_lt_of_cell? w _ hx238_0)).trans hx238_0
            replace hx238_1 := (HB.out.cell (World.block_lt_of_cell? w _ hx238_1)).trans hx238_1
            replace hx238_2 := (HB.out.cell (World.block_lt_of_cell? w _ hx238_2)).trans hx238_2
            replace p238 := eq_true p238
            replace q238 := eq_true q238
            go_wp2
            go_ret
            exact ⟨by first | rfl | (simp [errW_none, errW_some] <;> rfl) | (simp [*, errW_none, errW_some] <;> rfl), by repeat (first | (with_reducible first | exact HB.out | apply below_alloc | apply pw_below_drewN | apply below_drew1 | refine below_set ?_ GE237.out) | exact HB.out)⟩
          · rw [if_neg c6] at H
            have c6b0 : (((rd_T35 l0_1 x5_1).f0) == a1) = false := beq_eq_false_iff_ne.mpr c6
            have c6b1 : (((rd_T35 l0_1 x5_1).f0) != a1) = true := bne_iff_ne.mpr c6
            have H' := Aside0.mk H
            clear H
            have hcz8_0 : wr.cell? ⟨gb237, 0, none⟩ = some (.slice A0_0 l0_0.length c0_0) := (blk_cell BK237.out 0).trans rfl
            have hcz8_1 : wr.cell? ⟨gb237, 1, none⟩ = some (.slice A0_1 l0_1.length c0_1) := (blk_cell BK237.out 1).trans rfl
            have hcz8_2 : wr.cell? ⟨gb237, 2, none⟩ = some (.int .i64 a0_2) := (blk_cell BK237.out 2).trans rfl
            have hfz8_0 := blk_frozen BK237.out 0
            have hfz8_1 := blk_frozen BK237.out 1
            have hfz8_2 := blk_frozen BK237.out 2
            have p238 : 0 ≤ (x5_1 : Int) := of_decide_eq_true (by first | (with_reducible assumption) | assumption)
            have q238 : x5_1 < (l0_1.length : Int) := of_decide_eq_true (by first | (with_reducible assumption) | assumption)
            obtain ⟨ad238, e238, hx238_0, hx238_1, hx238_2⟩ := at_T35 HR0_1.out x5_1 p238 q238
            cases e238
            replace hx238_0 := (HB.out.cell (World.block_lt_of_cell? w _ hx238_0)).trans hx238_0
            replace hx238_1 := (HB.out.cell (World.block_lt_of_cell? w _ hx238_1)).trans hx238_1
            replace hx238_2 := (HB.out.cell (World.block_lt_of_cell? w _ hx238_2)).trans hx238_2
            replace p238 := eq_true p238
            replace q238 := eq_true q238
            go_wp2
            go_roundg k1
            case measure => have := HK1.out; omega
            case rel => exact ⟨(wrap64 (x5_1 + 1)), (by first | rfl | (simp; done) | (simp [*]; done)), H', ⟨by have := HK1.out; omega⟩, ⟨by (with_reducible repeat (first | refine blk_drewN ?_ _ | refine blk_drew ?_ | refine blk_alloc ?_ _)); exact BK237.out⟩, ⟨by repeat (first | (with_reducible first | exact HB.out | apply below_alloc | apply pw_below_drewN | apply below_drew1 | refine below_set ?_ GE237.out) | exact HB.out)⟩⟩
        · rw [if_neg c5] at H
          exact absurd H (by simp)
      · rw [if_neg c4] at H
        have c4b0 : decide (x5_1 < (l0_1.length : Int)) = false := decide_eq_false c4
        clear c4
        obtain rfl := Option.some.inj H
        have hcz9_0 : wr.cell? ⟨gb237, 0, none⟩ = some (.slice A0_0 l0_0.length c0_0) := (blk_cell BK237.out 0).trans rfl
        have hcz9_1 : wr.cell? ⟨gb237, 1, none⟩ = some (.slice A0_1 l0_1.length c0_1) := (blk_cell BK237.out 1).trans rfl
        have hcz9_2 : wr.cell? ⟨gb237, 2, none⟩ = some (.int .i64 a0_2) := (blk_cell BK237.out 2).trans rfl
        have hfz9_0 := blk_frozen BK237.out 0
        have hfz9_1 := blk_frozen BK237.out 1
        have hfz9_2 := blk_frozen BK237.out 2
        go_wp2
        go_ret
        exact ⟨by first | rfl | (simp [errW_none, errW_some] <;> rfl) | (simp [*, errW_none, errW_some] <;> rfl), by repeat (first | (with_reducible first | exact HB.out | apply below_alloc | apply pw_below_drewN | apply below_drew1 | refine below_set ?_ GE237.out) | exact HB.out)⟩
mutual
def malthouseref18_Of.l0 : Nat → Int → Bool → List (S27) → Int → List (S27) → List (S35) → Int → Option ((List (S27)))
  | 0, _, _, _, _, _, _, _ => none
  | k + 1, x1, x5, x6, x7, x262000, x262001, x262002 => if x7 < (x262000.length : Int) then (malthouseref18_Of.j1 k x1 x5 x6 x7 x5 x262000 x262001 x262002) else (malthouseref18_Of.j1 k x1 x5 x6 x7 false x262000 x262001 x262002)
def malthouseref18_Of.j1 : Nat → Int → Bool → List (S27) → Int → Bool → List (S27) → List (S35) → Int → Option ((List (S27)))
  | 0, _, _, _, _, _, _, _, _ => none
  | k + 1, x1, x5, x6, x7, x17, x262000, x262001, x262002 => if x17 = true then (if 0 ≤ x7 then (if x7 < (x262000.length : Int) then (if ((rd_T27 x262000 x7).f1) = x1 then (if x6.length < 2513169434916 then (malthouseref18_Of.l0 k x1 x5 (x6 ++ [(⟨(rd_T27 x262000 x7).f0, (rd_T27 x262000 x7).f1, (rd_T27 x262000 x7).f2, (rd_T27 x262000 x7).f3, (rd_T27 x262000 x7).f4, (rd_T27 x262000 x7).f5⟩ : S27)]) (wrap64 (x7 + 1)) x262000 x262001 x262002) else (none)) else (malthouseref18_Of.l0 k x1 x5 x6 (wrap64 (x7 + 1)) x262000 x262001 x262002)) else (none)) else (none)) else (some x6)
end
def malthouseref18_Of.f (k : Nat) (l0_0 : List (S27)) (l0_1 : List (S35)) (a0_2 : Int) (a1 : Int) : Option ((List (S27))) := (malthouseref18_Right.f k l0_0 l0_1 a0_2).bind fun t262 => (malthouseref18_Of.l0 k a1 t262 ([] : List (S27)) 0 l0_0 l0_1 a0_2)
set_option maxHeartbeats 8000000 in
set_option maxRecDepth 100000 in
theorem malthouseref18_Of.calls (k : Nat) (A0_0 : Option Addr) (c0_0 : Nat) (l0_0 : List (S27)) (A0_1 : Option Addr) (c0_1 : Nat) (l0_1 : List (S35)) (a0_2 : Int) (a1 : Int) (r : List (S27)) (w : World) (hr0_0 : Kd.C k27 w A0_0 l0_0.length l0_0) (hc0_0 : l0_0.length ≤ c0_0) (hr0_1 : Kd.C k35 w A0_1 l0_1.length l0_1) (hc0_1 : l0_1.length ≤ c0_1) (h : malthouseref18_Of.f k l0_0 l0_1 a0_2 a1 = some r) :
    Calls Tryd.prog 27 #[.agg #[.slice A0_0 l0_0.length c0_0, .slice A0_1 l0_1.length c0_1, .int .i64 a0_2], .int .i64 a1] w fun e w' => ∃ v0_ : Value, e = .returned (v0_) ∧ Kd.R k27 27 w' w.heap.size (fun _ => True) v0_ r ∧ Below w.heap.size w w' := by
  have hu25 := Tryd.underlying25
  have hu27 := Tryd.underlying27
  have HR0_0 := Aside0.mk hr0_0
  have HC0_0 := Aside0.mk hc0_0
  clear hr0_0 hc0_0
  have HR0_1 := Aside0.mk hr0_1
  have HC0_1 := Aside0.mk hc0_1
  clear hr0_1 hc0_1
  have HB := Aside0.mk (Below.refl w.heap.size w)
  have H : ((malthouseref18_Right.f k l0_0 l0_1 a0_2).bind fun t262 => (malthouseref18_Of.l0 k a1 t262 ([] : List (S27)) 0 l0_0 l0_1 a0_2)) = some r := h
  clear h
  replace H := Option.bind_eq_some_iff.mp H
  obtain ⟨t262, A30, H⟩ := H
  replace H : (malthouseref18_Of.l0 k a1 t262 ([] : List (S27)) 0 l0_0 l0_1 a0_2) = some r := H
  have A3 := Aside0.mk A30
  clear A30
  have H' := Aside0.mk H
  clear H
  go_enter Tryd.func27, Tryd.ntmps27
  go_wp2_with (first | ((with_reducible refine gate_dst (N := 2) rfl ?_); refine box_event ?hg (N := 2) ?hd (cs := #[.slice A0_0 l0_0.length c0_0, .slice A0_1 l0_1.length c0_1, .int .i64 a0_2]) (t := 25) ?hr ?_; (case hd => rfl); (case hg => rfl); (case hr => first | (go_simp; done) | (go_simp; rfl)); intro gb261 hg w4 hbox hb; have n0_ := Aside0.mk (below_step (by repeat (first | (with_reducible first | exact HB.out | apply below_alloc | apply pw_below_drewN | apply below_drew1) | exact HB.out)) hb); have n1_ := Aside0.mk (hbox); have n2_ := Aside0.mk ((by rw [hg]; exact (below_size (by repeat (first | (with_reducible first | exact HB.out | apply below_alloc | apply pw_below_drewN | apply below_drew1) | exact HB.out))) : w.heap.size ≤ gb261)); have n3_ := Aside0.mk ((by rw [hg]; exact (below_size (by repeat (first | (with_reducible first | exact HB.out | apply below_alloc | apply pw_below_drewN | apply below_drew1) | exact HB.out))) : w.heap.size ≤ gb261)); clear HB; have HB := n0_; have BK261 := n1_; have GW261 := n2_; have GE261 := n3_; clear n0_ n1_ n2_ n3_; clear hb hbox hg; have hcz5_0 : w4.cell? ⟨gb261, 0, none⟩ = some (.slice A0_0 l0_0.length c0_0) := (blk_cell BK261.out 0).trans rfl; have hcz5_1 : w4.cell? ⟨gb261, 1, none⟩ = some (.slice A0_1 l0_1.length c0_1) := (blk_cell BK261.out 1).trans rfl; have hcz5_2 : w4.cell? ⟨gb261, 2, none⟩ = some (.int .i64 a0_2) := (blk_cell BK261.out 2).trans rfl; have hfz5_0 := blk_frozen BK261.out 0; have hfz5_1 := blk_frozen BK261.out 1; have hfz5_2 := blk_frozen BK261.out 2) | ((with_reducible refine gate_callee (f := 28) rfl ?_); refine goesL_ (some 9) rfl rfl Tryd.func28 (by kernel_rfl) rfl #[.agg #[.slice A0_0 l0_0.length c0_0, .slice A0_1 l0_1.length c0_1, .int .i64 a0_2]] rfl (by (try simp only [List.map_toArray, List.map_cons, List.map_nil]); first | done | rfl | (simp only [List.length_drop, List.length_take]; rfl)) ?_; (with_reducible refine (malthouseref18_Right.calls k _ _ l0_0 _ _ l0_1 a0_2 t262 _ ?side1 ?side2 ?side3 ?side4 A3.out).mono ?_); (case side1 => repeat (first | exact (Kd.C_below HR0_0.out HB.out) | (with_reducible refine Kd.C_alloc ?_ _) | (with_reducible refine Kd.C_drewN ?_ _) | (with_reducible refine Kd.C_drew ?_))); (case side2 => exact HC0_0.out); (case side3 => repeat (first | exact (Kd.C_below HR0_1.out HB.out) | (with_reducible refine Kd.C_alloc ?_ _) | (with_reducible refine Kd.C_drewN ?_ _) | (with_reducible refine Kd.C_drew ?_))); (case side4 => exact HC0_1.out); rintro e w6 ⟨rfl, hb⟩; refine ⟨_, rfl, ?_⟩; have n0_ := Aside0.mk (blk_below (g := gb261) (o := .cells #[.slice A0_0 l0_0.length c0_0, .slice A0_1 l0_1.length c0_1, .int .i64 a0_2] 25 (0, 0)) (by (with_reducible repeat (first | refine blk_drewN ?_ _ | refine blk_drew ?_ | refine blk_alloc ?_ _)); exact BK261.out) hb); have n1_ := Aside0.mk (below_step (by repeat (first | (with_reducible first | exact HB.out | apply below_alloc | apply pw_below_drewN | apply below_drew1 | refine below_set ?_ GE261.out) | exact HB.out)) hb); clear BK261; clear HB; have BK261 := n0_; have HB := n1_; clear n0_ n1_; (try clear hb); (try clear hb2); (try clear hk); (try clear hi)))
  go_loopg [6, 7] k (fun kq v6 v7 w' => ∃ (x6_1 : List (S27)) (x7_1 : Int), v7 = .int .i64 x7_1 ∧ Aside0 (malthouseref18_Of.l0 kq a1 t262 x6_1 x7_1 l0_0 l0_1 a0_2 = some r) ∧ Aside0 (kq ≤ k) ∧ Aside0 (Kd.R k27 27 w' w.heap.size (fun _ => True) v6 x6_1) ∧ Aside0 (w'.heap[gb261]? = some (.cells #[(.slice A0_0 l0_0.length c0_0), (.slice A0_1 l0_1.length c0_1), .int .i64 a0_2] 25 (0, 0))) ∧ Aside0 (Below w.heap.size w w'))
  case atStart => exact ⟨(([] : List (S27))), (0), (by first | rfl | (simp; done) | (simp [*]; done)), H', ⟨Nat.le_refl _⟩, ⟨by first | exact Kd.R_nil _ _ _ _ _ | exact Kd.N_nil _ _ _ _ _ | exact Kd.V_nil _ _ _ _ _ | exact Kd.Q_nil _ _ _ _ _ | exact Kd.S_nil _ _ _ _ _⟩, ⟨by (with_reducible repeat (first | refine blk_drewN ?_ _ | refine blk_drew ?_ | refine blk_alloc ?_ _)); exact BK261.out⟩, ⟨by repeat (first | (with_reducible first | exact HB.out | apply below_alloc | apply pw_below_drewN | apply below_drew1 | refine below_set ?_ GE261.out) | exact HB.out)⟩⟩
  case round =>
    clear H'
    try clear c2
    try clear p2
    try clear hcz5_0
    try clear hcz5_1
    try clear hcz5_2
    try clear hfz5_0
    try clear hfz5_1
    try clear hfz5_2
    obtain ⟨x6_1, x7_1, rfl, HA, HK1, HO_6, BK261, HB⟩ := hrel
    cases gk with
    | zero => exact absurd HA.out (by simp [malthouseref18_Of.l0])
    | succ k1 =>
      have H := HA.out
      clear HA
      simp only [malthouseref18_Of.l0] at H
      have HC7 := Aside0.mk H
      clear H
      go_upto_region 4 with (fail)
      go_cut [17] (fun v17 wc => ∃ (kq : Nat) (x17_6 : Bool), v17 = .bool x17_6 ∧ Aside0 (malthouseref18_Of.j1 kq a1 t262 x6_1 x7_1 x17_6 l0_0 l0_1 a0_2 = some r) ∧ Aside0 (kq ≤ k1) ∧ Aside0 (Kd.R k27 27 wc w.heap.size (fun _ => True) u6 x6_1) ∧ Aside0 (wc.heap[gb261]? = some (.cells #[(.slice A0_0 l0_0.length c0_0), (.slice A0_1 l0_1.length c0_1), .int .i64 a0_2] 25 (0, 0))) ∧ Aside0 (Below w.heap.size w wc))
      case first =>
        have H := HC7.out
        clear HC7
        by_cases c8 : x7_1 < (l0_0.length : Int)
        · rw [if_pos c8] at H
          have c8b0 : decide (x7_1 < (l0_0.length : Int)) = true := decide_eq_true c8
          clear c8
          (first | rw [c8b0] | (simp only [i64_w, i32_w]; rw [c8b0]) | skip)
          have H' := Aside0.mk H
          clear H
          have hcz9_0 : wr.cell? ⟨gb261, 0, none⟩ = some (.slice A0_0 l0_0.length c0_0) := (blk_cell BK261.out 0).trans rfl
          have hcz9_1 : wr.cell? ⟨gb261, 1, none⟩ = some (.slice A0_1 l0_1.length c0_1) := (blk_cell BK261.out 1).trans rfl
          have hcz9_2 : wr.cell? ⟨gb261, 2, none⟩ = some (.int .i64 a0_2) := (blk_cell BK261.out 2).trans rfl
          have hfz9_0 := blk_frozen BK261.out 0
          have hfz9_1 := blk_frozen BK261.out 1
          have hfz9_2 := blk_frozen BK261.out 2
          go_wp2
          go_meet
          case rel => exact ⟨_, (t262), (by first | rfl | (simp; done) | (simp [*]; done)), H', ⟨by have := HK1.out; first | omega | exact Nat.le_refl _⟩, ⟨by (with_reducible repeat (first | apply Kd.R_alloc | apply Kd.R_drewN | apply Kd.R_drew)); exact HO_6.out⟩, ⟨by (with_reducible repeat (first | refine blk_drewN ?_ _ | refine blk_drew ?_ | refine blk_alloc ?_ _)); exact BK261.out⟩, ⟨by repeat (first | (with_reducible first | exact HB.out | apply below_alloc | apply pw_below_drewN | apply below_drew1 | refine below_set ?_ GE261.out) | exact HB.out)⟩⟩
        · rw [if_neg c8] at H
          have c8b0 : decide (x7_1 < (l0_0.length : Int)) = false := decide_eq_false c8
          clear c8
          (first | rw [c8b0] | (simp only [i64_w, i32_w]; rw [c8b0]) | skip)
          have H' := Aside0.mk H
          clear H
          have hcz10_0 : wr.cell? ⟨gb261, 0, none⟩ = some (.slice A0_0 l0_0.length c0_0) := (blk_cell BK261.out 0).trans rfl
          have hcz10_1 : wr.cell? ⟨gb261, 1, none⟩ = some (.slice A0_1 l0_1.length c0_1) := (blk_cell BK261.out 1).trans rfl
          have hcz10_2 : wr.cell? ⟨gb261, 2, none⟩ = some (.int .i64 a0_2) := (blk_cell BK261.out 2).trans rfl
          have hfz10_0 := blk_frozen BK261.out 0
          have hfz10_1 := blk_frozen BK261.out 1
          have hfz10_2 := blk_frozen BK261.out 2
          go_wp2
          go_meet
          case rel => exact ⟨_, (false), (by first | rfl | (simp; done) | (simp [*]; done)), H', ⟨by have := HK1.out; first | omega | exact Nat.le_refl _⟩, ⟨by (with_reducible repeat (first | apply Kd.R_alloc | apply Kd.R_drewN | apply Kd.R_drew)); exact HO_6.out⟩, ⟨by (with_reducible repeat (first | refine blk_drewN ?_ _ | refine blk_drew ?_ | refine blk_alloc ?_ _)); exact BK261.out⟩, ⟨by repeat (first | (with_reducible first | exact HB.out | apply below_alloc | apply pw_below_drewN | apply below_drew1 | refine below_set ?_ GE261.out) | exact HB.out)⟩⟩
      case rest =>
        clear HC7
        try clear c2
        try clear p2
        try clear c8
        try clear c8b0
        try clear hcz10_0
        try clear hcz10_1
        try clear hcz10_2
        try clear hcz5_0
        try clear hcz5_1
        try clear hcz5_2
        try clear hcz9_0
        try clear hcz9_1
        try clear hcz9_2
        try clear hfz10_0
        try clear hfz10_1
        try clear hfz10_2
        try clear hfz5_0
        try clear hfz5_1
        try clear hfz5_2
        try clear hfz9_0
        try clear hfz9_1
        try clear hfz9_2
        try clear p2
        obtain ⟨kq, x17_6, rfl, HA, HJ6, HO_6, BK261, HB⟩ := hcut
        cases kq with
        | zero => exact absurd HA.out (by simp [malthouseref18_Of.j1])
        | succ kj6 =>
          have H := HA.out
          clear HA
          simp only [malthouseref18_Of.j1] at H
          by_cases c11 : x17_6 = true
          · subst c11
            have H1 : (if 0 ≤ x7_1 then (if x7_1 < (l0_0.length : Int) then (if ((rd_T27 l0_0 x7_1).f1) = a1 then (if x6_1.length < 2513169434916 then (malthouseref18_Of.l0 kj6 a1 t262 (x6_1 ++ [(⟨(rd_T27 l0_0 x7_1).f0, (rd_T27 l0_0 x7_1).f1, (rd_T27 l0_0 x7_1).f2, (rd_T27 l0_0 x7_1).f3, (rd_T27 l0_0 x7_1).f4, (rd_T27 l0_0 x7_1).f5⟩ : S27)]) (wrap64 (x7_1 + 1)) l0_0 l0_1 a0_2) else (none)) else (malthouseref18_Of.l0 kj6 a1 t262 x6_1 (wrap64 (x7_1 + 1)) l0_0 l0_1 a0_2)) else (none)) else (none)) = some r := by rw [if_pos rfl] at H; exact H
            clear H
            have H := H1
            clear H1
            by_cases c12 : 0 ≤ x7_1
            · rw [if_pos c12] at H
              have c12b0 : decide (0 ≤ x7_1) = true := decide_eq_true c12
              clear c12
              by_cases c13 : x7_1 < (l0_0.length : Int)
              · rw [if_pos c13] at H
                have c13b0 : decide (x7_1 < (l0_0.length : Int)) = true := decide_eq_true c13
                clear c13
                by_cases c14 : ((rd_T27 l0_0 x7_1).f1) = a1
                · rw [if_pos c14] at H
                  have c14b0 : (((rd_T27 l0_0 x7_1).f1) == a1) = true := beq_iff_eq.mpr c14
                  have c14b1 : (((rd_T27 l0_0 x7_1).f1) != a1) = false := bne_eq_false_iff_eq.mpr c14
                  clear c14
                  by_cases c15 : x6_1.length < 2513169434916
                  · rw [if_pos c15] at H
                    have LMc15 := Aside0.mk c15
                    clear c15
                    obtain ⟨y265, hy265⟩ : ∃ y_ : List (S27), y_ = (x6_1 ++ [(⟨(rd_T27 l0_0 x7_1).f0, (rd_T27 l0_0 x7_1).f1, (rd_T27 l0_0 x7_1).f2, (rd_T27 l0_0 x7_1).f3, (rd_T27 l0_0 x7_1).f4, (rd_T27 l0_0 x7_1).f5⟩ : S27)]) := ⟨_, rfl⟩
                    replace H : (malthouseref18_Of.l0 kj6 a1 t262 y265 (wrap64 (x7_1 + 1)) l0_0 l0_1 a0_2) = some r := by first | (rw [hy265]; with_reducible exact H) | (have H2_ := (Option.bind_some _ _).symm.trans H; rw [hy265]; with_reducible exact H2_) | (have H2_ := (Option.bind_some _ _).symm.trans H; with_reducible exact H2_) | with_reducible exact H | (rw [hy265]; exact H) | exact H
                    have Ny265 := Aside0.mk hy265
                    clear hy265
                    have H' := Aside0.mk H
                    clear H
                    have hcz16_0 : wc.cell? ⟨gb261, 0, none⟩ = some (.slice A0_0 l0_0.length c0_0) := (blk_cell BK261.out 0).trans rfl
                    have hcz16_1 : wc.cell? ⟨gb261, 1, none⟩ = some (.slice A0_1 l0_1.length c0_1) := (blk_cell BK261.out 1).trans rfl
                    have hcz16_2 : wc.cell? ⟨gb261, 2, none⟩ = some (.int .i64 a0_2) := (blk_cell BK261.out 2).trans rfl
                    have hfz16_0 := blk_frozen BK261.out 0
                    have hfz16_1 := blk_frozen BK261.out 1
                    have hfz16_2 := blk_frozen BK261.out 2
                    have p263 : 0 ≤ (x7_1 : Int) := of_decide_eq_true (by first | (with_reducible assumption) | assumption)
                    have q263 : x7_1 < (l0_0.length : Int) := of_decide_eq_true (by first | (with_reducible assumption) | assumption)
                    obtain ⟨ad263, e263, hx263_0, hx263_1, hx263_2, hx263_3, hx263_4, hx263_5⟩ := at_T27 HR0_0.out x7_1 p263 q263
                    cases e263
                    replace hx263_0 := (HB.out.cell (World.block_lt_of_cell? w _ hx263_0)).trans hx263_0
                    replace hx263_1 := (HB.out.cell (World.block_lt_of_cell? w _ hx263_1)).trans hx263_1
                    replace hx263_2 := (HB.out.cell (World.block_lt_of_cell? w _ hx263_2)).trans hx263_2
                    replace hx263_3 := (HB.out.cell (World.block_lt_of_cell? w _ hx263_3)).trans hx263_3
                    replace hx263_4 := (HB.out.cell (World.block_lt_of_cell? w _ hx263_4)).trans hx263_4
                    replace hx263_5 := (HB.out.cell (World.block_lt_of_cell? w _ hx263_5)).trans hx263_5
                    replace p263 := eq_true p263
                    replace q263 := eq_true q263
                    have p264 : 0 ≤ (x7_1 : Int) := of_decide_eq_true (by first | (with_reducible assumption) | assumption)
                    have q264 : x7_1 < (l0_0.length : Int) := of_decide_eq_true (by first | (with_reducible assumption) | assumption)
                    obtain ⟨ad264, e264, hx264_0, hx264_1, hx264_2, hx264_3, hx264_4, hx264_5⟩ := at_T27 HR0_0.out x7_1 p264 q264
                    obtain rfl : ad263 = ad264 := (by injection e264)
                    replace hx264_0 := (HB.out.cell (World.block_lt_of_cell? w _ hx264_0)).trans hx264_0
                    replace hx264_1 := (HB.out.cell (World.block_lt_of_cell? w _ hx264_1)).trans hx264_1
                    replace hx264_2 := (HB.out.cell (World.block_lt_of_cell? w _ hx264_2)).trans hx264_2
                    replace hx264_3 := (HB.out.cell (World.block_lt_of_cell? w _ hx264_3)).trans hx264_3
                    replace hx264_4 := (HB.out.cell (World.block_lt_of_cell? w _ hx264_4)).trans hx264_4
                    replace hx264_5 := (HB.out.cell (World.block_lt_of_cell? w _ hx264_5)).trans hx264_5
                    replace p264 := eq_true p264
                    replace q264 := eq_true q264
                    go_wp2_with (first | ((with_reducible refine gate_builtin (b := .append) (xs := #[.tmp 28, .tmp 34]) rfl ?_); at_builtin; refine Kd.R_append k27 (w0 := w) w.heap.size rfl (.tmp 28) (.tmp 34) 22 27 (.agg #[(.int .i64 0), (.int .i64 0), (.int .i64 0), (.string ⟨#[]⟩), (.int .i64 0), (.int .i64 0)]) 56 rfl Tryd.underlying22 info27 rfl (by decide) (by omega) u6 x6_1 (⟨(rd_T27 l0_0 x7_1).f0, (rd_T27 l0_0 x7_1).f1, (rd_T27 l0_0 x7_1).f2, (rd_T27 l0_0 x7_1).f3, (rd_T27 l0_0 x7_1).f4, (rd_T27 l0_0 x7_1).f5⟩ : S27) [.int .i64 ((rd_T27 l0_0 x7_1).f0), .int .i64 ((rd_T27 l0_0 x7_1).f1), .int .i64 ((rd_T27 l0_0 x7_1).f2), .string ((rd_T27 l0_0 x7_1).f3), .int .i64 ((rd_T27 l0_0 x7_1).f4), .int .i64 ((rd_T27 l0_0 x7_1).f5)] (fun _ => True) (fun _ => False) rfl rfl ?aP (fun _ hk => hk.elim) ?aF ?aO ?aB ?aS ?aL ?_; (case aP => exact k27_mkM _ _ _ (⟨(rd_T27 l0_0 x7_1).f0, (rd_T27 l0_0 x7_1).f1, (rd_T27 l0_0 x7_1).f2, (rd_T27 l0_0 x7_1).f3, (rd_T27 l0_0 x7_1).f4, (rd_T27 l0_0 x7_1).f5⟩ : S27)); (case aB => exact (by repeat (first | (with_reducible first | exact HB.out | apply below_alloc | apply pw_below_drewN | apply below_drew1 | refine below_set ?_ GE261.out) | exact HB.out))); (case aF => exact (fun _ _ => trivial)); (case aO => exact (by (with_reducible repeat (first | apply Kd.R_alloc | apply Kd.R_drewN | apply Kd.R_drew)); exact HO_6.out)); (case aS => exact (below_size (by repeat (first | (with_reducible first | exact HB.out | apply below_alloc | apply pw_below_drewN | apply below_drew1 | refine below_set ?_ GE261.out) | exact HB.out)))); (case aL => have := LMc15.out; omega); intro v266 w17 ho hb hg hat; rw [← Ny265.out] at ho; have n0_ := Aside0.mk (blk_grown (g := gb261) (o := .cells #[.slice (some ad263) l0_0.length c0_0, .slice A0_1 l0_1.length c0_1, .int .i64 a0_2] 25 (0, 0)) (by (with_reducible repeat (first | refine blk_drewN ?_ _ | refine blk_drew ?_ | refine blk_alloc ?_ _)); exact BK261.out) hg (Kd.R_ne HO_6.out BK261.out (by decide))); have n1_ := Aside0.mk (hb); have n2_ := Aside0.mk (ho); clear BK261; clear HB; clear HO_6; have BK261 := n0_; have HB := n1_; have HO267 := n2_; clear n0_ n1_ n2_; clear ho hb hg hat))
                    go_roundg kj6
                    case measure => have := HK1.out; have := HJ6.out; omega
                    case rel => exact ⟨(y265), (wrap64 (x7_1 + 1)), (by first | rfl | (simp; done) | (simp [*]; done)), H', ⟨by have := HK1.out; have := HJ6.out; omega⟩, ⟨by (with_reducible repeat (first | apply Kd.R_alloc | apply Kd.R_drewN | apply Kd.R_drew)); exact HO267.out⟩, ⟨by (with_reducible repeat (first | refine blk_drewN ?_ _ | refine blk_drew ?_ | refine blk_alloc ?_ _)); exact BK261.out⟩, ⟨by repeat (first | (with_reducible first | exact HB.out | apply below_alloc | apply pw_below_drewN | apply below_drew1 | refine below_set ?_ GE261.out) | exact HB.out)⟩⟩
                  · rw [if_neg c15] at H
                    exact absurd H (by simp)
                · rw [if_neg c14] at H
                  have c14b0 : (((rd_T27 l0_0 x7_1).f1) == a1) = false := beq_eq_false_iff_ne.mpr c14
                  have c14b1 : (((rd_T27 l0_0 x7_1).f1) != a1) = true := bne_iff_ne.mpr c14
                  have H' := Aside0.mk H
                  clear H
                  have hcz18_0 : wc.cell? ⟨gb261, 0, none⟩ = some (.slice A0_0 l0_0.length c0_0) := (blk_cell BK261.out 0).trans rfl
                  have hcz18_1 : wc.cell? ⟨gb261, 1, none⟩ = some (.slice A0_1 l0_1.length c0_1) := (blk_cell BK261.out 1).trans rfl
                  have hcz18_2 : wc.cell? ⟨gb261, 2, none⟩ = some (.int .i64 a0_2) := (blk_cell BK261.out 2).trans rfl
                  have hfz18_0 := blk_frozen BK261.out 0
                  have hfz18_1 := blk_frozen BK261.out 1
                  have hfz18_2 := blk_frozen BK261.out 2
                  have p263 : 0 ≤ (x7_1 : Int) := of_decide_eq_true (by first | (with_reducible assumption) | assumption)
                  have q263 : x7_1 < (l0_0.length : Int) := of_decide_eq_true (by first | (with_reducible assumption) | assumption)
                  obtain ⟨ad263, e263, hx263_0, hx263_1, hx263_2, hx263_3, hx263_4, hx263_5⟩ := at_T27 HR0_0.out x7_1 p263 q263
                  cases e263
                  replace hx263_0 := (HB.out.cell (World.block_lt_of_cell? w _ hx263_0)).trans hx263_0
                  replace hx263_1 := (HB.out.cell (World.block_lt_of_cell? w _ hx263_1)).trans hx263_1
                  replace hx263_2 := (HB.out.cell (World.block_lt_of_cell? w _ hx263_2)).trans hx263_2
                  replace hx263_3 := (HB.out.cell (World.block_lt_of_cell? w _ hx263_3)).trans hx263_3
                  replace hx263_4 := (HB.out.cell (World.block_lt_of_cell? w _ hx263_4)).trans hx263_4
                  replace hx263_5 := (HB.out.cell (World.block_lt_of_cell? w _ hx263_5)).trans hx263_5
                  replace p263 := eq_true p263
                  replace q263 := eq_true q263
                  go_wp2
                  go_roundg kj6
                  case measure => have := HK1.out; have := HJ6.out; omega
                  case rel => exact ⟨(x6_1), (wrap64 (x7_1 + 1)), (by first | rfl | (simp; done) | (simp [*]; done)), H', ⟨by have := HK1.out; have := HJ6.out; omega⟩, ⟨by (with_reducible repeat (first | apply Kd.R_alloc | apply Kd.R_drewN | apply Kd.R_drew)); exact HO_6.out⟩, ⟨by (with_reducible repeat (first | refine blk_drewN ?_ _ | refine blk_drew ?_ | refine blk_alloc ?_ _)); exact BK261.out⟩, ⟨by repeat (first | (with_reducible first | exact HB.out | apply below_alloc | apply pw_below_drewN | apply below_drew1 | refine below_set ?_ GE261.out) | exact HB.out)⟩⟩
              · rw [if_neg c13] at H
                exact absurd H (by simp)
            · rw [if_neg c12] at H
              exact absurd H (by simp)
          · replace c11 := Bool.eq_false_iff.mpr c11
            subst c11
            have H1 : (some x6_1) = some r := by rw [if_neg (show ¬ (false = true) by decide)] at H; exact H
            clear H
            have H := H1
            clear H1
            obtain rfl := Option.some.inj H
            go_wp2
            go_ret
            exact ⟨_, by first | rfl | (simp [errW_none, errW_some] <;> rfl) | (simp [*, errW_none, errW_some] <;> rfl), by (with_reducible repeat (first | apply Kd.R_alloc | apply Kd.R_drewN | apply Kd.R_drew)); exact HO_6.out, by repeat (first | (with_reducible first | exact HB.out | apply below_alloc | apply pw_below_drewN | apply below_drew1 | refine below_set ?_ GE261.out) | exact HB.out)⟩
def malthouseref18_Used.f (k : Nat) (l0_0 : List (S27)) (l0_1 : List (S35)) (a0_2 : Int) : Option (Int) := (malthouseref18_Right.f k l0_0 l0_1 a0_2).bind fun t269 => (if t269 = true then ((malthouseref18_sum.f k l0_0 l0_1 a0_2).bind fun t270 => (some t270)) else (some 0))
set_option maxHeartbeats 8000000 in
set_option maxRecDepth 100000 in
theorem malthouseref18_Used.calls (k : Nat) (A0_0 : Option Addr) (c0_0 : Nat) (l0_0 : List (S27)) (A0_1 : Option Addr) (c0_1 : Nat) (l0_1 : List (S35)) (a0_2 : Int) (r : Int) (w : World) (hr0_0 : Kd.C k27 w A0_0 l0_0.length l0_0) (hc0_0 : l0_0.length ≤ c0_0) (hr0_1 : Kd.C k35 w A0_1 l0_1.length l0_1) (hc0_1 : l0_1.length ≤ c0_1) (h : malthouseref18_Used.f k l0_0 l0_1 a0_2 = some r) :
    Calls Tryd.prog 29 #[.agg #[.slice A0_0 l0_0.length c0_0, .slice A0_1 l0_1.length c0_1, .int .i64 a0_2]] w fun e w' => e = .returned (.int .i64 r) ∧ Below w.heap.size w w' := by
  have hu25 := Tryd.underlying25
  have HR0_0 := Aside0.mk hr0_0
  have HC0_0 := Aside0.mk hc0_0
  clear hr0_0 hc0_0
  have HR0_1 := Aside0.mk hr0_1
  have HC0_1 := Aside0.mk hc0_1
  clear hr0_1 hc0_1
  have HB := Aside0.mk (Below.refl w.heap.size w)
  have H : ((malthouseref18_Right.f k l0_0 l0_1 a0_2).bind fun t269 => (if t269 = true then ((malthouseref18_sum.f k l0_0 l0_1 a0_2).bind fun t270 => (some t270)) else (some 0))) = some r := h
  clear h
  replace H := Option.bind_eq_some_iff.mp H
  obtain ⟨t269, A20, H⟩ := H
  replace H : (if t269 = true then ((malthouseref18_sum.f k l0_0 l0_1 a0_2).bind fun t270 => (some t270)) else (some 0)) = some r := H
  have A2 := Aside0.mk A20
  clear A20
  by_cases c3 : t269 = true
  · subst c3
    have H1 : ((malthouseref18_sum.f k l0_0 l0_1 a0_2).bind fun t270 => (some t270)) = some r := by rw [if_pos rfl] at H; exact H
    clear H
    have H := H1
    clear H1
    replace H := Option.bind_eq_some_iff.mp H
    obtain ⟨t270, A40, H⟩ := H
    replace H : (some t270) = some r := H
    have A4 := Aside0.mk A40
    clear A40
    obtain rfl := Option.some.inj H
    go_enter Tryd.func29, Tryd.ntmps29
    go_wp2_with (first | ((with_reducible refine gate_dst (N := 1) rfl ?_); refine box_event ?hg (N := 1) ?hd (cs := #[.slice A0_0 l0_0.length c0_0, .slice A0_1 l0_1.length c0_1, .int .i64 a0_2]) (t := 25) ?hr ?_; (case hd => rfl); (case hg => rfl); (case hr => first | (go_simp; done) | (go_simp; rfl)); intro gb268 hg w5 hbox hb; have n0_ := Aside0.mk (below_step (by repeat (first | (with_reducible first | exact HB.out | apply below_alloc | apply pw_below_drewN | apply below_drew1) | exact HB.out)) hb); have n1_ := Aside0.mk (hbox); have n2_ := Aside0.mk ((by rw [hg]; exact (below_size (by repeat (first | (with_reducible first | exact HB.out | apply below_alloc | apply pw_below_drewN | apply below_drew1) | exact HB.out))) : w.heap.size ≤ gb268)); have n3_ := Aside0.mk ((by rw [hg]; exact (below_size (by repeat (first | (with_reducible first | exact HB.out | apply below_alloc | apply pw_below_drewN | apply below_drew1) | exact HB.out))) : w.heap.size ≤ gb268)); clear HB; have HB := n0_; have BK268 := n1_; have GW268 := n2_; have GE268 := n3_; clear n0_ n1_ n2_ n3_; clear hb hbox hg; have hcz6_0 : w5.cell? ⟨gb268, 0, none⟩ = some (.slice A0_0 l0_0.length c0_0) := (blk_cell BK268.out 0).trans rfl; have hcz6_1 : w5.cell? ⟨gb268, 1, none⟩ = some (.slice A0_1 l0_1.length c0_1) := (blk_cell BK268.out 1).trans rfl; have hcz6_2 : w5.cell? ⟨gb268, 2, none⟩ = some (.int .i64 a0_2) := (blk_cell BK268.out 2).trans rfl; have hfz6_0 := blk_frozen BK268.out 0; have hfz6_1 := blk_frozen BK268.out 1; have hfz6_2 := blk_frozen BK268.out 2) | ((with_reducible refine gate_callee (f := 28) rfl ?_); refine goesL_ (some 5) rfl rfl Tryd.func28 (by kernel_rfl) rfl #[.agg #[.slice A0_0 l0_0.length c0_0, .slice A0_1 l0_1.length c0_1, .int .i64 a0_2]] rfl (by (try simp only [List.map_toArray, List.map_cons, List.map_nil]); first | done | rfl | (simp only [List.length_drop, List.length_take]; rfl)) ?_; (with_reducible refine (malthouseref18_Right.calls k _ _ l0_0 _ _ l0_1 a0_2 true _ ?side1 ?side2 ?side3 ?side4 A2.out).mono ?_); (case side1 => repeat (first | exact (Kd.C_below HR0_0.out HB.out) | (with_reducible refine Kd.C_alloc ?_ _) | (with_reducible refine Kd.C_drewN ?_ _) | (with_reducible refine Kd.C_drew ?_))); (case side2 => exact HC0_0.out); (case side3 => repeat (first | exact (Kd.C_below HR0_1.out HB.out) | (with_reducible refine Kd.C_alloc ?_ _) | (with_reducible refine Kd.C_drewN ?_ _) | (with_reducible refine Kd.C_drew ?_))); (case side4 => exact HC0_1.out); rintro e w7 ⟨rfl, hb⟩; refine ⟨_, rfl, ?_⟩; have n0_ := Aside0.mk (blk_below (g := gb268) (o := .cells #[.slice A0_0 l0_0.length c0_0, .slice A0_1 l0_1.length c0_1, .int .i64 a0_2] 25 (0, 0)) (by (with_reducible repeat (first | refine blk_drewN ?_ _ | refine blk_drew ?_ | refine blk_alloc ?_ _)); exact BK268.out) hb); have n1_ := Aside0.mk (below_step (by repeat (first | (with_reducible first | exact HB.out | apply below_alloc | apply pw_below_drewN | apply below_drew1 | refine below_set ?_ GE268.out) | exact HB.out)) hb); clear BK268; clear HB; have BK268 := n0_; have HB := n1_; clear n0_ n1_; (try clear hb); (try clear hb2); (try clear hk); (try clear hi); have hcz8_0 : w7.cell? ⟨gb268, 0, none⟩ = some (.slice A0_0 l0_0.length c0_0) := (blk_cell BK268.out 0).trans rfl; have hcz8_1 : w7.cell? ⟨gb268, 1, none⟩ = some (.slice A0_1 l0_1.length c0_1) := (blk_cell BK268.out 1).trans rfl; have hcz8_2 : w7.cell? ⟨gb268, 2, none⟩ = some (.int .i64 a0_2) := (blk_cell BK268.out 2).trans rfl; have hfz8_0 := blk_frozen BK268.out 0; have hfz8_1 := blk_frozen BK268.out 1; have hfz8_2 := blk_frozen BK268.out 2) | ((with_reducible refine gate_callee (f := 41) rfl ?_); refine goesL_ (some 9) rfl rfl Tryd.func41 (by kernel_rfl) rfl #[.agg #[.slice A0_0 l0_0.length c0_0, .slice A0_1 l0_1.length c0_1, .int .i64 a0_2]] rfl (by (try simp only [List.map_toArray, List.map_cons, List.map_nil]); first | done | rfl | (simp only [List.length_drop, List.length_take]; rfl)) ?_; (with_reducible refine (malthouseref18_sum.calls k _ _ l0_0 _ _ l0_1 a0_2 t270 _ ?side1 ?side2 ?side3 ?side4 A4.out).mono ?_); (case side1 => repeat (first | exact (Kd.C_below HR0_0.out HB.out) | (with_reducible refine Kd.C_alloc ?_ _) | (with_reducible refine Kd.C_drewN ?_ _) | (with_reducible refine Kd.C_drew ?_))); (case side2 => exact HC0_0.out); (case side3 => repeat (first | exact (Kd.C_below HR0_1.out HB.out) | (with_reducible refine Kd.C_alloc ?_ _) | (with_reducible refine Kd.C_drewN ?_ _) | (with_reducible refine Kd.C_drew ?_))); (case side4 => exact HC0_1.out); rintro e w9 ⟨rfl, hb⟩; refine ⟨_, rfl, ?_⟩; have n0_ := Aside0.mk (blk_below (g := gb268) (o := .cells #[.slice A0_0 l0_0.length c0_0, .slice A0_1 l0_1.length c0_1, .int .i64 a0_2] 25 (0, 0)) (by (with_reducible repeat (first | refine blk_drewN ?_ _ | refine blk_drew ?_ | refine blk_alloc ?_ _)); exact BK268.out) hb); have n1_ := Aside0.mk (below_step (by repeat (first | (with_reducible first | exact HB.out | apply below_alloc | apply pw_below_drewN | apply below_drew1 | refine below_set ?_ GE268.out) | exact HB.out)) hb); clear BK268; clear HB; have BK268 := n0_; have HB := n1_; clear n0_ n1_; (try clear hb); (try clear hb2); (try clear hk); (try clear hi)))
    go_ret
    exact ⟨by first | rfl | (simp [errW_none, errW_some] <;> rfl) | (simp [*, errW_none, errW_some] <;> rfl), by repeat (first | (with_reducible first | exact HB.out | apply below_alloc | apply pw_below_drewN | apply below_drew1 | refine below_set ?_ GE268.out) | exact HB.out)⟩
  · replace c3 := Bool.eq_false_iff.mpr c3
    subst c3
    have H1 : (some 0) = some r := by rw [if_neg (show ¬ (false = true) by decide)] at H; exact H
    clear H
    have H := H1
    clear H1
    obtain rfl := Option.some.inj H
    go_enter Tryd.func29, Tryd.ntmps29
    go_wp2_with (first | ((with_reducible refine gate_dst (N := 1) rfl ?_); refine box_event ?hg (N := 1) ?hd (cs := #[.slice A0_0 l0_0.length c0_0, .slice A0_1 l0_1.length c0_1, .int .i64 a0_2]) (t := 25) ?hr ?_; (case hd => rfl); (case hg => rfl); (case hr => first | (go_simp; done) | (go_simp; rfl)); intro gb268 hg w10 hbox hb; have n0_ := Aside0.mk (below_step (by repeat (first | (with_reducible first | exact HB.out | apply below_alloc | apply pw_below_drewN | apply below_drew1) | exact HB.out)) hb); have n1_ := Aside0.mk (hbox); have n2_ := Aside0.mk ((by rw [hg]; exact (below_size (by repeat (first | (with_reducible first | exact HB.out | apply below_alloc | apply pw_below_drewN | apply below_drew1) | exact HB.out))) : w.heap.size ≤ gb268)); have n3_ := Aside0.mk ((by rw [hg]; exact (below_size (by repeat (first | (with_reducible first | exact HB.out | apply below_alloc | apply pw_below_drewN | apply below_drew1) | exact HB.out))) : w.heap.size ≤ gb268)); clear HB; have HB := n0_; have BK268 := n1_; have GW268 := n2_; have GE268 := n3_; clear n0_ n1_ n2_ n3_; clear hb hbox hg; have hcz11_0 : w10.cell? ⟨gb268, 0, none⟩ = some (.slice A0_0 l0_0.length c0_0) := (blk_cell BK268.out 0).trans rfl; have hcz11_1 : w10.cell? ⟨gb268, 1, none⟩ = some (.slice A0_1 l0_1.length c0_1) := (blk_cell BK268.out 1).trans rfl; have hcz11_2 : w10.cell? ⟨gb268, 2, none⟩ = some (.int .i64 a0_2) := (blk_cell BK268.out 2).trans rfl; have hfz11_0 := blk_frozen BK268.out 0; have hfz11_1 := blk_frozen BK268.out 1; have hfz11_2 := blk_frozen BK268.out 2) | ((with_reducible refine gate_callee (f := 28) rfl ?_); refine goesL_ (some 5) rfl rfl Tryd.func28 (by kernel_rfl) rfl #[.agg #[.slice A0_0 l0_0.length c0_0, .slice A0_1 l0_1.length c0_1, .int .i64 a0_2]] rfl (by (try simp only [List.map_toArray, List.map_cons, List.map_nil]); first | done | rfl | (simp only [List.length_drop, List.length_take]; rfl)) ?_; (with_reducible refine (malthouseref18_Right.calls k _ _ l0_0 _ _ l0_1 a0_2 false _ ?side1 ?side2 ?side3 ?side4 A2.out).mono ?_); (case side1 => repeat (first | exact (Kd.C_below HR0_0.out HB.out) | (with_reducible refine Kd.C_alloc ?_ _) | (with_reducible refine Kd.C_drewN ?_ _) | (with_reducible refine Kd.C_drew ?_))); (case side2 => exact HC0_0.out); (case side3 => repeat (first | exact (Kd.C_below HR0_1.out HB.out) | (with_reducible refine Kd.C_alloc ?_ _) | (with_reducible refine Kd.C_drewN ?_ _) | (with_reducible refine Kd.C_drew ?_))); (case side4 => exact HC0_1.out); rintro e w12 ⟨rfl, hb⟩; refine ⟨_, rfl, ?_⟩; have n0_ := Aside0.mk (blk_below (g := gb268) (o := .cells #[.slice A0_0 l0_0.length c0_0, .slice A0_1 l0_1.length c0_1, .int .i64 a0_2] 25 (0, 0)) (by (with_reducible repeat (first | refine blk_drewN ?_ _ | refine blk_drew ?_ | refine blk_alloc ?_ _)); exact BK268.out) hb); have n1_ := Aside0.mk (below_step (by repeat (first | (with_reducible first | exact HB.out | apply below_alloc | apply pw_below_drewN | apply below_drew1 | refine below_set ?_ GE268.out) | exact HB.out)) hb); clear BK268; clear HB; have BK268 := n0_; have HB := n1_; clear n0_ n1_; (try clear hb); (try clear hb2); (try clear hk); (try clear hi)))
    go_ret
    exact ⟨by first | rfl | (simp [errW_none, errW_some] <;> rfl) | (simp [*, errW_none, errW_some] <;> rfl), by repeat (first | (with_reducible first | exact HB.out | apply below_alloc | apply pw_below_drewN | apply below_drew1 | refine below_set ?_ GE268.out) | exact HB.out)⟩
end Go.Proofs.YtghpmpjoedbpcaaDoor.Print
/-! ### JRef -/
namespace Go.Proofs.YtghpmpjoedbpcaaDoor.Print
open Go.RowKit Go.Proofs.YtghpmpjoedbpcaaDoorW.PrintWords Go.Proofs.YtghpmpjoedbpcaaDoorW.PrintLast Go.Proofs.YtghpmpjoedbpcaaDoorW.PrintMore
set_option linter.unusedSimpArgs false
set_option linter.unusedVariables false
theorem ref_entry_is (e : S27) (hs : e.f3.size ≤ 200) (k : Nat) (hk : 220 ≤ k) : malthouseref18_entry.f k e.f0 e.f1 e.f2 e.f3 e.f4 e.f5 = some (!strangeB e) := by
  unfold malthouseref18_entry.f
  rw [ref_quote_is e.f3 (by omega) k (by omega)]
  show (if (quoteZ e.f3).2 = true then _ else _) = _
  unfold strangeB wi
  cases (quoteZ e.f3).2
  · rfl
  · rw [if_pos rfl]
    by_cases h1 : 0 ≤ e.f0
    · rw [if_pos (by omega)]
      by_cases h2 : e.f0 ≤ 1099511627776
      · rw [if_pos h2]
        by_cases h3 : 0 ≤ e.f1
        · rw [if_pos (by omega)]
          by_cases h4 : e.f1 ≤ 1099511627776
          · rw [if_pos h4]
            by_cases h5 : 0 ≤ e.f2
            · rw [if_pos (by omega)]
              have h5' : ¬ e.f2 < 0 := by omega
              by_cases h6 : e.f2 ≤ 5
              · have : ¬ 5 < e.f2 := by omega
                simp [h1, h2, h3, h4, h5', h6, this]
              · have : 5 < e.f2 := by omega
                simp [h1, h2, h3, h4, h5', h6, this]
            · have : e.f2 < 0 := by omega
              rw [if_neg (by omega)]; simp [this]
          · rw [if_neg h4]; simp [h4]
        · rw [if_neg (by omega)]; simp [h3]
      · rw [if_neg h2]; simp [h2]
    · rw [if_neg (by omega)]; simp [h1]
theorem ref_sum_loop (l : List S27) (q : List S35) (g : Int) (hq : q.length ≤ 1000000) (hl : leftOk q) : ∀ (f i k : Nat) (n : Int), q.length = i + f → 0 ≤ n → n ≤ 1000000 → f < k → malthouseref18_sum.l0 k n (i : Int) l q g = some (mn (n + sumLeft (q.drop i)) 121) := by
  intro f
  induction f with
  | zero =>
    intro i k n h1 h2 h3 hk
    obtain ⟨k, rfl⟩ : ∃ m, k = m + 1 := ⟨k - 1, by omega⟩
    rw [malthouseref18_sum.l0, if_neg (by omega), List.drop_eq_nil_of_le (by omega)]
    show (if n > 120 then some 121 else some n) = some (mn (n + 0) 121)
    unfold mn
    split <;> split <;> (first | rfl | (exfalso; omega) | (congr 1; omega))
  | succ f ih =>
    intro i k n h1 h2 h3 hk
    obtain ⟨k, rfl⟩ : ∃ m, k = m + 1 := ⟨k - 1, by omega⟩
    have hi : i < q.length := by omega
    have hx := hl _ (List.getElem_mem hi)
    have hs := sumLeft_ge (q.drop (i + 1)) (fun y hy => hl y (List.mem_of_mem_drop hy))
    have e : sumLeft (q.drop i) = q[i].f1 + sumLeft (q.drop (i + 1)) := by rw [List.drop_eq_getElem_cons hi]; rfl
    rw [malthouseref18_sum.l0, if_pos (by omega)]
    by_cases hn : n ≤ 120
    · rw [if_pos hn, if_pos (by omega), rd_q q i hi, wrapS i (by omega), show wrap64 (n + q[i].f1) = n + q[i].f1 by unfold wrap64; omega, ih (i + 1) k _ (by omega) (by omega) (by omega) (by omega), e]
      congr 2
      omega
    · rw [if_neg hn, if_pos (by omega), e]
      unfold mn
      split <;> (first | rfl | (exfalso; omega) | (congr 1; omega))
theorem ref_sum_is (l : List S27) (q : List S35) (g : Int) (k : Nat) (hl : l.length ≤ 1000) (hq : q.length ≤ 1000) (hlo : leftOk q) (hk : q.length < k) : malthouseref18_sum.f k l q g = some (usedZ l q) := by
  have := ref_sum_loop l q g (by omega) hlo q.length 0 k l.length (by omega) (by omega) (by omega) hk
  rw [show usedZ l q = mn (tot ⟨l, q, g⟩) 121 from usedZ_tot ⟨l, q, g⟩ hlo]
  exact this
def refQ : Int → List S35 → Bool
  | _, [] => true
  | last, x :: q => if x.f0 ≤ last then false else if x.f0 > 1099511627776 then false else if x.f1 < 0 then false else if x.f1 > 40 then false else if x.f2 < 0 then false else if x.f2 > 1099511627776 then false else refQ x.f0 q
theorem refQ_eq (last : Int) (x : S35) (q : List S35) : refQ last (x :: q) = if x.f0 ≤ last then false else if x.f0 > 1099511627776 then false else if x.f1 < 0 then false else if x.f1 > 40 then false else if x.f2 < 0 then false else if x.f2 > 1099511627776 then false else refQ x.f0 q := rfl
theorem refQ_cons (last : Int) (x : S35) (q : List S35) (h0 : 0 ≤ last) : refQ last (x :: q) = (decide (last < x.f0) && !oddB x && refQ x.f0 q) := by
  by_cases ho : oddB x = false
  · have hp := odd_parts ho
    rw [ho, refQ_eq]
    by_cases h1 : last < x.f0
    · rw [if_neg (by omega), if_neg (by omega), if_neg (by omega), if_neg (by omega), if_neg (by omega), if_neg (by omega), decide_eq_true h1]
      simp
    · rw [if_pos (by omega), decide_eq_false h1]
      simp
  · have hn : oddB x = true := by simpa using ho
    rw [hn]
    have : refQ last (x :: q) = false := by
      cases hr : refQ last (x :: q)
      · rfl
      · exfalso
        rw [refQ_eq] at hr
        split at hr; · cases hr
        split at hr; · cases hr
        split at hr; · cases hr
        split at hr; · cases hr
        split at hr; · cases hr
        split at hr; · cases hr
        exact ho (odd_mk (by omega))
    rw [this]
    simp
theorem refQ_is : ∀ (q : List S35) (last : Int), 0 ≤ last → refQ last q = (!q.any oddB && risingB q && (match q with | [] => true | x :: _ => decide (last < x.f0)))
  | [], last, _ => by simp [refQ, risingB]
  | x :: q, last, h0 => by
    rw [refQ_cons last x q h0]
    by_cases ho : oddB x = false
    · have hp := odd_parts ho
      rw [refQ_is q x.f0 (by omega), ho, List.any_cons, ho]
      cases q with
      | nil => simp [risingB]
      | cons y q =>
        show (decide (last < x.f0) && !false && (!(y :: q).any oddB && risingB (y :: q) && decide (x.f0 < y.f0))) = (!(false || (y :: q).any oddB) && (decide (x.f0 < y.f0) && risingB (y :: q)) && decide (last < x.f0))
        cases decide (last < x.f0) <;> cases decide (x.f0 < y.f0) <;> cases risingB (y :: q) <;> cases (y :: q).any oddB <;> rfl
    · have hn : oddB x = true := by simpa using ho
      rw [hn, List.any_cons, hn]
      simp
theorem ref_right_l1 (l : List S27) (q : List S35) (g : Int) (hl : l.length ≤ 1000) (hq : q.length ≤ 1000) (hall : refQ 0 q = true → leftOk q) : ∀ (f i k : Nat) (last : Int), q.length = i + f → f + 1001 < k → (refQ last (q.drop i) = refQ 0 q) →
    malthouseref18_Right.l1 k last (i : Int) l q g = some (refQ 0 q && wi g 0 && decide (usedZ l q ≤ 120)) := by
  intro f
  induction f with
  | zero =>
    intro i k last h1 hk hr
    obtain ⟨k, rfl⟩ : ∃ m, k = m + 1 := ⟨k - 1, by omega⟩
    rw [List.drop_eq_nil_of_le (by omega)] at hr
    have ht : refQ 0 q = true := hr.symm
    rw [malthouseref18_Right.l1, if_neg (by omega), ht]
    unfold wi
    by_cases h2 : 0 ≤ g
    · rw [if_pos (by omega)]
      by_cases h3 : g ≤ 1099511627776
      · rw [if_pos h3, ref_sum_is l q g k hl hq (hall ht) (by omega)]
        simp [h2, h3]
      · rw [if_neg h3]; simp [h3]
    · rw [if_neg (by omega)]; simp [h2]
  | succ f ih =>
    intro i k last h1 hk hr
    obtain ⟨k, rfl⟩ : ∃ m, k = m + 1 := ⟨k - 1, by omega⟩
    have hi : i < q.length := by omega
    rw [List.drop_eq_getElem_cons hi, refQ_eq] at hr
    rw [malthouseref18_Right.l1, if_pos (by omega), if_pos (by omega), rd_q q i hi]
    by_cases a1 : q[i].f0 ≤ last
    · rw [if_pos a1] at hr ⊢; rw [← hr]; rfl
    rw [if_neg a1] at hr ⊢
    by_cases a2 : q[i].f0 > 1099511627776
    · rw [if_pos a2] at hr ⊢; rw [← hr]; rfl
    rw [if_neg a2] at hr ⊢
    by_cases a3 : q[i].f1 < 0
    · rw [if_pos a3] at hr ⊢; rw [← hr]; rfl
    rw [if_neg a3] at hr ⊢
    by_cases a4 : q[i].f1 > 40
    · rw [if_pos a4] at hr ⊢; rw [← hr]; rfl
    rw [if_neg a4] at hr ⊢
    by_cases a5 : q[i].f2 < 0
    · rw [if_pos a5] at hr ⊢; rw [← hr]; rfl
    rw [if_neg a5] at hr ⊢
    by_cases a6 : q[i].f2 > 1099511627776
    · rw [if_pos a6] at hr ⊢; rw [← hr]; rfl
    rw [if_neg a6] at hr ⊢
    rw [wrapS i (by omega)]
    exact ih (i + 1) k _ (by omega) (by omega) hr
theorem ref_right_l0 (l : List S27) (q : List S35) (g : Int) (hl : l.length ≤ 1000) (hq : q.length ≤ 1000) (hs : ∀ e ∈ l, e.f3.size ≤ 200) (hall : refQ 0 q = true → leftOk q) : ∀ (f i k : Nat), l.length = i + f → f + 3000 < k →
    malthouseref18_Right.l0 k (i : Int) l q g = some (!(l.drop i).any strangeB && (refQ 0 q && wi g 0 && decide (usedZ l q ≤ 120))) := by
  intro f
  induction f with
  | zero =>
    intro i k h1 hk
    obtain ⟨k, rfl⟩ : ∃ m, k = m + 1 := ⟨k - 1, by omega⟩
    rw [malthouseref18_Right.l0, if_neg (by omega), List.drop_eq_nil_of_le (by omega)]
    have := ref_right_l1 l q g hl hq hall q.length 0 k 0 (by omega) (by omega) (by rw [List.drop_zero])
    simpa using this
  | succ f ih =>
    intro i k h1 hk
    obtain ⟨k, rfl⟩ : ∃ m, k = m + 1 := ⟨k - 1, by omega⟩
    have hi : i < l.length := by omega
    rw [malthouseref18_Right.l0, if_pos (by omega), if_pos (by omega), rd_e l i hi, ref_entry_is l[i] (hs _ (List.getElem_mem hi)) k (by omega), List.drop_eq_getElem_cons hi, List.any_cons]
    show (if (!strangeB l[i]) = true then _ else _) = _
    cases hst : strangeB l[i]
    · rw [if_pos (by rfl), wrapS i (by omega), ih (i + 1) k (by omega) (by omega)]
      simp
    · rw [if_neg (by simp)]
      simp
theorem refQ_left {q : List S35} (h : refQ 0 q = true) : leftOk q := by
  rw [refQ_is q 0 (by omega)] at h
  simp only [Bool.and_eq_true, Bool.not_eq_true'] at h
  exact leftOk_of h.1.1
theorem refQ_zero (q : List S35) : refQ 0 q = (!q.any oddB && risingB q) := by
  rw [refQ_is q 0 (by omega)]
  cases q with
  | nil => simp
  | cons x q =>
    cases ho : oddB x
    · have := odd_parts ho
      rw [show (match x :: q with | [] => true | x :: _ => decide ((0 : Int) < x.f0)) = true from decide_eq_true (by omega), Bool.and_true]
    · rw [List.any_cons, ho]
      simp
theorem ref_right_is (l : List S27) (q : List S35) (g : Int) (k : Nat) (hl : l.length ≤ 1000) (hq : q.length ≤ 1000) (hs : ∀ e ∈ l, e.f3.size ≤ 200) (hk : 5000 ≤ k) : malthouseref18_Right.f k l q g = some (rightJ l q g) := by
  have := ref_right_l0 l q g hl hq hs refQ_left l.length 0 k (by omega) (by omega)
  unfold malthouseref18_Right.f
  rw [show ((0 : Nat) : Int) = 0 from rfl] at this
  rw [this, List.drop_zero, refQ_zero]
  unfold rightJ
  cases l.any strangeB <;> cases q.any oddB <;> cases wi g 0 <;> cases risingB q <;> simp
theorem ref_used_is (l : List S27) (q : List S35) (g : Int) (k : Nat) (hl : l.length ≤ 1000) (hq : q.length ≤ 1000) (hs : ∀ e ∈ l, e.f3.size ≤ 200) (hk : 5000 ≤ k) : malthouseref18_Used.f k l q g = some (usedJ l q g) := by
  unfold malthouseref18_Used.f usedJ
  rw [ref_right_is l q g k hl hq hs hk]
  show (if rightJ l q g = true then _ else _) = _
  split
  · rename_i h
    rw [ref_sum_is l q g k hl hq (rightJ_left h) (by omega)]
    rfl
  · rfl
theorem ref_place_loop (l : List S27) (q : List S35) (g b : Int) (hq : q.length ≤ 1000000) (hr : (q.map (·.f0)).Pairwise (· < ·)) : ∀ (f i k : Nat), q.length = i + f → f < k → (∀ j (hj : j < i) (hj2 : j < q.length), q[j].f0 ≠ b) → malthouseref18_Place.l0 k b (i : Int) l q g = some (if placeB q b = true then (placeI q b : Int) else -1) := by
  intro f
  induction f with
  | zero =>
    intro i k h1 hk hn
    obtain ⟨k, rfl⟩ : ∃ m, k = m + 1 := ⟨k - 1, by omega⟩
    rw [malthouseref18_Place.l0, if_neg (by omega)]
    cases hp : placeB q b
    · rfl
    · have hlt := placeB_lt hp
      have := placeB_at hp
      rw [qAt_get hlt] at this
      exact absurd this (hn _ (by omega) hlt)
  | succ f ih =>
    intro i k h1 hk hn
    obtain ⟨k, rfl⟩ : ∃ m, k = m + 1 := ⟨k - 1, by omega⟩
    have hi : i < q.length := by omega
    rw [malthouseref18_Place.l0, if_pos (by omega), if_pos (by omega), rd_q q i hi]
    by_cases hb : q[i].f0 = b
    · rw [if_pos hb]
      obtain ⟨p1, p2⟩ := place_of_mem q q[i] hr (List.getElem_mem hi)
      rw [hb] at p1 p2
      rw [if_pos p1]
      have hlt := placeB_lt p1
      rw [qAt_get hlt] at p2
      have he : placeI q b = i := by
        rcases Nat.lt_trichotomy (placeI q b) i with h | h | h
        · exact absurd (by rw [p2]; exact hb) (hn _ h hlt)
        · exact h
        · have := List.pairwise_iff_getElem.1 hr i (placeI q b) (by simpa using hi) (by simpa using hlt) h
          simp only [List.getElem_map] at this
          rw [p2] at this
          omega
      rw [he]
    · rw [if_neg hb, wrapS i (by omega)]
      refine ih (i + 1) k (by omega) (by omega) (fun j hj hj2 => ?_)
      rcases Nat.lt_or_ge j i with h | h
      · exact hn j h hj2
      · obtain rfl : j = i := by omega
        exact hb
theorem ref_place_is (l : List S27) (q : List S35) (g b : Int) (k : Nat) (hq : q.length ≤ 1000) (hr : (q.map (·.f0)).Pairwise (· < ·)) (hk : 1001 ≤ k) : malthouseref18_Place.f k l q g b = some (if placeB q b = true then (placeI q b : Int) else -1) :=
  ref_place_loop l q g b (by omega) hr q.length 0 k (by omega) (by omega) (fun j hj => by omega)
theorem ref_of_loop (l : List S27) (q : List S35) (g b : Int) (hl : l.length ≤ 1000) : ∀ (f i k : Nat) (a : List S27), l.length = i + f → a.length ≤ i → 2 * f + 1 < k → malthouseref18_Of.l0 k b true a (i : Int) l q g = some (a ++ (l.drop i).filter (fun x => decide (x.f1 = b))) := by
  intro f
  induction f with
  | zero =>
    intro i k a h1 h2 hk
    obtain ⟨k, rfl⟩ : ∃ m, k = m + 2 := ⟨k - 2, by omega⟩
    rw [malthouseref18_Of.l0, if_neg (by omega), malthouseref18_Of.j1, if_neg (by simp), List.drop_eq_nil_of_le (by omega)]
    simp
  | succ f ih =>
    intro i k a h1 h2 hk
    obtain ⟨k, rfl⟩ : ∃ m, k = m + 2 := ⟨k - 2, by omega⟩
    have hi : i < l.length := by omega
    rw [malthouseref18_Of.l0, if_pos (by omega), malthouseref18_Of.j1, if_pos rfl, if_pos (by omega), if_pos (by omega), rd_e l i hi, wrapS i (by omega), List.drop_eq_getElem_cons hi]
    by_cases hb : l[i].f1 = b
    · rw [if_pos hb, if_pos (by omega), ih (i + 1) k _ (by omega) (by simp; omega) (by omega), List.filter_cons_of_pos (by simpa using hb), List.append_assoc]
      rfl
    · rw [if_neg hb, ih (i + 1) k _ (by omega) (by omega) (by omega), List.filter_cons_of_neg (by simpa using hb)]
theorem ref_of_is (l : List S27) (q : List S35) (g b : Int) (k : Nat) (hl : l.length ≤ 1000) (hq : q.length ≤ 1000) (hs : ∀ e ∈ l, e.f3.size ≤ 200) (hk : 5000 ≤ k) : malthouseref18_Of.f k l q g b = some (ofJ ⟨l, q, g⟩ b) := by
  unfold malthouseref18_Of.f ofJ
  rw [ref_right_is l q g k hl hq hs hk]
  show malthouseref18_Of.l0 k b (rightJ l q g) [] 0 l q g = _
  cases hr : rightJ l q g
  · obtain ⟨k, rfl⟩ : ∃ m, k = m + 2 := ⟨k - 2, by omega⟩
    rw [malthouseref18_Of.l0]
    split
    · rw [malthouseref18_Of.j1, if_neg (by simp), if_pos rfl]
    · rw [malthouseref18_Of.j1, if_neg (by simp), if_pos rfl]
  · have := ref_of_loop l q g b hl l.length 0 k [] (by omega) (by simp) (by omega)
    rw [if_neg (by simp)]
    simpa using this
end Go.Proofs.YtghpmpjoedbpcaaDoor.Print
/-! ### JRTrim -/
namespace Go.Proofs.YtghpmpjoedbpcaaDoor.Print
open Go.RowKit Go.Proofs.YtghpmpjoedbpcaaDoorW.PrintWords Go.Proofs.YtghpmpjoedbpcaaDoorW.PrintLast Go.Proofs.YtghpmpjoedbpcaaDoorW.PrintMore
set_option linter.unusedSimpArgs false
set_option linter.unusedVariables false
/-- Small enough for the reference. -/
def Lt (j : Jn) : Prop := j.l.length ≤ 1000 ∧ j.q.length ≤ 1000 ∧ ∀ e ∈ j.l, e.f3.size ≤ 200
theorem rright_calls (A0 : Option Addr) (c0 : Nat) (A1 : Option Addr) (c1 : Nat) (j : Jn) (w : World) (h0 : j.l.length ≤ c0 ∧ Kd.C k27 w A0 j.l.length j.l) (h1 : j.q.length ≤ c1 ∧ Kd.C k35 w A1 j.q.length j.q) (hj : Lt j) :
    Calls Tryd.prog 28 #[.agg #[.slice A0 j.l.length c0, .slice A1 j.q.length c1, .int .i64 j.g]] w fun e w' => e = .returned (.bool (rightJ j.l j.q j.g)) ∧ Below w.heap.size w w' :=
  malthouseref18_Right.calls 10000 A0 c0 j.l A1 c1 j.q j.g _ w h0.2 h0.1 h1.2 h1.1 (ref_right_is j.l j.q j.g 10000 hj.1 hj.2.1 hj.2.2 (by omega))
set_option maxHeartbeats 8000000 in
set_option maxRecDepth 100000 in
theorem rtrim_calls (A0 : Option Addr) (c0 : Nat) (A1 : Option Addr) (c1 : Nat) (j : Jn) (n : Int) (w : World) (h0 : j.l.length ≤ c0 ∧ Kd.C k27 w A0 j.l.length j.l) (h1 : j.q.length ≤ c1 ∧ Kd.C k35 w A1 j.q.length j.q) (hj : Lt j) :
    Calls Tryd.prog 26 #[.agg #[.slice A0 j.l.length c0, .slice A1 j.q.length c1, .int .i64 j.g], .int .i64 n] w fun x w' => ∃ v, x = .returned (.tuple #[v, .int .i64 (trimJ j n).2]) ∧ JR w' w.heap.size v (trimJ j n).1.l (trimJ j n).1.q (trimJ j n).1.g ∧ Below w.heap.size w w' := by
  obtain ⟨R, hR⟩ : ∃ R, R = trimJ j n := ⟨_, rfl⟩
  rw [← hR]
  have HRR := Lib.hid hR
  have HA := Lib.hid h0
  have HB := Lib.hid h1
  have HJ := Lib.hid hj
  clear hR h0 h1 hj
  go_enter Tryd.func26, Tryd.ntmps26
  go_wp2_with (go_at_call 28; refine (fun (h : Hid _) => h.out) ?_)
  refine Lib.hid ?_
  have HX0 := Lib.hid (show ((w.alloc (.cells #[.slice A0 j.l.length c0, .slice A1 j.q.length c1, .int .i64 j.g] 25)).alloc (.cells #[.slice none 0 0, .slice none 0 0, .int .i64 0] 25)).heap[w.heap.size]? = some (.cells #[.slice A0 j.l.length c0, .slice A1 j.q.length c1, .int .i64 j.g] 25 (0, 0)) from
    (((Only.refl [] (w.alloc (.cells #[.slice A0 j.l.length c0, .slice A1 j.q.length c1, .int .i64 j.g] 25))).alloc _).heap (heap_alloc_new w _) (by simp)))
  have HX1 := Lib.hid (show ((w.alloc (.cells #[.slice A0 j.l.length c0, .slice A1 j.q.length c1, .int .i64 j.g] 25)).alloc (.cells #[.slice none 0 0, .slice none 0 0, .int .i64 0] 25)).heap[w.heap.size + 1]? = some (.cells #[.slice none 0 0, .slice none 0 0, .int .i64 0] 25 (0, 0)) from by
    have := heap_alloc_new (w.alloc (.cells #[.slice A0 j.l.length c0, .slice A1 j.q.length c1, .int .i64 j.g] 25)) (.cells #[.slice none 0 0, .slice none 0 0, .int .i64 0] 25)
    rw [show (w.alloc (.cells #[.slice A0 j.l.length c0, .slice A1 j.q.length c1, .int .i64 j.g] 25)).heap.size = w.heap.size + 1 by simp] at this
    exact this)
  have HO0 := Lib.hid (((Only.refl [] w).alloc (.cells #[.slice A0 j.l.length c0, .slice A1 j.q.length c1, .int .i64 j.g] 25)).alloc (.cells #[.slice none 0 0, .slice none 0 0, .int .i64 0] 25))
  generalize (w.alloc (.cells #[.slice A0 j.l.length c0, .slice A1 j.q.length c1, .int .i64 j.g] 25)).alloc (.cells #[.slice none 0 0, .slice none 0 0, .int .i64 0] 25) = W0 at *
  generalize hb : w.heap.size = wb at *
  have HBB := Lib.hid hb
  clear hb
  refine (rright_calls A0 c0 A1 c1 j W0 ⟨HA.out.1, Kd.C_below HA.out.2 HO0.out.nil_below⟩ ⟨HB.out.1, Kd.C_below HB.out.2 HO0.out.nil_below⟩ HJ.out).mono ?_
  rintro x W4 ⟨rfl, hb4⟩
  have HZ0 := Lib.hid ((Only.of_below hb4).heap HX0.out (by simp))
  have HZ1 := Lib.hid ((Only.of_below hb4).heap HX1.out (by simp))
  have HW4 := Lib.hid (HO0.out.trans (Only.of_below hb4))
  clear hb4 HX0 HX1 HO0
  unfold trimJ at HRR
  cases hr : rightJ j.l j.q j.g
  · have HR0 := Lib.hid (HRR.out.trans (if_pos (.inl hr)))
    clear hr HRR
    go_wp2_with (first
      | (with_reducible refine wpList_store_new rfl 25 (.tmp 4) (.tmp 23) rfl (wb + 1) #[.slice none 0 0, .slice none 0 0, .int .i64 0] rfl rfl 25 _ HZ1.out (size3_25 _ _ _) rfl (by simp [Value.oneCell']) ?_; intro w9 hh9 ho9))
    refine bodyPost_ret (results_row rfl _ _ (wb + 1) _ _ _ _ rfl hh9.out Tryd.underlying25 rfl (size3_25 _ _ _)) rfl ?_
    rw [HR0.out]
    exact ⟨_, rfl, jr_zero _ _, (((HW4.out.mono (T := [wb + 1]) (by simp)).trans ho9).pop (by rw [HBB.out]; omega)).nil_below⟩
  obtain ⟨hL, hBt, hRi, hG, hU, hE9, hOd⟩ := right_parts hr
  rw [hr] at HRR
  have hgb : 0 ≤ j.g ∧ j.g ≤ 1099511627776 := by
    unfold wi at hG
    simp only [Bool.and_eq_true, decide_eq_true_eq] at hG
    exact hG
  obtain ⟨hg0, hg9⟩ := hgb
  have hlb := HJ.out.1
  by_cases hn0 : n < 0
  · have HR0 := Lib.hid (HRR.out.trans (if_pos (.inr (.inl hn0))))
    clear HRR
    go_wp2_with (first
      | (with_reducible refine wpList_store_new rfl 25 (.tmp 4) (.tmp 23) rfl (wb + 1) #[.slice none 0 0, .slice none 0 0, .int .i64 0] rfl rfl 25 _ HZ1.out (size3_25 _ _ _) rfl (by simp [Value.oneCell']) ?_; intro w9 hh9 ho9))
    refine bodyPost_ret (results_row rfl _ _ (wb + 1) _ _ _ _ rfl hh9.out Tryd.underlying25 rfl (size3_25 _ _ _)) rfl ?_
    rw [HR0.out]
    exact ⟨_, rfl, jr_zero _ _, (((HW4.out.mono (T := [wb + 1]) (by simp)).trans ho9).pop (by rw [HBB.out]; omega)).nil_below⟩
  have a0 : W4.cell? ⟨wb, 0, none⟩ = some (.slice A0 j.l.length c0) := (cell_of_row W4 wb 0 _ _ _ HZ0.out).trans rfl
  have a2 : W4.cell? ⟨wb, 2, none⟩ = some (.int .i64 j.g) := (cell_of_row W4 wb 2 _ _ _ HZ0.out).trans rfl
  by_cases hn1 : (j.l.length : Int) < n
  · have HR0 := Lib.hid (HRR.out.trans (if_pos (.inr (.inr hn1))))
    clear HRR
    go_wp2_with (first
      | (with_reducible refine wpList_store_new rfl 25 (.tmp 4) (.tmp 23) rfl (wb + 1) #[.slice none 0 0, .slice none 0 0, .int .i64 0] rfl rfl 25 _ HZ1.out (size3_25 _ _ _) rfl (by simp [Value.oneCell']) ?_; intro w9 hh9 ho9))
    refine bodyPost_ret (results_row rfl _ _ (wb + 1) _ _ _ _ rfl hh9.out Tryd.underlying25 rfl (size3_25 _ _ _)) rfl ?_
    rw [HR0.out]
    exact ⟨_, rfl, jr_zero _ _, (((HW4.out.mono (T := [wb + 1]) (by simp)).trans ho9).pop (by rw [HBB.out]; omega)).nil_below⟩
  replace HRR := Lib.hid (HRR.out.trans (if_neg (by simp; omega)))
  by_cases hf : 1099511627776 < j.g + n
  · have HR0 := Lib.hid (HRR.out.trans (if_pos hf))
    clear HRR
    go_wp2_with (first
      | (with_reducible refine wpList_store_new rfl 25 (.tmp 4) (.tmp 29) rfl (wb + 1) #[.slice none 0 0, .slice none 0 0, .int .i64 0] rfl rfl 25 _ HZ1.out (size3_25 _ _ _) rfl (by simp [Value.oneCell']) ?_; intro w9 hh9 ho9))
    refine bodyPost_ret (results_row rfl _ _ (wb + 1) _ _ _ _ rfl hh9.out Tryd.underlying25 rfl (size3_25 _ _ _)) rfl ?_
    rw [HR0.out]
    exact ⟨_, rfl, jr_zero _ _, (((HW4.out.mono (T := [wb + 1]) (by simp)).trans ho9).pop (by rw [HBB.out]; omega)).nil_below⟩
  replace HRR := Lib.hid (HRR.out.trans (if_neg hf))
  obtain ⟨k, rfl⟩ : ∃ k : Nat, n = (k : Int) := ⟨n.toNat, by omega⟩
  have hkl : k ≤ j.l.length := by omega
  have HCO := Lib.hid (copied_calls A0 c0 A1 c1 j W4 ⟨HA.out.1, Kd.C_below HA.out.2 HW4.out.nil_below⟩ ⟨HB.out.1, Kd.C_below HB.out.2 HW4.out.nil_below⟩ (by have := HJ.out.1; omega) (by have := HJ.out.2.1; omega))
  clear hr
  go_wp2_with (first
    | (with_reducible refine wpList_load_at rfl 25 (.tmp 2) rfl ⟨wb, 0, none⟩ rfl _ _ (cellsAt_row HZ0.out) Tryd.underlying25 rfl (by kernel_rfl) ?_)
    | (go_at_call 42; refine HCO.out.mono ?_; rintro x W5 ⟨v5, rfl, hjr, hb5⟩; obtain ⟨F0, m0, F1, m1, rfl, q0, q1⟩ := hjr; refine (fun (h : Hid _) => h.out) ?_))
  refine Lib.hid ?_
  clear a0 a2
  have hal : Only [] W5 (W5.alloc (.cells #[.slice F0 j.l.length m0, .slice F1 j.q.length m1, .int .i64 j.g] 25)) := (Only.refl [] W5).alloc _
  have hoo := (Only.of_below hb5).trans hal
  have HZ0b := Lib.hid (hoo.heap HZ0.out (by simp))
  have HZ1b := Lib.hid (hoo.heap HZ1.out (by simp))
  have HW5 := Lib.hid (HW4.out.trans hoo)
  have HK5 := Lib.hid (heap_alloc_new W5 (.cells #[.slice F0 j.l.length m0, .slice F1 j.q.length m1, .int .i64 j.g] 25))
  have HL5 := Lib.hid (ownsRow_only q0 hal (by simp))
  have HQ5 := Lib.hid (ownsRow_only q1 hal (by simp))
  have HWB4 := Lib.hid (show wb + 1 < W4.heap.size from heap_lt HZ1.out)
  have HWB := Lib.hid (show wb + 1 < W5.heap.size from heap_lt ((Only.of_below hb5).heap HZ1.out (by simp)))
  have a0 : (W5.alloc (.cells #[.slice F0 j.l.length m0, .slice F1 j.q.length m1, .int .i64 j.g] 25)).cell? ⟨wb, 0, none⟩ = some (.slice A0 j.l.length c0) := (cell_of_row _ wb 0 _ _ _ HZ0b.out).trans rfl
  have HNQ := Lib.hid (show (Value.slice F1 j.q.length m1).ownBlock ≠ some W5.heap.size from fun h => by have := (ownsRow_lt q1 h).2; omega)
  clear hal hoo q0 q1 hb5 HCO HZ0 HZ1
  have e7 : j.l.length - k = (j.l.drop k).length := by rw [List.length_drop]
  have HD5 := Lib.hid (flat_e (Kd.C_drop (k := k27) (c := c0) (Kd.C_below HA.out.2 HW5.out.nil_below) hkl HA.out.1))
  go_wp2_with (first
    | (with_reducible refine wpList_cutN 27 6 Tryd.underlying22 (by kernel_rfl) A0 j.l.length c0 rfl k j.l.length c0 (bounds_l _ _ _ _ _ k rfl hkl) ?_; refine (fun (h : Hid _) => h.out) ?_))
  refine Lib.hid ?_
  clear a0
  generalize W5.alloc (.cells #[.slice F0 j.l.length m0, .slice F1 j.q.length m1, .int .i64 j.g] 25) = W6 at *
  generalize W5.heap.size = kb at *
  have HKB := Lib.hid (heap_lt HK5.out)
  go_wp2_with (first
    | (at_builtin; refine wpList_append_row rfl _ _ 22 rfl W6.heap.size 27 6 56 (.agg #[.int .i64 0, .int .i64 0, .int .i64 0, .string ⟨#[]⟩, .int .i64 0, .int .i64 0]) Tryd.underlying22 info27 rfl (by omega) (.slice none 0 0) 0 [] rfl (ownsRow_nil _ _ _ _) (cutN A0 k c0 6) (j.l.length - k) (c0 - k) (eRow (j.l.drop k)) rfl (by rw [e7]; exact eRow_length _) (by rw [e7]; exact HD5.out) (eRow_one _) (by unfold maxLen; omega) (by omega) (Nat.le_refl _) ?_; intro A7 c7 W7 h2 h3 h4; have H2 := Lib.hid h2; have H3 := Lib.hid h3; clear h2 h3 h4; refine (fun (h : Hid _) => h.out) ?_))
  refine Lib.hid ?_
  simp only [Act.put, goInt, List.setIfInBounds_toArray, List.set_cons_zero, List.set_cons_succ]
  replace H3 := Lib.hid (show Only [] W6 W7 from H3.out.mono (by simp [Value.ownBlock]))
  have HL7 := Lib.hid (show W7.ownsRow W6.heap.size 27 6 (.slice A7 (0 + (j.l.length - k)) c7) (j.l.drop k).length (eRow (j.l.drop k)) from by have := H2.out; rw [List.nil_append, Nat.zero_add] at this; rw [Nat.zero_add, ← e7]; exact this)
  rw [Nat.zero_add, e7] at HL7 ⊢
  have HQ7 := Lib.hid (ownsRow_only HQ5.out H3.out (by simp))
  have HK7 := Lib.hid (H3.out.heap HK5.out (by simp))
  have HZ7 := Lib.hid (H3.out.heap HZ0b.out (by simp))
  have HY7 := Lib.hid (H3.out.heap HZ1b.out (by simp))
  have HW7 := Lib.hid (HW5.out.trans H3.out)
  have HNL := Lib.hid (show (Value.slice A7 (j.l.drop k).length c7).ownBlock ≠ some kb from fun h => by have := (ownsRow_lt HL7.out h).1; have := HKB.out; omega)
  have HB6 := Lib.hid (show w.heap.size ≤ W6.heap.size from HW5.out.size)
  have HB4 := Lib.hid (show w.heap.size ≤ W4.heap.size from HW4.out.size)
  clear H2 H3 HQ5 HK5 HZ0b HZ1b HW5 HL5 HD5 HW4
  go_wp2_with (first
    | (with_reducible refine wpList_store_in rfl 22 (.tmp 37) (.tmp 36) rfl kb 0 _ rfl rfl [.slice A7 (j.l.drop k).length c7] rfl 25 [.slice F0 j.l.length m0, .slice F1 j.q.length m1, .int .i64 j.g] HK7.out (by kernel_rfl) (by simp) (by simp [Value.oneCell']) ?_; intro W8 hr8 ho8; refine (fun (h : Hid _) => h.out) ?_))
  refine Lib.hid ?_
  simp only [Act.put, goInt, List.setIfInBounds_toArray, List.set_cons_zero, List.set_cons_succ]
  have HK8 := Lib.hid (show W8.heap[kb]? = some (.cells #[.slice A7 (j.l.drop k).length c7, .slice F1 j.q.length m1, .int .i64 j.g] 25 (0, 0)) from hr8.out)
  have HL8 := Lib.hid (ownsRow_only HL7.out ho8.out (fun k hk h => by simp at h; subst h; exact HNL.out hk))
  have HQ8 := Lib.hid (ownsRow_only HQ7.out ho8.out (fun k hk h => by simp at h; subst h; exact HNQ.out hk))
  have HZ8 := Lib.hid (ho8.out.heap HZ7.out (by simp; have := HWB.out; omega))
  have HY8 := Lib.hid (ho8.out.heap HY7.out (by simp; have := HWB.out; omega))
  have HW8 := Lib.hid (HW7.out.then ho8.out (fun k hk => .inr (by simp at hk; subst hk; have := HWB.out; have := HBB.out; omega)))
  clear HK7 HL7 HQ7 HZ7 HY7 HW7 hr8 ho8
  have a2 : W8.cell? ⟨wb, 2, none⟩ = some (.int .i64 j.g) := (cell_of_row W8 wb 2 _ _ _ HZ8.out).trans rfl
  go_wp2_with (first
    | (with_reducible refine wpList_store_in rfl 3 (.tmp 42) (.tmp 41) rfl kb 2 (.int .i64 (j.g + k)) rfl rfl [.int .i64 (j.g + k)] rfl 25 [.slice A7 (j.l.drop k).length c7, .slice F1 j.q.length m1, .int .i64 j.g] HK8.out (by kernel_rfl) (by simp) (by simp [Value.oneCell']) ?_; intro W9 hr9 ho9; refine (fun (h : Hid _) => h.out) ?_))
  refine Lib.hid ?_
  simp only [Act.put, goInt, List.setIfInBounds_toArray, List.set_cons_zero, List.set_cons_succ]
  clear a2
  have HK9 := Lib.hid (show W9.heap[kb]? = some (.cells #[.slice A7 (j.l.drop k).length c7, .slice F1 j.q.length m1, .int .i64 (j.g + k)] 25 (0, 0)) from hr9.out)
  have HL9 := Lib.hid (ownsRow_only HL8.out ho9.out (fun k hk h => by simp at h; subst h; exact HNL.out hk))
  have HQ9 := Lib.hid (ownsRow_only HQ8.out ho9.out (fun k hk h => by simp at h; subst h; exact HNQ.out hk))
  have HY9 := Lib.hid (ho9.out.heap HY8.out (by simp; have := HWB.out; omega))
  have HW9 := Lib.hid (HW8.out.then ho9.out (fun k hk => .inr (by simp at hk; subst hk; have := HWB.out; have := HBB.out; omega)))
  clear HK8 HL8 HQ8 HZ8 HY8 HW8 hr9 ho9
  go_wp2_with (first
    | (with_reducible refine wpList_load_at rfl 25 (.tmp 7) rfl ⟨kb, 0, none⟩ rfl _ _ (cellsAt_row HK9.out) Tryd.underlying25 rfl (by kernel_rfl) ?_)
    | (with_reducible refine wpList_store_new rfl 25 (.tmp 4) (.tmp 43) rfl (wb + 1) #[.slice A7 (j.l.drop k).length c7, .slice F1 j.q.length m1, .int .i64 (j.g + k)] rfl rfl 25 _ HY9.out (size3_25 _ _ _) rfl (by simp [Value.oneCell']) ?_; intro w9 hh9 ho9; have Hh9 := Lib.hid hh9.out; have Ho9 := Lib.hid ho9; clear hh9 ho9; refine (fun (h : Hid _) => h.out) ?_))
  refine Lib.hid ?_
  simp only [Act.put, goInt, List.setIfInBounds_toArray, List.set_cons_zero, List.set_cons_succ]
  go_wp2
  have ho9 := Ho9.out
  refine bodyPost_ret (results_row rfl _ _ (wb + 1) _ _ _ _ rfl Hh9.out Tryd.underlying25 rfl (size3_25 _ _ _)) rfl ?_
  rw [HRR.out]
  have f2 := ownsRow_only HL9.out ho9 (fun k hk h => by simp at h; subst h; have := (ownsRow_lt HL9.out hk).1; have := HKB.out; have := HWB.out; omega)
  have f3 := ownsRow_only HQ9.out ho9 (fun k hk h => by simp at h; subst h; have := (ownsRow_lt HQ9.out hk).1; have := HWB4.out; omega)
  refine ⟨_, rfl, ⟨A7, c7, F1, m1, ?_, ?_, ?_⟩, (HW9.out.then ho9 (fun k hk => .inr (by simp at hk; subst hk; have := HBB.out; omega))).nil_below⟩
  · simp
  · have := ownsRow_mono f2 HB6.out
    simpa using this
  · have := ownsRow_mono f3 HB4.out
    simpa using this
end Go.Proofs.YtghpmpjoedbpcaaDoor.Print
/-! ### JRAdd -/
namespace Go.Proofs.YtghpmpjoedbpcaaDoor.Print
open Go.RowKit Go.Proofs.YtghpmpjoedbpcaaDoorW.PrintWords Go.Proofs.YtghpmpjoedbpcaaDoorW.PrintLast Go.Proofs.YtghpmpjoedbpcaaDoorW.PrintMore
set_option linter.unusedSimpArgs false
set_option linter.unusedVariables false
/-- A slice of one element. -/
theorem wpList_one {P : Program} {ops : Array Oper} {rest : List Oper} {o : Oper} {a : Act} {w : World} {Q : Exit → Act → World → Prop} (hg : o.guard = none) (t : TypeId) (x : Operand) (ho : o.op = .buildSlice t 1 #[(0, x)]) (e : TypeId) (ht : P.underlying t = some (.slice e))
    (z : Value) (size bytes : Nat) (hinfo : (P.info? e).map (fun i => (i.zero, i.size, i.bytes)) = some (some z, size, bytes)) (hs0 : 0 < size) (hs1 : size ≤ 1000) (v : Value) (hx : a.eval x = v) (cells : Array Value)
    (hfill : Instr.fill (fun i => some (i * size, size)) ((Array.range (1 * size)).map (z.cells[· % z.cells.size]!)) [(0, v)] = some cells)
    (h : wpList P ops Q rest (a.put o.dst (.slice (some ⟨w.heap.size, 0, none⟩) 1 1)) (w.alloc (.cells cells e))) : wpList P ops Q (o :: rest) a w := by
  obtain ⟨ie, h2, h3, h4, h5⟩ := info_parts hinfo
  subst h4
  exact wpList_buildSlice hg t e 1 _ ho cells ie z ht h2 h3 (by omega) (by omega) (by simpa [hx] using hfill) h
theorem wrap_pos {x : Int} (h0 : 0 ≤ x) (h9 : x ≤ 4611686018427387904) : IntKind.i64.wrap x = x := by
  unfold IntKind.wrap
  simp [IntKind.bits, IntKind.signed]
  omega
theorem eRow_one_more (l : List S27) (e : S27) : eRow (l ++ [e]) = eRow l ++ [.int .i64 e.f0, .int .i64 e.f1, .int .i64 e.f2, .string e.f3, .int .i64 e.f4, .int .i64 e.f5] := by rw [eRow_append]; rfl
set_option maxHeartbeats 8000000 in
set_option maxRecDepth 100000 in
theorem radd_calls (A0 : Option Addr) (c0 : Nat) (A1 : Option Addr) (c1 : Nat) (j : Jn) (e : S27) (w : World) (h0 : j.l.length ≤ c0 ∧ Kd.C k27 w A0 j.l.length j.l) (h1 : j.q.length ≤ c1 ∧ Kd.C k35 w A1 j.q.length j.q) (hj : Lt j) (he : e.f3.size ≤ 200) :
    Calls Tryd.prog 23 #[.agg #[.slice A0 j.l.length c0, .slice A1 j.q.length c1, .int .i64 j.g], .agg #[.int .i64 e.f0, .int .i64 e.f1, .int .i64 e.f2, .string e.f3, .int .i64 e.f4, .int .i64 e.f5]] w fun x w' => ∃ v, x = .returned (.tuple #[v, .int .i64 (addJ j e).2]) ∧ JR w' w.heap.size v (addJ j e).1.l (addJ j e).1.q (addJ j e).1.g ∧ Below w.heap.size w w' := by
  obtain ⟨R, hR⟩ : ∃ R, R = addJ j e := ⟨_, rfl⟩
  rw [← hR]
  have HRR := Lib.hid hR
  have HA := Lib.hid h0
  have HB := Lib.hid h1
  have HJ := Lib.hid hj
  have HES := Lib.hid he
  clear hR h0 h1 hj he
  go_enter Tryd.func23, Tryd.ntmps23
  go_wp2_with (go_at_call 28; refine (fun (h : Hid _) => h.out) ?_)
  refine Lib.hid ?_
  have HX0 := Lib.hid (show (((w.alloc (.cells #[.slice A0 j.l.length c0, .slice A1 j.q.length c1, .int .i64 j.g] 25)).alloc (.cells #[.int .i64 e.f0, .int .i64 e.f1, .int .i64 e.f2, .string e.f3, .int .i64 e.f4, .int .i64 e.f5] 27)).alloc (.cells #[.slice none 0 0, .slice none 0 0, .int .i64 0] 25)).heap[w.heap.size]? = some (.cells #[.slice A0 j.l.length c0, .slice A1 j.q.length c1, .int .i64 j.g] 25 (0, 0)) from (Below.heap_alloc _ _ _ (by simp; omega)).trans ((Below.heap_alloc _ _ _ (by simp)).trans (heap_alloc_new _ _)))
  have HX1 := Lib.hid (show (((w.alloc (.cells #[.slice A0 j.l.length c0, .slice A1 j.q.length c1, .int .i64 j.g] 25)).alloc (.cells #[.int .i64 e.f0, .int .i64 e.f1, .int .i64 e.f2, .string e.f3, .int .i64 e.f4, .int .i64 e.f5] 27)).alloc (.cells #[.slice none 0 0, .slice none 0 0, .int .i64 0] 25)).heap[w.heap.size + 1]? = some (.cells #[.int .i64 e.f0, .int .i64 e.f1, .int .i64 e.f2, .string e.f3, .int .i64 e.f4, .int .i64 e.f5] 27 (0, 0)) from by
    have := heap_alloc_new (w.alloc (.cells #[.slice A0 j.l.length c0, .slice A1 j.q.length c1, .int .i64 j.g] 25)) (.cells #[.int .i64 e.f0, .int .i64 e.f1, .int .i64 e.f2, .string e.f3, .int .i64 e.f4, .int .i64 e.f5] 27)
    rw [show (w.alloc (.cells #[.slice A0 j.l.length c0, .slice A1 j.q.length c1, .int .i64 j.g] 25)).heap.size = w.heap.size + 1 by simp] at this
    exact (Below.heap_alloc _ _ _ (by simp)).trans this)
  have HX2 := Lib.hid (show (((w.alloc (.cells #[.slice A0 j.l.length c0, .slice A1 j.q.length c1, .int .i64 j.g] 25)).alloc (.cells #[.int .i64 e.f0, .int .i64 e.f1, .int .i64 e.f2, .string e.f3, .int .i64 e.f4, .int .i64 e.f5] 27)).alloc (.cells #[.slice none 0 0, .slice none 0 0, .int .i64 0] 25)).heap[w.heap.size + 2]? = some (.cells #[.slice none 0 0, .slice none 0 0, .int .i64 0] 25 (0, 0)) from by
    have := heap_alloc_new ((w.alloc (.cells #[.slice A0 j.l.length c0, .slice A1 j.q.length c1, .int .i64 j.g] 25)).alloc (.cells #[.int .i64 e.f0, .int .i64 e.f1, .int .i64 e.f2, .string e.f3, .int .i64 e.f4, .int .i64 e.f5] 27)) (.cells #[.slice none 0 0, .slice none 0 0, .int .i64 0] 25)
    rw [show ((w.alloc (.cells #[.slice A0 j.l.length c0, .slice A1 j.q.length c1, .int .i64 j.g] 25)).alloc (.cells #[.int .i64 e.f0, .int .i64 e.f1, .int .i64 e.f2, .string e.f3, .int .i64 e.f4, .int .i64 e.f5] 27)).heap.size = w.heap.size + 2 by simp] at this
    exact this)
  have HO0 := Lib.hid ((((Only.refl [] w).alloc (.cells #[.slice A0 j.l.length c0, .slice A1 j.q.length c1, .int .i64 j.g] 25)).alloc (.cells #[.int .i64 e.f0, .int .i64 e.f1, .int .i64 e.f2, .string e.f3, .int .i64 e.f4, .int .i64 e.f5] 27)).alloc (.cells #[.slice none 0 0, .slice none 0 0, .int .i64 0] 25))
  generalize (((w.alloc (.cells #[.slice A0 j.l.length c0, .slice A1 j.q.length c1, .int .i64 j.g] 25)).alloc (.cells #[.int .i64 e.f0, .int .i64 e.f1, .int .i64 e.f2, .string e.f3, .int .i64 e.f4, .int .i64 e.f5] 27)).alloc (.cells #[.slice none 0 0, .slice none 0 0, .int .i64 0] 25)) = W0 at *
  generalize hb : w.heap.size = wb at *
  have HBB := Lib.hid hb
  clear hb
  refine (rright_calls A0 c0 A1 c1 j W0 ⟨HA.out.1, Kd.C_below HA.out.2 HO0.out.nil_below⟩ ⟨HB.out.1, Kd.C_below HB.out.2 HO0.out.nil_below⟩ HJ.out).mono ?_
  rintro x W3 ⟨rfl, hb3⟩
  have HY0 := Lib.hid ((Only.of_below hb3).heap HX0.out (by simp))
  have HY1 := Lib.hid ((Only.of_below hb3).heap HX1.out (by simp))
  have HY2 := Lib.hid ((Only.of_below hb3).heap HX2.out (by simp))
  have HW3 := Lib.hid (HO0.out.trans (Only.of_below hb3))
  clear hb3 HX0 HX1 HX2 HO0
  have HEN := Lib.hid (malthouseref18_entry.calls 10000 e.f0 e.f1 e.f2 e.f3 e.f4 e.f5 (!strangeB e) W3 (ref_entry_is e HES.out 10000 (by omega)))
  go_wp2_with (first
    | (with_reducible refine wpList_load_at rfl 27 (.tmp 3) rfl ⟨wb + 1, 0, none⟩ rfl _ _ (cellsAt_row HY1.out) Tryd.underlying27 rfl (by kernel_rfl) ?_)
    | (go_at_call 44; refine HEN.out.mono ?_; rintro x W4 ⟨rfl, hb4⟩; refine (fun (h : Hid _) => h.out) ?_))
  refine Lib.hid ?_
  have HZ0 := Lib.hid ((Only.of_below hb4).heap HY0.out (by simp))
  have HZ1 := Lib.hid ((Only.of_below hb4).heap HY1.out (by simp))
  have HZ2 := Lib.hid ((Only.of_below hb4).heap HY2.out (by simp))
  have HW4 := Lib.hid (HW3.out.trans (Only.of_below hb4))
  clear hb4 HY0 HY1 HY2 HW3 HEN
  unfold addJ at HRR
  cases hr : rightJ j.l j.q j.g
  · have HR0 := Lib.hid (HRR.out.trans (if_pos (.inl hr)))
    clear hr HRR
    go_wp2_with (first
      | (with_reducible refine wpList_store_new rfl 25 (.tmp 4) (.tmp 20) rfl (wb + 2) #[.slice none 0 0, .slice none 0 0, .int .i64 0] rfl rfl 25 _ HZ2.out (size3_25 _ _ _) rfl (by simp [Value.oneCell']) ?_; intro w9 hh9 ho9))
    refine bodyPost_ret (results_row rfl _ _ (wb + 2) _ _ _ _ rfl hh9.out Tryd.underlying25 rfl (size3_25 _ _ _)) rfl ?_
    rw [HR0.out]
    exact ⟨_, rfl, jr_zero _ _, (((HW4.out.mono (T := [wb + 2]) (by simp)).trans ho9).pop (by rw [HBB.out]; omega)).nil_below⟩
  cases hs : strangeB e
  rotate_left
  · have HR0 := Lib.hid (HRR.out.trans (if_pos (.inr hs)))
    clear hr hs HRR
    go_wp2_with (first
      | (with_reducible refine wpList_store_new rfl 25 (.tmp 4) (.tmp 20) rfl (wb + 2) #[.slice none 0 0, .slice none 0 0, .int .i64 0] rfl rfl 25 _ HZ2.out (size3_25 _ _ _) rfl (by simp [Value.oneCell']) ?_; intro w9 hh9 ho9))
    refine bodyPost_ret (results_row rfl _ _ (wb + 2) _ _ _ _ rfl hh9.out Tryd.underlying25 rfl (size3_25 _ _ _)) rfl ?_
    rw [HR0.out]
    exact ⟨_, rfl, jr_zero _ _, (((HW4.out.mono (T := [wb + 2]) (by simp)).trans ho9).pop (by rw [HBB.out]; omega)).nil_below⟩
  replace HRR := Lib.hid (HRR.out.trans (if_neg (by rw [hr, hs]; simp)))
  obtain ⟨hL, hBt, hRi, hG, hU, hE9, hOd⟩ := right_parts hr
  have HRI := Lib.hid ((rising_pair j.q).1 hRi)
  have HLO := Lib.hid hL
  clear hBt hRi hG hU hE9 hOd hs hL
  have HCO := Lib.hid (copied_calls A0 c0 A1 c1 j W4 ⟨HA.out.1, Kd.C_below HA.out.2 HW4.out.nil_below⟩ ⟨HB.out.1, Kd.C_below HB.out.2 HW4.out.nil_below⟩ (by have := HJ.out.1; omega) (by have := HJ.out.2.1; omega))
  clear hr
  go_wp2_with (first
    | (with_reducible refine wpList_load_at rfl 25 (.tmp 2) rfl ⟨wb, 0, none⟩ rfl _ _ (cellsAt_row HZ0.out) Tryd.underlying25 rfl (by kernel_rfl) ?_)
    | (go_at_call 42; refine HCO.out.mono ?_; rintro x W5 ⟨v5, rfl, hjr, hb5⟩; obtain ⟨F0, m0, F1, m1, rfl, q0, q1⟩ := hjr; refine (fun (h : Hid _) => h.out) ?_))
  refine Lib.hid ?_
  have hal : Only [] W5 (W5.alloc (.cells #[.slice F0 j.l.length m0, .slice F1 j.q.length m1, .int .i64 j.g] 25)) := (Only.refl [] W5).alloc _
  have hoo := (Only.of_below hb5).trans hal
  have HV0 := Lib.hid (hoo.heap HZ0.out (by simp))
  have HV1 := Lib.hid (hoo.heap HZ1.out (by simp))
  have HV2 := Lib.hid (hoo.heap HZ2.out (by simp))
  have HW5 := Lib.hid (HW4.out.trans hoo)
  have HK5 := Lib.hid (heap_alloc_new W5 (.cells #[.slice F0 j.l.length m0, .slice F1 j.q.length m1, .int .i64 j.g] 25))
  have HL5 := Lib.hid (ownsRow_only q0 hal (by simp))
  have HQ5 := Lib.hid (ownsRow_only q1 hal (by simp))
  have HWB4 := Lib.hid (show wb + 2 < W4.heap.size from heap_lt HZ2.out)
  have HWB := Lib.hid (show wb + 2 < W5.heap.size from heap_lt ((Only.of_below hb5).heap HZ2.out (by simp)))
  have HNL := Lib.hid (show (Value.slice F0 j.l.length m0).ownBlock ≠ some W5.heap.size from fun h => by have := (ownsRow_lt q0 h).2; omega)
  have HNQ := Lib.hid (show (Value.slice F1 j.q.length m1).ownBlock ≠ some W5.heap.size from fun h => by have := (ownsRow_lt q1 h).2; omega)
  have HLQ := Lib.hid (show ∀ k, (Value.slice F0 j.l.length m0).ownBlock = some k → (Value.slice F1 j.q.length m1).ownBlock ≠ some k from fun k hk hk' => by
    rcases q0.2 with ⟨h, _⟩ | ⟨g0, p0, u0, h, _, hg0, _⟩
    · rw [h] at hk; cases hk
    · rw [h] at hk
      rcases q1.2 with ⟨h', _⟩ | ⟨g1, p1, u1, h', _, hg1, _⟩
      · rw [h'] at hk'; cases hk'
      · rw [h'] at hk'
        simp [Value.ownBlock] at hk hk'
        subst hk hk'
        rw [hg0] at hg1
        injection hg1 with hg1
        injection hg1 with _ h2 _
        exact absurd h2 (by decide))
  have HB4 := Lib.hid (show w.heap.size ≤ W4.heap.size from HW4.out.size)
  have HS4 := Lib.hid (hoo.size)
  clear hal hoo q0 q1 hb5 HCO HZ0 HZ1 HZ2
  have HPL := Lib.hid (malthouseref18_Place.calls 10000 A0 c0 j.l A1 c1 j.q j.g e.f1 _ (W5.alloc (.cells #[.slice F0 j.l.length m0, .slice F1 j.q.length m1, .int .i64 j.g] 25)) (Kd.C_below HA.out.2 HW5.out.nil_below) HA.out.1 (Kd.C_below HB.out.2 HW5.out.nil_below) HB.out.1 (ref_place_is j.l j.q j.g e.f1 10000 HJ.out.2.1 HRI.out (by omega)))
  generalize hpr : (if placeB j.q e.f1 = true then (placeI j.q e.f1 : Int) else -1) = pr at *
  have HPR := Lib.hid hpr
  clear hpr
  have y1 : (W5.alloc (.cells #[.slice F0 j.l.length m0, .slice F1 j.q.length m1, .int .i64 j.g] 25)).cell? ⟨wb + 1, 1, none⟩ = some (.int .i64 e.f1) := (cell_of_row _ (wb + 1) 1 _ _ _ HV1.out).trans rfl
  go_wp2_with (first
    | (with_reducible refine wpList_load_at rfl 25 (.tmp 2) rfl ⟨wb, 0, none⟩ rfl _ _ (cellsAt_row HV0.out) Tryd.underlying25 rfl (by kernel_rfl) ?_)
    | (go_at_call 40; refine HPL.out.mono ?_; rintro x W6 ⟨rfl, hb6⟩; refine (fun (h : Hid _) => h.out) ?_))
  refine Lib.hid ?_
  clear y1
  have h6 := Only.of_below hb6
  have HU0 := Lib.hid (h6.heap HV0.out (by simp))
  have HE := Lib.hid (h6.heap HV1.out (by simp))
  have HY := Lib.hid (h6.heap HV2.out (by simp))
  have HK := Lib.hid (h6.heap HK5.out (by simp))
  have HL := Lib.hid (ownsRow_only HL5.out h6 (by simp))
  have HQ := Lib.hid (ownsRow_only HQ5.out h6 (by simp))
  have HW := Lib.hid (HW5.out.trans h6)
  replace HS4 := Lib.hid (show W4.heap.size ≤ W6.heap.size from Nat.le_trans HS4.out h6.size)
  clear h6 hb6 HV0 HV1 HV2 HK5 HL5 HQ5 HW5 HPL
  generalize W5.heap.size = kb at *
  cases hpb : placeB j.q e.f1
  · have hp1 : pr = -1 := by rw [← HPR.out, hpb]; rfl
    subst hp1
    replace HRR := Lib.hid (HRR.out.trans (if_neg (by rw [hpb]; simp)))
    clear hpb
    have HSU := Lib.hid (malthouseref18_sum.calls 10000 A0 c0 j.l A1 c1 j.q j.g (usedZ j.l j.q) W6 (Kd.C_below HA.out.2 HW.out.nil_below) HA.out.1 (Kd.C_below HB.out.2 HW.out.nil_below) HB.out.1 (ref_sum_is j.l j.q j.g 10000 HJ.out.1 HJ.out.2.1 HLO.out (by have := HJ.out.2.1; omega)))
    generalize usedZ j.l j.q = uz at *
    go_wp2_with (first
      | (with_reducible refine wpList_load_at rfl 25 (.tmp 2) rfl ⟨wb, 0, none⟩ rfl _ _ (cellsAt_row HU0.out) Tryd.underlying25 rfl (by kernel_rfl) ?_)
      | (go_at_call 41; refine HSU.out.mono ?_; rintro x Wf ⟨rfl, hb7⟩; refine (fun (h : Hid _) => h.out) ?_))
    refine Lib.hid ?_
    have h7 := Only.of_below hb7
    replace HE := Lib.hid (h7.heap HE.out (by simp))
    replace HY := Lib.hid (h7.heap HY.out (by simp))
    replace HK := Lib.hid (h7.heap HK.out (by simp))
    replace HL := Lib.hid (ownsRow_only HL.out h7 (by simp))
    replace HQ := Lib.hid (ownsRow_only HQ.out h7 (by simp))
    replace HW := Lib.hid (HW.out.trans h7)
    replace HS4 := Lib.hid (Nat.le_trans HS4.out h7.size)
    clear h7 hb7 HU0 HSU
    by_cases hu : uz = 120
    · have HR0 := Lib.hid (HRR.out.trans (if_pos hu))
      clear HRR
      subst hu
      go_wp2_with (first
        | (with_reducible refine wpList_store_new rfl 25 (.tmp 4) (.tmp 52) rfl (wb + 2) #[.slice none 0 0, .slice none 0 0, .int .i64 0] rfl rfl 25 _ HY.out (size3_25 _ _ _) rfl (by simp [Value.oneCell']) ?_; intro w9 hh9 ho9))
      refine bodyPost_ret (results_row rfl _ _ (wb + 2) _ _ _ _ rfl hh9.out Tryd.underlying25 rfl (size3_25 _ _ _)) rfl ?_
      rw [HR0.out]
      exact ⟨_, rfl, jr_zero _ _, (((HW.out.mono (T := [wb + 2]) (by simp)).trans ho9).pop (by rw [HBB.out]; omega)).nil_below⟩
    replace HRR := Lib.hid (HRR.out.trans (if_neg hu))
    have hu2 : (uz == 120) = false := by rw [beq_eq_false_iff_ne]; exact hu
    have hll : (j.l ++ [e]).length = j.l.length + 1 := by simp
    have k0 : Wf.cell? ⟨kb, 0, none⟩ = some (.slice F0 j.l.length m0) := (cell_of_row Wf kb 0 _ _ _ HK.out).trans rfl
    go_wp2_with (first
      | (with_reducible refine wpList_load_at rfl 27 (.tmp 3) rfl ⟨wb + 1, 0, none⟩ rfl _ _ (cellsAt_row HE.out) Tryd.underlying27 rfl (by kernel_rfl) ?_)
      | (with_reducible refine wpList_one rfl 22 (.tmp 55) rfl 27 Tryd.underlying22 (.agg #[.int .i64 0, .int .i64 0, .int .i64 0, .string ⟨#[]⟩, .int .i64 0, .int .i64 0]) 6 56 info27 (by omega) (by omega) (.agg #[.int .i64 e.f0, .int .i64 e.f1, .int .i64 e.f2, .string e.f3, .int .i64 e.f4, .int .i64 e.f5]) rfl #[.int .i64 e.f0, .int .i64 e.f1, .int .i64 e.f2, .string e.f3, .int .i64 e.f4, .int .i64 e.f5] (fill_one6 (.agg #[.int .i64 0, .int .i64 0, .int .i64 0, .string ⟨#[]⟩, .int .i64 0, .int .i64 0]) _ _ _ _ _ _ rfl rfl) ?_; refine (fun (h : Hid _) => h.out) ?_))
    refine Lib.hid ?_
    try simp only [Act.put, goInt, List.setIfInBounds_toArray, List.set_cons_zero, List.set_cons_succ]
    clear k0
    have hal : Only [] Wf (Wf.alloc (.cells #[.int .i64 e.f0, .int .i64 e.f1, .int .i64 e.f2, .string e.f3, .int .i64 e.f4, .int .i64 e.f5] 27)) := (Only.refl [] Wf).alloc _
    have HNE := Lib.hid (heap_alloc_new Wf (.cells #[.int .i64 e.f0, .int .i64 e.f1, .int .i64 e.f2, .string e.f3, .int .i64 e.f4, .int .i64 e.f5] 27))
    replace HK := Lib.hid (hal.heap HK.out (by simp))
    replace HL := Lib.hid (ownsRow_only HL.out hal (by simp))
    replace HQ := Lib.hid (ownsRow_only HQ.out hal (by simp))
    replace HY := Lib.hid (hal.heap HY.out (by simp))
    replace HW := Lib.hid (HW.out.trans hal)
    have HSZ := Lib.hid (show W4.heap.size ≤ (Wf.alloc (.cells #[.int .i64 e.f0, .int .i64 e.f1, .int .i64 e.f2, .string e.f3, .int .i64 e.f4, .int .i64 e.f5] 27)).heap.size from Nat.le_trans HS4.out hal.size)
    clear hal HE
    generalize Wf.alloc (.cells #[.int .i64 e.f0, .int .i64 e.f1, .int .i64 e.f2, .string e.f3, .int .i64 e.f4, .int .i64 e.f5] 27) = Wa at *
    generalize Wf.heap.size = nb at *
    go_wp2_with (first
      | (at_builtin; refine wpList_append_row rfl _ _ 22 rfl W4.heap.size 27 6 56 (.agg #[.int .i64 0, .int .i64 0, .int .i64 0, .string ⟨#[]⟩, .int .i64 0, .int .i64 0]) Tryd.underlying22 info27 rfl (by omega) (.slice F0 j.l.length m0) j.l.length (eRow j.l) rfl HL.out (some ⟨nb, 0, none⟩) 1 1 [.int .i64 e.f0, .int .i64 e.f1, .int .i64 e.f2, .string e.f3, .int .i64 e.f4, .int .i64 e.f5] rfl rfl (fun _ => ⟨_, rfl, cellsAt_row HNE.out⟩) (by simp [Value.oneCell']) (by have := HJ.out.1; unfold maxLen; omega) (by have := HJ.out.1; omega) HSZ.out ?_; intro A7 c7 W7 h2 h3 h4; have H2 := Lib.hid h2; have H3 := Lib.hid h3; have H4 := Lib.hid h4; clear h2 h3 h4; refine (fun (h : Hid _) => h.out) ?_))
    refine Lib.hid ?_
    try simp only [Act.put, goInt, List.setIfInBounds_toArray, List.set_cons_zero, List.set_cons_succ]
    have hml : ∀ k, k ∈ (Value.slice F0 j.l.length m0).ownBlock.toList → (Value.slice F0 j.l.length m0).ownBlock = some k := fun k hk => by simpa using hk
    have HL7 := Lib.hid H2.out
    have HQ7 := Lib.hid (ownsRow_only HQ.out H3.out (fun k hk h => HLQ.out k (hml _ h) hk))
    have HK7 := Lib.hid (H3.out.heap HK.out (fun h => HNL.out (hml _ h)))
    have HY7 := Lib.hid (H3.out.heap HY.out (fun h => by have := (ownsRow_lt HL.out (hml _ h)).1; have := HWB4.out; omega))
    have HW7 := Lib.hid (HW.out.then H3.out (fun k hk => .inr (by have := (ownsRow_lt HL.out (hml _ hk)).1; have := HWB4.out; have := HBB.out; omega)))
    have HN7 := Lib.hid (show (Value.slice A7 (j.l.length + 1) c7).ownBlock ≠ some kb from fun h => by
      rcases H4.out kb h with h' | h'
      · exact HNL.out h'
      · have := heap_lt HK.out; omega)
    clear hml H2 H3 H4 HK HL HQ HY HW HNE HSZ
    go_wp2_with (first
      | (with_reducible refine wpList_store_in rfl 22 (.tmp 58) (.tmp 57) rfl kb 0 _ rfl rfl [.slice A7 (j.l.length + 1) c7] rfl 25 [.slice F0 j.l.length m0, .slice F1 j.q.length m1, .int .i64 j.g] HK7.out (by kernel_rfl) (by simp) (by simp [Value.oneCell']) ?_; intro W8 hr8 ho8; refine (fun (h : Hid _) => h.out) ?_))
    refine Lib.hid ?_
    try simp only [Act.put, goInt, List.setIfInBounds_toArray, List.set_cons_zero, List.set_cons_succ]
    have HK8 := Lib.hid (show W8.heap[kb]? = some (.cells #[.slice A7 (j.l.length + 1) c7, .slice F1 j.q.length m1, .int .i64 j.g] 25 (0, 0)) from hr8.out)
    have HL8 := Lib.hid (ownsRow_only HL7.out ho8.out (fun k hk h => by simp at h; subst h; exact HN7.out hk))
    have HQ8 := Lib.hid (ownsRow_only HQ7.out ho8.out (fun k hk h => by simp at h; subst h; exact HNQ.out hk))
    have HY8 := Lib.hid (ho8.out.heap HY7.out (by simp; have := HWB.out; omega))
    have HW8 := Lib.hid (HW7.out.then ho8.out (fun k hk => .inr (by simp at hk; subst hk; have := HWB.out; have := HBB.out; omega)))
    clear HK7 HL7 HQ7 HY7 HW7 hr8 ho8
    go_wp2_with (first
      | (with_reducible refine wpList_load_at rfl 25 (.tmp 8) rfl ⟨kb, 0, none⟩ rfl _ _ (cellsAt_row HK8.out) Tryd.underlying25 rfl (by kernel_rfl) ?_)
      | (with_reducible refine wpList_store_new rfl 25 (.tmp 4) (.tmp 59) rfl (wb + 2) #[.slice A7 (j.l.length + 1) c7, .slice F1 j.q.length m1, .int .i64 j.g] rfl rfl 25 _ HY8.out (size3_25 _ _ _) rfl (by simp [Value.oneCell']) ?_; intro w9 hh9 ho9; have Hh9 := Lib.hid hh9.out; have Ho9 := Lib.hid ho9; clear hh9 ho9; refine (fun (h : Hid _) => h.out) ?_))
    refine Lib.hid ?_
    try simp only [Act.put, goInt, List.setIfInBounds_toArray, List.set_cons_zero, List.set_cons_succ]
    go_wp2
    have ho9 := Ho9.out
    refine bodyPost_ret (results_row rfl _ _ (wb + 2) _ _ _ _ rfl Hh9.out Tryd.underlying25 rfl (size3_25 _ _ _)) rfl ?_
    rw [HRR.out]
    have f2 := ownsRow_only HL8.out ho9 (fun k hk h => by simp at h; subst h; have := (ownsRow_lt HL8.out hk).1; have := HWB4.out; omega)
    have f3 := ownsRow_only HQ8.out ho9 (fun k hk h => by simp at h; subst h; have := (ownsRow_lt HQ8.out hk).1; have := HWB4.out; omega)
    rw [← eRow_one_more, ← hll] at f2
    refine ⟨_, rfl, ?_, (HW8.out.then ho9 (fun k hk => .inr (by simp at hk; subst hk; have := HBB.out; omega))).nil_below⟩
    show JR w9 _ _ (j.l ++ [e]) (j.q) j.g
    replace f3 := ownsRow_mono f3 HB4.out


    rw [← hll]
    exact ⟨A7, c7, F1, m1, rfl, ownsRow_mono f2 HB4.out, f3⟩
  · have hlt := placeB_lt hpb
    have hp1 : pr = (placeI j.q e.f1 : Int) := by rw [← HPR.out, hpb]; rfl
    subst hp1
    replace HRR := Lib.hid (HRR.out.trans (if_pos hpb))
    clear hpb HPR
    obtain ⟨i, hi⟩ : ∃ i, i = placeI j.q e.f1 := ⟨_, rfl⟩
    rw [← hi] at HRR hlt ⊢
    clear hi
    have hqb := HJ.out.2.1
    have hi0 : (0 : Int) ≤ i := by omega
    have hilt : (i : Int) < j.q.length := by omega
    rcases HQ.out.2 with ⟨_, hz⟩ | ⟨gq, cap, cur0, e0, hgb, hg0, hnc, hcm, hcs, htk⟩
    · omega
    injection e0 with e0 e1 e2
    subst e0 e2
    obtain ⟨cur, rfl⟩ : ∃ cur : List Value, cur0 = cur.toArray := ⟨cur0.toList, by simp⟩
    have htk2 : cur.take (j.q.length * 3) = qRow j.q := by simpa using htk
    have hcl : cur.length = m1 * 3 := by simpa using hcs
    have hsp := row_split cur j.q i hlt htk2
    have hset := fun v => (row_set cur j.q i hlt htk2 v).1
    have hrl : (qRow (j.q.take i)).length = i * 3 := by rw [qRow_length, List.length_take, Nat.min_eq_left (by omega)]
    have hc1 : W6.cell? ⟨gq, i * 3 + 1, none⟩ = some (.int .i64 (qAt j.q i).f1) := by
      rw [cell_of_row W6 gq _ _ _ _ hg0, List.getElem?_toArray, hsp, ← hrl, List.getElem?_append_right (by omega)]
      simp
    have hlf : 0 ≤ (qAt j.q i).f1 ∧ (qAt j.q i).f1 ≤ 40 := by
      have e : qAt j.q i = j.q[i] := by unfold qAt; simp [List.getD_eq_getElem?_getD, List.getElem?_eq_getElem hlt]
      rw [e]
      exact HLO.out _ (List.getElem_mem hlt)
    have HG := Lib.hid hg0
    have HCL := Lib.hid hcl
    have HSET := Lib.hid hset
    have HQB := Lib.hid hgb
    have HDM := Lib.hid hcm
    have HNC := Lib.hid hnc
    have HLF := Lib.hid (show lessAt j.q i = j.q.set i ⟨(qAt j.q i).f0, (qAt j.q i).f1 - 1, (qAt j.q i).f2⟩ from rfl)
    obtain ⟨hf0, hf9⟩ := hlf
    clear hsp hset hrl hcs htk htk2 hcl hg0 hgb hcm hnc e1
    generalize (qAt j.q i).f1 = lf at *
    have a1 : W6.cell? ⟨kb, 1, none⟩ = some (.slice (some ⟨gq, 0, none⟩) j.q.length m1) := (cell_of_row W6 kb 1 _ _ _ HK.out).trans rfl
    by_cases hful : lf = 0
    · have HR0 := Lib.hid (HRR.out.trans (if_pos hful))
      clear HRR
      subst hful
      go_wp2_with (first
        | (with_reducible refine wpList_store_new rfl 25 (.tmp 4) (.tmp 36) rfl (wb + 2) #[.slice none 0 0, .slice none 0 0, .int .i64 0] rfl rfl 25 _ HY.out (size3_25 _ _ _) rfl (by simp [Value.oneCell']) ?_; intro w9 hh9 ho9))
      refine bodyPost_ret (results_row rfl _ _ (wb + 2) _ _ _ _ rfl hh9.out Tryd.underlying25 rfl (size3_25 _ _ _)) rfl ?_
      rw [HR0.out]
      exact ⟨_, rfl, jr_zero _ _, (((HW.out.mono (T := [wb + 2]) (by simp)).trans ho9).pop (by rw [HBB.out]; omega)).nil_below⟩
    replace HRR := Lib.hid (HRR.out.trans (if_neg hful))
    have hfu2 : (lf == 0) = false := by rw [beq_eq_false_iff_ne]; exact hful
    go_wp2_with fail
    refine L.grow_start [] 12 ((0, true, false) :: (1, true, false) :: (2, true, false) :: (3, true, false) :: (4, true, false) :: (5, true, true) :: (6, true, true) :: (7, true, true) :: (8, true, true) :: (9, true, true) :: (10, true, true) :: (11, true, true) :: (12, false, true) :: []) (by kernel_rfl) (([], [8], some 37) :: ([0], [37], some 38) :: ([], [9], some 39) :: ([], [8], some 40) :: ([3], [40], some 41) :: ([], [9], some 42) :: ([4, 5], [41, 42], some 43) :: ([6], [43], some 44) :: ([7], [44], some 45) :: ([8], [45], some 46) :: ([1, 2, 0, 1, 2, 3, 4, 5, 6, 7, 8, 9], [38, 39], some 47) :: ([10, 0, 1, 2, 3, 4, 5, 6, 7, 8, 9], [47], some 48) :: ([11, 9, 0, 1, 2, 3, 4, 5, 6, 7, 8, 9], [48, 46], none) :: []) (by kernel_rfl) (by kernel_rfl) (n := 13) rfl (by kernel_rfl) (fun _ _ _ _ _ h => h) (fun wg hog => ?_)
    refine L.growe_start (N := 60) (by rfl) ?_
    have HOG := Lib.hid hog
    have g1 : ∀ w', Only [] wg w' → w'.cell? ⟨kb, 1, none⟩ = some (.slice (some ⟨gq, 0, none⟩) j.q.length m1) := fun w' k => (cell_of_row w' kb 1 _ _ _ ((hog.trans k).heap HK.out (by simp))).trans rfl
    have g2 : ∀ w', Only [] wg w' → w'.cell? ⟨gq, i * 3 + 1, none⟩ = some (.int .i64 lf) := fun w' k => (hog.trans k).cell hc1 (by simp)
    clear hog hc1 a1
    have hwr : IntKind.i64.wrap (lf - 1) = lf - 1 := wrap_pos (by omega) (by omega)
    iterate 12 (first | (refine L.ge_off rfl rfl rfl (by rfl) ?_) | (refine L.ge_move rfl rfl rfl (by rfl) rfl (by simp [L.evE, L.lk, Act.eval]; rfl) ?_) | (refine L.ge_pick rfl rfl rfl (by rfl) rfl (by simp [L.evE, L.lk, Act.eval]; rfl) (by simp [L.evE, L.lk, Act.eval]; rfl) ?_) | (refine L.ge_val rfl rfl rfl (by rfl) (by intro w' hw'; simp [execOp, L.evE, L.lk, Act.eval]; go_simp; rfl) ?_))
    refine ge_last_in rfl rfl (by rfl) _ (.tmp 48) (.tmp 46) rfl gq (i * 3 + 1) (.int .i64 (lf - 1)) (by simp [L.evE, L.lk, Act.eval]) (by simp [L.evE, L.lk, Act.eval, hwr]) [.int .i64 (lf - 1)] rfl 35 cur (HOG.out.heap HG.out (by simp)) (by kernel_rfl) (by rw [HCL.out]; have := HNC.out; simp; omega) (by simp [Value.oneCell']) ?_
    intro Wf hr7 ho7
    simp only [L.puts, Act.put, goInt, List.setIfInBounds_toArray, List.set_cons_zero, List.set_cons_succ]
    clear g1 g2 hwr
    have hkq : kb ∉ [gq] := fun h => HNQ.out (by simp at h; rw [h]; rfl)
    have hoo := HOG.out
    replace HE := Lib.hid (ho7.out.heap (hoo.heap HE.out (by simp)) (by have := HQB.out; have := HWB4.out; simp; omega))
    replace HY := Lib.hid (ho7.out.heap (hoo.heap HY.out (by simp)) (by have := HQB.out; have := HWB4.out; simp; omega))
    replace HK := Lib.hid (ho7.out.heap (hoo.heap HK.out (by simp)) hkq)
    replace HL := Lib.hid (ownsRow_only (ownsRow_only HL.out hoo (by simp)) ho7.out (fun k hk h => by simp at h; subst h; exact HLQ.out _ hk rfl))
    replace HW := Lib.hid ((HW.out.trans hoo).then ho7.out (fun k hk => .inr (by simp at hk; subst hk; have := HQB.out; have := HWB4.out; have := HBB.out; omega)))
    replace HS4 := Lib.hid (show W4.heap.size ≤ Wf.heap.size from Nat.le_trans HS4.out (Nat.le_trans hoo.size ho7.out.size))
    have hll0 : (lessAt j.q i).length = j.q.length := by unfold lessAt; rw [List.length_set]
    have HQn := Lib.hid (show Wf.ownsRow W4.heap.size 35 3 (.slice (some ⟨gq, 0, none⟩) j.q.length m1) j.q.length (qRow (lessAt j.q i)) from by
      refine ⟨by rw [qRow_length, hll0], .inr ⟨gq, m1, _, rfl, HQB.out, hr7.out, HNC.out, HDM.out, ?_, ?_⟩⟩
      · rw [List.size_toArray, length_splice _ _ _ (by rw [HCL.out]; have := HNC.out; simp; omega)]; exact HCL.out
      · show (splice cur (i * 3 + 1) [.int .i64 (lf - 1)]).take (j.q.length * 3) = _
        rw [HSET.out (lf - 1), HLF.out])
    clear HQ
    have HQ := HQn
    clear HQn hll0 hoo hkq hr7 ho7 HG HCL HSET HQB HDM HNC HLF HU0
    have hll : (j.l ++ [e]).length = j.l.length + 1 := by simp
    have k0 : Wf.cell? ⟨kb, 0, none⟩ = some (.slice F0 j.l.length m0) := (cell_of_row Wf kb 0 _ _ _ HK.out).trans rfl
    go_wp2_with (first
      | (with_reducible refine wpList_load_at rfl 27 (.tmp 3) rfl ⟨wb + 1, 0, none⟩ rfl _ _ (cellsAt_row HE.out) Tryd.underlying27 rfl (by kernel_rfl) ?_)
      | (with_reducible refine wpList_one rfl 22 (.tmp 55) rfl 27 Tryd.underlying22 (.agg #[.int .i64 0, .int .i64 0, .int .i64 0, .string ⟨#[]⟩, .int .i64 0, .int .i64 0]) 6 56 info27 (by omega) (by omega) (.agg #[.int .i64 e.f0, .int .i64 e.f1, .int .i64 e.f2, .string e.f3, .int .i64 e.f4, .int .i64 e.f5]) rfl #[.int .i64 e.f0, .int .i64 e.f1, .int .i64 e.f2, .string e.f3, .int .i64 e.f4, .int .i64 e.f5] (fill_one6 (.agg #[.int .i64 0, .int .i64 0, .int .i64 0, .string ⟨#[]⟩, .int .i64 0, .int .i64 0]) _ _ _ _ _ _ rfl rfl) ?_; refine (fun (h : Hid _) => h.out) ?_))
    refine Lib.hid ?_
    try simp only [Act.put, goInt, List.setIfInBounds_toArray, List.set_cons_zero, List.set_cons_succ]
    clear k0
    have hal : Only [] Wf (Wf.alloc (.cells #[.int .i64 e.f0, .int .i64 e.f1, .int .i64 e.f2, .string e.f3, .int .i64 e.f4, .int .i64 e.f5] 27)) := (Only.refl [] Wf).alloc _
    have HNE := Lib.hid (heap_alloc_new Wf (.cells #[.int .i64 e.f0, .int .i64 e.f1, .int .i64 e.f2, .string e.f3, .int .i64 e.f4, .int .i64 e.f5] 27))
    replace HK := Lib.hid (hal.heap HK.out (by simp))
    replace HL := Lib.hid (ownsRow_only HL.out hal (by simp))
    replace HQ := Lib.hid (ownsRow_only HQ.out hal (by simp))
    replace HY := Lib.hid (hal.heap HY.out (by simp))
    replace HW := Lib.hid (HW.out.trans hal)
    have HSZ := Lib.hid (show W4.heap.size ≤ (Wf.alloc (.cells #[.int .i64 e.f0, .int .i64 e.f1, .int .i64 e.f2, .string e.f3, .int .i64 e.f4, .int .i64 e.f5] 27)).heap.size from Nat.le_trans HS4.out hal.size)
    clear hal HE
    generalize Wf.alloc (.cells #[.int .i64 e.f0, .int .i64 e.f1, .int .i64 e.f2, .string e.f3, .int .i64 e.f4, .int .i64 e.f5] 27) = Wa at *
    generalize Wf.heap.size = nb at *
    go_wp2_with (first
      | (at_builtin; refine wpList_append_row rfl _ _ 22 rfl W4.heap.size 27 6 56 (.agg #[.int .i64 0, .int .i64 0, .int .i64 0, .string ⟨#[]⟩, .int .i64 0, .int .i64 0]) Tryd.underlying22 info27 rfl (by omega) (.slice F0 j.l.length m0) j.l.length (eRow j.l) rfl HL.out (some ⟨nb, 0, none⟩) 1 1 [.int .i64 e.f0, .int .i64 e.f1, .int .i64 e.f2, .string e.f3, .int .i64 e.f4, .int .i64 e.f5] rfl rfl (fun _ => ⟨_, rfl, cellsAt_row HNE.out⟩) (by simp [Value.oneCell']) (by have := HJ.out.1; unfold maxLen; omega) (by have := HJ.out.1; omega) HSZ.out ?_; intro A7 c7 W7 h2 h3 h4; have H2 := Lib.hid h2; have H3 := Lib.hid h3; have H4 := Lib.hid h4; clear h2 h3 h4; refine (fun (h : Hid _) => h.out) ?_))
    refine Lib.hid ?_
    try simp only [Act.put, goInt, List.setIfInBounds_toArray, List.set_cons_zero, List.set_cons_succ]
    have hml : ∀ k, k ∈ (Value.slice F0 j.l.length m0).ownBlock.toList → (Value.slice F0 j.l.length m0).ownBlock = some k := fun k hk => by simpa using hk
    have HL7 := Lib.hid H2.out
    have HQ7 := Lib.hid (ownsRow_only HQ.out H3.out (fun k hk h => HLQ.out k (hml _ h) hk))
    have HK7 := Lib.hid (H3.out.heap HK.out (fun h => HNL.out (hml _ h)))
    have HY7 := Lib.hid (H3.out.heap HY.out (fun h => by have := (ownsRow_lt HL.out (hml _ h)).1; have := HWB4.out; omega))
    have HW7 := Lib.hid (HW.out.then H3.out (fun k hk => .inr (by have := (ownsRow_lt HL.out (hml _ hk)).1; have := HWB4.out; have := HBB.out; omega)))
    have HN7 := Lib.hid (show (Value.slice A7 (j.l.length + 1) c7).ownBlock ≠ some kb from fun h => by
      rcases H4.out kb h with h' | h'
      · exact HNL.out h'
      · have := heap_lt HK.out; omega)
    clear hml H2 H3 H4 HK HL HQ HY HW HNE HSZ
    go_wp2_with (first
      | (with_reducible refine wpList_store_in rfl 22 (.tmp 58) (.tmp 57) rfl kb 0 _ rfl rfl [.slice A7 (j.l.length + 1) c7] rfl 25 [.slice F0 j.l.length m0, .slice (some ⟨gq, 0, none⟩) j.q.length m1, .int .i64 j.g] HK7.out (by kernel_rfl) (by simp) (by simp [Value.oneCell']) ?_; intro W8 hr8 ho8; refine (fun (h : Hid _) => h.out) ?_))
    refine Lib.hid ?_
    try simp only [Act.put, goInt, List.setIfInBounds_toArray, List.set_cons_zero, List.set_cons_succ]
    have HK8 := Lib.hid (show W8.heap[kb]? = some (.cells #[.slice A7 (j.l.length + 1) c7, .slice (some ⟨gq, 0, none⟩) j.q.length m1, .int .i64 j.g] 25 (0, 0)) from hr8.out)
    have HL8 := Lib.hid (ownsRow_only HL7.out ho8.out (fun k hk h => by simp at h; subst h; exact HN7.out hk))
    have HQ8 := Lib.hid (ownsRow_only HQ7.out ho8.out (fun k hk h => by simp at h; subst h; exact HNQ.out hk))
    have HY8 := Lib.hid (ho8.out.heap HY7.out (by simp; have := HWB.out; omega))
    have HW8 := Lib.hid (HW7.out.then ho8.out (fun k hk => .inr (by simp at hk; subst hk; have := HWB.out; have := HBB.out; omega)))
    clear HK7 HL7 HQ7 HY7 HW7 hr8 ho8
    go_wp2_with (first
      | (with_reducible refine wpList_load_at rfl 25 (.tmp 8) rfl ⟨kb, 0, none⟩ rfl _ _ (cellsAt_row HK8.out) Tryd.underlying25 rfl (by kernel_rfl) ?_)
      | (with_reducible refine wpList_store_new rfl 25 (.tmp 4) (.tmp 59) rfl (wb + 2) #[.slice A7 (j.l.length + 1) c7, .slice (some ⟨gq, 0, none⟩) j.q.length m1, .int .i64 j.g] rfl rfl 25 _ HY8.out (size3_25 _ _ _) rfl (by simp [Value.oneCell']) ?_; intro w9 hh9 ho9; have Hh9 := Lib.hid hh9.out; have Ho9 := Lib.hid ho9; clear hh9 ho9; refine (fun (h : Hid _) => h.out) ?_))
    refine Lib.hid ?_
    try simp only [Act.put, goInt, List.setIfInBounds_toArray, List.set_cons_zero, List.set_cons_succ]
    go_wp2
    have ho9 := Ho9.out
    refine bodyPost_ret (results_row rfl _ _ (wb + 2) _ _ _ _ rfl Hh9.out Tryd.underlying25 rfl (size3_25 _ _ _)) rfl ?_
    rw [HRR.out]
    have f2 := ownsRow_only HL8.out ho9 (fun k hk h => by simp at h; subst h; have := (ownsRow_lt HL8.out hk).1; have := HWB4.out; omega)
    have f3 := ownsRow_only HQ8.out ho9 (fun k hk h => by simp at h; subst h; have := (ownsRow_lt HQ8.out hk).1; have := HWB4.out; omega)
    rw [← eRow_one_more, ← hll] at f2
    refine ⟨_, rfl, ?_, (HW8.out.then ho9 (fun k hk => .inr (by simp at hk; subst hk; have := HBB.out; omega))).nil_below⟩
    show JR w9 _ _ (j.l ++ [e]) (lessAt j.q i) j.g
    replace f3 := ownsRow_mono f3 HB4.out
    have hlq : j.q.length = (lessAt j.q i).length := by unfold lessAt; rw [List.length_set]
    rw [hlq] at f3 ⊢
    rw [← hll]
    exact ⟨A7, c7, (some ⟨gq, 0, none⟩), m1, rfl, ownsRow_mono f2 HB4.out, f3⟩
end Go.Proofs.YtghpmpjoedbpcaaDoor.Print
/-! ### JRNote -/
namespace Go.Proofs.YtghpmpjoedbpcaaDoor.Print
open Go.RowKit Go.Proofs.YtghpmpjoedbpcaaDoorW.PrintWords Go.Proofs.YtghpmpjoedbpcaaDoorW.PrintLast Go.Proofs.YtghpmpjoedbpcaaDoorW.PrintMore
set_option linter.unusedSimpArgs false
set_option linter.unusedVariables false
set_option maxHeartbeats 8000000 in
set_option maxRecDepth 100000 in
theorem rnote_calls (A0 : Option Addr) (c0 : Nat) (A1 : Option Addr) (c1 : Nat) (j : Jn) (e : S27) (w : World) (h0 : j.l.length ≤ c0 ∧ Kd.C k27 w A0 j.l.length j.l) (h1 : j.q.length ≤ c1 ∧ Kd.C k35 w A1 j.q.length j.q) (hj : Lt j) (he : e.f3.size ≤ 200) :
    Calls Tryd.prog 24 #[.agg #[.slice A0 j.l.length c0, .slice A1 j.q.length c1, .int .i64 j.g], .agg #[.int .i64 e.f0, .int .i64 e.f1, .int .i64 e.f2, .string e.f3, .int .i64 e.f4, .int .i64 e.f5]] w fun x w' => ∃ v, x = .returned (.tuple #[v, .int .i64 (noteJ j e).2]) ∧ JR w' w.heap.size v (noteJ j e).1.l (noteJ j e).1.q (noteJ j e).1.g ∧ Below w.heap.size w w' := by
  obtain ⟨R, hR⟩ : ∃ R, R = noteJ j e := ⟨_, rfl⟩
  rw [← hR]
  have HRR := Lib.hid hR
  have HA := Lib.hid h0
  have HB := Lib.hid h1
  have HJ := Lib.hid hj
  have HES := Lib.hid he
  clear hR h0 h1 hj he
  go_enter Tryd.func24, Tryd.ntmps24
  go_wp2_with (go_at_call 23; refine (fun (h : Hid _) => h.out) ?_)
  refine Lib.hid ?_
  have HX0 := Lib.hid (show (((w.alloc (.cells #[.slice A0 j.l.length c0, .slice A1 j.q.length c1, .int .i64 j.g] 25)).alloc (.cells #[.int .i64 e.f0, .int .i64 e.f1, .int .i64 e.f2, .string e.f3, .int .i64 e.f4, .int .i64 e.f5] 27)).alloc (.cells #[.slice none 0 0, .slice none 0 0, .int .i64 0] 25)).heap[w.heap.size]? = some (.cells #[.slice A0 j.l.length c0, .slice A1 j.q.length c1, .int .i64 j.g] 25 (0, 0)) from (Below.heap_alloc _ _ _ (by simp; omega)).trans ((Below.heap_alloc _ _ _ (by simp)).trans (heap_alloc_new _ _)))
  have HX1 := Lib.hid (show (((w.alloc (.cells #[.slice A0 j.l.length c0, .slice A1 j.q.length c1, .int .i64 j.g] 25)).alloc (.cells #[.int .i64 e.f0, .int .i64 e.f1, .int .i64 e.f2, .string e.f3, .int .i64 e.f4, .int .i64 e.f5] 27)).alloc (.cells #[.slice none 0 0, .slice none 0 0, .int .i64 0] 25)).heap[w.heap.size + 1]? = some (.cells #[.int .i64 e.f0, .int .i64 e.f1, .int .i64 e.f2, .string e.f3, .int .i64 e.f4, .int .i64 e.f5] 27 (0, 0)) from by
    have := heap_alloc_new (w.alloc (.cells #[.slice A0 j.l.length c0, .slice A1 j.q.length c1, .int .i64 j.g] 25)) (.cells #[.int .i64 e.f0, .int .i64 e.f1, .int .i64 e.f2, .string e.f3, .int .i64 e.f4, .int .i64 e.f5] 27)
    rw [show (w.alloc (.cells #[.slice A0 j.l.length c0, .slice A1 j.q.length c1, .int .i64 j.g] 25)).heap.size = w.heap.size + 1 by simp] at this
    exact (Below.heap_alloc _ _ _ (by simp)).trans this)
  have HX2 := Lib.hid (show (((w.alloc (.cells #[.slice A0 j.l.length c0, .slice A1 j.q.length c1, .int .i64 j.g] 25)).alloc (.cells #[.int .i64 e.f0, .int .i64 e.f1, .int .i64 e.f2, .string e.f3, .int .i64 e.f4, .int .i64 e.f5] 27)).alloc (.cells #[.slice none 0 0, .slice none 0 0, .int .i64 0] 25)).heap[w.heap.size + 2]? = some (.cells #[.slice none 0 0, .slice none 0 0, .int .i64 0] 25 (0, 0)) from by
    have := heap_alloc_new ((w.alloc (.cells #[.slice A0 j.l.length c0, .slice A1 j.q.length c1, .int .i64 j.g] 25)).alloc (.cells #[.int .i64 e.f0, .int .i64 e.f1, .int .i64 e.f2, .string e.f3, .int .i64 e.f4, .int .i64 e.f5] 27)) (.cells #[.slice none 0 0, .slice none 0 0, .int .i64 0] 25)
    rw [show ((w.alloc (.cells #[.slice A0 j.l.length c0, .slice A1 j.q.length c1, .int .i64 j.g] 25)).alloc (.cells #[.int .i64 e.f0, .int .i64 e.f1, .int .i64 e.f2, .string e.f3, .int .i64 e.f4, .int .i64 e.f5] 27)).heap.size = w.heap.size + 2 by simp] at this
    exact this)
  have HO0 := Lib.hid ((((Only.refl [] w).alloc (.cells #[.slice A0 j.l.length c0, .slice A1 j.q.length c1, .int .i64 j.g] 25)).alloc (.cells #[.int .i64 e.f0, .int .i64 e.f1, .int .i64 e.f2, .string e.f3, .int .i64 e.f4, .int .i64 e.f5] 27)).alloc (.cells #[.slice none 0 0, .slice none 0 0, .int .i64 0] 25))
  generalize (((w.alloc (.cells #[.slice A0 j.l.length c0, .slice A1 j.q.length c1, .int .i64 j.g] 25)).alloc (.cells #[.int .i64 e.f0, .int .i64 e.f1, .int .i64 e.f2, .string e.f3, .int .i64 e.f4, .int .i64 e.f5] 27)).alloc (.cells #[.slice none 0 0, .slice none 0 0, .int .i64 0] 25)) = W0 at *
  generalize hb : w.heap.size = wb at *
  have HBB := Lib.hid hb
  clear hb
  refine (radd_calls A0 c0 A1 c1 j e W0 ⟨HA.out.1, Kd.C_below HA.out.2 HO0.out.nil_below⟩ ⟨HB.out.1, Kd.C_below HB.out.2 HO0.out.nil_below⟩ HJ.out HES.out).mono ?_
  rintro x W4 ⟨v4, rfl, hjr, hb4⟩
  unfold noteJ at HRR
  have HFU := Lib.hid (fun h => add_full (j := j) (e := e) h)
  generalize addJ j e = RA at *
  obtain ⟨R1, f⟩ := RA
  have hjr2 : JR W4 W0.heap.size v4 R1.l R1.q R1.g := hjr
  obtain ⟨G0, n0, G1, n1, rfl, q0, q1⟩ := hjr2
  have hal : Only [] W4 (W4.alloc (.cells #[.slice G0 R1.l.length n0, .slice G1 R1.q.length n1, .int .i64 R1.g] 25)) := (Only.refl [] W4).alloc _
  have hoo := (Only.of_below hb4).trans hal
  have HZ0 := Lib.hid (hoo.heap HX0.out (by simp))
  have HZ1 := Lib.hid (hoo.heap HX1.out (by simp))
  have HZ2 := Lib.hid (hoo.heap HX2.out (by simp))
  have HW4 := Lib.hid (HO0.out.trans hoo)
  have HK4 := Lib.hid (heap_alloc_new W4 (.cells #[.slice G0 R1.l.length n0, .slice G1 R1.q.length n1, .int .i64 R1.g] 25))
  have HL4 := Lib.hid (ownsRow_only q0 hal (by simp))
  have HQ4 := Lib.hid (ownsRow_only q1 hal (by simp))
  have HWB := Lib.hid (show wb + 2 < W0.heap.size from heap_lt HX2.out)
  have HWK := Lib.hid (show W0.heap.size ≤ W4.heap.size from (Only.of_below hb4).size)
  have HS4 := Lib.hid (heap_lt HK4.out)
  have HBW := Lib.hid (show w.heap.size ≤ W0.heap.size from HO0.out.size)
  clear hal hoo q0 q1 hjr hb4 HX0 HX1 HX2 HO0
  have HFU2 : Hid (f = 180 → rightJ j.l j.q j.g = true ∧ strangeB e = false) := HFU
  have HRR2 : Hid (R = (if f = 180 then (if placeB j.q e.f1 = true then (⟨j.l, lostAt j.q (placeI j.q e.f1), j.g⟩, 0) else (j, 0)) else (R1, f))) := HRR
  clear HRR HFU
  by_cases hf : f = 180
  rotate_left
  · have HRR := Lib.hid (HRR2.out.trans (if_neg hf))
    have hf2 : (f == 180) = false := by rw [beq_eq_false_iff_ne]; exact hf
    clear HRR2 HFU2
    go_wp2_with (first
      | (with_reducible refine wpList_load_at rfl 25 (.tmp 6) rfl ⟨W4.heap.size, 0, none⟩ rfl _ _ (cellsAt_row HK4.out) Tryd.underlying25 rfl (by kernel_rfl) ?_)
      | (with_reducible refine wpList_store_new rfl 25 (.tmp 4) (.tmp 17) rfl (wb + 2) #[.slice G0 R1.l.length n0, .slice G1 R1.q.length n1, .int .i64 R1.g] rfl rfl 25 _ HZ2.out (size3_25 _ _ _) rfl (by simp [Value.oneCell']) ?_; intro w9 hh9 ho9; have Hh9 := Lib.hid hh9.out; have Ho9 := Lib.hid ho9; clear hh9 ho9; refine (fun (h : Hid _) => h.out) ?_))
    refine Lib.hid ?_
    try simp only [Act.put, goInt, List.setIfInBounds_toArray, List.set_cons_zero, List.set_cons_succ]
    go_wp2
    have ho9 := Ho9.out
    refine bodyPost_ret (results_row rfl _ _ (wb + 2) _ _ _ _ rfl Hh9.out Tryd.underlying25 rfl (size3_25 _ _ _)) rfl ?_
    rw [HRR.out]
    have f2 := ownsRow_only HL4.out ho9 (fun k hk h => by simp at h; subst h; have := (ownsRow_lt HL4.out hk).1; have := HWB.out; omega)
    have f3 := ownsRow_only HQ4.out ho9 (fun k hk h => by simp at h; subst h; have := (ownsRow_lt HQ4.out hk).1; have := HWB.out; omega)
    exact ⟨_, rfl, ⟨G0, n0, G1, n1, rfl, ownsRow_mono f2 HBW.out, ownsRow_mono f3 HBW.out⟩, (HW4.out.then ho9 (fun k hk => .inr (by simp at hk; subst hk; have := HBB.out; omega))).nil_below⟩
  subst hf
  have HRR := Lib.hid (HRR2.out.trans (if_pos rfl))
  obtain ⟨hr, hs⟩ := HFU2.out rfl
  obtain ⟨hL, hBt, hRi, hG, hU, hE9, hOd⟩ := right_parts hr
  have HRI := Lib.hid ((rising_pair j.q).1 hRi)
  have HLO := Lib.hid (odd_lost hOd)
  clear hBt hRi hG hU hE9 hOd hs hL hr HRR2 HFU2 HL4 HQ4
  go_wp2_with (first
    | (with_reducible refine wpList_load_at rfl 25 (.tmp 2) rfl ⟨wb, 0, none⟩ rfl _ _ (cellsAt_row HZ0.out) Tryd.underlying25 rfl (by kernel_rfl) ?_)
    | (go_at_call 42; refine (fun (h : Hid _) => h.out) ?_))
  refine Lib.hid ?_
  generalize W4.alloc (.cells #[.slice G0 R1.l.length n0, .slice G1 R1.q.length n1, .int .i64 R1.g] 25) = W5 at *
  generalize W4.heap.size = kb at *
  refine (copied_calls A0 c0 A1 c1 j W5 ⟨HA.out.1, Kd.C_below HA.out.2 HW4.out.nil_below⟩ ⟨HB.out.1, Kd.C_below HB.out.2 HW4.out.nil_below⟩ (by have := HJ.out.1; omega) (by have := HJ.out.2.1; omega)).mono ?_
  rintro x W6 ⟨v6, rfl, hjr, hb6⟩
  obtain ⟨F0, m0, F1, m1, rfl, q0, q1⟩ := hjr
  have h6 := Only.of_below hb6
  have HV0 := Lib.hid (h6.heap HZ0.out (by simp))
  have HV1 := Lib.hid (h6.heap HZ1.out (by simp))
  have HV2 := Lib.hid (h6.heap HZ2.out (by simp))
  have HK6 := Lib.hid (h6.heap HK4.out (by simp))
  have HL6 := Lib.hid q0
  have HQ6 := Lib.hid q1
  have HW6 := Lib.hid (HW4.out.trans h6)
  have HB5 := Lib.hid (show w.heap.size ≤ W5.heap.size from HW4.out.size)
  have HNQ := Lib.hid (show (Value.slice F1 j.q.length m1).ownBlock ≠ some kb from fun h => by have := (ownsRow_lt q1 h).1; have := HS4.out; omega)
  have HNL := Lib.hid (show (Value.slice F0 j.l.length m0).ownBlock ≠ some kb from fun h => by have := (ownsRow_lt q0 h).1; have := HS4.out; omega)
  have HLQ := Lib.hid (show ∀ k, (Value.slice F0 j.l.length m0).ownBlock = some k → (Value.slice F1 j.q.length m1).ownBlock ≠ some k from fun k hk hk' => by
    rcases q0.2 with ⟨h, _⟩ | ⟨g0, p0, u0, h, _, hg0, _⟩
    · rw [h] at hk; cases hk
    · rw [h] at hk
      rcases q1.2 with ⟨h', _⟩ | ⟨g1, p1, u1, h', _, hg1, _⟩
      · rw [h'] at hk'; cases hk'
      · rw [h'] at hk'
        simp [Value.ownBlock] at hk hk'
        subst hk hk'
        rw [hg0] at hg1
        injection hg1 with hg1
        injection hg1 with _ h2 _
        exact absurd h2 (by decide))
  have HWB0 : Hid (wb + 2 < W0.heap.size) := HWB
  replace HWB := Lib.hid (show wb + 2 < W5.heap.size from heap_lt HZ2.out)
  clear h6 q0 q1 hb6 HZ0 HZ1 HZ2 HK4 HW4
  go_wp2_with (first
    | (with_reducible refine wpList_store_new rfl 25 (.tmp 6) (.tmp 20) rfl kb #[.slice F0 j.l.length m0, .slice F1 j.q.length m1, .int .i64 j.g] rfl rfl 25 _ HK6.out (size3_25 _ _ _) rfl (by simp [Value.oneCell']) ?_; intro W7 hh7 ho7; have Hh7 := Lib.hid hh7.out; have Ho7 := Lib.hid ho7; clear hh7 ho7; refine (fun (h : Hid _) => h.out) ?_))
  refine Lib.hid ?_
  try simp only [Act.put, goInt, List.setIfInBounds_toArray, List.set_cons_zero, List.set_cons_succ]
  have HKW := Lib.hid (show wb + 2 < kb from by have := HWK.out; have := HWB0.out; omega)
  have HU0 := Lib.hid (Ho7.out.heap HV0.out (by have := HKW.out; simp; omega))
  have HU1 := Lib.hid (Ho7.out.heap HV1.out (by have := HKW.out; simp; omega))
  have HU2 := Lib.hid (Ho7.out.heap HV2.out (by have := HKW.out; simp; omega))
  have HL7 := Lib.hid (ownsRow_only HL6.out Ho7.out (fun k hk h => by simp at h; subst h; exact HNL.out hk))
  have HQ7 := Lib.hid (ownsRow_only HQ6.out Ho7.out (fun k hk h => by simp at h; subst h; exact HNQ.out hk))
  have HW7 := Lib.hid (HW6.out.then Ho7.out (fun k hk => .inr (by simp at hk; subst hk; have := HKW.out; have := HBB.out; omega)))
  clear HV0 HV1 HV2 HL6 HQ6 HW6 HK6 Ho7
  have HPL := Lib.hid (malthouseref18_Place.calls 10000 A0 c0 j.l A1 c1 j.q j.g e.f1 _ W7 (Kd.C_below HA.out.2 HW7.out.nil_below) HA.out.1 (Kd.C_below HB.out.2 HW7.out.nil_below) HB.out.1 (ref_place_is j.l j.q j.g e.f1 10000 HJ.out.2.1 HRI.out (by omega)))
  generalize hpr : (if placeB j.q e.f1 = true then (placeI j.q e.f1 : Int) else -1) = pr at *
  have HPR := Lib.hid hpr
  clear hpr
  have y1 : W7.cell? ⟨wb + 1, 1, none⟩ = some (.int .i64 e.f1) := (cell_of_row _ (wb + 1) 1 _ _ _ HU1.out).trans rfl
  go_wp2_with (first
    | (with_reducible refine wpList_load_at rfl 25 (.tmp 2) rfl ⟨wb, 0, none⟩ rfl _ _ (cellsAt_row HU0.out) Tryd.underlying25 rfl (by kernel_rfl) ?_)
    | (go_at_call 40; refine HPL.out.mono ?_; rintro x W8 ⟨rfl, hb8⟩; refine (fun (h : Hid _) => h.out) ?_))
  refine Lib.hid ?_
  clear y1
  have h8 := Only.of_below hb8
  have HY := Lib.hid (h8.heap HU2.out (by simp))
  have HK := Lib.hid (h8.heap Hh7.out (by simp))
  have HL := Lib.hid (ownsRow_only HL7.out h8 (by simp))
  have HQ := Lib.hid (ownsRow_only HQ7.out h8 (by simp))
  have HW := Lib.hid (HW7.out.trans h8)
  clear h8 hb8 HU0 HU1 HU2 HL7 HQ7 HW7 Hh7 HPL
  cases hpb : placeB j.q e.f1
  · have hp1 : pr = -1 := by rw [← HPR.out, hpb]; rfl
    subst hp1
    replace HRR := Lib.hid (HRR.out.trans (if_neg (by rw [hpb]; simp)))
    clear hpb
    go_wp2_with (first
      | (with_reducible refine wpList_load_at rfl 25 (.tmp 6) rfl ⟨kb, 0, none⟩ rfl _ _ (cellsAt_row HK.out) Tryd.underlying25 rfl (by kernel_rfl) ?_)
      | (with_reducible refine wpList_store_new rfl 25 (.tmp 4) (.tmp 48) rfl (wb + 2) #[.slice F0 j.l.length m0, .slice F1 j.q.length m1, .int .i64 j.g] rfl rfl 25 _ HY.out (size3_25 _ _ _) rfl (by simp [Value.oneCell']) ?_; intro w9 hh9 ho9; have Hh9 := Lib.hid hh9.out; have Ho9 := Lib.hid ho9; clear hh9 ho9; refine (fun (h : Hid _) => h.out) ?_))
    refine Lib.hid ?_
    try simp only [Act.put, goInt, List.setIfInBounds_toArray, List.set_cons_zero, List.set_cons_succ]
    go_wp2
    have ho9 := Ho9.out
    refine bodyPost_ret (results_row rfl _ _ (wb + 2) _ _ _ _ rfl Hh9.out Tryd.underlying25 rfl (size3_25 _ _ _)) rfl ?_
    rw [HRR.out]
    have f2 := ownsRow_only HL.out ho9 (fun k hk h => by simp at h; subst h; have := (ownsRow_lt HL.out hk).1; have := HWB.out; omega)
    have f3 := ownsRow_only HQ.out ho9 (fun k hk h => by simp at h; subst h; have := (ownsRow_lt HQ.out hk).1; have := HWB.out; omega)
    refine ⟨_, rfl, ?_, (HW.out.then ho9 (fun k hk => .inr (by simp at hk; subst hk; have := HBB.out; omega))).nil_below⟩
    show JR w9 _ _ j.l (j.q) j.g
    replace f2 := ownsRow_mono f2 HB5.out
    replace f3 := ownsRow_mono f3 HB5.out


    exact ⟨F0, m0, F1, m1, rfl, f2, f3⟩
  · have hlt := placeB_lt hpb
    have hp1 : pr = (placeI j.q e.f1 : Int) := by rw [← HPR.out, hpb]; rfl
    subst hp1
    replace HRR := Lib.hid (HRR.out.trans (if_pos hpb))
    clear hpb HPR
    obtain ⟨i, hi⟩ : ∃ i, i = placeI j.q e.f1 := ⟨_, rfl⟩
    rw [← hi] at HRR hlt ⊢
    clear hi
    have hqb := HJ.out.2.1
    have hi0 : (0 : Int) ≤ i := by omega
    have hilt : (i : Int) < j.q.length := by omega
    rcases HQ.out.2 with ⟨_, hz⟩ | ⟨gq, cap, cur0, e0, hgb, hg0, hnc, hcm, hcs, htk⟩
    · omega
    injection e0 with e0 e1 e2
    subst e0 e2
    obtain ⟨cur, rfl⟩ : ∃ cur : List Value, cur0 = cur.toArray := ⟨cur0.toList, by simp⟩
    have htk2 : cur.take (j.q.length * 3) = qRow j.q := by simpa using htk
    have hcl : cur.length = m1 * 3 := by simpa using hcs
    have hsp := row_split cur j.q i hlt htk2
    have hset := fun v => (row_set cur j.q i hlt htk2 v).2
    have hrl : (qRow (j.q.take i)).length = i * 3 := by rw [qRow_length, List.length_take, Nat.min_eq_left (by omega)]
    have hc1 : W8.cell? ⟨gq, i * 3 + 2, none⟩ = some (.int .i64 (qAt j.q i).f2) := by
      rw [cell_of_row W8 gq _ _ _ _ hg0, List.getElem?_toArray, hsp, ← hrl, List.getElem?_append_right (by omega)]
      simp
    have hlf : 0 ≤ (qAt j.q i).f2 ∧ (qAt j.q i).f2 ≤ 1099511627776 := by
      have e : qAt j.q i = j.q[i] := by unfold qAt; simp [List.getD_eq_getElem?_getD, List.getElem?_eq_getElem hlt]
      rw [e]
      exact HLO.out _ (List.getElem_mem hlt)
    have HG := Lib.hid hg0
    have HCL := Lib.hid hcl
    have HSET := Lib.hid hset
    have HQB := Lib.hid hgb
    have HDM := Lib.hid hcm
    have HNC := Lib.hid hnc
    have HLF := Lib.hid (show lostAt j.q i = j.q.set i ⟨(qAt j.q i).f0, (qAt j.q i).f1, mn ((qAt j.q i).f2 + 1) 1099511627776⟩ from rfl)
    have HSAME := Lib.hid (show (qAt j.q i).f2 = 1099511627776 → lostAt j.q i = j.q from fun h => by
      have e : qAt j.q i = j.q[i] := by unfold qAt; simp [List.getD_eq_getElem?_getD, List.getElem?_eq_getElem hlt]
      have hm : mn ((qAt j.q i).f2 + 1) 1099511627776 = (qAt j.q i).f2 := by rw [h]; rfl
      unfold lostAt
      rw [hm, e]
      exact List.set_getElem_self hlt)
    obtain ⟨hf0, hf9⟩ := hlf
    clear hsp hset hrl hcs htk htk2 hcl hg0 hgb hcm hnc e1
    generalize (qAt j.q i).f2 = lf at *
    have a1 : W8.cell? ⟨kb, 1, none⟩ = some (.slice (some ⟨gq, 0, none⟩) j.q.length m1) := (cell_of_row W8 kb 1 _ _ _ HK.out).trans rfl
    by_cases hful : lf = 1099511627776
    · rw [HSAME.out hful] at HRR
      subst hful
      go_wp2_with (first
        | (with_reducible refine wpList_load_at rfl 25 (.tmp 6) rfl ⟨kb, 0, none⟩ rfl _ _ (cellsAt_row HK.out) Tryd.underlying25 rfl (by kernel_rfl) ?_)
        | (with_reducible refine wpList_store_new rfl 25 (.tmp 4) (.tmp 48) rfl (wb + 2) #[.slice F0 j.l.length m0, .slice (some ⟨gq, 0, none⟩) j.q.length m1, .int .i64 j.g] rfl rfl 25 _ HY.out (size3_25 _ _ _) rfl (by simp [Value.oneCell']) ?_; intro w9 hh9 ho9; have Hh9 := Lib.hid hh9.out; have Ho9 := Lib.hid ho9; clear hh9 ho9; refine (fun (h : Hid _) => h.out) ?_))
      refine Lib.hid ?_
      try simp only [Act.put, goInt, List.setIfInBounds_toArray, List.set_cons_zero, List.set_cons_succ]
      go_wp2
      have ho9 := Ho9.out
      refine bodyPost_ret (results_row rfl _ _ (wb + 2) _ _ _ _ rfl Hh9.out Tryd.underlying25 rfl (size3_25 _ _ _)) rfl ?_
      rw [HRR.out]
      have f2 := ownsRow_only HL.out ho9 (fun k hk h => by simp at h; subst h; have := (ownsRow_lt HL.out hk).1; have := HWB.out; omega)
      have f3 := ownsRow_only HQ.out ho9 (fun k hk h => by simp at h; subst h; have := (ownsRow_lt HQ.out hk).1; have := HWB.out; omega)
      refine ⟨_, rfl, ?_, (HW.out.then ho9 (fun k hk => .inr (by simp at hk; subst hk; have := HBB.out; omega))).nil_below⟩
      show JR w9 _ _ j.l (j.q) j.g
      replace f2 := ownsRow_mono f2 HB5.out
      replace f3 := ownsRow_mono f3 HB5.out


      exact ⟨F0, m0, (some ⟨gq, 0, none⟩), m1, rfl, f2, f3⟩
    have hlt9 : lf < 1099511627776 := by omega
    go_wp2_with fail
    refine L.grow_start [] 12 ((0, true, false) :: (1, true, false) :: (2, true, false) :: (3, true, false) :: (4, true, false) :: (5, true, true) :: (6, true, true) :: (7, true, true) :: (8, true, true) :: (9, true, true) :: (10, true, true) :: (11, true, true) :: (12, false, true) :: []) (by kernel_rfl) (([], [6], some 36) :: ([0], [36], some 37) :: ([], [8], some 38) :: ([], [6], some 39) :: ([3], [39], some 40) :: ([], [8], some 41) :: ([4, 5], [40, 41], some 42) :: ([6], [42], some 43) :: ([7], [43], some 44) :: ([8], [44], some 45) :: ([1, 2, 0, 1, 2, 3, 4, 5, 6, 7, 8, 9], [37, 38], some 46) :: ([10, 0, 1, 2, 3, 4, 5, 6, 7, 8, 9], [46], some 47) :: ([11, 9, 0, 1, 2, 3, 4, 5, 6, 7, 8, 9], [47, 45], none) :: []) (by kernel_rfl) (by kernel_rfl) (n := 13) rfl (by kernel_rfl) (fun _ _ _ _ _ h => h) (fun wg hog => ?_)
    refine L.growe_start (N := 49) (by rfl) ?_
    have HOG := Lib.hid hog
    have g1 : ∀ w', Only [] wg w' → w'.cell? ⟨kb, 1, none⟩ = some (.slice (some ⟨gq, 0, none⟩) j.q.length m1) := fun w' k => (cell_of_row w' kb 1 _ _ _ ((hog.trans k).heap HK.out (by simp))).trans rfl
    have g2 : ∀ w', Only [] wg w' → w'.cell? ⟨gq, i * 3 + 2, none⟩ = some (.int .i64 lf) := fun w' k => (hog.trans k).cell hc1 (by simp)
    clear hog hc1 a1
    have hwr : IntKind.i64.wrap (lf + 1) = lf + 1 := wrap_pos (by omega) (by omega)
    iterate 12 (first | (refine L.ge_off rfl rfl rfl (by rfl) ?_) | (refine L.ge_move rfl rfl rfl (by rfl) rfl (by simp [L.evE, L.lk, Act.eval]; rfl) ?_) | (refine L.ge_pick rfl rfl rfl (by rfl) rfl (by simp [L.evE, L.lk, Act.eval]; rfl) (by simp [L.evE, L.lk, Act.eval]; rfl) ?_) | (refine L.ge_val rfl rfl rfl (by rfl) (by intro w' hw'; simp [execOp, L.evE, L.lk, Act.eval]; go_simp; rfl) ?_))
    refine ge_last_in rfl rfl (by rfl) _ (.tmp 47) (.tmp 45) rfl gq (i * 3 + 2) (.int .i64 (lf + 1)) (by simp [L.evE, L.lk, Act.eval]) (by simp [L.evE, L.lk, Act.eval, hwr]) [.int .i64 (lf + 1)] rfl 35 cur (HOG.out.heap HG.out (by simp)) (by kernel_rfl) (by rw [HCL.out]; have := HNC.out; simp; omega) (by simp [Value.oneCell']) ?_
    intro Wf hr7 ho7
    simp only [L.puts, Act.put, goInt, List.setIfInBounds_toArray, List.set_cons_zero, List.set_cons_succ]
    clear g1 g2 hwr
    have hkq : kb ∉ [gq] := fun h => HNQ.out (by simp at h; rw [h]; rfl)
    have hoo := HOG.out
    have hgw := HQB.out
    have hw5 := HWB.out
    replace HY := Lib.hid (ho7.out.heap (hoo.heap HY.out (by simp)) (by simp; omega))
    replace HK := Lib.hid (ho7.out.heap (hoo.heap HK.out (by simp)) hkq)
    replace HL := Lib.hid (ownsRow_only (ownsRow_only HL.out hoo (by simp)) ho7.out (fun k hk h => by simp at h; subst h; exact HLQ.out _ hk rfl))
    replace HW := Lib.hid ((HW.out.trans hoo).then ho7.out (fun k hk => .inr (by simp at hk; subst hk; have := HBB.out; omega)))
    have hll0 : (lostAt j.q i).length = j.q.length := by unfold lostAt; rw [List.length_set]
    have hmn : mn (lf + 1) 1099511627776 = lf + 1 := by unfold mn; split <;> omega
    have HQn := Lib.hid (show Wf.ownsRow W5.heap.size 35 3 (.slice (some ⟨gq, 0, none⟩) j.q.length m1) j.q.length (qRow (lostAt j.q i)) from by
      refine ⟨by rw [qRow_length, hll0], .inr ⟨gq, m1, _, rfl, HQB.out, hr7.out, HNC.out, HDM.out, ?_, ?_⟩⟩
      · rw [List.size_toArray, length_splice _ _ _ (by rw [HCL.out]; have := HNC.out; simp; omega)]; exact HCL.out
      · show (splice cur (i * 3 + 2) [.int .i64 (lf + 1)]).take (j.q.length * 3) = _
        rw [HSET.out (lf + 1), HLF.out, hmn])
    clear HQ
    have HQ := HQn
    clear HQn hll0 hoo hkq hr7 ho7 HG HCL HSET HDM HNC HLF HSAME
    go_wp2_with (first
      | (with_reducible refine wpList_load_at rfl 25 (.tmp 6) rfl ⟨kb, 0, none⟩ rfl _ _ (cellsAt_row HK.out) Tryd.underlying25 rfl (by kernel_rfl) ?_)
      | (with_reducible refine wpList_store_new rfl 25 (.tmp 4) (.tmp 48) rfl (wb + 2) #[.slice F0 j.l.length m0, .slice (some ⟨gq, 0, none⟩) j.q.length m1, .int .i64 j.g] rfl rfl 25 _ HY.out (size3_25 _ _ _) rfl (by simp [Value.oneCell']) ?_; intro w9 hh9 ho9; have Hh9 := Lib.hid hh9.out; have Ho9 := Lib.hid ho9; clear hh9 ho9; refine (fun (h : Hid _) => h.out) ?_))
    refine Lib.hid ?_
    try simp only [Act.put, goInt, List.setIfInBounds_toArray, List.set_cons_zero, List.set_cons_succ]
    go_wp2
    have ho9 := Ho9.out
    refine bodyPost_ret (results_row rfl _ _ (wb + 2) _ _ _ _ rfl Hh9.out Tryd.underlying25 rfl (size3_25 _ _ _)) rfl ?_
    rw [HRR.out]
    have f2 := ownsRow_only HL.out ho9 (fun k hk h => by simp at h; subst h; have := (ownsRow_lt HL.out hk).1; have := HWB.out; omega)
    have f3 := ownsRow_only HQ.out ho9 (fun k hk h => by simp at h; subst h; have := (ownsRow_lt HQ.out hk).1; have := HWB.out; omega)
    refine ⟨_, rfl, ?_, (HW.out.then ho9 (fun k hk => .inr (by simp at hk; subst hk; have := HBB.out; omega))).nil_below⟩
    show JR w9 _ _ j.l (lostAt j.q i) j.g
    replace f2 := ownsRow_mono f2 HB5.out
    replace f3 := ownsRow_mono f3 HB5.out
    have hlq : j.q.length = (lostAt j.q i).length := by unfold lostAt; rw [List.length_set]
    rw [hlq] at f3 ⊢
    exact ⟨F0, m0, (some ⟨gq, 0, none⟩), m1, rfl, f2, f3⟩
end Go.Proofs.YtghpmpjoedbpcaaDoor.Print
/-! ### JRPure -/
namespace Go.Proofs.YtghpmpjoedbpcaaDoor.Print
open Go.RowKit Go.Proofs.YtghpmpjoedbpcaaDoorW.PrintWords Go.Proofs.YtghpmpjoedbpcaaDoorW.PrintLast Go.Proofs.YtghpmpjoedbpcaaDoorW.PrintMore
set_option linter.unusedSimpArgs false
set_option linter.unusedVariables false
theorem behind_place {q : List S35} {b : Int} (hr : (q.map (·.f0)).Pairwise (· < ·)) (hp : placeB q b = true) : ∀ a ∈ q.drop (placeI q b + 1), b < a.f0 := by
  intro a ha
  have hlt := placeB_lt hp
  have hat := placeB_at hp
  rw [qAt_get hlt] at hat
  obtain ⟨k, hk, rfl⟩ := List.mem_iff_getElem.1 ha
  rw [List.length_drop] at hk
  rw [List.getElem_drop]
  have := List.pairwise_iff_getElem.1 hr (placeI q b) (placeI q b + 1 + k) (by simpa using hlt) (by simp; omega) (by omega)
  simp only [List.getElem_map] at this
  omega
/-- All quotas but the batch's own. -/
theorem filter_place {q : List S35} {b : Int} (hr : (q.map (·.f0)).Pairwise (· < ·)) (hp : placeB q b = true) : q.filter (fun x => decide (x.f0 ≠ b)) = q.take (placeI q b) ++ q.drop (placeI q b + 1) := by
  have hlt := placeB_lt hp
  have hat := placeB_at hp
  rw [qAt_get hlt] at hat
  have e : q = q.take (placeI q b) ++ q[placeI q b] :: q.drop (placeI q b + 1) := by rw [← List.drop_eq_getElem_cons hlt, List.take_append_drop]
  have h1 : (q.take (placeI q b)).filter (fun x => decide (x.f0 ≠ b)) = q.take (placeI q b) := List.filter_eq_self.2 (fun a ha => by have := place_lt q b a ha; simp; omega)
  have h2 : (q.drop (placeI q b + 1)).filter (fun x => decide (x.f0 ≠ b)) = q.drop (placeI q b + 1) := List.filter_eq_self.2 (fun a ha => by have := behind_place hr hp a ha; simp; omega)
  have h3 : q.filter (fun x => decide (x.f0 ≠ b)) = (q.take (placeI q b) ++ q[placeI q b] :: q.drop (placeI q b + 1)).filter (fun x => decide (x.f0 ≠ b)) := by rw [← e]
  rw [h3, List.filter_append, List.filter_cons_of_neg (by simp [hat]), h1, h2]
/-- What Close has laid behind i quotas. -/
def accC (q : List S35) (b : Int) (i : Nat) : List S35 := (q.take i).filter (fun x => decide (x.f0 ≠ b))
theorem accC_zero (q : List S35) (b : Int) : accC q b 0 = [] := by simp [accC]
theorem accC_le (q : List S35) (b : Int) (i : Nat) : (accC q b i).length ≤ q.length := by
  have h1 := List.length_filter_le (fun x : S35 => decide (x.f0 ≠ b)) (q.take i)
  rw [List.length_take] at h1
  unfold accC
  omega
theorem accC_same {q : List S35} {b : Int} {i : Nat} (hi : i < q.length) (h : q[i].f0 = b) : accC q b (i + 1) = accC q b i := by
  unfold accC
  rw [List.take_succ_eq_append_getElem hi, List.filter_append, List.filter_cons_of_neg (by simp [h])]
  simp
theorem accC_more {q : List S35} {b : Int} {i : Nat} (hi : i < q.length) (h : q[i].f0 ≠ b) : accC q b (i + 1) = accC q b i ++ [q[i]] := by
  unfold accC
  rw [List.take_succ_eq_append_getElem hi, List.filter_append, List.filter_cons_of_pos (by simp [h])]
  simp
theorem accC_all {q : List S35} {b : Int} (hr : (q.map (·.f0)).Pairwise (· < ·)) (hp : placeB q b = true) : accC q b q.length = q.take (placeI q b) ++ q.drop (placeI q b + 1) := by
  unfold accC
  rw [List.take_length, filter_place hr hp]
/-- What Open has laid behind i quotas. -/
def accO (q : List S35) (x : S35) (i : Nat) : List S35 := if i ≤ placeI q x.f0 then q.take i else q.take (placeI q x.f0) ++ x :: (q.drop (placeI q x.f0)).take (i - placeI q x.f0)
theorem accO_zero (q : List S35) (x : S35) : accO q x 0 = [] := by simp [accO]
theorem accO_before {q : List S35} {x : S35} {i : Nat} (hi : i < q.length) (h : i < placeI q x.f0) : accO q x (i + 1) = accO q x i ++ [q[i]] := by
  unfold accO
  rw [if_pos (by omega), if_pos (by omega), List.take_succ_eq_append_getElem hi]
theorem accO_at {q : List S35} {x : S35} {i : Nat} (hi : i < q.length) (h : i = placeI q x.f0) : accO q x (i + 1) = (accO q x i ++ [x]) ++ [q[i]] := by
  unfold accO
  subst h
  rw [if_neg (by omega), if_pos (by omega), show placeI q x.f0 + 1 - placeI q x.f0 = 1 by omega]
  have e : (q.drop (placeI q x.f0)).take 1 = [q[placeI q x.f0]] := by rw [List.drop_eq_getElem_cons hi]; rfl
  rw [e]
  simp
theorem accO_behind {q : List S35} {x : S35} {i : Nat} (hi : i < q.length) (h : placeI q x.f0 < i) : accO q x (i + 1) = accO q x i ++ [q[i]] := by
  unfold accO
  rw [if_neg (by omega), if_neg (by omega), show i + 1 - placeI q x.f0 = (i - placeI q x.f0) + 1 by omega, List.take_succ_eq_append_getElem (by rw [List.length_drop]; omega), List.getElem_drop]
  simp [show placeI q x.f0 + (i - placeI q x.f0) = i by omega]
theorem accO_all {q : List S35} {x : S35} (h : placeI q x.f0 < q.length) : accO q x q.length = q.take (placeI q x.f0) ++ x :: q.drop (placeI q x.f0) := by
  unfold accO
  rw [if_neg (by omega)]
  have e : (q.drop (placeI q x.f0)).take (q.length - placeI q x.f0) = q.drop (placeI q x.f0) := List.take_of_length_le (by rw [List.length_drop]; omega)
  rw [e]
theorem accO_end {q : List S35} {x : S35} (h : placeI q x.f0 = q.length) : accO q x q.length ++ [x] = q.take (placeI q x.f0) ++ x :: q.drop (placeI q x.f0) := by
  unfold accO
  rw [if_pos (by omega), h, List.drop_length]
end Go.Proofs.YtghpmpjoedbpcaaDoor.Print
