import Derived.Test.YtbmdhmmahmdccaaDoorMTagsEnv1
import Derived.Laws.RangeAny
import Derived.Lib.Hide
import Derived.Lib.SliceRun
import Derived.Lib.TrimUEq
import Derived.Test.YtbmdhmmahmdccaaDoorProg
set_option linter.unusedVariables false
set_option linter.unusedSimpArgs false
/-! ### Print10 -/
namespace Go.Proofs.YtbmdhmmahmdccaaDoor.Print
open Go.RowKit Go.Proofs.YtbmdhmmahmdccaaDoorW.PrintWords Go.Proofs.YtbmdhmmahmdccaaDoorW.PrintLast Go.Proofs.YtbmdhmmahmdccaaDoorW.PrintMore
attribute [local go_sem] max2_int min2_int max_two min_two
set_option linter.unusedVariables false
set_option linter.unusedSimpArgs false
def malthouseref01_Runes.l0 : Nat → ByteArray → Int → ByteArray → List Int → List Int → Option (ByteArray × List Int × List Int × Bool)
  | 0, _, _, _, _, _ => none
  | k + 1, x0, x5, x150000, x150001, x150002 => if x5 < (x0.size : Int) then ((malthouseref01_Rune.f k x0 x5).bind fun bt150 => (if bt150.2 = 0 then (some (x150000, x150001, x150002, false)) else (if x150001.length < 17592186044416 then (if x150002.length < 17592186044416 then (malthouseref01_Runes.l0 k x0 (wrap64 (x5 + bt150.2)) x150000 (x150001 ++ [bt150.1]) (x150002 ++ [x5])) else (none)) else (none)))) else (if x150002.length < 17592186044416 then (some (x150000, x150001, (x150002 ++ [(x0.size : Int)]), true)) else (none))
def malthouseref01_Runes.f (k : Nat) (a0 : ByteArray) : Option (ByteArray × List Int × List Int × Bool) := malthouseref01_Runes.l0 k a0 0 a0 ([] : List Int) ([] : List Int)
set_option maxHeartbeats 8000000 in
set_option maxRecDepth 100000 in
theorem malthouseref01_Runes.calls (k : Nat) (a0 : ByteArray) (r1 : ByteArray) (r2 : List Int) (r3 : List Int) (r4 : Bool) (w : World) (h : malthouseref01_Runes.f k a0 = some (r1, r2, r3, r4)) :
    Calls Tryd.prog 41 #[.string a0] w fun e w' => ∃ v1_ v2_ : Value, e = .returned (.tuple #[.agg #[.string r1, v1_, v2_], .bool r4]) ∧ Kd.R (Kd.int .i64) 3 w' w.heap.size (fun k_ => some k_ ≠ (v2_ : Value).ownBlock) v1_ r2 ∧ Kd.R (Kd.int .i64) 3 w' w.heap.size (fun k_ => some k_ ≠ (v1_ : Value).ownBlock) v2_ r3 ∧ Below w.heap.size w w' := by
  have hu62 := Tryd.underlying62
  have HB := Aside0.mk (Below.refl w.heap.size w)
  have H : (malthouseref01_Runes.l0 k a0 0 a0 ([] : List Int) ([] : List Int)) = some (r1, r2, r3, r4) := h
  clear h
  have H' := Aside0.mk H
  clear H
  go_enter Tryd.func41, Tryd.ntmps41
  go_wp2_with (first | ((with_reducible refine gate_dst (N := 2) rfl ?_); refine box_event ?hg (N := 2) ?hd (cs := #[.string (⟨#[]⟩ : ByteArray), .slice none 0 0, .slice none 0 0]) (t := 62) ?hr ?_; (case hd => rfl); (case hg => rfl); (case hr => first | (go_simp; done) | (go_simp; rfl)); intro gb148 hg w2 hbox hb; have n0_ := Aside0.mk (below_step (by repeat (first | (with_reducible first | exact HB.out | apply below_alloc | apply pw_below_drewN | apply below_drew1) | exact HB.out)) hb); have n1_ := Aside0.mk (hbox); have n2_ := Aside0.mk ((by rw [hg]; exact (below_size (by repeat (first | (with_reducible first | exact HB.out | apply below_alloc | apply pw_below_drewN | apply below_drew1) | exact HB.out))) : w.heap.size ≤ gb148)); have n3_ := Aside0.mk ((by rw [hg]; exact (below_size (by repeat (first | (with_reducible first | exact HB.out | apply below_alloc | apply pw_below_drewN | apply below_drew1) | exact HB.out))) : w.heap.size ≤ gb148)); clear HB; have HB := n0_; have BK148 := n1_; have GW148 := n2_; have GE148 := n3_; clear n0_ n1_ n2_ n3_; clear hb hbox hg) | ((with_reducible refine gate_dst (N := 4) rfl ?_); refine box_event ?hg (N := 4) ?hd (cs := #[.string (⟨#[]⟩ : ByteArray), .slice none 0 0, .slice none 0 0]) (t := 62) ?hr ?_; (case hd => rfl); (case hg => rfl); (case hr => first | (go_simp; done) | (go_simp; rfl)); intro gb149 hg w3 hbox hb; have n0_ := Aside0.mk (blk_below (g := gb148) (o := .cells #[.string (⟨#[]⟩ : ByteArray), .slice none 0 0, .slice none 0 0] 62 (0, 0)) (by (with_reducible repeat (first | refine blk_drewN ?_ _ | refine blk_drew ?_ | refine blk_alloc ?_ _)); exact BK148.out) hb); have n1_ := Aside0.mk (below_step (by repeat (first | (with_reducible first | exact HB.out | apply below_alloc | apply pw_below_drewN | apply below_drew1 | refine below_set ?_ GE148.out) | exact HB.out)) hb); have n2_ := Aside0.mk (hbox); have n3_ := Aside0.mk ((by rw [hg]; exact (below_size (by repeat (first | (with_reducible first | exact HB.out | apply below_alloc | apply pw_below_drewN | apply below_drew1 | refine below_set ?_ GE148.out) | exact HB.out))) : w.heap.size ≤ gb149)); have n4_ := Aside0.mk ((by rw [hg]; exact (below_size (by repeat (first | (with_reducible first | exact HB.out | apply below_alloc | apply pw_below_drewN | apply below_drew1 | refine below_set ?_ GE148.out) | exact HB.out))) : w.heap.size ≤ gb149)); have n5_ := Aside0.mk ((by rw [hg]; exact Nat.ne_of_lt (blk_lt (g := gb148) (o := .cells #[.string (⟨#[]⟩ : ByteArray), .slice none 0 0, .slice none 0 0] 62 (0, 0)) (by (with_reducible repeat (first | refine blk_drewN ?_ _ | refine blk_drew ?_ | refine blk_alloc ?_ _)); exact BK148.out)) : gb148 ≠ gb149)); have n6_ := Aside0.mk ((by rw [hg]; exact Nat.ne_of_gt (blk_lt (g := gb148) (o := .cells #[.string (⟨#[]⟩ : ByteArray), .slice none 0 0, .slice none 0 0] 62 (0, 0)) (by (with_reducible repeat (first | refine blk_drewN ?_ _ | refine blk_drew ?_ | refine blk_alloc ?_ _)); exact BK148.out)) : gb149 ≠ gb148)); clear BK148; clear HB; have BK148 := n0_; have HB := n1_; have BK149 := n2_; have GW149 := n3_; have GE149 := n4_; have NB148_149 := n5_; have NB149_148 := n6_; clear n0_ n1_ n2_ n3_ n4_ n5_ n6_; clear hb hbox hg; have hnb4 := NB149_148.out; have hnc4 := NB148_149.out; have hcz5_0 : w3.cell? ⟨gb149, 0, none⟩ = some (.string (⟨#[]⟩ : ByteArray)) := (blk_cell BK149.out 0).trans rfl; have hcz5_1 : w3.cell? ⟨gb149, 1, none⟩ = some (.slice none 0 0) := (blk_cell BK149.out 1).trans rfl; have hcz5_2 : w3.cell? ⟨gb149, 2, none⟩ = some (.slice none 0 0) := (blk_cell BK149.out 2).trans rfl; have hfz5_0 := blk_frozen BK149.out 0; have hfz5_1 := blk_frozen BK149.out 1; have hfz5_2 := blk_frozen BK149.out 2))
  go_loopg [5] k (fun kq v5 w' => ∃ (x5_1 : Int) (x149000_1 : ByteArray) (x150001_1 : List Int) (x150002_1 : List Int) (u150001 : Value) (u150002 : Value), v5 = .int .i64 x5_1 ∧ Aside0 (malthouseref01_Runes.l0 kq a0 x5_1 a0 x150001_1 x150002_1 = some (r1, r2, r3, r4)) ∧ Aside0 (kq ≤ k) ∧ Aside0 (Kd.R (Kd.int .i64) 3 w' w.heap.size (fun k_ => some k_ ≠ (u150002 : Value).ownBlock) u150001 x150001_1) ∧ Aside0 (Kd.R (Kd.int .i64) 3 w' w.heap.size (fun k_ => some k_ ≠ (u150001 : Value).ownBlock) u150002 x150002_1) ∧ Aside0 (w'.heap[gb148]? = some (.cells #[.string x149000_1, (.slice none 0 0), (.slice none 0 0)] 62 (0, 0))) ∧ Aside0 (w'.heap[gb149]? = some (.cells #[.string a0, u150001, u150002] 62 (0, 0))) ∧ Aside0 (Below w.heap.size w w'))
  case atStart => exact ⟨(0), ((⟨#[]⟩ : ByteArray)), (([] : List Int)), (([] : List Int)), (.slice none 0 0), (.slice none 0 0), (by first | rfl | (simp; done) | (simp [*]; done)), H', ⟨Nat.le_refl _⟩, ⟨by first | exact Kd.R_nil _ _ _ _ _ | exact Kd.N_nil _ _ _ _ _ | exact Kd.V_nil _ _ _ _ _ | exact Kd.Q_nil _ _ _ _ _ | exact Kd.S_nil _ _ _ _ _⟩, ⟨by first | exact Kd.R_nil _ _ _ _ _ | exact Kd.N_nil _ _ _ _ _ | exact Kd.V_nil _ _ _ _ _ | exact Kd.Q_nil _ _ _ _ _ | exact Kd.S_nil _ _ _ _ _⟩, ⟨by (with_reducible repeat (first | refine blk_drewN ?_ _ | refine blk_drew ?_ | refine blk_alloc ?_ _)); refine blk_far ?_ NB148_149.out _; (with_reducible repeat (first | refine blk_drewN ?_ _ | refine blk_drew ?_ | refine blk_alloc ?_ _)); refine blk_far ?_ NB148_149.out _; (with_reducible repeat (first | refine blk_drewN ?_ _ | refine blk_drew ?_ | refine blk_alloc ?_ _)); refine blk_far ?_ NB148_149.out _; (with_reducible repeat (first | refine blk_drewN ?_ _ | refine blk_drew ?_ | refine blk_alloc ?_ _)); exact BK148.out⟩, ⟨by (with_reducible repeat (first | refine blk_drewN ?_ _ | refine blk_drew ?_ | refine blk_alloc ?_ _)); refine blk_put (cs := #[.string a0, .slice none 0 0, .slice none 0 0]) ?_ 2 _ rfl; (with_reducible repeat (first | refine blk_drewN ?_ _ | refine blk_drew ?_ | refine blk_alloc ?_ _)); refine blk_put (cs := #[.string a0, .slice none 0 0, .slice none 0 0]) ?_ 1 _ rfl; (with_reducible repeat (first | refine blk_drewN ?_ _ | refine blk_drew ?_ | refine blk_alloc ?_ _)); refine blk_put (cs := #[.string (⟨#[]⟩ : ByteArray), .slice none 0 0, .slice none 0 0]) ?_ 0 _ rfl; (with_reducible repeat (first | refine blk_drewN ?_ _ | refine blk_drew ?_ | refine blk_alloc ?_ _)); exact BK149.out⟩, ⟨by repeat (first | (with_reducible first | exact HB.out | apply below_alloc | apply pw_below_drewN | apply below_drew1 | refine below_set ?_ GE148.out | refine below_set ?_ GE149.out) | exact HB.out)⟩⟩
  case round =>
    clear H'
    try clear p2
    try clear c4
    try clear hcz5_0
    try clear hcz5_1
    try clear hcz5_2
    try clear hfz5_0
    try clear hfz5_1
    try clear hfz5_2
    obtain ⟨x5_1, x149000_1, x150001_1, x150002_1, u150001, u150002, rfl, HA, HK1, HO_150001, HO_150002, BK148, BK149, HB⟩ := hrel
    cases gk with
    | zero => exact absurd HA.out (by simp [malthouseref01_Runes.l0])
    | succ k1 =>
      have H := HA.out
      clear HA
      simp only [malthouseref01_Runes.l0] at H
      by_cases c6 : x5_1 < (a0.size : Int)
      · rw [if_pos c6] at H
        have c6b0 : decide (x5_1 < (a0.size : Int)) = true := decide_eq_true c6
        clear c6
        replace H := Option.bind_eq_some_iff.mp H
        obtain ⟨⟨t150, t151⟩, A70, H⟩ := H
        replace H : (if t151 = 0 then (some (a0, x150001_1, x150002_1, false)) else (if x150001_1.length < 17592186044416 then (if x150002_1.length < 17592186044416 then (malthouseref01_Runes.l0 k1 a0 (wrap64 (x5_1 + t151)) a0 (x150001_1 ++ [t150]) (x150002_1 ++ [x5_1])) else (none)) else (none))) = some (r1, r2, r3, r4) := H
        have A7 := Aside0.mk A70
        clear A70
        by_cases c8 : t151 = 0
        · rw [if_pos c8] at H
          have c8b0 : (t151 == 0) = true := beq_iff_eq.mpr c8
          have c8b1 : (t151 != 0) = false := bne_eq_false_iff_eq.mpr c8
          clear c8
          simp only [Option.some.injEq, Prod.mk.injEq] at H
          obtain ⟨rfl, rfl, rfl, rfl⟩ := H
          go_wp2_with (first | ((with_reducible refine gate_callee (f := 49) rfl ?_); refine goesL_ (some 17) rfl rfl Tryd.func49 (by kernel_rfl) rfl #[.string a0, .int .i64 x5_1] rfl (by (try simp only [List.map_toArray, List.map_cons, List.map_nil]); first | done | rfl | (simp only [List.length_drop, List.length_take]; rfl)) ?_; (with_reducible refine (malthouseref01_Rune.calls k1 a0 x5_1 t150 t151 _ A7.out).mono ?_); rintro e w' ⟨rfl, ⟨nd, rfl⟩⟩; refine ⟨_, rfl, ?_⟩; (try (rw [drewN_self wr]; generalize hq_ : World.drewN wr _ = wr; have n0_ : Aside0 (Kd.R (Kd.int .i64) 3 wr w.heap.size (fun k_ => some k_ ≠ (u150002 : Value).ownBlock) u150001 x150001_1) := ⟨by rw [← hq_]; exact (by (with_reducible repeat (first | apply Kd.R_alloc | apply Kd.R_drewN | apply Kd.R_drew)); exact HO_150001.out)⟩; have n1_ : Aside0 (Kd.R (Kd.int .i64) 3 wr w.heap.size (fun k_ => some k_ ≠ (u150001 : Value).ownBlock) u150002 x150002_1) := ⟨by rw [← hq_]; exact (by (with_reducible repeat (first | apply Kd.R_alloc | apply Kd.R_drewN | apply Kd.R_drew)); exact HO_150002.out)⟩; have n2_ : Aside0 (wr.heap[gb148]? = some (.cells #[.string x149000_1, .slice none 0 0, .slice none 0 0] 62 (0, 0))) := ⟨by rw [← hq_]; exact (by (with_reducible repeat (first | refine blk_drewN ?_ _ | refine blk_drew ?_ | refine blk_alloc ?_ _)); exact BK148.out)⟩; have n3_ : Aside0 (wr.heap[gb149]? = some (.cells #[.string a0, u150001, u150002] 62 (0, 0))) := ⟨by rw [← hq_]; exact (by (with_reducible repeat (first | refine blk_drewN ?_ _ | refine blk_drew ?_ | refine blk_alloc ?_ _)); exact BK149.out)⟩; have n4_ : Aside0 (Below w.heap.size w wr) := ⟨by rw [← hq_]; exact (by repeat (first | (with_reducible first | exact HB.out | apply below_alloc | apply pw_below_drewN | apply below_drew1 | refine below_set ?_ GE148.out | refine below_set ?_ GE149.out) | exact HB.out))⟩; clear HO_150001 HO_150002 BK148 BK149 HB hq_; have HO_150001 := n0_; have HO_150002 := n1_; have BK148 := n2_; have BK149 := n3_; have HB := n4_; clear n0_ n1_ n2_ n3_ n4_)); have hnb9 := NB149_148.out; have hnc9 := NB148_149.out; have hcz10_0 : wr.cell? ⟨gb149, 0, none⟩ = some (.string a0) := (blk_cell BK149.out 0).trans rfl; have hcz10_1 : wr.cell? ⟨gb149, 1, none⟩ = some (u150001) := (blk_cell BK149.out 1).trans rfl; have hcz10_2 : wr.cell? ⟨gb149, 2, none⟩ = some (u150002) := (blk_cell BK149.out 2).trans rfl; have hfz10_0 := blk_frozen BK149.out 0; have hfz10_1 := blk_frozen BK149.out 1; have hfz10_2 := blk_frozen BK149.out 2; have hcz11_0 : wr.cell? ⟨gb148, 0, none⟩ = some (.string x149000_1) := (blk_cell BK148.out 0).trans rfl; have hcz11_1 : wr.cell? ⟨gb148, 1, none⟩ = some (.slice none 0 0) := (blk_cell BK148.out 1).trans rfl; have hcz11_2 : wr.cell? ⟨gb148, 2, none⟩ = some (.slice none 0 0) := (blk_cell BK148.out 2).trans rfl; have hfz11_0 := blk_frozen BK148.out 0; have hfz11_1 := blk_frozen BK148.out 1; have hfz11_2 := blk_frozen BK148.out 2; obtain ⟨Ao12, co12, eo12⟩ := Kd.R_slice HO_150001.out; subst eo12; obtain ⟨Ao13, co13, eo13⟩ := Kd.R_slice HO_150002.out; subst eo13))
          refine bodyPost_ret (results_ct rfl _ _ gb148 62 #[.string a0, .slice Ao12 x150001_1.length co12, .slice Ao13 x150002_1.length co13] (0, 0) _ rfl (by (with_reducible repeat (first | refine blk_drewN ?_ _ | refine blk_drew ?_ | refine blk_alloc ?_ _)); refine blk_put (cs := #[.string a0, .slice Ao12 x150001_1.length co12, .slice none 0 0]) ?_ 2 _ rfl; (with_reducible repeat (first | refine blk_drewN ?_ _ | refine blk_drew ?_ | refine blk_alloc ?_ _)); refine blk_put (cs := #[.string a0, .slice none 0 0, .slice none 0 0]) ?_ 1 _ rfl; (with_reducible repeat (first | refine blk_drewN ?_ _ | refine blk_drew ?_ | refine blk_alloc ?_ _)); refine blk_put (cs := #[.string x149000_1, .slice none 0 0, .slice none 0 0]) ?_ 0 _ rfl; (with_reducible repeat (first | refine blk_drewN ?_ _ | refine blk_drew ?_ | refine blk_alloc ?_ _)); exact BK148.out) Tryd.underlying62 rfl (by kernel_rfl)) rfl ?_
          exact ⟨_, _, by first | rfl | (simp [errW_none, errW_some] <;> rfl) | (simp [*, errW_none, errW_some] <;> rfl), by (with_reducible repeat (first | apply Kd.R_alloc | apply Kd.R_drewN | apply Kd.R_drew)); exact Kd.R_mono (Kd.R_far (p := ⟨gb148, 2, none⟩) (Kd.R_far (p := ⟨gb148, 1, none⟩) (Kd.R_far (p := ⟨gb148, 0, none⟩) (Kd.R_types HO_150001.out BK148.out (by decide)) (fun _ hk => hk.2) (.string a0)) (fun _ hk => hk.2) (.slice Ao12 x150001_1.length co12)) (fun _ hk => hk.2) (.slice Ao13 x150002_1.length co13)) (fun _ hk => hk.1), by (with_reducible repeat (first | apply Kd.R_alloc | apply Kd.R_drewN | apply Kd.R_drew)); exact Kd.R_mono (Kd.R_far (p := ⟨gb148, 2, none⟩) (Kd.R_far (p := ⟨gb148, 1, none⟩) (Kd.R_far (p := ⟨gb148, 0, none⟩) (Kd.R_types HO_150002.out BK148.out (by decide)) (fun _ hk => hk.2) (.string a0)) (fun _ hk => hk.2) (.slice Ao12 x150001_1.length co12)) (fun _ hk => hk.2) (.slice Ao13 x150002_1.length co13)) (fun _ hk => hk.1), by repeat (first | (with_reducible first | exact HB.out | apply below_alloc | apply pw_below_drewN | apply below_drew1 | refine below_set ?_ GE148.out | refine below_set ?_ GE149.out) | exact HB.out)⟩
        · rw [if_neg c8] at H
          have c8b0 : (t151 == 0) = false := beq_eq_false_iff_ne.mpr c8
          have c8b1 : (t151 != 0) = true := bne_iff_ne.mpr c8
          by_cases c14 : x150001_1.length < 17592186044416
          · rw [if_pos c14] at H
            have LMc14 := Aside0.mk c14
            clear c14
            obtain ⟨y152, hy152⟩ : ∃ y_ : List Int, y_ = (x150001_1 ++ [t150]) := ⟨_, rfl⟩
            replace H : (if x150002_1.length < 17592186044416 then (malthouseref01_Runes.l0 k1 a0 (wrap64 (x5_1 + t151)) a0 y152 (x150002_1 ++ [x5_1])) else (none)) = some (r1, r2, r3, r4) := by first | (rw [hy152]; with_reducible exact H) | (have H2_ := (Option.bind_some _ _).symm.trans H; rw [hy152]; with_reducible exact H2_) | (have H2_ := (Option.bind_some _ _).symm.trans H; with_reducible exact H2_) | with_reducible exact H | (rw [hy152]; exact H) | exact H
            have Ny152 := Aside0.mk hy152
            clear hy152
            by_cases c15 : x150002_1.length < 17592186044416
            · rw [if_pos c15] at H
              have LMc15 := Aside0.mk c15
              clear c15
              obtain ⟨y155, hy155⟩ : ∃ y_ : List Int, y_ = (x150002_1 ++ [x5_1]) := ⟨_, rfl⟩
              replace H : (malthouseref01_Runes.l0 k1 a0 (wrap64 (x5_1 + t151)) a0 y152 y155) = some (r1, r2, r3, r4) := by first | (rw [hy155]; with_reducible exact H) | (have H2_ := (Option.bind_some _ _).symm.trans H; rw [hy155]; with_reducible exact H2_) | (have H2_ := (Option.bind_some _ _).symm.trans H; with_reducible exact H2_) | with_reducible exact H | (rw [hy155]; exact H) | exact H
              have Ny155 := Aside0.mk hy155
              clear hy155
              have H' := Aside0.mk H
              clear H
              go_wp2_with (first | ((with_reducible refine gate_callee (f := 49) rfl ?_); refine goesL_ (some 17) rfl rfl Tryd.func49 (by kernel_rfl) rfl #[.string a0, .int .i64 x5_1] rfl (by (try simp only [List.map_toArray, List.map_cons, List.map_nil]); first | done | rfl | (simp only [List.length_drop, List.length_take]; rfl)) ?_; (with_reducible refine (malthouseref01_Rune.calls k1 a0 x5_1 t150 t151 _ A7.out).mono ?_); rintro e w' ⟨rfl, ⟨nd, rfl⟩⟩; refine ⟨_, rfl, ?_⟩; (try (rw [drewN_self wr]; generalize hq_ : World.drewN wr _ = wr; have n0_ : Aside0 (Kd.R (Kd.int .i64) 3 wr w.heap.size (fun k_ => some k_ ≠ (u150002 : Value).ownBlock) u150001 x150001_1) := ⟨by rw [← hq_]; exact (by (with_reducible repeat (first | apply Kd.R_alloc | apply Kd.R_drewN | apply Kd.R_drew)); exact HO_150001.out)⟩; have n1_ : Aside0 (Kd.R (Kd.int .i64) 3 wr w.heap.size (fun k_ => some k_ ≠ (u150001 : Value).ownBlock) u150002 x150002_1) := ⟨by rw [← hq_]; exact (by (with_reducible repeat (first | apply Kd.R_alloc | apply Kd.R_drewN | apply Kd.R_drew)); exact HO_150002.out)⟩; have n2_ : Aside0 (wr.heap[gb148]? = some (.cells #[.string x149000_1, .slice none 0 0, .slice none 0 0] 62 (0, 0))) := ⟨by rw [← hq_]; exact (by (with_reducible repeat (first | refine blk_drewN ?_ _ | refine blk_drew ?_ | refine blk_alloc ?_ _)); exact BK148.out)⟩; have n3_ : Aside0 (wr.heap[gb149]? = some (.cells #[.string a0, u150001, u150002] 62 (0, 0))) := ⟨by rw [← hq_]; exact (by (with_reducible repeat (first | refine blk_drewN ?_ _ | refine blk_drew ?_ | refine blk_alloc ?_ _)); exact BK149.out)⟩; have n4_ : Aside0 (Below w.heap.size w wr) := ⟨by rw [← hq_]; exact (by repeat (first | (with_reducible first | exact HB.out | apply below_alloc | apply pw_below_drewN | apply below_drew1 | refine below_set ?_ GE148.out | refine below_set ?_ GE149.out) | exact HB.out))⟩; clear HO_150001 HO_150002 BK148 BK149 HB hq_; have HO_150001 := n0_; have HO_150002 := n1_; have BK148 := n2_; have BK149 := n3_; have HB := n4_; clear n0_ n1_ n2_ n3_ n4_)); have hnb16 := NB149_148.out; have hnc16 := NB148_149.out; have hcz17_0 : wr.cell? ⟨gb149, 0, none⟩ = some (.string a0) := (blk_cell BK149.out 0).trans rfl; have hcz17_1 : wr.cell? ⟨gb149, 1, none⟩ = some (u150001) := (blk_cell BK149.out 1).trans rfl; have hcz17_2 : wr.cell? ⟨gb149, 2, none⟩ = some (u150002) := (blk_cell BK149.out 2).trans rfl; have hfz17_0 := blk_frozen BK149.out 0; have hfz17_1 := blk_frozen BK149.out 1; have hfz17_2 := blk_frozen BK149.out 2) | ((with_reducible refine gate_builtin (b := .append) (xs := #[.tmp 24, .tmp 26]) rfl ?_); at_builtin; refine Kd.R_append (Kd.int .i64) (w0 := w) w.heap.size rfl (.tmp 24) (.tmp 26) 25 3 (.int .i64 0) 8 rfl Tryd.underlying25 info3 rfl (by decide) (by omega) u150001 x150001_1 t150 [.int .i64 t150] (fun k_ => some k_ ≠ (u150002 : Value).ownBlock) (fun _ => False) rfl rfl ?aP (fun _ hk => hk.elim) ?aF ?aO ?aB ?aS ?aL ?_; (case aP => exact rfl); (case aB => exact (by repeat (first | (with_reducible first | exact HB.out | apply below_alloc | apply pw_below_drewN | apply below_drew1 | refine below_set ?_ GE148.out | refine below_set ?_ GE149.out) | exact HB.out))); (case aF => exact (fun k_ hk => Kd.fresh' (Kd.R_lt (by (with_reducible repeat (first | apply Kd.R_alloc | apply Kd.R_drewN | apply Kd.R_drew)); exact HO_150002.out)) k_ hk)); (case aO => exact (by (with_reducible repeat (first | apply Kd.R_alloc | apply Kd.R_drewN | apply Kd.R_drew)); exact HO_150001.out)); (case aS => exact (below_size (by repeat (first | (with_reducible first | exact HB.out | apply below_alloc | apply pw_below_drewN | apply below_drew1 | refine below_set ?_ GE148.out | refine below_set ?_ GE149.out) | exact HB.out)))); (case aL => have := LMc14.out; omega); intro v153 w18 ho hb hg hat; rw [← Ny152.out] at ho; have n0_ := Aside0.mk (Kd.R_after (ok := (fun _ => True)) (by (with_reducible repeat (first | apply Kd.R_alloc | apply Kd.R_drewN | apply Kd.R_drew)); exact Kd.R_mono HO_150002.out (fun _ hk => ⟨trivial, hk⟩)) hg hat); have n1_ := Aside0.mk (blk_grown (g := gb148) (o := .cells #[.string x149000_1, .slice none 0 0, .slice none 0 0] 62 (0, 0)) (by (with_reducible repeat (first | refine blk_drewN ?_ _ | refine blk_drew ?_ | refine blk_alloc ?_ _)); exact BK148.out) hg (Kd.R_ne HO_150001.out BK148.out (by decide))); have n2_ := Aside0.mk (blk_grown (g := gb149) (o := .cells #[.string a0, u150001, u150002] 62 (0, 0)) (by (with_reducible repeat (first | refine blk_drewN ?_ _ | refine blk_drew ?_ | refine blk_alloc ?_ _)); exact BK149.out) hg (Kd.R_ne HO_150001.out BK149.out (by decide))); have n3_ := Aside0.mk (hb); have n4_ := Aside0.mk (ho); clear HO_150002; clear BK148; clear BK149; clear HB; clear HO_150001; have HO_150002 := n0_; have BK148 := n1_; have BK149 := n2_; have HB := n3_; have HO154 := n4_; clear n0_ n1_ n2_ n3_ n4_; clear ho hb hg hat; obtain ⟨Ao19, co19, eo19⟩ := Kd.R_slice HO154.out; subst eo19; have hcz20_0 : w18.cell? ⟨gb149, 0, none⟩ = some (.string a0) := (blk_cell BK149.out 0).trans rfl; have hcz20_1 : w18.cell? ⟨gb149, 1, none⟩ = some (u150001) := (blk_cell BK149.out 1).trans rfl; have hcz20_2 : w18.cell? ⟨gb149, 2, none⟩ = some (u150002) := (blk_cell BK149.out 2).trans rfl; have hfz20_0 := blk_frozen BK149.out 0; have hfz20_1 := blk_frozen BK149.out 1; have hfz20_2 := blk_frozen BK149.out 2) | ((with_reducible refine gate_builtin (b := .append) (xs := #[.tmp 30, .tmp 32]) rfl ?_); at_builtin; refine Kd.R_append (Kd.int .i64) (w0 := w) w.heap.size rfl (.tmp 30) (.tmp 32) 25 3 (.int .i64 0) 8 rfl Tryd.underlying25 info3 rfl (by decide) (by omega) u150002 x150002_1 x5_1 [.int .i64 x5_1] (fun k_ => some k_ ≠ (.slice Ao19 y152.length co19 : Value).ownBlock) (fun _ => False) rfl (by first | (go_simp; done) | (go_simp; rfl)) ?aP (fun _ hk => hk.elim) ?aF ?aO ?aB ?aS ?aL ?_; (case aP => exact rfl); (case aB => exact (by repeat (first | (with_reducible first | exact HB.out | apply below_alloc | apply pw_below_drewN | apply below_drew1 | refine below_set ?_ GE148.out | refine below_set ?_ GE149.out) | exact HB.out))); (case aF => exact (fun k_ hk => Kd.fresh' (Kd.R_lt (by (with_reducible repeat (first | apply Kd.R_alloc | apply Kd.R_drewN | apply Kd.R_drew)); exact (Kd.R_mono (Kd.R_far (p := ⟨gb149, 1, none⟩) (Kd.R_types HO154.out BK149.out (by decide)) (fun _ hk => hk.2) (.slice Ao19 y152.length co19)) (fun _ h_ => h_.1)))) k_ hk)); (case aO => exact (by (with_reducible repeat (first | apply Kd.R_alloc | apply Kd.R_drewN | apply Kd.R_drew)); exact Kd.R_mono (Kd.R_far (p := ⟨gb149, 1, none⟩) (Kd.R_types HO_150002.out BK149.out (by decide)) (fun _ hk => hk.2) (.slice Ao19 y152.length co19)) (fun _ hk => hk.1.2))); (case aS => exact (below_size (by repeat (first | (with_reducible first | exact HB.out | apply below_alloc | apply pw_below_drewN | apply below_drew1 | refine below_set ?_ GE148.out | refine below_set ?_ GE149.out) | exact HB.out)))); (case aL => have := LMc15.out; omega); intro v156 w21 ho hb hg hat; rw [← Ny155.out] at ho; have n0_ := Aside0.mk (blk_grown (g := gb148) (o := .cells #[.string x149000_1, .slice none 0 0, .slice none 0 0] 62 (0, 0)) (by (with_reducible repeat (first | refine blk_drewN ?_ _ | refine blk_drew ?_ | refine blk_alloc ?_ _)); refine blk_far ?_ NB148_149.out _; (with_reducible repeat (first | refine blk_drewN ?_ _ | refine blk_drew ?_ | refine blk_alloc ?_ _)); exact BK148.out) hg (Kd.R_ne HO_150002.out BK148.out (by decide))); have n1_ := Aside0.mk (blk_grown (g := gb149) (o := .cells #[.string a0, .slice Ao19 y152.length co19, u150002] 62 (0, 0)) (by (with_reducible repeat (first | refine blk_drewN ?_ _ | refine blk_drew ?_ | refine blk_alloc ?_ _)); refine blk_put (cs := #[.string a0, u150001, u150002]) ?_ 1 _ rfl; (with_reducible repeat (first | refine blk_drewN ?_ _ | refine blk_drew ?_ | refine blk_alloc ?_ _)); exact BK149.out) hg (Kd.R_ne HO_150002.out BK149.out (by decide))); have n2_ := Aside0.mk (Kd.R_after (ok := (fun _ => True)) (by (with_reducible repeat (first | apply Kd.R_alloc | apply Kd.R_drewN | apply Kd.R_drew)); exact Kd.R_mono (Kd.R_far (p := ⟨gb149, 1, none⟩) (Kd.R_types HO154.out BK149.out (by decide)) (fun _ hk => hk.2) (.slice Ao19 y152.length co19)) (fun _ hk => ⟨trivial, hk.1⟩)) hg hat); have n3_ := Aside0.mk (hb); have n4_ := Aside0.mk (ho); clear BK148; clear BK149; clear HO154; clear HB; clear HO_150002; have BK148 := n0_; have BK149 := n1_; have HO154 := n2_; have HB := n3_; have HO157 := n4_; clear n0_ n1_ n2_ n3_ n4_; clear ho hb hg hat; obtain ⟨Ao22, co22, eo22⟩ := Kd.R_slice HO157.out; subst eo22; have hcz23_0 : w21.cell? ⟨gb149, 0, none⟩ = some (.string a0) := (blk_cell BK149.out 0).trans rfl; have hcz23_1 : w21.cell? ⟨gb149, 1, none⟩ = some (.slice Ao19 y152.length co19) := (blk_cell BK149.out 1).trans rfl; have hcz23_2 : w21.cell? ⟨gb149, 2, none⟩ = some (u150002) := (blk_cell BK149.out 2).trans rfl; have hfz23_0 := blk_frozen BK149.out 0; have hfz23_1 := blk_frozen BK149.out 1; have hfz23_2 := blk_frozen BK149.out 2))
              go_roundg k1
              case measure => have := HK1.out; omega
              case rel => exact ⟨(wrap64 (x5_1 + t151)), (x149000_1), (y152), (y155), (.slice Ao19 y152.length co19), (.slice Ao22 y155.length co22), (by first | rfl | (simp; done) | (simp [*]; done)), H', ⟨by have := HK1.out; omega⟩, ⟨by (with_reducible repeat (first | apply Kd.R_alloc | apply Kd.R_drewN | apply Kd.R_drew)); exact Kd.R_mono (Kd.R_far (p := ⟨gb149, 2, none⟩) (Kd.R_types HO154.out BK149.out (by decide)) (fun _ hk => hk.2) (.slice Ao22 y155.length co22)) (fun _ hk => hk.1.2)⟩, ⟨by (with_reducible repeat (first | apply Kd.R_alloc | apply Kd.R_drewN | apply Kd.R_drew)); exact Kd.R_mono (Kd.R_far (p := ⟨gb149, 2, none⟩) (Kd.R_types HO157.out BK149.out (by decide)) (fun _ hk => hk.2) (.slice Ao22 y155.length co22)) (fun _ hk => hk.1)⟩, ⟨by (with_reducible repeat (first | refine blk_drewN ?_ _ | refine blk_drew ?_ | refine blk_alloc ?_ _)); refine blk_far ?_ NB148_149.out _; (with_reducible repeat (first | refine blk_drewN ?_ _ | refine blk_drew ?_ | refine blk_alloc ?_ _)); exact BK148.out⟩, ⟨by (with_reducible repeat (first | refine blk_drewN ?_ _ | refine blk_drew ?_ | refine blk_alloc ?_ _)); refine blk_put (cs := #[.string a0, .slice Ao19 y152.length co19, u150002]) ?_ 2 _ rfl; (with_reducible repeat (first | refine blk_drewN ?_ _ | refine blk_drew ?_ | refine blk_alloc ?_ _)); exact BK149.out⟩, ⟨by repeat (first | (with_reducible first | exact HB.out | apply below_alloc | apply pw_below_drewN | apply below_drew1 | refine below_set ?_ GE148.out | refine below_set ?_ GE149.out) | exact HB.out)⟩⟩
            · rw [if_neg c15] at H
              exact absurd H (by simp)
          · rw [if_neg c14] at H
            exact absurd H (by simp)
      · rw [if_neg c6] at H
        have c6b0 : decide (x5_1 < (a0.size : Int)) = false := decide_eq_false c6
        clear c6
        by_cases c24 : x150002_1.length < 17592186044416
        · rw [if_pos c24] at H
          have LMc24 := Aside0.mk c24
          clear c24
          obtain ⟨y158, hy158⟩ : ∃ y_ : List Int, y_ = (x150002_1 ++ [(a0.size : Int)]) := ⟨_, rfl⟩
          replace H : (some (a0, x150001_1, y158, true)) = some (r1, r2, r3, r4) := by first | (rw [hy158]; with_reducible exact H) | (have H2_ := (Option.bind_some _ _).symm.trans H; rw [hy158]; with_reducible exact H2_) | (have H2_ := (Option.bind_some _ _).symm.trans H; with_reducible exact H2_) | with_reducible exact H | (rw [hy158]; exact H) | exact H
          have Ny158 := Aside0.mk hy158
          clear hy158
          simp only [Option.some.injEq, Prod.mk.injEq] at H
          obtain ⟨rfl, rfl, rfl, rfl⟩ := H
          have hnb25 := NB149_148.out
          have hnc25 := NB148_149.out
          have hcz26_0 : wr.cell? ⟨gb149, 0, none⟩ = some (.string a0) := (blk_cell BK149.out 0).trans rfl
          have hcz26_1 : wr.cell? ⟨gb149, 1, none⟩ = some (u150001) := (blk_cell BK149.out 1).trans rfl
          have hcz26_2 : wr.cell? ⟨gb149, 2, none⟩ = some (u150002) := (blk_cell BK149.out 2).trans rfl
          have hfz26_0 := blk_frozen BK149.out 0
          have hfz26_1 := blk_frozen BK149.out 1
          have hfz26_2 := blk_frozen BK149.out 2
          go_wp2_with (first | ((with_reducible refine gate_builtin (b := .append) (xs := #[.tmp 39, .tmp 42]) rfl ?_); at_builtin; refine Kd.R_append (Kd.int .i64) (w0 := w) w.heap.size rfl (.tmp 39) (.tmp 42) 25 3 (.int .i64 0) 8 rfl Tryd.underlying25 info3 rfl (by decide) (by omega) u150002 x150002_1 (a0.size : Int) [.int .i64 (a0.size : Int)] (fun k_ => some k_ ≠ (u150001 : Value).ownBlock) (fun _ => False) rfl rfl ?aP (fun _ hk => hk.elim) ?aF ?aO ?aB ?aS ?aL ?_; (case aP => exact rfl); (case aB => exact (by repeat (first | (with_reducible first | exact HB.out | apply below_alloc | apply pw_below_drewN | apply below_drew1 | refine below_set ?_ GE148.out | refine below_set ?_ GE149.out) | exact HB.out))); (case aF => exact (fun k_ hk => Kd.fresh' (Kd.R_lt (by (with_reducible repeat (first | apply Kd.R_alloc | apply Kd.R_drewN | apply Kd.R_drew)); exact HO_150001.out)) k_ hk)); (case aO => exact (by (with_reducible repeat (first | apply Kd.R_alloc | apply Kd.R_drewN | apply Kd.R_drew)); exact HO_150002.out)); (case aS => exact (below_size (by repeat (first | (with_reducible first | exact HB.out | apply below_alloc | apply pw_below_drewN | apply below_drew1 | refine below_set ?_ GE148.out | refine below_set ?_ GE149.out) | exact HB.out)))); (case aL => have := LMc24.out; omega); intro v159 w27 ho hb hg hat; rw [← Ny158.out] at ho; have n0_ := Aside0.mk (Kd.R_after (ok := (fun _ => True)) (by (with_reducible repeat (first | apply Kd.R_alloc | apply Kd.R_drewN | apply Kd.R_drew)); exact Kd.R_mono HO_150001.out (fun _ hk => ⟨trivial, hk⟩)) hg hat); have n1_ := Aside0.mk (blk_grown (g := gb148) (o := .cells #[.string x149000_1, .slice none 0 0, .slice none 0 0] 62 (0, 0)) (by (with_reducible repeat (first | refine blk_drewN ?_ _ | refine blk_drew ?_ | refine blk_alloc ?_ _)); exact BK148.out) hg (Kd.R_ne HO_150002.out BK148.out (by decide))); have n2_ := Aside0.mk (blk_grown (g := gb149) (o := .cells #[.string a0, u150001, u150002] 62 (0, 0)) (by (with_reducible repeat (first | refine blk_drewN ?_ _ | refine blk_drew ?_ | refine blk_alloc ?_ _)); exact BK149.out) hg (Kd.R_ne HO_150002.out BK149.out (by decide))); have n3_ := Aside0.mk (hb); have n4_ := Aside0.mk (ho); clear HO_150001; clear BK148; clear BK149; clear HB; clear HO_150002; have HO_150001 := n0_; have BK148 := n1_; have BK149 := n2_; have HB := n3_; have HO160 := n4_; clear n0_ n1_ n2_ n3_ n4_; clear ho hb hg hat; obtain ⟨Ao28, co28, eo28⟩ := Kd.R_slice HO160.out; subst eo28; have hcz29_0 : w27.cell? ⟨gb149, 0, none⟩ = some (.string a0) := (blk_cell BK149.out 0).trans rfl; have hcz29_1 : w27.cell? ⟨gb149, 1, none⟩ = some (u150001) := (blk_cell BK149.out 1).trans rfl; have hcz29_2 : w27.cell? ⟨gb149, 2, none⟩ = some (u150002) := (blk_cell BK149.out 2).trans rfl; have hfz29_0 := blk_frozen BK149.out 0; have hfz29_1 := blk_frozen BK149.out 1; have hfz29_2 := blk_frozen BK149.out 2; have hcz30_0 : w27.cell? ⟨gb148, 0, none⟩ = some (.string x149000_1) := (blk_cell BK148.out 0).trans rfl; have hcz30_1 : w27.cell? ⟨gb148, 1, none⟩ = some (.slice none 0 0) := (blk_cell BK148.out 1).trans rfl; have hcz30_2 : w27.cell? ⟨gb148, 2, none⟩ = some (.slice none 0 0) := (blk_cell BK148.out 2).trans rfl; have hfz30_0 := blk_frozen BK148.out 0; have hfz30_1 := blk_frozen BK148.out 1; have hfz30_2 := blk_frozen BK148.out 2; obtain ⟨Ao31, co31, eo31⟩ := Kd.R_slice HO_150001.out; subst eo31))
          refine bodyPost_ret (results_ct rfl _ _ gb148 62 #[.string a0, .slice Ao31 x150001_1.length co31, .slice Ao28 y158.length co28] (0, 0) _ rfl (by (with_reducible repeat (first | refine blk_drewN ?_ _ | refine blk_drew ?_ | refine blk_alloc ?_ _)); refine blk_put (cs := #[.string a0, .slice Ao31 x150001_1.length co31, .slice none 0 0]) ?_ 2 _ rfl; (with_reducible repeat (first | refine blk_drewN ?_ _ | refine blk_drew ?_ | refine blk_alloc ?_ _)); refine blk_put (cs := #[.string a0, .slice none 0 0, .slice none 0 0]) ?_ 1 _ rfl; (with_reducible repeat (first | refine blk_drewN ?_ _ | refine blk_drew ?_ | refine blk_alloc ?_ _)); refine blk_put (cs := #[.string x149000_1, .slice none 0 0, .slice none 0 0]) ?_ 0 _ rfl; (with_reducible repeat (first | refine blk_drewN ?_ _ | refine blk_drew ?_ | refine blk_alloc ?_ _)); refine blk_far ?_ NB148_149.out _; (with_reducible repeat (first | refine blk_drewN ?_ _ | refine blk_drew ?_ | refine blk_alloc ?_ _)); exact BK148.out) Tryd.underlying62 rfl (by kernel_rfl)) rfl ?_
          exact ⟨_, _, by first | rfl | (simp [errW_none, errW_some] <;> rfl) | (simp [*, errW_none, errW_some] <;> rfl), by (with_reducible repeat (first | apply Kd.R_alloc | apply Kd.R_drewN | apply Kd.R_drew)); exact Kd.R_mono (Kd.R_far (p := ⟨gb148, 2, none⟩) (Kd.R_far (p := ⟨gb148, 1, none⟩) (Kd.R_far (p := ⟨gb148, 0, none⟩) (Kd.R_far (p := ⟨gb149, 2, none⟩) (Kd.R_types (Kd.R_types HO_150001.out BK149.out (by decide)) BK148.out (by decide)) (fun _ hk => hk.1.2) (.slice Ao28 y158.length co28)) (fun _ hk => hk.2) (.string a0)) (fun _ hk => hk.2) (.slice Ao31 x150001_1.length co31)) (fun _ hk => hk.2) (.slice Ao28 y158.length co28)) (fun _ hk => hk.1.1.2), by (with_reducible repeat (first | apply Kd.R_alloc | apply Kd.R_drewN | apply Kd.R_drew)); exact Kd.R_mono (Kd.R_far (p := ⟨gb148, 2, none⟩) (Kd.R_far (p := ⟨gb148, 1, none⟩) (Kd.R_far (p := ⟨gb148, 0, none⟩) (Kd.R_far (p := ⟨gb149, 2, none⟩) (Kd.R_types (Kd.R_types HO160.out BK149.out (by decide)) BK148.out (by decide)) (fun _ hk => hk.1.2) (.slice Ao28 y158.length co28)) (fun _ hk => hk.2) (.string a0)) (fun _ hk => hk.2) (.slice Ao31 x150001_1.length co31)) (fun _ hk => hk.2) (.slice Ao28 y158.length co28)) (fun _ hk => hk.1.1), by repeat (first | (with_reducible first | exact HB.out | apply below_alloc | apply pw_below_drewN | apply below_drew1 | refine below_set ?_ GE148.out | refine below_set ?_ GE149.out) | exact HB.out)⟩
        · rw [if_neg c24] at H
          exact absurd H (by simp)
end Go.Proofs.YtbmdhmmahmdccaaDoor.Print
/-! ### EClass -/
namespace Go.Proofs.YtbmdhmmahmdccaaDoor.Print
open Go.RowKit Go.Proofs.YtbmdhmmahmdccaaDoorW.PrintWords Go.Proofs.YtbmdhmmahmdccaaDoorW.PrintLast Go.Proofs.YtbmdhmmahmdccaaDoorW.PrintMore
set_option linter.unusedSimpArgs false
set_option linter.unusedVariables false
def malthouseref01_Class.f (a0 : Int) : Option Int := some (classZ a0)
theorem sign_at (S : ByteArray) (hS : S = ⟨#[40, 41, 123, 125, 44, 59, 58, 61, 43, 45, 42, 47, 37, 60, 62, 33, 38, 124]⟩) (k : Nat) (h : k < S.size) : ((S[k]'h).toNat : Int) = signs.getD k 0 := by
  subst hS
  have h18 : k < 18 := h
  match k, h18 with
  | 0, _ => rfl
  | 1, _ => rfl
  | 2, _ => rfl
  | 3, _ => rfl
  | 4, _ => rfl
  | 5, _ => rfl
  | 6, _ => rfl
  | 7, _ => rfl
  | 8, _ => rfl
  | 9, _ => rfl
  | 10, _ => rfl
  | 11, _ => rfl
  | 12, _ => rfl
  | 13, _ => rfl
  | 14, _ => rfl
  | 15, _ => rfl
  | 16, _ => rfl
  | 17, _ => rfl
  | k + 18, h => omega
theorem wrap_byte (b : UInt8) : wrap64 (b.toNat : Int) = b.toNat := by
  have := b.toNat_lt
  unfold wrap64
  omega
/-- What is no blank, letter, digit, quote or hash. -/
def lateZ (r : Int) : Prop := ¬ (r = 32 ∨ r = 9 ∨ r = 13 ∨ r = 10) ∧ ¬ ((97 ≤ r ∧ r ≤ 122) ∨ (65 ≤ r ∧ r ≤ 90) ∨ r = 95) ∧ ¬ (192 ≤ r ∧ r ≤ 591 ∧ r ≠ 215 ∧ r ≠ 247) ∧ ¬ (48 ≤ r ∧ r ≤ 57) ∧ r ≠ 34 ∧ r ≠ 35
theorem class_late {r : Int} (h : lateZ r) : classZ r = if r ∈ signs then 4 else 0 := by
  obtain ⟨h1, h2, h3, h4, h5, h6⟩ := h
  unfold classZ
  rw [if_neg h1, if_neg h2, if_neg h3, if_neg h4, if_neg h5, if_neg h6]
set_option maxHeartbeats 8000000 in
set_option maxRecDepth 100000 in
theorem malthouseref01_Class.calls (a0 : Int) (r : Int) (w : World) (h : malthouseref01_Class.f a0 = some r) :
    Calls Tryd.prog 42 #[.int .i64 a0] w fun e w' => e = .returned (.int .i64 r) ∧ Drawn0 w w' := by
  obtain rfl := Option.some.inj h
  clear h
  obtain ⟨c, hc⟩ : ∃ c, c = classZ a0 := ⟨_, rfl⟩
  rw [← hc]
  have HC := Lib.hid hc
  clear hc
  cases hb1 : (a0 != 215) <;> cases hb2 : (a0 != 247)
  all_goals
    go_enter Tryd.func42, Tryd.ntmps42
    go_wp2
  all_goals (try simp only [beq_eq_false_iff_ne, beq_iff_eq, bne_iff_ne, bne_eq_false_iff_eq, ne_eq] at *)
  all_goals first
    | (exfalso; omega)
    | (go_ret; refine ⟨?_, Drawn0.refl _⟩; rw [HC.out]; unfold classZ; (first | rw [if_pos (by omega)] | rw [if_neg (by omega), if_pos (by omega)] | rw [if_neg (by omega), if_neg (by omega), if_pos (by omega)] | rw [if_neg (by omega), if_neg (by omega), if_neg (by omega), if_pos (by omega)] | rw [if_neg (by omega), if_neg (by omega), if_neg (by omega), if_neg (by omega), if_pos (by omega)] | rw [if_neg (by omega), if_neg (by omega), if_neg (by omega), if_neg (by omega), if_neg (by omega), if_pos (by omega)]) <;> rfl)
    | (have hl : lateZ a0 := by unfold lateZ; omega
       clear hb1 hb2
       have h4 := HC.out
       rw [class_late hl] at h4
       have H4 := Lib.hid h4
       clear h4 hl HC
       generalize hS : (⟨#[40, 41, 123, 125, 44, 59, 58, 61, 43, 45, 42, 47, 37, 60, 62, 33, 38, 124]⟩ : ByteArray) = S
       have HS := Lib.hid hS.symm
       have hsz : S.size = 18 := by rw [← hS]; rfl
       have HSZ := Lib.hid hsz
       clear hS hsz
       go_loopw [4] (fun i wr => ∃ k : Nat, k ≤ 18 ∧ i = .int .i64 k ∧ Hid (∀ j, j < k → a0 ≠ signs.getD j 0) ∧ wr = w) (fun i _ => 18 - (intOf i).toNat)
       case atStart => exact ⟨0, by omega, rfl, Lib.hid (fun j h => by omega), rfl⟩
       case round =>
        obtain ⟨k, hk, rfl, hno, rfl⟩ := hrel
        by_cases hlt : k < S.size
        · have hlt' : (k : Int) < S.size := by omega
          have hk18 : k < 18 := by have := HSZ.out; omega
          have hat := sign_at S HS.out k hlt
          by_cases heq : a0 = signs.getD k 0
          · have hb : (wrap64 ((S[k]'hlt).toNat : Int) == a0) = true := by rw [wrap_byte (S[k]'hlt), hat, heq]; simp
            have hmem : a0 ∈ signs := by
              rw [heq, List.getD_eq_getElem?_getD, List.getElem?_eq_getElem (show k < signs.length from hk18)]
              exact List.getElem_mem _
            have H9 := Lib.hid hmem
            clear heq hat hmem
            go_wp2
            go_ret
            exact ⟨by rw [H4.out, if_pos H9.out]; rfl, Drawn0.refl _⟩
          · have hb : (wrap64 ((S[k]'hlt).toNat : Int) == a0) = false := by rw [wrap_byte (S[k]'hlt), hat, beq_eq_false_iff_ne]; exact fun e => heq e.symm
            have H9 := Lib.hid heq
            clear heq hat
            go_wp2
            go_roundw
            case rel =>
              refine ⟨k + 1, by omega, by go_num, Lib.hid (fun j hj => ?_), trivial⟩
              by_cases hjk : j = k
              · subst hjk; exact H9.out
              · exact hno.out j (by omega)
            case measure => simp [intOf]; omega
        · have hlt' : (S.size : Int) ≤ k := by have := HSZ.out; omega
          have hk18 : k = 18 := by have := HSZ.out; omega
          have hnm : a0 ∉ signs := by
            intro hm
            obtain ⟨j, hj, he⟩ := List.getElem_of_mem hm
            have hj18 : j < 18 := hj
            have := hno.out j (by omega)
            rw [List.getD_eq_getElem?_getD, List.getElem?_eq_getElem hj] at this
            exact this he.symm
          have H9 := Lib.hid hnm
          clear hnm
          go_wp2
          go_ret
          exact ⟨by rw [H4.out, if_neg H9.out]; rfl, Drawn0.refl _⟩)
end Go.Proofs.YtbmdhmmahmdccaaDoor.Print
/-! ### Print11 -/
namespace Go.Proofs.YtbmdhmmahmdccaaDoor.Print
open Go.RowKit Go.Proofs.YtbmdhmmahmdccaaDoorW.PrintWords Go.Proofs.YtbmdhmmahmdccaaDoorW.PrintLast Go.Proofs.YtbmdhmmahmdccaaDoorW.PrintMore
attribute [local go_sem] max2_int min2_int max_two min_two
set_option linter.unusedVariables false
set_option linter.unusedSimpArgs false
def malthouseref01_wordy.f (a0 : Int) : Option (Bool) := (malthouseref01_Class.f a0).bind fun t161 => (if t161 = 2 then (some true) else (some (t161 == 3)))
set_option maxHeartbeats 8000000 in
set_option maxRecDepth 100000 in
theorem malthouseref01_wordy.calls (a0 : Int) (r : Bool) (w : World) (h : malthouseref01_wordy.f a0 = some r) :
    Calls Tryd.prog 43 #[.int .i64 a0] w fun e w' => e = .returned (.bool r) ∧ Drawn0 w w' := by
  have H : ((malthouseref01_Class.f a0).bind fun t161 => (if t161 = 2 then (some true) else (some (t161 == 3)))) = some r := h
  clear h
  replace H := Option.bind_eq_some_iff.mp H
  obtain ⟨t161, A20, H⟩ := H
  replace H : (if t161 = 2 then (some true) else (some (t161 == 3))) = some r := H
  have A2 := Aside0.mk A20
  clear A20
  by_cases c3 : t161 = 2
  · rw [if_pos c3] at H
    have c3b0 : (t161 == 2) = true := beq_iff_eq.mpr c3
    have c3b1 : (t161 != 2) = false := bne_eq_false_iff_eq.mpr c3
    clear c3
    obtain rfl := Option.some.inj H
    go_enter Tryd.func43, Tryd.ntmps43
    go_wp2_with (first | ((with_reducible refine gate_callee (f := 42) rfl ?_); refine goesL_ (some 5) rfl rfl Tryd.func42 (by kernel_rfl) rfl #[.int .i64 a0] rfl (by (try simp only [List.map_toArray, List.map_cons, List.map_nil]); first | done | rfl | (simp only [List.length_drop, List.length_take]; rfl)) ?_; (with_reducible refine (malthouseref01_Class.calls a0 t161 _ A2.out).mono ?_); rintro e w' ⟨rfl, ⟨nd, rfl⟩⟩; refine ⟨_, rfl, ?_⟩))
    go_ret
    exact ⟨by first | rfl | (simp; done) | (simp [*]; done), by repeat (first | exact Drawn0.refl _ | apply Drawn0.step)⟩
  · rw [if_neg c3] at H
    have c3b0 : (t161 == 2) = false := beq_eq_false_iff_ne.mpr c3
    have c3b1 : (t161 != 2) = true := bne_iff_ne.mpr c3
    obtain rfl := Option.some.inj H
    go_enter Tryd.func43, Tryd.ntmps43
    go_wp2_with (first | ((with_reducible refine gate_callee (f := 42) rfl ?_); refine goesL_ (some 5) rfl rfl Tryd.func42 (by kernel_rfl) rfl #[.int .i64 a0] rfl (by (try simp only [List.map_toArray, List.map_cons, List.map_nil]); first | done | rfl | (simp only [List.length_drop, List.length_take]; rfl)) ?_; (with_reducible refine (malthouseref01_Class.calls a0 t161 _ A2.out).mono ?_); rintro e w' ⟨rfl, ⟨nd, rfl⟩⟩; refine ⟨_, rfl, ?_⟩))
    go_ret
    exact ⟨by first | rfl | (simp; done) | (simp [*]; done), by repeat (first | exact Drawn0.refl _ | apply Drawn0.step)⟩
mutual
def malthouseref01_Name.j0 : Nat → Bool → ByteArray → List Int → List Int → Option (Bool)
  | 0, _, _, _, _ => none
  | k + 1, x32, x171000, x171001, x171002 => if x32 = true then (some false) else (malthouseref01_Name.l0 k 0 x171000 x171001 x171002)
def malthouseref01_Name.l0 : Nat → Int → ByteArray → List Int → List Int → Option (Bool)
  | 0, _, _, _, _ => none
  | k + 1, x5, x171000, x171001, x171002 => if x5 < (x171001.length : Int) then (if 0 ≤ x5 then ((malthouseref01_wordy.f (rd x171001 x5)).bind fun t174 => (if t174 = true then (malthouseref01_Name.l0 k (wrap64 (x5 + 1)) x171000 x171001 x171002) else (some false))) else (none)) else (some true)
end
def malthouseref01_Name.f (k : Nat) (a0 : ByteArray) : Option (Bool) := (malthouseref01_Runes.f k a0).bind fun bt162 => (if bt162.2.2.2 = true then (if (bt162.2.1.length : Int) = 0 then (malthouseref01_Name.j0 k true bt162.1 bt162.2.1 bt162.2.2.1) else (if (bt162.2.1.length : Int) > 12 then (malthouseref01_Name.j0 k true bt162.1 bt162.2.1 bt162.2.2.1) else (if 0 < (bt162.2.1.length : Int) then ((malthouseref01_Class.f (rd bt162.2.1 0)).bind fun t172 => (malthouseref01_Name.j0 k (t172 != 2) bt162.1 bt162.2.1 bt162.2.2.1)) else (none)))) else (malthouseref01_Name.j0 k true bt162.1 bt162.2.1 bt162.2.2.1))
set_option maxHeartbeats 8000000 in
set_option maxRecDepth 100000 in
theorem malthouseref01_Name.calls (k : Nat) (a0 : ByteArray) (r : Bool) (w : World) (h : malthouseref01_Name.f k a0 = some r) :
    Calls Tryd.prog 33 #[.string a0] w fun e w' => e = .returned (.bool r) ∧ Below w.heap.size w w' := by
  have hu62 := Tryd.underlying62
  have HB := Aside0.mk (Below.refl w.heap.size w)
  have H : ((malthouseref01_Runes.f k a0).bind fun bt162 => (if bt162.2.2.2 = true then (if (bt162.2.1.length : Int) = 0 then (malthouseref01_Name.j0 k true bt162.1 bt162.2.1 bt162.2.2.1) else (if (bt162.2.1.length : Int) > 12 then (malthouseref01_Name.j0 k true bt162.1 bt162.2.1 bt162.2.2.1) else (if 0 < (bt162.2.1.length : Int) then ((malthouseref01_Class.f (rd bt162.2.1 0)).bind fun t172 => (malthouseref01_Name.j0 k (t172 != 2) bt162.1 bt162.2.1 bt162.2.2.1)) else (none)))) else (malthouseref01_Name.j0 k true bt162.1 bt162.2.1 bt162.2.2.1))) = some r := h
  clear h
  replace H := Option.bind_eq_some_iff.mp H
  obtain ⟨⟨t162, t163, t166, t169⟩, A20, H⟩ := H
  replace H : (if t169 = true then (if (t163.length : Int) = 0 then (malthouseref01_Name.j0 k true t162 t163 t166) else (if (t163.length : Int) > 12 then (malthouseref01_Name.j0 k true t162 t163 t166) else (if 0 < (t163.length : Int) then ((malthouseref01_Class.f (rd t163 0)).bind fun t172 => (malthouseref01_Name.j0 k (t172 != 2) t162 t163 t166)) else (none)))) else (malthouseref01_Name.j0 k true t162 t163 t166)) = some r := H
  have A2 := Aside0.mk A20
  clear A20
  have HC3 := Aside0.mk H
  clear H
  go_enter Tryd.func33, Tryd.ntmps33
  go_upto_region 2 with (first | ((with_reducible refine gate_callee (f := 41) rfl ?_); refine goesL_ (some 8) rfl rfl Tryd.func41 (by kernel_rfl) rfl #[.string a0] rfl (by (try simp only [List.map_toArray, List.map_cons, List.map_nil]); first | done | rfl | (simp only [List.length_drop, List.length_take]; rfl)) ?_; (with_reducible refine (malthouseref01_Runes.calls k a0 t162 t163 t166 t169 _ A2.out).mono ?_); rintro e w4 ⟨v164, v167, rfl, ho0, ho1, hb⟩; refine ⟨_, rfl, ?_⟩; have n0_ := Aside0.mk (Kd.R_lower ho0 (below_size (by repeat (first | (with_reducible first | exact HB.out | apply below_alloc | apply pw_below_drewN | apply below_drew1) | exact HB.out)))); have n1_ := Aside0.mk (Kd.R_lower ho1 (below_size (by repeat (first | (with_reducible first | exact HB.out | apply below_alloc | apply pw_below_drewN | apply below_drew1) | exact HB.out)))); have n2_ := Aside0.mk (below_step (by repeat (first | (with_reducible first | exact HB.out | apply below_alloc | apply pw_below_drewN | apply below_drew1) | exact HB.out)) hb); clear HB; have HO165 := n0_; have HO168 := n1_; have HB := n2_; clear n0_ n1_ n2_; (try clear hb); (try clear hb2); (try clear hk); (try clear hi); (try clear ho0); (try clear ho1)) | ((with_reducible refine gate_dst (N := 3) rfl ?_); (try (refine gate_guard (by rfl) ?_; dsimp only)); refine box_event ?hg (N := 3) ?hd (cs := #[.string (⟨#[]⟩ : ByteArray), .slice none 0 0, .slice none 0 0]) (t := 62) ?hr ?_; (case hd => rfl); (case hg => rfl); (case hr => first | (go_simp; done) | (go_simp; rfl)); intro gb170 hg w5 hbox hb; have n0_ := Aside0.mk (Kd.R_below (by (with_reducible repeat (first | apply Kd.R_alloc | apply Kd.R_drewN | apply Kd.R_drew)); exact HO165.out) hb); have n1_ := Aside0.mk (Kd.R_below (by (with_reducible repeat (first | apply Kd.R_alloc | apply Kd.R_drewN | apply Kd.R_drew)); exact HO168.out) hb); have n2_ := Aside0.mk (below_step (by repeat (first | (with_reducible first | exact HB.out | apply below_alloc | apply pw_below_drewN | apply below_drew1) | exact HB.out)) hb); have n3_ := Aside0.mk (hbox); have n4_ := Aside0.mk ((by rw [hg]; exact (below_size (by repeat (first | (with_reducible first | exact HB.out | apply below_alloc | apply pw_below_drewN | apply below_drew1) | exact HB.out))) : w.heap.size ≤ gb170)); have n5_ := Aside0.mk ((by rw [hg]; exact (below_size (by repeat (first | (with_reducible first | exact HB.out | apply below_alloc | apply pw_below_drewN | apply below_drew1) | exact HB.out))) : w.heap.size ≤ gb170)); clear HO165; clear HO168; clear HB; have HO165 := n0_; have HO168 := n1_; have HB := n2_; have BK170 := n3_; have GW170 := n4_; have GE170 := n5_; clear n0_ n1_ n2_ n3_ n4_ n5_; clear hb hbox hg; have hcz6_0 : w5.cell? ⟨gb170, 0, none⟩ = some (.string (⟨#[]⟩ : ByteArray)) := (blk_cell BK170.out 0).trans rfl; have hcz6_1 : w5.cell? ⟨gb170, 1, none⟩ = some (.slice none 0 0) := (blk_cell BK170.out 1).trans rfl; have hcz6_2 : w5.cell? ⟨gb170, 2, none⟩ = some (.slice none 0 0) := (blk_cell BK170.out 2).trans rfl; have hfz6_0 := blk_frozen BK170.out 0; have hfz6_1 := blk_frozen BK170.out 1; have hfz6_2 := blk_frozen BK170.out 2; obtain ⟨Ao7, co7, eo7⟩ := Kd.R_slice HO165.out; subst eo7; obtain ⟨Ao8, co8, eo8⟩ := Kd.R_slice HO168.out; subst eo8))
  (try simp only [Act.put, List.setIfInBounds_toArray, List.set_cons_zero, List.set_cons_succ])
  go_cut [32] (fun v32 wc => ∃ (kq : Nat) (x32_2 : Bool), v32 = .bool x32_2 ∧ Aside0 (malthouseref01_Name.j0 kq x32_2 t162 t163 t166 = some r) ∧ Aside0 (kq ≤ k) ∧ Aside0 (Kd.R (Kd.int .i64) 3 wc w.heap.size (fun k_ => some k_ ≠ ((.slice Ao8 t166.length co8) : Value).ownBlock) (.slice Ao7 t163.length co7) t163) ∧ Aside0 (Kd.R (Kd.int .i64) 3 wc w.heap.size (fun k_ => some k_ ≠ ((.slice Ao7 t163.length co7) : Value).ownBlock) (.slice Ao8 t166.length co8) t166) ∧ Aside0 (wc.heap[gb170]? = some (.cells #[.string t162, (.slice Ao7 t163.length co7), (.slice Ao8 t166.length co8)] 62 (0, 0))) ∧ Aside0 (Below w.heap.size w wc))
  case first =>
    have H := HC3.out
    clear HC3
    by_cases c9 : t169 = true
    · subst c9
      have H1 : (if (t163.length : Int) = 0 then (malthouseref01_Name.j0 k true t162 t163 t166) else (if (t163.length : Int) > 12 then (malthouseref01_Name.j0 k true t162 t163 t166) else (if 0 < (t163.length : Int) then ((malthouseref01_Class.f (rd t163 0)).bind fun t172 => (malthouseref01_Name.j0 k (t172 != 2) t162 t163 t166)) else (none)))) = some r := by rw [if_pos rfl] at H; exact H
      clear H
      have H := H1
      clear H1
      by_cases c10 : (t163.length : Int) = 0
      · rw [if_pos c10] at H
        have c10b0 : ((t163.length : Int) == 0) = true := beq_iff_eq.mpr c10
        have c10b1 : ((t163.length : Int) != 0) = false := bne_eq_false_iff_eq.mpr c10
        clear c10
        (first | rw [c10b0] | (simp only [i64_w, i32_w]; rw [c10b0]) | skip)
        have H' := Aside0.mk H
        clear H
        have hcz11_0 : w5.cell? ⟨gb170, 0, none⟩ = some (.string (⟨#[]⟩ : ByteArray)) := (blk_cell BK170.out 0).trans rfl
        have hcz11_1 : w5.cell? ⟨gb170, 1, none⟩ = some (.slice none 0 0) := (blk_cell BK170.out 1).trans rfl
        have hcz11_2 : w5.cell? ⟨gb170, 2, none⟩ = some (.slice none 0 0) := (blk_cell BK170.out 2).trans rfl
        have hfz11_0 := blk_frozen BK170.out 0
        have hfz11_1 := blk_frozen BK170.out 1
        have hfz11_2 := blk_frozen BK170.out 2
        go_wp2
        go_meet
        case rel => exact ⟨_, (true), (by first | rfl | (simp; done) | (simp [*]; done)), H', ⟨by first | omega | exact Nat.le_refl _⟩, ⟨by (with_reducible repeat (first | apply Kd.R_alloc | apply Kd.R_drewN | apply Kd.R_drew)); exact Kd.R_mono (Kd.R_far (p := ⟨gb170, 2, none⟩) (Kd.R_far (p := ⟨gb170, 1, none⟩) (Kd.R_far (p := ⟨gb170, 0, none⟩) (Kd.R_types HO165.out BK170.out (by decide)) (fun _ hk => hk.2) (.string t162)) (fun _ hk => hk.2) (.slice Ao7 t163.length co7)) (fun _ hk => hk.2) (.slice Ao8 t166.length co8)) (fun _ hk => hk.1)⟩, ⟨by (with_reducible repeat (first | apply Kd.R_alloc | apply Kd.R_drewN | apply Kd.R_drew)); exact Kd.R_mono (Kd.R_far (p := ⟨gb170, 2, none⟩) (Kd.R_far (p := ⟨gb170, 1, none⟩) (Kd.R_far (p := ⟨gb170, 0, none⟩) (Kd.R_types HO168.out BK170.out (by decide)) (fun _ hk => hk.2) (.string t162)) (fun _ hk => hk.2) (.slice Ao7 t163.length co7)) (fun _ hk => hk.2) (.slice Ao8 t166.length co8)) (fun _ hk => hk.1)⟩, ⟨by (with_reducible repeat (first | refine blk_drewN ?_ _ | refine blk_drew ?_ | refine blk_alloc ?_ _)); refine blk_put (cs := #[.string t162, .slice Ao7 t163.length co7, .slice none 0 0]) ?_ 2 _ rfl; (with_reducible repeat (first | refine blk_drewN ?_ _ | refine blk_drew ?_ | refine blk_alloc ?_ _)); refine blk_put (cs := #[.string t162, .slice none 0 0, .slice none 0 0]) ?_ 1 _ rfl; (with_reducible repeat (first | refine blk_drewN ?_ _ | refine blk_drew ?_ | refine blk_alloc ?_ _)); refine blk_put (cs := #[.string (⟨#[]⟩ : ByteArray), .slice none 0 0, .slice none 0 0]) ?_ 0 _ rfl; (with_reducible repeat (first | refine blk_drewN ?_ _ | refine blk_drew ?_ | refine blk_alloc ?_ _)); exact BK170.out⟩, ⟨by repeat (first | (with_reducible first | exact HB.out | apply below_alloc | apply pw_below_drewN | apply below_drew1 | refine below_set ?_ GE170.out) | exact HB.out)⟩⟩
      · rw [if_neg c10] at H
        have c10b0 : ((t163.length : Int) == 0) = false := beq_eq_false_iff_ne.mpr c10
        have c10b1 : ((t163.length : Int) != 0) = true := bne_iff_ne.mpr c10
        have c10b2 : ¬ (t163 = []) := fun h_ => c10 (by rw [h_]; rfl)
        (first | rw [c10b0] | (simp only [i64_w, i32_w]; rw [c10b0]) | skip)
        by_cases c12 : (t163.length : Int) > 12
        · rw [if_pos c12] at H
          have c12b0 : decide (12 < (t163.length : Int)) = true := decide_eq_true c12
          have c12b1 : decide (12 < t163.length) = true := decide_eq_true (by omega)
          clear c12
          have H' := Aside0.mk H
          clear H
          have hcz13_0 : w5.cell? ⟨gb170, 0, none⟩ = some (.string (⟨#[]⟩ : ByteArray)) := (blk_cell BK170.out 0).trans rfl
          have hcz13_1 : w5.cell? ⟨gb170, 1, none⟩ = some (.slice none 0 0) := (blk_cell BK170.out 1).trans rfl
          have hcz13_2 : w5.cell? ⟨gb170, 2, none⟩ = some (.slice none 0 0) := (blk_cell BK170.out 2).trans rfl
          have hfz13_0 := blk_frozen BK170.out 0
          have hfz13_1 := blk_frozen BK170.out 1
          have hfz13_2 := blk_frozen BK170.out 2
          go_wp2
          go_meet
          case rel => exact ⟨_, (true), (by first | rfl | (simp; done) | (simp [*]; done)), H', ⟨by first | omega | exact Nat.le_refl _⟩, ⟨by (with_reducible repeat (first | apply Kd.R_alloc | apply Kd.R_drewN | apply Kd.R_drew)); exact Kd.R_mono (Kd.R_far (p := ⟨gb170, 2, none⟩) (Kd.R_far (p := ⟨gb170, 1, none⟩) (Kd.R_far (p := ⟨gb170, 0, none⟩) (Kd.R_types HO165.out BK170.out (by decide)) (fun _ hk => hk.2) (.string t162)) (fun _ hk => hk.2) (.slice Ao7 t163.length co7)) (fun _ hk => hk.2) (.slice Ao8 t166.length co8)) (fun _ hk => hk.1)⟩, ⟨by (with_reducible repeat (first | apply Kd.R_alloc | apply Kd.R_drewN | apply Kd.R_drew)); exact Kd.R_mono (Kd.R_far (p := ⟨gb170, 2, none⟩) (Kd.R_far (p := ⟨gb170, 1, none⟩) (Kd.R_far (p := ⟨gb170, 0, none⟩) (Kd.R_types HO168.out BK170.out (by decide)) (fun _ hk => hk.2) (.string t162)) (fun _ hk => hk.2) (.slice Ao7 t163.length co7)) (fun _ hk => hk.2) (.slice Ao8 t166.length co8)) (fun _ hk => hk.1)⟩, ⟨by (with_reducible repeat (first | refine blk_drewN ?_ _ | refine blk_drew ?_ | refine blk_alloc ?_ _)); refine blk_put (cs := #[.string t162, .slice Ao7 t163.length co7, .slice none 0 0]) ?_ 2 _ rfl; (with_reducible repeat (first | refine blk_drewN ?_ _ | refine blk_drew ?_ | refine blk_alloc ?_ _)); refine blk_put (cs := #[.string t162, .slice none 0 0, .slice none 0 0]) ?_ 1 _ rfl; (with_reducible repeat (first | refine blk_drewN ?_ _ | refine blk_drew ?_ | refine blk_alloc ?_ _)); refine blk_put (cs := #[.string (⟨#[]⟩ : ByteArray), .slice none 0 0, .slice none 0 0]) ?_ 0 _ rfl; (with_reducible repeat (first | refine blk_drewN ?_ _ | refine blk_drew ?_ | refine blk_alloc ?_ _)); exact BK170.out⟩, ⟨by repeat (first | (with_reducible first | exact HB.out | apply below_alloc | apply pw_below_drewN | apply below_drew1 | refine below_set ?_ GE170.out) | exact HB.out)⟩⟩
        · rw [if_neg c12] at H
          have c12b0 : decide (12 < (t163.length : Int)) = false := decide_eq_false c12
          have c12b1 : decide (12 < t163.length) = false := decide_eq_false (by omega)
          clear c12
          by_cases c14 : 0 < (t163.length : Int)
          · rw [if_pos c14] at H
            have c14b0 : decide (0 < (t163.length : Int)) = true := decide_eq_true c14
            have c14b1 : decide (0 < t163.length) = true := decide_eq_true (by omega)
            clear c14
            replace H := Option.bind_eq_some_iff.mp H
            obtain ⟨t172, A150, H⟩ := H
            replace H : (malthouseref01_Name.j0 k (t172 != 2) t162 t163 t166) = some r := H
            have A15 := Aside0.mk A150
            clear A150
            have H' := Aside0.mk H
            clear H
            have hcz16_0 : w5.cell? ⟨gb170, 0, none⟩ = some (.string (⟨#[]⟩ : ByteArray)) := (blk_cell BK170.out 0).trans rfl
            have hcz16_1 : w5.cell? ⟨gb170, 1, none⟩ = some (.slice none 0 0) := (blk_cell BK170.out 1).trans rfl
            have hcz16_2 : w5.cell? ⟨gb170, 2, none⟩ = some (.slice none 0 0) := (blk_cell BK170.out 2).trans rfl
            have hfz16_0 := blk_frozen BK170.out 0
            have hfz16_1 := blk_frozen BK170.out 1
            have hfz16_2 := blk_frozen BK170.out 2
            have p171 : 0 ≤ (0 : Int) := (by omega)
            have q171 : 0 < (t163.length : Int) := of_decide_eq_true (by first | (with_reducible assumption) | assumption)
            obtain ⟨ad171, e171, hx171_0⟩ := Kd.at_int (Kd.R_reads' HO165.out).2.2 0 p171 q171
            cases e171
            have qi171 : (0 < t163.length) = True := eq_true (by omega)
            (try rw [show ((0 : Int)).toNat = 0 from rfl] at hx171_0)
            (try rw [Addr.add_zero'] at hx171_0)
            have hn171_0 : ad171.block ≠ gb170 := Kd.own_blk (Kd.R_ne HO165.out BK170.out (by decide))
            have hn171_1 : ad171.block ≠ gb170 := Kd.own_blk (Kd.R_ne HO165.out BK170.out (by decide))
            have hn171_2 : ad171.block ≠ gb170 := Kd.own_blk (Kd.R_ne HO165.out BK170.out (by decide))
            replace hx171_0 := (cell_far (p := ⟨gb170, 0, none⟩) (by first | (rw [add_block]; exact hn171_0) | (show (Addr.add _ _).block ≠ _; rw [add_block]; exact hn171_0) | exact hn171_0) (.string t162)).trans hx171_0
            replace hx171_0 := (cell_far (p := ⟨gb170, 1, none⟩) (by first | (rw [add_block]; exact hn171_1) | (show (Addr.add _ _).block ≠ _; rw [add_block]; exact hn171_1) | exact hn171_1) (.slice (some ad171) t163.length co7)).trans hx171_0
            replace hx171_0 := (cell_far (p := ⟨gb170, 2, none⟩) (by first | (rw [add_block]; exact hn171_2) | (show (Addr.add _ _).block ≠ _; rw [add_block]; exact hn171_2) | exact hn171_2) (.slice Ao8 t166.length co8)).trans hx171_0
            clear hn171_0
            clear hn171_1
            clear hn171_2
            replace p171 := eq_true p171
            replace q171 := eq_true q171
            go_wp2_with (first | (go_at_call 42; (with_reducible refine (malthouseref01_Class.calls (rd t163 0) t172 _ A15.out).mono ?_); rintro e w' ⟨rfl, ⟨nd, rfl⟩⟩))
            go_meet
            case rel => exact ⟨_, ((t172 != 2)), (by first | rfl | (simp; done) | (simp [*]; done)), H', ⟨by first | omega | exact Nat.le_refl _⟩, ⟨by (with_reducible repeat (first | apply Kd.R_alloc | apply Kd.R_drewN | apply Kd.R_drew)); exact Kd.R_mono (Kd.R_far (p := ⟨gb170, 2, none⟩) (Kd.R_far (p := ⟨gb170, 1, none⟩) (Kd.R_far (p := ⟨gb170, 0, none⟩) (Kd.R_types HO165.out BK170.out (by decide)) (fun _ hk => hk.2) (.string t162)) (fun _ hk => hk.2) (.slice (some ad171) t163.length co7)) (fun _ hk => hk.2) (.slice Ao8 t166.length co8)) (fun _ hk => hk.1)⟩, ⟨by (with_reducible repeat (first | apply Kd.R_alloc | apply Kd.R_drewN | apply Kd.R_drew)); exact Kd.R_mono (Kd.R_far (p := ⟨gb170, 2, none⟩) (Kd.R_far (p := ⟨gb170, 1, none⟩) (Kd.R_far (p := ⟨gb170, 0, none⟩) (Kd.R_types HO168.out BK170.out (by decide)) (fun _ hk => hk.2) (.string t162)) (fun _ hk => hk.2) (.slice (some ad171) t163.length co7)) (fun _ hk => hk.2) (.slice Ao8 t166.length co8)) (fun _ hk => hk.1)⟩, ⟨by (with_reducible repeat (first | refine blk_drewN ?_ _ | refine blk_drew ?_ | refine blk_alloc ?_ _)); refine blk_put (cs := #[.string t162, .slice (some ad171) t163.length co7, .slice none 0 0]) ?_ 2 _ rfl; (with_reducible repeat (first | refine blk_drewN ?_ _ | refine blk_drew ?_ | refine blk_alloc ?_ _)); refine blk_put (cs := #[.string t162, .slice none 0 0, .slice none 0 0]) ?_ 1 _ rfl; (with_reducible repeat (first | refine blk_drewN ?_ _ | refine blk_drew ?_ | refine blk_alloc ?_ _)); refine blk_put (cs := #[.string (⟨#[]⟩ : ByteArray), .slice none 0 0, .slice none 0 0]) ?_ 0 _ rfl; (with_reducible repeat (first | refine blk_drewN ?_ _ | refine blk_drew ?_ | refine blk_alloc ?_ _)); exact BK170.out⟩, ⟨by repeat (first | (with_reducible first | exact HB.out | apply below_alloc | apply pw_below_drewN | apply below_drew1 | refine below_set ?_ GE170.out) | exact HB.out)⟩⟩
          · rw [if_neg c14] at H
            exact absurd H (by simp)
    · replace c9 := Bool.eq_false_iff.mpr c9
      subst c9
      have H1 : (malthouseref01_Name.j0 k true t162 t163 t166) = some r := by rw [if_neg (show ¬ (false = true) by decide)] at H; exact H
      clear H
      have H := H1
      clear H1
      have H' := Aside0.mk H
      clear H
      go_wp2
      go_meet
      case rel => exact ⟨_, (true), (by first | rfl | (simp; done) | (simp [*]; done)), H', ⟨by first | omega | exact Nat.le_refl _⟩, ⟨by (with_reducible repeat (first | apply Kd.R_alloc | apply Kd.R_drewN | apply Kd.R_drew)); exact Kd.R_mono (Kd.R_far (p := ⟨gb170, 2, none⟩) (Kd.R_far (p := ⟨gb170, 1, none⟩) (Kd.R_far (p := ⟨gb170, 0, none⟩) (Kd.R_types HO165.out BK170.out (by decide)) (fun _ hk => hk.2) (.string t162)) (fun _ hk => hk.2) (.slice Ao7 t163.length co7)) (fun _ hk => hk.2) (.slice Ao8 t166.length co8)) (fun _ hk => hk.1)⟩, ⟨by (with_reducible repeat (first | apply Kd.R_alloc | apply Kd.R_drewN | apply Kd.R_drew)); exact Kd.R_mono (Kd.R_far (p := ⟨gb170, 2, none⟩) (Kd.R_far (p := ⟨gb170, 1, none⟩) (Kd.R_far (p := ⟨gb170, 0, none⟩) (Kd.R_types HO168.out BK170.out (by decide)) (fun _ hk => hk.2) (.string t162)) (fun _ hk => hk.2) (.slice Ao7 t163.length co7)) (fun _ hk => hk.2) (.slice Ao8 t166.length co8)) (fun _ hk => hk.1)⟩, ⟨by (with_reducible repeat (first | refine blk_drewN ?_ _ | refine blk_drew ?_ | refine blk_alloc ?_ _)); refine blk_put (cs := #[.string t162, .slice Ao7 t163.length co7, .slice none 0 0]) ?_ 2 _ rfl; (with_reducible repeat (first | refine blk_drewN ?_ _ | refine blk_drew ?_ | refine blk_alloc ?_ _)); refine blk_put (cs := #[.string t162, .slice none 0 0, .slice none 0 0]) ?_ 1 _ rfl; (with_reducible repeat (first | refine blk_drewN ?_ _ | refine blk_drew ?_ | refine blk_alloc ?_ _)); refine blk_put (cs := #[.string (⟨#[]⟩ : ByteArray), .slice none 0 0, .slice none 0 0]) ?_ 0 _ rfl; (with_reducible repeat (first | refine blk_drewN ?_ _ | refine blk_drew ?_ | refine blk_alloc ?_ _)); exact BK170.out⟩, ⟨by repeat (first | (with_reducible first | exact HB.out | apply below_alloc | apply pw_below_drewN | apply below_drew1 | refine below_set ?_ GE170.out) | exact HB.out)⟩⟩
  case rest =>
    clear HC3
    try clear c1
    try clear p1
    try clear q1
    try clear hx1
    try clear qi1
    try clear p2
    try clear c3
    try clear c4
    try clear c9
    try clear c10
    try clear c10b0
    try clear c10b1
    try clear c10b2
    try clear c12
    try clear c12b0
    try clear c12b1
    try clear c14
    try clear c14b0
    try clear c14b1
    try clear hcz11_0
    try clear hcz11_1
    try clear hcz11_2
    try clear hcz13_0
    try clear hcz13_1
    try clear hcz13_2
    try clear hcz16_0
    try clear hcz16_1
    try clear hcz16_2
    try clear hcz6_0
    try clear hcz6_1
    try clear hcz6_2
    try clear hfz11_0
    try clear hfz11_1
    try clear hfz11_2
    try clear hfz13_0
    try clear hfz13_1
    try clear hfz13_2
    try clear hfz16_0
    try clear hfz16_1
    try clear hfz16_2
    try clear hfz6_0
    try clear hfz6_1
    try clear hfz6_2
    try clear hx171_0
    try clear p171
    try clear q171
    obtain ⟨kq, x32_2, rfl, HA, HJ2, HO_171001, HO_171002, BK170, HB⟩ := hcut
    cases kq with
    | zero => exact absurd HA.out (by simp [malthouseref01_Name.j0])
    | succ kj2 =>
      have H := HA.out
      clear HA
      simp only [malthouseref01_Name.j0] at H
      by_cases c17 : x32_2 = true
      · subst c17
        have H1 : (some false) = some r := by rw [if_pos rfl] at H; exact H
        clear H
        have H := H1
        clear H1
        obtain rfl := Option.some.inj H
        go_wp2
        go_ret
        exact ⟨by first | rfl | (simp [errW_none, errW_some] <;> rfl) | (simp [*, errW_none, errW_some] <;> rfl), by repeat (first | (with_reducible first | exact HB.out | apply below_alloc | apply pw_below_drewN | apply below_drew1 | refine below_set ?_ GE170.out) | exact HB.out)⟩
      · replace c17 := Bool.eq_false_iff.mpr c17
        subst c17
        have H1 : (malthouseref01_Name.l0 kj2 0 t162 t163 t166) = some r := by rw [if_neg (show ¬ (false = true) by decide)] at H; exact H
        clear H
        have H := H1
        clear H1
        have H' := Aside0.mk H
        clear H
        go_wp2
        go_loopg [5] kj2 (fun kq v5 w' => ∃ (x5_2 : Int), v5 = .int .i64 x5_2 ∧ Aside0 (malthouseref01_Name.l0 kq x5_2 t162 t163 t166 = some r) ∧ Aside0 (kq ≤ kj2) ∧ Aside0 (Kd.R (Kd.int .i64) 3 w' w.heap.size (fun k_ => some k_ ≠ ((.slice Ao8 t166.length co8) : Value).ownBlock) (.slice Ao7 t163.length co7) t163) ∧ Aside0 (Kd.R (Kd.int .i64) 3 w' w.heap.size (fun k_ => some k_ ≠ ((.slice Ao7 t163.length co7) : Value).ownBlock) (.slice Ao8 t166.length co8) t166) ∧ Aside0 (w'.heap[gb170]? = some (.cells #[.string t162, (.slice Ao7 t163.length co7), (.slice Ao8 t166.length co8)] 62 (0, 0))) ∧ Aside0 (Below w.heap.size w w'))
        case atStart => exact ⟨(0), (by first | rfl | (simp; done) | (simp [*]; done)), H', ⟨Nat.le_refl _⟩, ⟨by (with_reducible repeat (first | apply Kd.R_alloc | apply Kd.R_drewN | apply Kd.R_drew)); exact HO_171001.out⟩, ⟨by (with_reducible repeat (first | apply Kd.R_alloc | apply Kd.R_drewN | apply Kd.R_drew)); exact HO_171002.out⟩, ⟨by (with_reducible repeat (first | refine blk_drewN ?_ _ | refine blk_drew ?_ | refine blk_alloc ?_ _)); exact BK170.out⟩, ⟨by repeat (first | (with_reducible first | exact HB.out | apply below_alloc | apply pw_below_drewN | apply below_drew1 | refine below_set ?_ GE170.out) | exact HB.out)⟩⟩
        case round =>
          clear H'
          try clear c1
          try clear p1
          try clear q1
          try clear hx1
          try clear qi1
          try clear p2
          try clear c3
          try clear c4
          try clear c9
          try clear c10
          try clear c10b0
          try clear c10b1
          try clear c10b2
          try clear c12
          try clear c12b0
          try clear c12b1
          try clear c14
          try clear c14b0
          try clear c14b1
          try clear c17
          try clear p17
          try clear q17
          try clear hx17
          try clear qi17
          try clear hcz11_0
          try clear hcz11_1
          try clear hcz11_2
          try clear hcz13_0
          try clear hcz13_1
          try clear hcz13_2
          try clear hcz16_0
          try clear hcz16_1
          try clear hcz16_2
          try clear hcz6_0
          try clear hcz6_1
          try clear hcz6_2
          try clear hfz11_0
          try clear hfz11_1
          try clear hfz11_2
          try clear hfz13_0
          try clear hfz13_1
          try clear hfz13_2
          try clear hfz16_0
          try clear hfz16_1
          try clear hfz16_2
          try clear hfz6_0
          try clear hfz6_1
          try clear hfz6_2
          try clear hx171_0
          try clear p1
          try clear p171
          try clear p2
          try clear q1
          try clear q171
          obtain ⟨x5_2, rfl, HA, HK2, HO_171001, HO_171002, BK170, HB⟩ := hrel
          cases gk with
          | zero => exact absurd HA.out (by simp [malthouseref01_Name.l0])
          | succ k2 =>
            have H := HA.out
            clear HA
            simp only [malthouseref01_Name.l0] at H
            by_cases c18 : x5_2 < (t163.length : Int)
            · rw [if_pos c18] at H
              have c18b0 : decide (x5_2 < (t163.length : Int)) = true := decide_eq_true c18
              clear c18
              by_cases c19 : 0 ≤ x5_2
              · rw [if_pos c19] at H
                have c19b0 : decide (0 ≤ x5_2) = true := decide_eq_true c19
                clear c19
                replace H := Option.bind_eq_some_iff.mp H
                obtain ⟨t174, A200, H⟩ := H
                replace H : (if t174 = true then (malthouseref01_Name.l0 k2 (wrap64 (x5_2 + 1)) t162 t163 t166) else (some false)) = some r := H
                have A20 := Aside0.mk A200
                clear A200
                by_cases c21 : t174 = true
                · subst c21
                  have H1 : (malthouseref01_Name.l0 k2 (wrap64 (x5_2 + 1)) t162 t163 t166) = some r := by rw [if_pos rfl] at H; exact H
                  clear H
                  have H := H1
                  clear H1
                  have H' := Aside0.mk H
                  clear H
                  have hcz22_0 : wr.cell? ⟨gb170, 0, none⟩ = some (.string t162) := (blk_cell BK170.out 0).trans rfl
                  have hcz22_1 : wr.cell? ⟨gb170, 1, none⟩ = some (.slice Ao7 t163.length co7) := (blk_cell BK170.out 1).trans rfl
                  have hcz22_2 : wr.cell? ⟨gb170, 2, none⟩ = some (.slice Ao8 t166.length co8) := (blk_cell BK170.out 2).trans rfl
                  have hfz22_0 := blk_frozen BK170.out 0
                  have hfz22_1 := blk_frozen BK170.out 1
                  have hfz22_2 := blk_frozen BK170.out 2
                  have p173 : 0 ≤ (x5_2 : Int) := of_decide_eq_true (by first | (with_reducible assumption) | assumption)
                  have q173 : x5_2 < (t163.length : Int) := of_decide_eq_true (by first | (with_reducible assumption) | assumption)
                  obtain ⟨ad173, e173, hx173_0⟩ := Kd.at_int (Kd.R_reads' HO_171001.out).2.2 x5_2 p173 q173
                  cases e173
                  replace p173 := eq_true p173
                  replace q173 := eq_true q173
                  go_wp2_with (first | ((with_reducible refine gate_callee (f := 43) rfl ?_); refine goesL_ (some 45) rfl rfl Tryd.func43 (by kernel_rfl) rfl #[.int .i64 (rd t163 x5_2)] rfl (by (try simp only [List.map_toArray, List.map_cons, List.map_nil]); first | done | rfl | (simp only [List.length_drop, List.length_take]; rfl)) ?_; (with_reducible refine (malthouseref01_wordy.calls (rd t163 x5_2) true _ A20.out).mono ?_); rintro e w' ⟨rfl, ⟨nd, rfl⟩⟩; refine ⟨_, rfl, ?_⟩))
                  go_roundg k2
                  case measure => have := HJ2.out; have := HK2.out; omega
                  case rel => exact ⟨(wrap64 (x5_2 + 1)), (by first | rfl | (simp; done) | (simp [*]; done)), H', ⟨by have := HJ2.out; have := HK2.out; omega⟩, ⟨by (with_reducible repeat (first | apply Kd.R_alloc | apply Kd.R_drewN | apply Kd.R_drew)); exact HO_171001.out⟩, ⟨by (with_reducible repeat (first | apply Kd.R_alloc | apply Kd.R_drewN | apply Kd.R_drew)); exact HO_171002.out⟩, ⟨by (with_reducible repeat (first | refine blk_drewN ?_ _ | refine blk_drew ?_ | refine blk_alloc ?_ _)); exact BK170.out⟩, ⟨by repeat (first | (with_reducible first | exact HB.out | apply below_alloc | apply pw_below_drewN | apply below_drew1 | refine below_set ?_ GE170.out) | exact HB.out)⟩⟩
                · replace c21 := Bool.eq_false_iff.mpr c21
                  subst c21
                  have H1 : (some false) = some r := by rw [if_neg (show ¬ (false = true) by decide)] at H; exact H
                  clear H
                  have H := H1
                  clear H1
                  obtain rfl := Option.some.inj H
                  have hcz23_0 : wr.cell? ⟨gb170, 0, none⟩ = some (.string t162) := (blk_cell BK170.out 0).trans rfl
                  have hcz23_1 : wr.cell? ⟨gb170, 1, none⟩ = some (.slice Ao7 t163.length co7) := (blk_cell BK170.out 1).trans rfl
                  have hcz23_2 : wr.cell? ⟨gb170, 2, none⟩ = some (.slice Ao8 t166.length co8) := (blk_cell BK170.out 2).trans rfl
                  have hfz23_0 := blk_frozen BK170.out 0
                  have hfz23_1 := blk_frozen BK170.out 1
                  have hfz23_2 := blk_frozen BK170.out 2
                  have p173 : 0 ≤ (x5_2 : Int) := of_decide_eq_true (by first | (with_reducible assumption) | assumption)
                  have q173 : x5_2 < (t163.length : Int) := of_decide_eq_true (by first | (with_reducible assumption) | assumption)
                  obtain ⟨ad173, e173, hx173_0⟩ := Kd.at_int (Kd.R_reads' HO_171001.out).2.2 x5_2 p173 q173
                  cases e173
                  replace p173 := eq_true p173
                  replace q173 := eq_true q173
                  go_wp2_with (first | ((with_reducible refine gate_callee (f := 43) rfl ?_); refine goesL_ (some 45) rfl rfl Tryd.func43 (by kernel_rfl) rfl #[.int .i64 (rd t163 x5_2)] rfl (by (try simp only [List.map_toArray, List.map_cons, List.map_nil]); first | done | rfl | (simp only [List.length_drop, List.length_take]; rfl)) ?_; (with_reducible refine (malthouseref01_wordy.calls (rd t163 x5_2) false _ A20.out).mono ?_); rintro e w' ⟨rfl, ⟨nd, rfl⟩⟩; refine ⟨_, rfl, ?_⟩))
                  go_ret
                  exact ⟨by first | rfl | (simp [errW_none, errW_some] <;> rfl) | (simp [*, errW_none, errW_some] <;> rfl), by repeat (first | (with_reducible first | exact HB.out | apply below_alloc | apply pw_below_drewN | apply below_drew1 | refine below_set ?_ GE170.out) | exact HB.out)⟩
              · rw [if_neg c19] at H
                exact absurd H (by simp)
            · rw [if_neg c18] at H
              have c18b0 : decide (x5_2 < (t163.length : Int)) = false := decide_eq_false c18
              clear c18
              obtain rfl := Option.some.inj H
              have hcz24_0 : wr.cell? ⟨gb170, 0, none⟩ = some (.string t162) := (blk_cell BK170.out 0).trans rfl
              have hcz24_1 : wr.cell? ⟨gb170, 1, none⟩ = some (.slice Ao7 t163.length co7) := (blk_cell BK170.out 1).trans rfl
              have hcz24_2 : wr.cell? ⟨gb170, 2, none⟩ = some (.slice Ao8 t166.length co8) := (blk_cell BK170.out 2).trans rfl
              have hfz24_0 := blk_frozen BK170.out 0
              have hfz24_1 := blk_frozen BK170.out 1
              have hfz24_2 := blk_frozen BK170.out 2
              go_wp2
              go_ret
              exact ⟨by first | rfl | (simp [errW_none, errW_some] <;> rfl) | (simp [*, errW_none, errW_some] <;> rfl), by repeat (first | (with_reducible first | exact HB.out | apply below_alloc | apply pw_below_drewN | apply below_drew1 | refine below_set ?_ GE170.out) | exact HB.out)⟩
mutual
def malthouseref08_Check.l0 : Nat → List (S48) → Int → Option (Int)
  | 0, _, _ => none
  | k + 1, x0, x3 => if x3 < (x0.length : Int) then (if 0 ≤ x3 then ((malthouseref01_Name.f k ((rd_T48 x0 x3).f0)).bind fun t176 => (if t176 = true then (malthouseref08_Check.j1 k x0 x3 (decide (((rd_T48 x0 x3).f2) > ((rd_T48 x0 x3).f3)))) else (malthouseref08_Check.j1 k x0 x3 true))) else (none)) else (some 0)
def malthouseref08_Check.j1 : Nat → List (S48) → Int → Bool → Option (Int)
  | 0, _, _, _ => none
  | k + 1, x0, x3, x34 => if x34 = true then (some 1) else (if 0 ≤ x3 then (if x3 < (x0.length : Int) then ((malthouseref08_Find.f k x0 ((rd_T48 x0 x3).f0)).bind fun t180 => (if t180 = x3 then (malthouseref08_Check.l0 k x0 (wrap64 (x3 + 1))) else (some 5))) else (none)) else (none))
end
def malthouseref08_Check.f (k : Nat) (l0 : List (S48)) : Option (Int) := if (l0.length : Int) > 12 then (some 2) else (malthouseref08_Check.l0 k l0 0)
set_option maxHeartbeats 8000000 in
set_option maxRecDepth 100000 in
theorem malthouseref08_Check.calls (k : Nat) (A0 : Option Addr) (c0 : Nat) (l0 : List (S48)) (r : Int) (w : World) (hr0 : Kd.C k48 w A0 l0.length l0) (hc0 : l0.length ≤ c0) (h : malthouseref08_Check.f k l0 = some r) :
    Calls Tryd.prog 15 #[.slice A0 l0.length c0] w fun e w' => e = .returned (.int .i64 r) ∧ Below w.heap.size w w' := by
  have HR0 := Aside0.mk hr0
  have HC0 := Aside0.mk hc0
  clear hr0 hc0
  have HB := Aside0.mk (Below.refl w.heap.size w)
  have H : (if (l0.length : Int) > 12 then (some 2) else (malthouseref08_Check.l0 k l0 0)) = some r := h
  clear h
  by_cases c2 : (l0.length : Int) > 12
  · rw [if_pos c2] at H
    have c2b0 : decide (12 < (l0.length : Int)) = true := decide_eq_true c2
    have c2b1 : decide (12 < l0.length) = true := decide_eq_true (by omega)
    clear c2
    obtain rfl := Option.some.inj H
    go_enter Tryd.func15, Tryd.ntmps15
    go_wp2
    repeat (go_quiet (fail); try go_wp2)
    go_ret
    exact ⟨by first | rfl | (simp [errW_none, errW_some] <;> rfl) | (simp [*, errW_none, errW_some] <;> rfl), by repeat (first | (with_reducible first | exact HB.out | apply below_alloc | apply pw_below_drewN | apply below_drew1) | exact HB.out)⟩
  · rw [if_neg c2] at H
    have c2b0 : decide (12 < (l0.length : Int)) = false := decide_eq_false c2
    have c2b1 : decide (12 < l0.length) = false := decide_eq_false (by omega)
    clear c2
    have H' := Aside0.mk H
    clear H
    go_enter Tryd.func15, Tryd.ntmps15
    go_wp2
    repeat (go_quiet (fail); try go_wp2)
    go_loopg [3] k (fun kq v3 w' => ∃ (x3_1 : Int), v3 = .int .i64 x3_1 ∧ Aside0 (malthouseref08_Check.l0 kq l0 x3_1 = some r) ∧ Aside0 (kq ≤ k) ∧ Aside0 (Below w.heap.size w w'))
    case atStart => exact ⟨(0), (by first | rfl | (simp; done) | (simp [*]; done)), H', ⟨Nat.le_refl _⟩, ⟨by repeat (first | (with_reducible first | exact HB.out | apply below_alloc | apply pw_below_drewN | apply below_drew1) | exact HB.out)⟩⟩
    case round =>
      clear H'
      try clear c1
      try clear c2
      try clear c2b0
      try clear c2b1
      try clear p2
      obtain ⟨x3_1, rfl, HA, HK1, HB⟩ := hrel
      cases gk with
      | zero => exact absurd HA.out (by simp [malthouseref08_Check.l0])
      | succ k1 =>
        have H := HA.out
        clear HA
        simp only [malthouseref08_Check.l0] at H
        by_cases c3 : x3_1 < (l0.length : Int)
        · rw [if_pos c3] at H
          have c3b0 : decide (x3_1 < (l0.length : Int)) = true := decide_eq_true c3
          clear c3
          by_cases c4 : 0 ≤ x3_1
          · rw [if_pos c4] at H
            have c4b0 : decide (0 ≤ x3_1) = true := decide_eq_true c4
            clear c4
            replace H := Option.bind_eq_some_iff.mp H
            obtain ⟨t176, A50, H⟩ := H
            replace H : (if t176 = true then (malthouseref08_Check.j1 k1 l0 x3_1 (decide (((rd_T48 l0 x3_1).f2) > ((rd_T48 l0 x3_1).f3)))) else (malthouseref08_Check.j1 k1 l0 x3_1 true)) = some r := H
            have A5 := Aside0.mk A50
            clear A50
            have HC6 := Aside0.mk H
            clear H
            have p175 : 0 ≤ (x3_1 : Int) := of_decide_eq_true (by first | (with_reducible assumption) | assumption)
            have q175 : x3_1 < (l0.length : Int) := of_decide_eq_true (by first | (with_reducible assumption) | assumption)
            obtain ⟨ad175, e175, hx175_0, hx175_1, hx175_2, hx175_3⟩ := at_T48 HR0.out x3_1 p175 q175
            cases e175
            replace hx175_0 := (HB.out.cell (World.block_lt_of_cell? w _ hx175_0)).trans hx175_0
            replace hx175_1 := (HB.out.cell (World.block_lt_of_cell? w _ hx175_1)).trans hx175_1
            replace hx175_2 := (HB.out.cell (World.block_lt_of_cell? w _ hx175_2)).trans hx175_2
            replace hx175_3 := (HB.out.cell (World.block_lt_of_cell? w _ hx175_3)).trans hx175_3
            replace p175 := eq_true p175
            replace q175 := eq_true q175
            go_upto_region 7 with (first | (go_at_call 33; (with_reducible refine (malthouseref01_Name.calls k1 ((rd_T48 l0 x3_1).f0) t176 _ A5.out).mono ?_); rintro e w7 ⟨rfl, hb⟩; have n0_ := Aside0.mk (below_step (by repeat (first | (with_reducible first | exact HB.out | apply below_alloc | apply pw_below_drewN | apply below_drew1) | exact HB.out)) hb); clear HB; have HB := n0_; clear n0_; (try clear hb); (try clear hb2); (try clear hk); (try clear hi)))
            repeat (go_quiet (first | (go_at_call 33; (with_reducible refine (malthouseref01_Name.calls k1 ((rd_T48 l0 x3_1).f0) t176 _ A5.out).mono ?_); rintro e w7 ⟨rfl, hb⟩; have n0_ := Aside0.mk (below_step (by repeat (first | (with_reducible first | exact HB.out | apply below_alloc | apply pw_below_drewN | apply below_drew1) | exact HB.out)) hb); clear HB; have HB := n0_; clear n0_; (try clear hb); (try clear hb2); (try clear hk); (try clear hi))); go_upto_region 7 with (first | (go_at_call 33; (with_reducible refine (malthouseref01_Name.calls k1 ((rd_T48 l0 x3_1).f0) t176 _ A5.out).mono ?_); rintro e w7 ⟨rfl, hb⟩; have n0_ := Aside0.mk (below_step (by repeat (first | (with_reducible first | exact HB.out | apply below_alloc | apply pw_below_drewN | apply below_drew1) | exact HB.out)) hb); clear HB; have HB := n0_; clear n0_; (try clear hb); (try clear hb2); (try clear hk); (try clear hi))))
            (try simp only [Act.put, List.setIfInBounds_toArray, List.set_cons_zero, List.set_cons_succ])
            go_cut [34] (fun v34 wc => ∃ (kq : Nat) (x34_5 : Bool), v34 = .bool x34_5 ∧ Aside0 (malthouseref08_Check.j1 kq l0 x3_1 x34_5 = some r) ∧ Aside0 (kq ≤ k1) ∧ Aside0 (Below w.heap.size w wc))
            case first =>
              have H := HC6.out
              clear HC6
              by_cases c8 : t176 = true
              · subst c8
                have H1 : (malthouseref08_Check.j1 k1 l0 x3_1 (decide (((rd_T48 l0 x3_1).f2) > ((rd_T48 l0 x3_1).f3)))) = some r := by rw [if_pos rfl] at H; exact H
                clear H
                have H := H1
                clear H1
                have H' := Aside0.mk H
                clear H
                have p177 : 0 ≤ (x3_1 : Int) := of_decide_eq_true (by first | (with_reducible assumption) | assumption)
                have q177 : x3_1 < (l0.length : Int) := of_decide_eq_true (by first | (with_reducible assumption) | assumption)
                obtain ⟨ad177, e177, hx177_0, hx177_1, hx177_2, hx177_3⟩ := at_T48 HR0.out x3_1 p177 q177
                obtain rfl : ad175 = ad177 := (by injection e177)
                replace hx177_0 := (HB.out.cell (World.block_lt_of_cell? w _ hx177_0)).trans hx177_0
                replace hx177_1 := (HB.out.cell (World.block_lt_of_cell? w _ hx177_1)).trans hx177_1
                replace hx177_2 := (HB.out.cell (World.block_lt_of_cell? w _ hx177_2)).trans hx177_2
                replace hx177_3 := (HB.out.cell (World.block_lt_of_cell? w _ hx177_3)).trans hx177_3
                replace p177 := eq_true p177
                replace q177 := eq_true q177
                have p178 : 0 ≤ (x3_1 : Int) := of_decide_eq_true (by first | (with_reducible assumption) | assumption)
                have q178 : x3_1 < (l0.length : Int) := of_decide_eq_true (by first | (with_reducible assumption) | assumption)
                obtain ⟨ad178, e178, hx178_0, hx178_1, hx178_2, hx178_3⟩ := at_T48 HR0.out x3_1 p178 q178
                obtain rfl : ad175 = ad178 := (by injection e178)
                replace hx178_0 := (HB.out.cell (World.block_lt_of_cell? w _ hx178_0)).trans hx178_0
                replace hx178_1 := (HB.out.cell (World.block_lt_of_cell? w _ hx178_1)).trans hx178_1
                replace hx178_2 := (HB.out.cell (World.block_lt_of_cell? w _ hx178_2)).trans hx178_2
                replace hx178_3 := (HB.out.cell (World.block_lt_of_cell? w _ hx178_3)).trans hx178_3
                replace p178 := eq_true p178
                replace q178 := eq_true q178
                go_wp2
                repeat (go_quiet (fail); try go_wp2)
                go_meet
                case rel => exact ⟨_, (decide (((rd_T48 l0 x3_1).f2) > ((rd_T48 l0 x3_1).f3))), (by first | rfl | (simp; done) | (simp [*]; done)), H', ⟨by have := HK1.out; first | omega | exact Nat.le_refl _⟩, ⟨by repeat (first | (with_reducible first | exact HB.out | apply below_alloc | apply pw_below_drewN | apply below_drew1) | exact HB.out)⟩⟩
              · replace c8 := Bool.eq_false_iff.mpr c8
                subst c8
                have H1 : (malthouseref08_Check.j1 k1 l0 x3_1 true) = some r := by rw [if_neg (show ¬ (false = true) by decide)] at H; exact H
                clear H
                have H := H1
                clear H1
                have H' := Aside0.mk H
                clear H
                go_wp2
                repeat (go_quiet (fail); try go_wp2)
                go_meet
                case rel => exact ⟨_, (true), (by first | rfl | (simp; done) | (simp [*]; done)), H', ⟨by have := HK1.out; first | omega | exact Nat.le_refl _⟩, ⟨by repeat (first | (with_reducible first | exact HB.out | apply below_alloc | apply pw_below_drewN | apply below_drew1) | exact HB.out)⟩⟩
            case rest =>
              clear HC6
              try clear c1
              try clear p1
              try clear q1
              try clear hx1
              try clear c2
              try clear c2b0
              try clear c2b1
              try clear p2
              try clear c3
              try clear c3b0
              try clear c4
              try clear c4b0
              try clear c8
              try clear hx175_0
              try clear hx175_1
              try clear hx175_2
              try clear hx175_3
              try clear hx177_0
              try clear hx177_1
              try clear hx177_2
              try clear hx177_3
              try clear hx178_0
              try clear hx178_1
              try clear hx178_2
              try clear hx178_3
              try clear p175
              try clear p177
              try clear p178
              try clear p2
              try clear q175
              try clear q177
              try clear q178
              obtain ⟨kq, x34_5, rfl, HA, HJ5, HB⟩ := hcut
              cases kq with
              | zero => exact absurd HA.out (by simp [malthouseref08_Check.j1])
              | succ kj5 =>
                have H := HA.out
                clear HA
                simp only [malthouseref08_Check.j1] at H
                by_cases c9 : x34_5 = true
                · subst c9
                  have H1 : (some 1) = some r := by rw [if_pos rfl] at H; exact H
                  clear H
                  have H := H1
                  clear H1
                  obtain rfl := Option.some.inj H
                  go_wp2
                  repeat (go_quiet (fail); try go_wp2)
                  go_ret
                  exact ⟨by first | rfl | (simp [errW_none, errW_some] <;> rfl) | (simp [*, errW_none, errW_some] <;> rfl), by repeat (first | (with_reducible first | exact HB.out | apply below_alloc | apply pw_below_drewN | apply below_drew1) | exact HB.out)⟩
                · replace c9 := Bool.eq_false_iff.mpr c9
                  subst c9
                  have H1 : (if 0 ≤ x3_1 then (if x3_1 < (l0.length : Int) then ((malthouseref08_Find.f kj5 l0 ((rd_T48 l0 x3_1).f0)).bind fun t180 => (if t180 = x3_1 then (malthouseref08_Check.l0 kj5 l0 (wrap64 (x3_1 + 1))) else (some 5))) else (none)) else (none)) = some r := by rw [if_neg (show ¬ (false = true) by decide)] at H; exact H
                  clear H
                  have H := H1
                  clear H1
                  by_cases c10 : 0 ≤ x3_1
                  · rw [if_pos c10] at H
                    have c10b0 : decide (0 ≤ x3_1) = true := decide_eq_true c10
                    clear c10
                    by_cases c11 : x3_1 < (l0.length : Int)
                    · rw [if_pos c11] at H
                      have c11b0 : decide (x3_1 < (l0.length : Int)) = true := decide_eq_true c11
                      clear c11
                      replace H := Option.bind_eq_some_iff.mp H
                      obtain ⟨t180, A120, H⟩ := H
                      replace H : (if t180 = x3_1 then (malthouseref08_Check.l0 kj5 l0 (wrap64 (x3_1 + 1))) else (some 5)) = some r := H
                      have A12 := Aside0.mk A120
                      clear A120
                      by_cases c13 : t180 = x3_1
                      · rw [if_pos c13] at H
                        have c13b0 : (t180 == x3_1) = true := beq_iff_eq.mpr c13
                        have c13b1 : (t180 != x3_1) = false := bne_eq_false_iff_eq.mpr c13
                        clear c13
                        have H' := Aside0.mk H
                        clear H
                        have p179 : 0 ≤ (x3_1 : Int) := of_decide_eq_true (by first | (with_reducible assumption) | assumption)
                        have q179 : x3_1 < (l0.length : Int) := of_decide_eq_true (by first | (with_reducible assumption) | assumption)
                        obtain ⟨ad179, e179, hx179_0, hx179_1, hx179_2, hx179_3⟩ := at_T48 HR0.out x3_1 p179 q179
                        obtain rfl : ad175 = ad179 := (by injection e179)
                        replace hx179_0 := (HB.out.cell (World.block_lt_of_cell? w _ hx179_0)).trans hx179_0
                        replace hx179_1 := (HB.out.cell (World.block_lt_of_cell? w _ hx179_1)).trans hx179_1
                        replace hx179_2 := (HB.out.cell (World.block_lt_of_cell? w _ hx179_2)).trans hx179_2
                        replace hx179_3 := (HB.out.cell (World.block_lt_of_cell? w _ hx179_3)).trans hx179_3
                        replace p179 := eq_true p179
                        replace q179 := eq_true q179
                        go_wp2_with (first | (go_at_call 17; (with_reducible refine (malthouseref08_Find.calls kj5 _ _ l0 ((rd_T48 l0 x3_1).f0) t180 _ ?side1 ?side2 A12.out).mono ?_); (case side1 => repeat (first | exact (Kd.C_below HR0.out HB.out) | (with_reducible refine Kd.C_alloc ?_ _) | (with_reducible refine Kd.C_drewN ?_ _) | (with_reducible refine Kd.C_drew ?_))); (case side2 => exact HC0.out); rintro e w' ⟨rfl, ⟨nd, rfl⟩⟩; (try first | exact ⟨rfl, _, World.drewN_drewN _ _ _⟩ | exact ⟨rfl, _, Eq.trans (World.drewN_drewN _ _ _) (congrArg (World.drewN _) (Nat.add_assoc _ _ _))⟩)))
                        repeat (go_quiet (first | (go_at_call 17; (with_reducible refine (malthouseref08_Find.calls kj5 _ _ l0 ((rd_T48 l0 x3_1).f0) t180 _ ?side1 ?side2 A12.out).mono ?_); (case side1 => repeat (first | exact (Kd.C_below HR0.out HB.out) | (with_reducible refine Kd.C_alloc ?_ _) | (with_reducible refine Kd.C_drewN ?_ _) | (with_reducible refine Kd.C_drew ?_))); (case side2 => exact HC0.out); rintro e w' ⟨rfl, ⟨nd, rfl⟩⟩; (try first | exact ⟨rfl, _, World.drewN_drewN _ _ _⟩ | exact ⟨rfl, _, Eq.trans (World.drewN_drewN _ _ _) (congrArg (World.drewN _) (Nat.add_assoc _ _ _))⟩))); try go_wp2_with (first | (go_at_call 17; (with_reducible refine (malthouseref08_Find.calls kj5 _ _ l0 ((rd_T48 l0 x3_1).f0) t180 _ ?side1 ?side2 A12.out).mono ?_); (case side1 => repeat (first | exact (Kd.C_below HR0.out HB.out) | (with_reducible refine Kd.C_alloc ?_ _) | (with_reducible refine Kd.C_drewN ?_ _) | (with_reducible refine Kd.C_drew ?_))); (case side2 => exact HC0.out); rintro e w' ⟨rfl, ⟨nd, rfl⟩⟩; (try first | exact ⟨rfl, _, World.drewN_drewN _ _ _⟩ | exact ⟨rfl, _, Eq.trans (World.drewN_drewN _ _ _) (congrArg (World.drewN _) (Nat.add_assoc _ _ _))⟩))))
                        go_roundg kj5
                        case measure => have := HK1.out; have := HJ5.out; omega
                        case rel => exact ⟨(wrap64 (x3_1 + 1)), (by first | rfl | (simp; done) | (simp [*]; done)), H', ⟨by have := HK1.out; have := HJ5.out; omega⟩, ⟨by repeat (first | (with_reducible first | exact HB.out | apply below_alloc | apply pw_below_drewN | apply below_drew1) | exact HB.out)⟩⟩
                      · rw [if_neg c13] at H
                        have c13b0 : (t180 == x3_1) = false := beq_eq_false_iff_ne.mpr c13
                        have c13b1 : (t180 != x3_1) = true := bne_iff_ne.mpr c13
                        obtain rfl := Option.some.inj H
                        have p179 : 0 ≤ (x3_1 : Int) := of_decide_eq_true (by first | (with_reducible assumption) | assumption)
                        have q179 : x3_1 < (l0.length : Int) := of_decide_eq_true (by first | (with_reducible assumption) | assumption)
                        obtain ⟨ad179, e179, hx179_0, hx179_1, hx179_2, hx179_3⟩ := at_T48 HR0.out x3_1 p179 q179
                        obtain rfl : ad175 = ad179 := (by injection e179)
                        replace hx179_0 := (HB.out.cell (World.block_lt_of_cell? w _ hx179_0)).trans hx179_0
                        replace hx179_1 := (HB.out.cell (World.block_lt_of_cell? w _ hx179_1)).trans hx179_1
                        replace hx179_2 := (HB.out.cell (World.block_lt_of_cell? w _ hx179_2)).trans hx179_2
                        replace hx179_3 := (HB.out.cell (World.block_lt_of_cell? w _ hx179_3)).trans hx179_3
                        replace p179 := eq_true p179
                        replace q179 := eq_true q179
                        go_wp2_with (first | (go_at_call 17; (with_reducible refine (malthouseref08_Find.calls kj5 _ _ l0 ((rd_T48 l0 x3_1).f0) t180 _ ?side1 ?side2 A12.out).mono ?_); (case side1 => repeat (first | exact (Kd.C_below HR0.out HB.out) | (with_reducible refine Kd.C_alloc ?_ _) | (with_reducible refine Kd.C_drewN ?_ _) | (with_reducible refine Kd.C_drew ?_))); (case side2 => exact HC0.out); rintro e w' ⟨rfl, ⟨nd, rfl⟩⟩; (try first | exact ⟨rfl, _, World.drewN_drewN _ _ _⟩ | exact ⟨rfl, _, Eq.trans (World.drewN_drewN _ _ _) (congrArg (World.drewN _) (Nat.add_assoc _ _ _))⟩)))
                        repeat (go_quiet (first | (go_at_call 17; (with_reducible refine (malthouseref08_Find.calls kj5 _ _ l0 ((rd_T48 l0 x3_1).f0) t180 _ ?side1 ?side2 A12.out).mono ?_); (case side1 => repeat (first | exact (Kd.C_below HR0.out HB.out) | (with_reducible refine Kd.C_alloc ?_ _) | (with_reducible refine Kd.C_drewN ?_ _) | (with_reducible refine Kd.C_drew ?_))); (case side2 => exact HC0.out); rintro e w' ⟨rfl, ⟨nd, rfl⟩⟩; (try first | exact ⟨rfl, _, World.drewN_drewN _ _ _⟩ | exact ⟨rfl, _, Eq.trans (World.drewN_drewN _ _ _) (congrArg (World.drewN _) (Nat.add_assoc _ _ _))⟩))); try go_wp2_with (first | (go_at_call 17; (with_reducible refine (malthouseref08_Find.calls kj5 _ _ l0 ((rd_T48 l0 x3_1).f0) t180 _ ?side1 ?side2 A12.out).mono ?_); (case side1 => repeat (first | exact (Kd.C_below HR0.out HB.out) | (with_reducible refine Kd.C_alloc ?_ _) | (with_reducible refine Kd.C_drewN ?_ _) | (with_reducible refine Kd.C_drew ?_))); (case side2 => exact HC0.out); rintro e w' ⟨rfl, ⟨nd, rfl⟩⟩; (try first | exact ⟨rfl, _, World.drewN_drewN _ _ _⟩ | exact ⟨rfl, _, Eq.trans (World.drewN_drewN _ _ _) (congrArg (World.drewN _) (Nat.add_assoc _ _ _))⟩))))
                        go_ret
                        exact ⟨by first | rfl | (simp [errW_none, errW_some] <;> rfl) | (simp [*, errW_none, errW_some] <;> rfl), by repeat (first | (with_reducible first | exact HB.out | apply below_alloc | apply pw_below_drewN | apply below_drew1) | exact HB.out)⟩
                    · rw [if_neg c11] at H
                      exact absurd H (by simp)
                  · rw [if_neg c10] at H
                    exact absurd H (by simp)
          · rw [if_neg c4] at H
            exact absurd H (by simp)
        · rw [if_neg c3] at H
          have c3b0 : decide (x3_1 < (l0.length : Int)) = false := decide_eq_false c3
          clear c3
          obtain rfl := Option.some.inj H
          go_wp2
          repeat (go_quiet (fail); try go_wp2)
          go_ret
          exact ⟨by first | rfl | (simp [errW_none, errW_some] <;> rfl) | (simp [*, errW_none, errW_some] <;> rfl), by repeat (first | (with_reducible first | exact HB.out | apply below_alloc | apply pw_below_drewN | apply below_drew1) | exact HB.out)⟩
def malthouseref08_Near.f (a0_0 : ByteArray) (a0_1 : Bool) (a0_2 : Int) (a0_3 : Int) (a1 : Int) : Option (Int) := if a1 < a0_2 then (some a0_2) else (if a1 > a0_3 then (some a0_3) else (some a1))
set_option maxHeartbeats 8000000 in
set_option maxRecDepth 100000 in
theorem malthouseref08_Near.calls (a0_0 : ByteArray) (a0_1 : Bool) (a0_2 : Int) (a0_3 : Int) (a1 : Int) (r : Int) (w : World) (h : malthouseref08_Near.f a0_0 a0_1 a0_2 a0_3 a1 = some r) :
    Calls Tryd.prog 31 #[.agg #[.string a0_0, .bool a0_1, .int .i64 a0_2, .int .i64 a0_3], .int .i64 a1] w fun e w' => e = .returned (.int .i64 r) ∧ Below w.heap.size w w' := by
  have hu48 := Tryd.underlying48
  have HB := Aside0.mk (Below.refl w.heap.size w)
  have H : (if a1 < a0_2 then (some a0_2) else (if a1 > a0_3 then (some a0_3) else (some a1))) = some r := h
  clear h
  by_cases c3 : a1 < a0_2
  · rw [if_pos c3] at H
    have c3b0 : decide (a1 < a0_2) = true := decide_eq_true c3
    clear c3
    obtain rfl := Option.some.inj H
    go_enter Tryd.func31, Tryd.ntmps31
    go_wp2_with (first | ((with_reducible refine gate_dst (N := 2) rfl ?_); refine box_event ?hg (N := 2) ?hd (cs := #[.string a0_0, .bool a0_1, .int .i64 a0_2, .int .i64 a0_3]) (t := 48) ?hr ?_; (case hd => rfl); (case hg => rfl); (case hr => first | (go_simp; done) | (go_simp; rfl)); intro gb181 hg w4 hbox hb; have n0_ := Aside0.mk (below_step (by repeat (first | (with_reducible first | exact HB.out | apply below_alloc | apply pw_below_drewN | apply below_drew1) | exact HB.out)) hb); have n1_ := Aside0.mk (hbox); have n2_ := Aside0.mk ((by rw [hg]; exact (below_size (by repeat (first | (with_reducible first | exact HB.out | apply below_alloc | apply pw_below_drewN | apply below_drew1) | exact HB.out))) : w.heap.size ≤ gb181)); have n3_ := Aside0.mk ((by rw [hg]; exact (below_size (by repeat (first | (with_reducible first | exact HB.out | apply below_alloc | apply pw_below_drewN | apply below_drew1) | exact HB.out))) : w.heap.size ≤ gb181)); clear HB; have HB := n0_; have BK181 := n1_; have GW181 := n2_; have GE181 := n3_; clear n0_ n1_ n2_ n3_; clear hb hbox hg; have hcz5_0 : w4.cell? ⟨gb181, 0, none⟩ = some (.string a0_0) := (blk_cell BK181.out 0).trans rfl; have hcz5_1 : w4.cell? ⟨gb181, 1, none⟩ = some (.bool a0_1) := (blk_cell BK181.out 1).trans rfl; have hcz5_2 : w4.cell? ⟨gb181, 2, none⟩ = some (.int .i64 a0_2) := (blk_cell BK181.out 2).trans rfl; have hcz5_3 : w4.cell? ⟨gb181, 3, none⟩ = some (.int .i64 a0_3) := (blk_cell BK181.out 3).trans rfl; have hfz5_0 := blk_frozen BK181.out 0; have hfz5_1 := blk_frozen BK181.out 1; have hfz5_2 := blk_frozen BK181.out 2; have hfz5_3 := blk_frozen BK181.out 3))
    go_ret
    exact ⟨by first | rfl | (simp [errW_none, errW_some] <;> rfl) | (simp [*, errW_none, errW_some] <;> rfl), by repeat (first | (with_reducible first | exact HB.out | apply below_alloc | apply pw_below_drewN | apply below_drew1 | refine below_set ?_ GE181.out) | exact HB.out)⟩
  · rw [if_neg c3] at H
    have c3b0 : decide (a1 < a0_2) = false := decide_eq_false c3
    clear c3
    by_cases c6 : a1 > a0_3
    · rw [if_pos c6] at H
      have c6b0 : decide (a0_3 < a1) = true := decide_eq_true c6
      clear c6
      obtain rfl := Option.some.inj H
      go_enter Tryd.func31, Tryd.ntmps31
      go_wp2_with (first | ((with_reducible refine gate_dst (N := 2) rfl ?_); refine box_event ?hg (N := 2) ?hd (cs := #[.string a0_0, .bool a0_1, .int .i64 a0_2, .int .i64 a0_3]) (t := 48) ?hr ?_; (case hd => rfl); (case hg => rfl); (case hr => first | (go_simp; done) | (go_simp; rfl)); intro gb181 hg w7 hbox hb; have n0_ := Aside0.mk (below_step (by repeat (first | (with_reducible first | exact HB.out | apply below_alloc | apply pw_below_drewN | apply below_drew1) | exact HB.out)) hb); have n1_ := Aside0.mk (hbox); have n2_ := Aside0.mk ((by rw [hg]; exact (below_size (by repeat (first | (with_reducible first | exact HB.out | apply below_alloc | apply pw_below_drewN | apply below_drew1) | exact HB.out))) : w.heap.size ≤ gb181)); have n3_ := Aside0.mk ((by rw [hg]; exact (below_size (by repeat (first | (with_reducible first | exact HB.out | apply below_alloc | apply pw_below_drewN | apply below_drew1) | exact HB.out))) : w.heap.size ≤ gb181)); clear HB; have HB := n0_; have BK181 := n1_; have GW181 := n2_; have GE181 := n3_; clear n0_ n1_ n2_ n3_; clear hb hbox hg; have hcz8_0 : w7.cell? ⟨gb181, 0, none⟩ = some (.string a0_0) := (blk_cell BK181.out 0).trans rfl; have hcz8_1 : w7.cell? ⟨gb181, 1, none⟩ = some (.bool a0_1) := (blk_cell BK181.out 1).trans rfl; have hcz8_2 : w7.cell? ⟨gb181, 2, none⟩ = some (.int .i64 a0_2) := (blk_cell BK181.out 2).trans rfl; have hcz8_3 : w7.cell? ⟨gb181, 3, none⟩ = some (.int .i64 a0_3) := (blk_cell BK181.out 3).trans rfl; have hfz8_0 := blk_frozen BK181.out 0; have hfz8_1 := blk_frozen BK181.out 1; have hfz8_2 := blk_frozen BK181.out 2; have hfz8_3 := blk_frozen BK181.out 3))
      go_ret
      exact ⟨by first | rfl | (simp [errW_none, errW_some] <;> rfl) | (simp [*, errW_none, errW_some] <;> rfl), by repeat (first | (with_reducible first | exact HB.out | apply below_alloc | apply pw_below_drewN | apply below_drew1 | refine below_set ?_ GE181.out) | exact HB.out)⟩
    · rw [if_neg c6] at H
      have c6b0 : decide (a0_3 < a1) = false := decide_eq_false c6
      clear c6
      obtain rfl := Option.some.inj H
      go_enter Tryd.func31, Tryd.ntmps31
      go_wp2_with (first | ((with_reducible refine gate_dst (N := 2) rfl ?_); refine box_event ?hg (N := 2) ?hd (cs := #[.string a0_0, .bool a0_1, .int .i64 a0_2, .int .i64 a0_3]) (t := 48) ?hr ?_; (case hd => rfl); (case hg => rfl); (case hr => first | (go_simp; done) | (go_simp; rfl)); intro gb181 hg w9 hbox hb; have n0_ := Aside0.mk (below_step (by repeat (first | (with_reducible first | exact HB.out | apply below_alloc | apply pw_below_drewN | apply below_drew1) | exact HB.out)) hb); have n1_ := Aside0.mk (hbox); have n2_ := Aside0.mk ((by rw [hg]; exact (below_size (by repeat (first | (with_reducible first | exact HB.out | apply below_alloc | apply pw_below_drewN | apply below_drew1) | exact HB.out))) : w.heap.size ≤ gb181)); have n3_ := Aside0.mk ((by rw [hg]; exact (below_size (by repeat (first | (with_reducible first | exact HB.out | apply below_alloc | apply pw_below_drewN | apply below_drew1) | exact HB.out))) : w.heap.size ≤ gb181)); clear HB; have HB := n0_; have BK181 := n1_; have GW181 := n2_; have GE181 := n3_; clear n0_ n1_ n2_ n3_; clear hb hbox hg; have hcz10_0 : w9.cell? ⟨gb181, 0, none⟩ = some (.string a0_0) := (blk_cell BK181.out 0).trans rfl; have hcz10_1 : w9.cell? ⟨gb181, 1, none⟩ = some (.bool a0_1) := (blk_cell BK181.out 1).trans rfl; have hcz10_2 : w9.cell? ⟨gb181, 2, none⟩ = some (.int .i64 a0_2) := (blk_cell BK181.out 2).trans rfl; have hcz10_3 : w9.cell? ⟨gb181, 3, none⟩ = some (.int .i64 a0_3) := (blk_cell BK181.out 3).trans rfl; have hfz10_0 := blk_frozen BK181.out 0; have hfz10_1 := blk_frozen BK181.out 1; have hfz10_2 := blk_frozen BK181.out 2; have hfz10_3 := blk_frozen BK181.out 3))
      go_ret
      exact ⟨by first | rfl | (simp [errW_none, errW_some] <;> rfl) | (simp [*, errW_none, errW_some] <;> rfl), by repeat (first | (with_reducible first | exact HB.out | apply below_alloc | apply pw_below_drewN | apply below_drew1 | refine below_set ?_ GE181.out) | exact HB.out)⟩
end Go.Proofs.YtbmdhmmahmdccaaDoor.Print
/-! ### NmPure -/
namespace Go.Proofs.YtbmdhmmahmdccaaDoor.Print
open Go.RowKit Go.Proofs.YtbmdhmmahmdccaaDoorW.PrintWords Go.Proofs.YtbmdhmmahmdccaaDoorW.PrintLast Go.Proofs.YtbmdhmmahmdccaaDoorW.PrintMore
set_option linter.unusedSimpArgs false
set_option linter.unusedVariables false
def byteAt (s : ByteArray) (i : Nat) : Nat := (s.get! i).toNat
theorem byteAt_lt (s : ByteArray) (i : Nat) : byteAt s i < 256 := (s.get! i).toNat_lt
theorem bt_byteAt (s : ByteArray) (i : Nat) (h : i < s.size) : bt s (i : Int) = byteAt s i := by
  unfold bt byteAt
  have e : s.get! i = s[i]'h := by have := get_at s i h; simpa using this
  rw [Int.toNat_natCast, dif_pos h, e]
theorem wrap_small (x : Int) (h0 : -9223372036854775808 ≤ x) (h1 : x ≤ 9223372036854775807) : wrap64 x = x := by unfold wrap64; omega
theorem rune_step (s : ByteArray) (i j m : Nat) (x6 n least : Int) (hs : s.size ≤ 140737488351232) (hj : (j : Int) < n) (hlt : i + j < s.size) (hx0 : 0 ≤ x6) (hx1 : x6 ≤ 2000000) :
    malthouseref01_Rune.l0 (m + 1) s i x6 n least j = if 128 ≤ byteAt s (i + j) ∧ byteAt s (i + j) < 192 then malthouseref01_Rune.l0 m s i (64 * x6 + byteAt s (i + j) - 128) n least ((j + 1 : Nat) : Int) else some (0, 0) := by
  have hb := byteAt_lt s (i + j)
  have e1 : wrap64 ((i : Int) + j) = ((i + j : Nat) : Int) := by rw [wrap_small _ (by omega) (by omega)]; omega
  have e2 := bt_byteAt s (i + j) hlt
  simp only [malthouseref01_Rune.l0]
  rw [if_pos hj, e1, if_pos (by omega), if_pos (by omega), e2, wrap_small (byteAt s (i + j) : Int) (by omega) (by omega), wrap_small (64 * x6) (by omega) (by omega), wrap_small (64 * x6 + (byteAt s (i + j) : Int)) (by omega) (by omega), wrap_small (64 * x6 + (byteAt s (i + j) : Int) - 128) (by omega) (by omega), wrap_small ((j : Int) + 1) (by omega) (by omega)]
  by_cases h1 : byteAt s (i + j) < 128
  · rw [if_pos (by omega), if_neg (by omega)]
  · rw [if_neg (by omega)]
    by_cases h2 : 192 ≤ byteAt s (i + j)
    · rw [if_pos (by omega), if_neg (by omega)]
    · rw [if_neg (by omega), if_pos (by omega)]
      rfl
theorem rune_end (s : ByteArray) (i : Int) (j : Int) (m : Nat) (x6 n least : Int) (hj : ¬ j < n) :
    malthouseref01_Rune.l0 (m + 1) s i x6 n least j = if least ≤ x6 ∧ x6 ≤ 1114111 ∧ (x6 < 55296 ∨ 57343 < x6) then some (x6, n) else some (0, 0) := by
  simp only [malthouseref01_Rune.l0]
  rw [if_neg hj]
  by_cases h1 : x6 < least
  · rw [if_pos h1, if_neg (by omega)]
  · rw [if_neg h1]
    by_cases h2 : x6 > 1114111
    · rw [if_pos h2, if_neg (by omega)]
    · rw [if_neg h2]
      by_cases h3 : x6 ≥ 55296
      · rw [if_pos h3]
        by_cases h4 : x6 ≤ 57343
        · rw [if_pos h4, if_neg (by omega)]
        · rw [if_neg h4, if_pos (by omega)]
      · rw [if_neg h3, if_pos (by omega)]
theorem rune_begin (s : ByteArray) (i m : Nat) (x6 n least : Int) (hs : s.size ≤ 140737488351232) (hi : i < s.size) :
    malthouseref01_Rune.j2 (m + 1) s i x6 n least = if n ≤ ((s.size - i : Nat) : Int) then malthouseref01_Rune.l0 m s i x6 n least 1 else some (0, 0) := by
  simp only [malthouseref01_Rune.j2]
  rw [wrap_small ((s.size : Int) - i) (by omega) (by omega)]
  by_cases h : n > (s.size : Int) - i
  · rw [if_pos h, if_neg (by omega)]
  · rw [if_neg h, if_pos (by omega)]
/-- What the reference's Rune answers. -/
def runeR (d : Nat × Nat) (b0 : Nat) : Int × Int := if 128 ≤ b0 ∧ d = (65533, 1) then (0, 0) else ((d.1 : Int), (d.2 : Int))
set_option maxHeartbeats 4000000 in
set_option maxRecDepth 100000 in
theorem rune_is (s : ByteArray) (i k : Nat) (hs : s.size ≤ 140737488351232) (hi : i < s.size) : malthouseref01_Rune.f (k + 8) s (i : Int) = some (runeR (Utf8.decode s i) (byteAt s i)) := by
  have h0 := byteAt_lt s i
  have h1 := byteAt_lt s (i + 1)
  have h2 := byteAt_lt s (i + 2)
  have h3 := byteAt_lt s (i + 3)
  have e0 := bt_byteAt s i hi
  rw [Lib.decode_at]
  show _ = some (runeR (Lib.decodeN (s.size - i) (byteAt s i) (byteAt s (i + 1)) (byteAt s (i + 2)) (byteAt s (i + 3))) (byteAt s i))
  unfold malthouseref01_Rune.f
  rw [if_pos (by omega), if_pos (by omega), e0, wrap_small (byteAt s i : Int) (by omega) (by omega)]
  have r2 := fun m x6 n least (hn : 1 < n) (hl : i + 1 < s.size) (a : 0 ≤ x6) (b : x6 ≤ 2000000) => rune_step s i 1 m x6 n least hs hn hl a b
  have r3 := fun m x6 n least (hn : 2 < n) (hl : i + 2 < s.size) (a : 0 ≤ x6) (b : x6 ≤ 2000000) => rune_step s i 2 m x6 n least hs hn hl a b
  have r4 := fun m x6 n least (hn : 3 < n) (hl : i + 3 < s.size) (a : 0 ≤ x6) (b : x6 ≤ 2000000) => rune_step s i 3 m x6 n least hs hn hl a b
  have rb := fun m x6 n least => rune_begin s i m x6 n least hs hi
  generalize hN : s.size - i = N at *
  generalize byteAt s i = b0 at *
  generalize byteAt s (i + 1) = b1 at *
  generalize byteAt s (i + 2) = b2 at *
  generalize byteAt s (i + 3) = b3 at *
  by_cases c0 : b0 < 128
  · rw [if_pos (by omega)]
    unfold runeR Lib.decodeN
    rw [if_neg (by omega), if_pos c0]
    rfl
  rw [if_neg (by omega)]
  by_cases c1 : b0 < 192
  · rw [if_neg (by omega)]
    simp only [malthouseref01_Rune.j0, malthouseref01_Rune.j1]
    rw [if_neg (by simp), if_neg (by omega), if_neg (by simp), if_neg (by omega)]
    unfold Lib.decodeN
    rw [if_neg (by omega), if_neg (by omega), if_neg (by omega), if_neg (by omega)]
    unfold runeR
    rw [if_pos ⟨by omega, rfl⟩]
  rw [if_pos (by omega)]
  simp only [malthouseref01_Rune.j0, malthouseref01_Rune.j1, decide_eq_true_eq]
  have fin : ∀ (x : Nat) (w : Nat), (x, w) ≠ (65533, 1) → some ((x : Int), (w : Int)) = some (runeR (x, w) b0) := fun x w h => by
    unfold runeR
    rw [if_neg (fun hh => h hh.2)]
  have bad : some ((0 : Int), (0 : Int)) = some (runeR (65533, 1) b0) := by
    unfold runeR
    rw [if_pos ⟨by omega, rfl⟩]
  by_cases c2 : b0 < 224
  · rw [if_pos (by omega), wrap_small _ (by omega) (by omega), rb]
    by_cases d1 : 1 < N
    · rw [if_pos (by omega), show ((1 : Int)) = ((1 : Nat) : Int) from rfl, r2 _ _ _ _ (by omega) (by omega) (by omega) (by omega)]
      by_cases d2 : 128 ≤ b1 ∧ b1 < 192
      · rw [if_pos d2]
        unfold Lib.decodeN
        rw [if_neg (by omega), if_pos (by omega)]
        by_cases d3 : b0 % 32 * 64 + b1 % 64 ≥ 128
        · rw [if_pos d3, rune_end _ _ _ _ _ _ _ (by omega), if_pos (by omega), ← fin _ _ (by simp)]
          congr 2; omega
        · rw [if_neg d3, rune_end _ _ _ _ _ _ _ (by omega), if_neg (by omega)]; exact bad
      · rw [if_neg d2]
        unfold Lib.decodeN
        rw [if_neg (by omega), if_neg (by omega), if_neg (by omega), if_neg (by omega)]; exact bad
    · rw [if_neg (by omega)]
      unfold Lib.decodeN
      rw [if_neg (by omega), if_neg (by omega), if_neg (by omega), if_neg (by omega)]; exact bad
  rw [if_neg (by omega), if_pos (by omega)]
  by_cases c3 : b0 < 240
  · rw [if_pos (by omega), wrap_small _ (by omega) (by omega), rb]
    by_cases d1 : 2 < N
    · rw [if_pos (by omega), show ((1 : Int)) = ((1 : Nat) : Int) from rfl, r2 _ _ _ _ (by omega) (by omega) (by omega) (by omega)]
      by_cases d2 : 128 ≤ b1 ∧ b1 < 192
      · rw [if_pos d2, show 1 + 1 = 2 from rfl, r3 _ _ _ _ (by omega) (by omega) (by omega) (by omega)]
        by_cases d3 : 128 ≤ b2 ∧ b2 < 192
        · rw [if_pos d3]
          unfold Lib.decodeN
          rw [if_neg (by omega), if_neg (by omega), if_pos (by omega)]
          by_cases d4 : b0 % 16 * 4096 + b1 % 64 * 64 + b2 % 64 ≥ 2048 ∧ (b0 % 16 * 4096 + b1 % 64 * 64 + b2 % 64 < 55296 ∨ (57344 ≤ b0 % 16 * 4096 + b1 % 64 * 64 + b2 % 64 ∧ b0 % 16 * 4096 + b1 % 64 * 64 + b2 % 64 ≤ 1114111))
          · rw [if_pos d4, rune_end _ _ _ _ _ _ _ (by omega), if_pos (by omega), ← fin _ _ (by simp)]
            congr 2; omega
          · rw [if_neg d4, rune_end _ _ _ _ _ _ _ (by omega), if_neg (by omega)]; exact bad
        · rw [if_neg d3]
          unfold Lib.decodeN
          rw [if_neg (by omega), if_neg (by omega), if_neg (by omega), if_neg (by omega)]; exact bad
      · rw [if_neg d2]
        unfold Lib.decodeN
        rw [if_neg (by omega), if_neg (by omega), if_neg (by omega), if_neg (by omega)]; exact bad
    · rw [if_neg (by omega)]
      unfold Lib.decodeN
      rw [if_neg (by omega), if_neg (by omega), if_neg (by omega), if_neg (by omega)]; exact bad
  rw [if_neg (by omega), if_pos (by omega)]
  by_cases c4 : b0 < 248
  · rw [if_pos (by omega), wrap_small _ (by omega) (by omega), rb]
    by_cases d1 : 3 < N
    · rw [if_pos (by omega), show ((1 : Int)) = ((1 : Nat) : Int) from rfl, r2 _ _ _ _ (by omega) (by omega) (by omega) (by omega)]
      by_cases d2 : 128 ≤ b1 ∧ b1 < 192
      · rw [if_pos d2, show 1 + 1 = 2 from rfl, r3 _ _ _ _ (by omega) (by omega) (by omega) (by omega)]
        by_cases d3 : 128 ≤ b2 ∧ b2 < 192
        · rw [if_pos d3, show 2 + 1 = 3 from rfl, r4 _ _ _ _ (by omega) (by omega) (by omega) (by omega)]
          by_cases d5 : 128 ≤ b3 ∧ b3 < 192
          · rw [if_pos d5]
            unfold Lib.decodeN
            rw [if_neg (by omega), if_neg (by omega), if_neg (by omega), if_pos (by omega)]
            by_cases d4 : b0 % 8 * 262144 + b1 % 64 * 4096 + b2 % 64 * 64 + b3 % 64 ≥ 65536 ∧ (b0 % 8 * 262144 + b1 % 64 * 4096 + b2 % 64 * 64 + b3 % 64 < 55296 ∨ (57344 ≤ b0 % 8 * 262144 + b1 % 64 * 4096 + b2 % 64 * 64 + b3 % 64 ∧ b0 % 8 * 262144 + b1 % 64 * 4096 + b2 % 64 * 64 + b3 % 64 ≤ 1114111))
            · rw [if_pos d4, rune_end _ _ _ _ _ _ _ (by omega), if_pos (by omega), ← fin _ _ (by simp)]
              congr 2; omega
            · rw [if_neg d4, rune_end _ _ _ _ _ _ _ (by omega), if_neg (by omega)]; exact bad
          · rw [if_neg d5]
            unfold Lib.decodeN
            rw [if_neg (by omega), if_neg (by omega), if_neg (by omega), if_neg (by omega)]; exact bad
        · rw [if_neg d3]
          unfold Lib.decodeN
          rw [if_neg (by omega), if_neg (by omega), if_neg (by omega), if_neg (by omega)]; exact bad
      · rw [if_neg d2]
        unfold Lib.decodeN
        rw [if_neg (by omega), if_neg (by omega), if_neg (by omega), if_neg (by omega)]; exact bad
    · rw [if_neg (by omega)]
      unfold Lib.decodeN
      rw [if_neg (by omega), if_neg (by omega), if_neg (by omega), if_neg (by omega)]; exact bad
  · rw [if_neg (by omega)]
    unfold Lib.decodeN
    rw [if_neg (by omega), if_neg (by omega), if_neg (by omega), if_neg (by omega)]; exact bad
/-- A text's runes from a place on, where each begins, is there no bad byte. -/
def runesFrom (s : ByteArray) : Nat → Nat → List Int × List Int × Bool
  | 0, _ => ([], [(s.size : Int)], true)
  | f + 1, p => if p < s.size then
      (if (Utf8.decode s p).1 = 65533 ∧ (Utf8.decode s p).2 = 1 then ([], [], false)
       else (((Utf8.decode s p).1 : Int) :: (runesFrom s f (p + (Utf8.decode s p).2)).1, (p : Int) :: (runesFrom s f (p + (Utf8.decode s p).2)).2.1, (runesFrom s f (p + (Utf8.decode s p).2)).2.2)) else ([], [(s.size : Int)], true)
theorem decode_small (s : ByteArray) (p : Nat) (h : byteAt s p < 128) : Utf8.decode s p = (byteAt s p, 1) := by
  rw [Lib.decode_at]
  unfold Lib.decodeN
  rw [if_pos (by exact h)]
  rfl
theorem runeR_good (s : ByteArray) (p : Nat) (h : ¬ ((Utf8.decode s p).1 = 65533 ∧ (Utf8.decode s p).2 = 1)) : runeR (Utf8.decode s p) (byteAt s p) = (((Utf8.decode s p).1 : Int), ((Utf8.decode s p).2 : Int)) := by
  unfold runeR
  rw [if_neg]
  rintro ⟨_, h2⟩
  exact h (by rw [h2]; exact ⟨rfl, rfl⟩)
theorem runeR_bad (s : ByteArray) (p : Nat) (h : (Utf8.decode s p).1 = 65533 ∧ (Utf8.decode s p).2 = 1) : runeR (Utf8.decode s p) (byteAt s p) = (0, 0) := by
  unfold runeR
  rw [if_pos]
  refine ⟨?_, Prod.ext h.1 h.2⟩
  rcases Nat.lt_or_ge (byteAt s p) 128 with hb | hb
  · rw [decode_small s p hb] at h
    have := h.1
    simp only at this
    omega
  · exact hb
theorem decode_width (s : ByteArray) (p : Nat) (h : p < s.size) : 1 ≤ (Utf8.decode s p).2 ∧ p + (Utf8.decode s p).2 ≤ s.size ∧ (Utf8.decode s p).2 ≤ 4 := by
  rw [Lib.decode_at]
  unfold Lib.decodeN
  repeat' split
  all_goals (simp only; omega)
set_option maxRecDepth 100000 in
theorem runes_loop (s S : ByteArray) (hs : s.size ≤ 1000000000) : ∀ (f p k : Nat) (rs qs : List Int), s.size ≤ p + f → p ≤ s.size → rs.length ≤ p → qs.length ≤ p →
    malthouseref01_Runes.l0 (k + f + 9) s (p : Int) S rs qs = some (S, rs ++ (runesFrom s f p).1, qs ++ (runesFrom s f p).2.1, (runesFrom s f p).2.2) := by
  intro f
  induction f with
  | zero =>
    intro p k rs qs h1 h2 h3 h4
    have e : k + 0 + 9 = (k + 8) + 1 := by omega
    rw [e]
    generalize k + 8 = K
    simp only [malthouseref01_Runes.l0, runesFrom]
    rw [if_neg (by omega), if_pos (by omega)]
    simp
  | succ f ih =>
    intro p k rs qs h1 h2 h3 h4
    have e : k + (f + 1) + 9 = (k + f + 9) + 1 := by omega
    rw [e]
    have ih' := fun p rs qs => ih p k rs qs
    have hrune := rune_is s p (k + f + 1) (by omega)
    rw [show k + f + 1 + 8 = k + f + 9 by omega] at hrune
    clear ih e
    generalize k + f + 9 = K at *
    by_cases hp : p < s.size
    · simp only [malthouseref01_Runes.l0, runesFrom]
      rw [if_pos (by omega), hrune hp]
      simp only [Option.bind_some]
      obtain ⟨w1, w2, w3⟩ := decode_width s p hp
      rw [if_pos hp]
      by_cases hb : (Utf8.decode s p).1 = 65533 ∧ (Utf8.decode s p).2 = 1
      · rw [runeR_bad s p hb, if_pos rfl, if_pos hb]
        simp
      · rw [runeR_good s p hb, if_neg hb]
        simp only
        rw [if_neg (by omega), if_pos (by omega), if_pos (by omega), wrap_small _ (by omega) (by omega)]
        have := ih' (p + (Utf8.decode s p).2) (rs ++ [((Utf8.decode s p).1 : Int)]) (qs ++ [(p : Int)]) (by omega) w2 (by simp; omega) (by simp; omega)
        rw [show (p : Int) + ((Utf8.decode s p).2 : Int) = ((p + (Utf8.decode s p).2 : Nat) : Int) by omega, this]
        simp
    · simp only [malthouseref01_Runes.l0, runesFrom]
      rw [if_neg (by omega), if_pos (by omega), if_neg hp]
      simp
theorem runes_is (s : ByteArray) (hs : s.size ≤ 1000000000) (k : Nat) : malthouseref01_Runes.f (k + s.size + 9) s = some (s, (runesFrom s s.size 0).1, (runesFrom s s.size 0).2.1, (runesFrom s s.size 0).2.2) := by
  have := runes_loop s s hs s.size 0 k [] [] (by omega) (by omega) (by simp) (by simp)
  simpa [malthouseref01_Runes.f] using this
theorem valid_from (s : ByteArray) : ∀ (f p : Nat), s.size ≤ p + f → p ≤ s.size → (runesFrom s f p).2.2 = Lib.validD (s.data.toList.drop p) := by
  have hsz : s.data.toList.length = s.size := by rw [Array.length_toList]; rfl
  intro f
  induction f with
  | zero =>
    intro p h1 h2
    rw [List.drop_eq_nil_of_le (by omega)]
    rfl
  | succ f ih =>
    intro p h1 h2
    simp only [runesFrom]
    by_cases hp : p < s.size
    · rw [if_pos hp]
      have hne : s.data.toList.drop p ≠ [] := by
        intro h
        have := congrArg List.length h
        rw [List.length_drop] at this
        simp at this
        omega
      rw [Lib.validD_step _ hne, Lib.decodeL_drop]
      obtain ⟨w1, w2, w3⟩ := decode_width s p hp
      by_cases hb : (Utf8.decode s p).1 = 65533 ∧ (Utf8.decode s p).2 = 1
      · rw [if_pos hb, if_pos hb]
      · rw [if_neg hb, if_neg hb]
        simp only
        rw [ih _ (by omega) w2, List.drop_drop]
    · rw [if_neg hp, List.drop_eq_nil_of_le (by omega)]
      rfl
theorem count_from (s : ByteArray) : ∀ (f p : Nat), s.size ≤ p + f → p ≤ s.size → (runesFrom s f p).2.2 = true → (runesFrom s f p).1.length = Lib.runeCountFrom s f p := by
  intro f
  induction f with
  | zero => intro p _ _ _; rfl
  | succ f ih =>
    intro p h1 h2 h3
    simp only [runesFrom, Lib.runeCountFrom] at h3 ⊢
    by_cases hp : p < s.size
    · rw [if_pos hp] at h3 ⊢
      rw [if_pos hp]
      obtain ⟨w1, w2, w3⟩ := decode_width s p hp
      by_cases hb : (Utf8.decode s p).1 = 65533 ∧ (Utf8.decode s p).2 = 1
      · rw [if_pos hb] at h3; cases h3
      · rw [if_neg hb] at h3 ⊢
        simp only at h3 ⊢
        rw [List.length_cons, ih _ (by omega) w2 h3]
        omega
    · rw [if_neg hp, if_neg hp]; rfl
theorem wordy_from (s : ByteArray) : ∀ (f p : Nat), s.size ≤ p + f → p ≤ s.size → (runesFrom s f p).2.2 = true → (runesFrom s f p).1.all wordyZ = wordyFrom s f p := by
  intro f
  induction f with
  | zero => intro p _ _ _; rfl
  | succ f ih =>
    intro p h1 h2 h3
    simp only [runesFrom, wordyFrom] at h3 ⊢
    by_cases hp : p < s.size
    · rw [if_pos hp] at h3 ⊢
      rw [if_pos hp]
      obtain ⟨w1, w2, w3⟩ := decode_width s p hp
      by_cases hb : (Utf8.decode s p).1 = 65533 ∧ (Utf8.decode s p).2 = 1
      · rw [if_pos hb] at h3; cases h3
      · rw [if_neg hb] at h3 ⊢
        simp only at h3 ⊢
        rw [List.all_cons, ih _ (by omega) w2 h3]
    · rw [if_neg hp, if_neg hp]; rfl
/-- Is a text a name? -/
def nameB (s : ByteArray) : Bool := Lib.validD s.data.toList && wordyB s && (decide (byteAt s 0 < 48) || decide (57 < byteAt s 0)) && decide (Lib.runeCount s ≤ 12)
theorem lex_name_is (s : ByteArray) (hs : s.size ≤ 1000000000) : lex_Name.f s = some (nameB s) := by
  have hcount : utf8_RuneCountInString.f s = some (Lib.runeCount s : Int) := if_pos (by omega)
  have hvalid : utf8_ValidString.f s = some (Lib.validD s.data.toList) := if_pos (by omega)
  unfold lex_Name.f nameB lex_wordy.f
  rw [hvalid, hcount]
  simp only [Option.bind_some]
  by_cases h1 : Lib.validD s.data.toList = true
  · rw [if_pos h1, h1]
    by_cases h2 : wordyB s = true
    · rw [if_pos h2, h2]
      have hpos : 0 < s.size := by
        have := h2
        unfold wordyB at this
        simp at this
        exact this.2
      rw [if_pos (by omega), show (0 : Int) = ((0 : Nat) : Int) from rfl, bt_byteAt s 0 hpos]
      simp only [Bool.true_and]
      by_cases h3 : byteAt s 0 < 48
      · rw [if_pos (by omega)]
        simp [h3]
        norm_cast
      · rw [if_neg (by omega)]
        by_cases h4 : 57 < byteAt s 0
        · rw [if_pos (by omega)]
          simp [h3, h4]
          norm_cast
        · rw [if_neg (by omega)]
          simp [h3, h4]
    · rw [if_neg h2]
      simp [h2]
  · rw [if_neg h1]
    simp [h1]
theorem wordy_is (r : Int) : malthouseref01_wordy.f r = some (wordyZ r) := by
  unfold malthouseref01_wordy.f malthouseref01_Class.f wordyZ
  simp only [Option.bind_some]
  by_cases h : classZ r = 2
  · rw [if_pos h, h]; rfl
  · rw [if_neg h]
    simp [h]
theorem name_loop (S : ByteArray) (rs qs : List Int) (hl : rs.length ≤ 1000000000) : ∀ (f i k : Nat), rs.length ≤ i + f → i ≤ rs.length → malthouseref01_Name.l0 (k + f + 1) (i : Int) S rs qs = some ((rs.drop i).all wordyZ) := by
  intro f
  induction f with
  | zero =>
    intro i k h1 h2
    simp only [malthouseref01_Name.l0]
    rw [if_neg (by omega), List.drop_eq_nil_of_le (by omega)]
    rfl
  | succ f ih =>
    intro i k h1 h2
    rw [show k + (f + 1) + 1 = (k + f + 1) + 1 by omega]
    have ih' := fun i => ih i k
    clear ih
    generalize k + f + 1 = K at *
    simp only [malthouseref01_Name.l0]
    by_cases hi : i < rs.length
    · rw [if_pos (by omega), if_pos (by omega), wordy_is, List.drop_eq_getElem_cons hi]
      simp only [Option.bind_some]
      have e : rd rs (i : Int) = rs[i] := getD_at rs 0 i hi
      rw [e, List.all_cons]
      cases h : wordyZ rs[i]
      · rw [if_neg (by simp)]; rfl
      · rw [if_pos rfl, wrap_small _ (by omega) (by omega)]
        have := ih' (i + 1) (by omega) (by omega)
        rw [show (i : Int) + 1 = ((i + 1 : Nat) : Int) by omega, this]
        rfl
    · rw [if_neg (by omega), List.drop_eq_nil_of_le (by omega)]
      rfl
theorem ref_name_is (s : ByteArray) (hs : s.size ≤ 1000000000) (k : Nat) : malthouseref01_Name.f (k + s.size + 20) s = some (nameB s) := by
  unfold malthouseref01_Name.f
  rw [show k + s.size + 20 = (k + 11) + s.size + 9 by omega, runes_is s hs]
  simp only [Option.bind_some]
  have hv := valid_from s s.size 0 (by omega) (by omega)
  rw [List.drop_zero] at hv
  unfold nameB
  rw [← hv]
  cases hok : (runesFrom s s.size 0).2.2 with
  | false =>
    rw [if_neg (by simp)]
    rw [show k + 11 + s.size + 9 = (k + s.size + 19) + 1 by omega]
    simp only [malthouseref01_Name.j0]
    simp
  | true =>
    have hc := count_from s s.size 0 (by omega) (by omega) hok
    have hw := wordy_from s s.size 0 (by omega) (by omega) hok
    have hle := Lib.runeCount_le s
    have hrc : Lib.runeCount s = (runesFrom s s.size 0).1.length := hc.symm
    have hwb : wordyB s = ((runesFrom s s.size 0).1.all wordyZ && decide (0 < s.size)) := by unfold wordyB; rw [hw]
    rw [if_pos rfl, hrc, hwb]
    have hfirst : 0 < s.size → ∃ l, (runesFrom s s.size 0).1 = ((Utf8.decode s 0).1 : Int) :: l := by
      intro hp
      obtain ⟨m, hm⟩ : ∃ m, s.size = m + 1 := ⟨s.size - 1, by omega⟩
      rw [hm] at hok ⊢
      simp only [runesFrom] at hok ⊢
      rw [if_pos hp] at hok ⊢
      split at hok
      · cases hok
      · rename_i hb
        rw [if_neg hb]
        exact ⟨_, rfl⟩
    have hempty : ¬ 0 < s.size → (runesFrom s s.size 0).1 = [] := by
      intro hp
      rw [show s.size = 0 by omega]
      rfl
    rw [hrc] at hle
    generalize (runesFrom s s.size 0).1 = rs at *
    generalize (runesFrom s s.size 0).2.1 = qs at *
    have hj := name_loop s rs qs (by omega) rs.length 0 (k + 19 + (s.size - rs.length) - 1) (by omega) (by omega)
    rw [show k + 19 + (s.size - rs.length) - 1 + rs.length + 1 = k + s.size + 19 by omega, List.drop_zero] at hj
    have hjt : malthouseref01_Name.j0 (k + 11 + s.size + 9) true s rs qs = some false := by
      rw [show k + 11 + s.size + 9 = (k + s.size + 19) + 1 by omega]
      simp only [malthouseref01_Name.j0]
      simp
    have hjf : malthouseref01_Name.j0 (k + 11 + s.size + 9) false s rs qs = some (rs.all wordyZ) := by
      rw [show k + 11 + s.size + 9 = (k + s.size + 19) + 1 by omega]
      simp only [malthouseref01_Name.j0]
      rw [if_neg (by simp)]
      exact hj
    by_cases hz : rs.length = 0
    · rw [if_pos (by omega), hjt]
      have hp : ¬ 0 < s.size := by
        intro hp
        obtain ⟨l, hl⟩ := hfirst hp
        rw [hl] at hz
        simp at hz
      simp [hp]
    · rw [if_neg (by omega)]
      by_cases h12 : rs.length ≤ 12
      · rw [if_neg (by omega), if_pos (by omega)]
        have hp : 0 < s.size := by
          rcases Nat.lt_or_ge 0 s.size with h | h
          · exact h
          · exact absurd (by rw [hempty (by omega)]; rfl) hz
        obtain ⟨l, hl⟩ := hfirst hp
        have e : rd rs 0 = ((Utf8.decode s 0).1 : Int) := by rw [hl]; rfl
        rw [e]
        unfold malthouseref01_Class.f
        simp only [Option.bind_some]
        have hall : rs.all wordyZ = (wordyZ (Utf8.decode s 0).1 && l.all wordyZ) := by rw [hl]; rfl
        -- the first rune is a letter just where it is a letter or digit and no digit
        have hd : (classZ (Utf8.decode s 0).1 != 2) = (!wordyZ (Utf8.decode s 0).1 || !(decide (byteAt s 0 < 48) || decide (57 < byteAt s 0))) := by
          have hcl : ∀ r : Int, classZ r = 3 ↔ 48 ≤ r ∧ r ≤ 57 := by
            intro r
            unfold classZ
            constructor
            · intro h
              repeat' split at h
              all_goals omega
            · rintro ⟨a, b⟩
              rw [if_neg (by omega), if_neg (by omega), if_neg (by omega), if_pos ⟨a, b⟩]
          rcases Nat.lt_or_ge (byteAt s 0) 128 with hb | hb
          · rw [decode_small s 0 hb]
            simp only
            have h3 := hcl (byteAt s 0)
            unfold wordyZ
            by_cases d2 : classZ (byteAt s 0) = 2
            · have : ¬ (48 ≤ (byteAt s 0 : Int) ∧ (byteAt s 0 : Int) ≤ 57) := by rw [← h3]; omega
              simp [d2]
              omega
            · by_cases d3 : classZ (byteAt s 0) = 3
              · have := h3.1 d3
                simp [d3]
                omega
              · have b2 : (classZ (byteAt s 0) == 2) = false := by simpa using d2
                have b3 : (classZ (byteAt s 0) == 3) = false := by simpa using d3
                have b4 : (classZ (byteAt s 0) != 2) = true := by simpa using d2
                rw [b2, b3, b4]
                rfl
          · have hge : 128 ≤ (Utf8.decode s 0).1 := by
              rw [Lib.decode_at]
              have h0 := byteAt_lt s 0
              unfold byteAt at hb h0
              unfold Lib.decodeN
              repeat' split
              all_goals (simp only; omega)
            have h3 := hcl ((Utf8.decode s 0).1 : Int)
            have n3 : classZ ((Utf8.decode s 0).1 : Int) ≠ 3 := by rw [ne_eq, h3]; omega
            unfold wordyZ
            by_cases d2 : classZ ((Utf8.decode s 0).1 : Int) = 2
            · simp [d2]; omega
            · have b2 : (classZ ((Utf8.decode s 0).1 : Int) == 2) = false := by simpa using d2
              have b3 : (classZ ((Utf8.decode s 0).1 : Int) == 3) = false := by simpa using n3
              have b4 : (classZ ((Utf8.decode s 0).1 : Int) != 2) = true := by simpa using d2
              rw [b2, b3, b4]
              rfl
        rw [hd]
        have hdp : decide (0 < s.size) = true := decide_eq_true hp
        have hd12 : decide (rs.length ≤ 12) = true := decide_eq_true h12
        rw [hdp, hd12, Bool.and_true, Bool.and_true, Bool.true_and]
        cases hw1 : wordyZ (Utf8.decode s 0).1
        · rw [hall, hw1]; simp [hjt]
        · cases hx : (decide (byteAt s 0 < 48) || decide (57 < byteAt s 0))
          · simp [hjt]
          · simp [hjf]
      · rw [if_pos (by omega), hjt]
        have : decide (rs.length ≤ 12) = false := decide_eq_false h12
        rw [this]
        simp
end Go.Proofs.YtbmdhmmahmdccaaDoor.Print
/-! ### ETell -/
namespace Go.Proofs.YtbmdhmmahmdccaaDoor.Print
open Go.RowKit Go.Proofs.YtbmdhmmahmdccaaDoorW.PrintWords Go.Proofs.YtbmdhmmahmdccaaDoorW.PrintLast Go.Proofs.YtbmdhmmahmdccaaDoorW.PrintMore
set_option linter.unusedSimpArgs false
set_option linter.unusedVariables false
def nearT (t : S48) (n : Int) : Int := mn (mx n t.f2) t.f3
set_option maxHeartbeats 8000000 in
set_option maxRecDepth 100000 in
theorem tell_any (gt gv gb n n2 cv cb : Nat) (A0 : Option Addr) (c0 : Nat) (l0 : List S48) (k : Nat) (x : Int) (curV curB : Array Value) (w : World)
    (ht : w.heap[gt]? = some (.cells #[.slice (some ⟨gv, 0, none⟩) n cv, .slice (some ⟨gb, 0, none⟩) n2 cb, .slice A0 l0.length c0] 71 (0, 0)))
    (hv : w.heap[gv]? = some (.cells curV 3 (0, 0))) (hb : w.heap[gb]? = some (.cells curB 4 (0, 0))) (hkv : curV[k]? ≠ none) (hkb : curB[k]? ≠ none)
    (hr : Kd.C k48 w A0 l0.length l0) (hrS : ∀ ad, A0 = some ad → ad.block ≠ gv ∧ ad.block ≠ gb) (hn : k < n) (hn2 : k < n2) (hl : k < l0.length) (h1 : gt ≠ gv) (h2 : gt ≠ gb) (h3 : gv ≠ gb) :
    Calls Tryd.prog 46 #[.pointer (some ⟨gt, 0, none⟩), .int .i64 k, .int .i64 x] w fun e w' => e = .returned (.tuple #[]) ∧
      w'.heap[gv]? = some (.cells (curV.setIfInBounds k (.int .i64 (nearT l0[k] x))) 3 (0, 0)) ∧
      w'.heap[gb]? = some (.cells (curB.setIfInBounds k (.bool (!l0[k].f1 && nearT l0[k] x != x))) 4 (0, 0)) ∧ Only [gv, gb] w w' := by
  obtain ⟨ad, cs, rfl, _, hK, hcs⟩ := Kd.C_cells hr k hl
  obtain rfl := k48_open hK
  obtain ⟨hab1, hab2⟩ := hrS ad rfl
  have HC := Lib.hid (show CellsAt w (ad.add (k * 4)) _ from hcs)
  have HT := Lib.hid ht
  have HV := Lib.hid hv
  have HB := Lib.hid hb
  have HKV := Lib.hid hkv
  have HKB := Lib.hid hkb
  have hn' : (k : Int) < n := by omega
  have hn2' : (k : Int) < n2 := by omega
  have hl' : (k : Int) < l0.length := by omega
  have hk0 : (0 : Int) ≤ k := by omega
  have HN1 := Lib.hid h1
  have HN2 := Lib.hid h2
  have HN3 := Lib.hid h3
  have HAB1 := Lib.hid hab1
  have HAB2 := Lib.hid hab2
  have hlen : l0.length = l0.length := rfl
  clear ht hv hb hkv hkb hr hrS hcs hK h1 h2 h3 hab1 hab2 hlen
  generalize l0[k] = t at *
  obtain ⟨y, hy⟩ : ∃ y, y = nearT t x := ⟨_, rfl⟩
  rw [← hy]
  have HY := Lib.hid hy
  clear hy
  have hu := Tryd.underlying48
  have hu2 := Tryd.underlying71
  go_enter Tryd.func46, Tryd.ntmps46
  go_wp2
  refine L.grow_start [] 16 ((0, true, false) :: (1, true, false) :: (2, true, false) :: (3, true, false) :: (4, true, false) :: (5, true, false) :: (6, true, false) :: (7, true, false) :: (8, true, false) :: (9, true, false) :: (10, true, false) :: (11, true, false) :: (12, true, false) :: (13, true, true) :: (14, false, true) :: (15, true, true) :: (16, false, true) :: []) (by kernel_rfl) (([], [0], some 6) :: ([0], [6], some 7) :: ([1], [7], some 8) :: ([2], [8], some 9) :: ([3], [9], some 10) :: ([], [1], some 11) :: ([], [0], some 12) :: ([6], [12], some 13) :: ([7], [13], some 14) :: ([8], [14], some 15) :: ([], [1], some 16) :: ([9, 10], [15, 16], some 17) :: ([11], [17], some 18) :: ([], [2], some 19) :: ([12, 13], [18, 19], some 20) :: ([4, 5, 0, 1, 2, 3, 4, 5, 6, 7, 8, 9, 10, 11, 12, 13, 14], [10, 11], some 21) :: ([15, 14, 14, 0, 1, 2, 3, 4, 5, 6, 7, 8, 9, 10, 11, 12, 13, 14], [21, 20], none) :: []) (by kernel_rfl) (by kernel_rfl) (n := 17) rfl (by kernel_rfl) (fun _ _ _ _ _ h => h) (fun wg hog => ?_)
  refine L.growe_start (N := 50) (by rfl) ?_
  have e0 : ∀ w', Only [] wg w' → w'.cell? ⟨gt, 0, none⟩ = some (.slice (some ⟨gv, 0, none⟩) n cv) := fun w' q => (cell_of_row w' gt 0 _ _ _ ((hog.trans q).heap HT.out (by simp))).trans rfl
  have e2 : ∀ w', Only [] wg w' → w'.cell? ⟨gt, 2, none⟩ = some (.slice (some ad) l0.length c0) := fun w' q => (cell_of_row w' gt 2 _ _ _ ((hog.trans q).heap HT.out (by simp))).trans rfl
  have f0 : ∀ w', Only [] wg w' → w'.cell? (ad.add (k * 4)) = some (.string t.f0) := fun w' q => cellsAt_head (HC.out.only (hog.trans q) (by simp)) rfl
  have f1 : ∀ w', Only [] wg w' → w'.cell? ⟨(ad.add (k * 4)).block, (ad.add (k * 4)).off + 1, none⟩ = some (.bool t.f1) := fun w' q => cellsAt_field (HC.out.only (hog.trans q) (by simp)) 1 (by omega) rfl
  have f2 : ∀ w', Only [] wg w' → w'.cell? ⟨(ad.add (k * 4)).block, (ad.add (k * 4)).off + 2, none⟩ = some (.int .i64 t.f2) := fun w' q => cellsAt_field (HC.out.only (hog.trans q) (by simp)) 2 (by omega) rfl
  have f3 : ∀ w', Only [] wg w' → w'.cell? ⟨(ad.add (k * 4)).block, (ad.add (k * 4)).off + 3, none⟩ = some (.int .i64 t.f3) := fun w' q => cellsAt_field (HC.out.only (hog.trans q) (by simp)) 3 (by omega) rfl
  have HOG := Lib.hid hog
  clear hog
  iterate 14 (first | (refine L.ge_off rfl rfl rfl (by rfl) ?_) | (refine L.ge_move rfl rfl rfl (by rfl) rfl (by simp [L.evE, L.lk, Act.eval]; rfl) ?_) | (refine L.ge_pick rfl rfl rfl (by rfl) rfl (by simp [L.evE, L.lk, Act.eval]; rfl) (by simp [L.evE, L.lk, Act.eval]; rfl) ?_) | (refine L.ge_val rfl rfl rfl (by rfl) (by intro w' hw'; simp [execOp, L.evE, L.lk, Act.eval]; go_simp; rfl) ?_))
  refine L.ge_call rfl rfl rfl (by rfl) rfl (by simp [L.evE, L.lk, Act.eval]; rfl) (by go_simp) ?_
  refine (tags_within.calls t.f0 t.f1 t.f2 t.f3 x y wg (by rw [HY.out]; rfl)).mono ?_
  rintro e w1 ⟨rfl, hb1⟩
  refine ⟨_, rfl, Only.of_below hb1, ?_⟩
  have HO1 := Lib.hid (HOG.out.trans (Only.of_below hb1))
  clear hb1 e0 e2 f0 f1 f2 f3 HOG
  iterate 1 (first | (refine L.ge_off rfl rfl rfl (by rfl) ?_) | (refine L.ge_move rfl rfl rfl (by rfl) rfl (by simp [L.evE, L.lk, Act.eval]; rfl) ?_) | (refine L.ge_pick rfl rfl rfl (by rfl) rfl (by simp [L.evE, L.lk, Act.eval]; rfl) (by simp [L.evE, L.lk, Act.eval]; rfl) ?_) | (refine L.ge_val rfl rfl rfl (by rfl) (by intro w' hw'; simp [execOp, L.evE, L.lk, Act.eval]; go_simp; rfl) ?_))
  have HV1 := Lib.hid (HO1.out.heap HV.out (by simp))
  obtain ⟨v0, hv0⟩ : ∃ v0, w1.cell? ⟨gv, k, none⟩ = some v0 := by
    rw [cell_of_row w1 gv k _ _ _ HV1.out]
    cases h : curV[k]? with
    | none => exact absurd h HKV.out
    | some v => exact ⟨v, rfl⟩
  have hz0 : w1.frozen? ⟨gv, k, none⟩ = false := frozen_of_row w1 gv k _ _ HV1.out
  refine L.ge_last (w' := w1.setCell ⟨gv, k, none⟩ (.int .i64 y)) rfl rfl (by rfl) (by simp [execOp, L.evE, L.lk, Act.eval]; go_simp) ?_
  simp only [L.puts, Act.put, goInt, List.setIfInBounds_toArray, List.set_cons_zero, List.set_cons_succ]
  have HV2 := Lib.hid (show (w1.setCell ⟨gv, k, none⟩ (.int .i64 y)).heap[gv]? = some (.cells (curV.setIfInBounds k (.int .i64 y)) 3 (0, 0)) from heap_setCell_same w1 gv k _ _ _ HV1.out)
  have HO2 := Lib.hid (show Only [gv] w1 (w1.setCell ⟨gv, k, none⟩ (.int .i64 y)) from (Only.refl _ _).setCell (by simp) _)
  clear hv0 hz0
  generalize w1.setCell ⟨gv, k, none⟩ (.int .i64 y) = w2 at *
  have HO3 := Lib.hid ((HO1.out.mono (T := [gv]) (by simp)).trans HO2.out)
  have HT2 := Lib.hid (HO3.out.heap HT.out (by simpa using HN1.out))
  have HC2 := Lib.hid (HC.out.only HO3.out (by rw [add_block]; simpa using HAB1.out))
  have HB2 := Lib.hid (HO3.out.heap HB.out (by simpa using HN3.out.symm))
  have hkk : ((curV.setIfInBounds k (.int .i64 y))[k]?) = some (.int .i64 y) := by
    rw [Array.getElem?_setIfInBounds_self_of_lt]
    rcases Nat.lt_or_ge k curV.size with h | h
    · exact h
    · exact absurd (Array.getElem?_eq_none h) HKV.out
  have HKK := Lib.hid hkk
  clear hkk HO1 HO2 HV1 HV HT HC HB
  go_wp2
  refine L.grow_start [] 28 ((0, true, false) :: (1, true, false) :: (2, true, false) :: (3, true, false) :: (4, true, false) :: (5, true, false) :: (6, true, false) :: (7, true, false) :: (8, true, false) :: (9, true, false) :: (10, true, true) :: (11, true, true) :: (12, true, true) :: (13, true, true) :: (14, true, true) :: (15, true, true) :: (16, true, false) :: (17, true, false) :: (18, true, false) :: (19, true, false) :: (20, true, false) :: (21, true, false) :: (22, true, false) :: (23, true, false) :: (24, true, true) :: (25, true, true) :: (26, true, true) :: (27, true, true) :: (28, false, true) :: []) (by kernel_rfl) (([], [0], some 22) :: ([0], [22], some 23) :: ([1], [23], some 24) :: ([2], [24], some 25) :: ([3], [25], some 26) :: ([], [1], some 27) :: ([], [0], some 28) :: ([6], [28], some 29) :: ([7], [29], some 30) :: ([8], [30], some 31) :: ([], [1], some 32) :: ([9, 10], [31, 32], some 33) :: ([11], [33], some 34) :: ([12], [34], some 35) :: ([13], [35], some 36) :: ([14], [36], some 37) :: ([15], [0, 37], some 38) :: ([16, 15], [38, 37], some 39) :: ([17, 15], [39, 37], some 40) :: ([18, 15], [40, 37], some 41) :: ([19, 15], [41, 37], some 42) :: ([15], [1, 37], some 43) :: ([20, 21, 15], [42, 43, 37], some 44) :: ([22, 15], [44, 37], some 45) :: ([15], [2, 37], some 46) :: ([23, 24, 15], [45, 46, 37], some 47) :: ([15, 25], [37, 47], some 48) :: ([4, 5, 0, 1, 2, 3, 4, 5, 6, 7, 8, 9, 10, 11, 12, 13, 14, 15, 16, 17, 18, 19, 20, 21, 22, 23, 24, 25, 26], [26, 27], some 49) :: ([27, 26, 15, 0, 1, 2, 3, 4, 5, 6, 7, 8, 9, 10, 11, 12, 13, 14, 15, 16, 17, 18, 19, 20, 21, 22, 23, 24, 25, 26], [49, 48], none) :: []) (by kernel_rfl) (by kernel_rfl) (n := 29) rfl (by kernel_rfl) (fun _ _ _ _ _ h => h) (fun wg hog => ?_)
  refine L.growe_start (N := 50) (by rfl) ?_
  have e0 : ∀ w', Only [] wg w' → w'.cell? ⟨gt, 0, none⟩ = some (.slice (some ⟨gv, 0, none⟩) n cv) := fun w' q => (cell_of_row w' gt 0 _ _ _ ((hog.trans q).heap HT2.out (by simp))).trans rfl
  have e1 : ∀ w', Only [] wg w' → w'.cell? ⟨gt, 1, none⟩ = some (.slice (some ⟨gb, 0, none⟩) n2 cb) := fun w' q => (cell_of_row w' gt 1 _ _ _ ((hog.trans q).heap HT2.out (by simp))).trans rfl
  have e2 : ∀ w', Only [] wg w' → w'.cell? ⟨gt, 2, none⟩ = some (.slice (some ad) l0.length c0) := fun w' q => (cell_of_row w' gt 2 _ _ _ ((hog.trans q).heap HT2.out (by simp))).trans rfl
  have f1 : ∀ w', Only [] wg w' → w'.cell? ⟨(ad.add (k * 4)).block, (ad.add (k * 4)).off + 1, none⟩ = some (.bool t.f1) := fun w' q => cellsAt_field (HC2.out.only (hog.trans q) (by simp)) 1 (by omega) rfl
  have f4 : ∀ w', Only [] wg w' → w'.cell? ⟨gv, k, none⟩ = some (.int .i64 y) := fun w' q => (cell_of_row w' gv k _ _ _ ((hog.trans q).heap HV2.out (by simp))).trans HKK.out
  have HOG := Lib.hid hog
  clear hog
  cases hf1 : t.f1
  all_goals
    rw [hf1] at f1
    iterate 28 (first | (refine L.ge_off rfl rfl rfl (by rfl) ?_) | (refine L.ge_move rfl rfl rfl (by rfl) rfl (by simp [L.evE, L.lk, Act.eval]; rfl) ?_) | (refine L.ge_pick rfl rfl rfl (by rfl) rfl (by simp [L.evE, L.lk, Act.eval]; rfl) (by simp [L.evE, L.lk, Act.eval]; rfl) ?_) | (refine L.ge_val rfl rfl rfl (by rfl) (by intro w' hw'; simp [execOp, L.evE, L.lk, Act.eval]; go_simp; rfl) ?_))
    have HBG := Lib.hid (HOG.out.heap HB2.out (by simp))
    obtain ⟨v0, hv0⟩ : ∃ v0, wg.cell? ⟨gb, k, none⟩ = some v0 := by
      rw [cell_of_row wg gb k _ _ _ HBG.out]
      cases h : curB[k]? with
      | none => exact absurd h HKB.out
      | some v => exact ⟨v, rfl⟩
    have hz0 : wg.frozen? ⟨gb, k, none⟩ = false := frozen_of_row wg gb k _ _ HBG.out
    refine L.ge_last (w' := wg.setCell ⟨gb, k, none⟩ (.bool (!t.f1 && y != x))) rfl rfl (by rfl) (by simp [execOp, L.evE, L.lk, Act.eval, hf1]; go_simp) ?_
    simp only [L.puts, Act.put, goInt, List.setIfInBounds_toArray, List.set_cons_zero, List.set_cons_succ]
    have HB3 := Lib.hid (show (wg.setCell ⟨gb, k, none⟩ (.bool (!t.f1 && y != x))).heap[gb]? = some (.cells (curB.setIfInBounds k (.bool (!t.f1 && y != x))) 4 (0, 0)) from heap_setCell_same wg gb k _ _ _ HBG.out)
    have HO4 := Lib.hid (show Only [gb] wg (wg.setCell ⟨gb, k, none⟩ (.bool (!t.f1 && y != x))) from (Only.refl _ _).setCell (by simp) _)
    generalize wg.setCell ⟨gb, k, none⟩ (.bool (!t.f1 && y != x)) = w4 at *
    go_wp2
    go_end0
    refine ⟨rfl, ?_, ?_, ?_⟩
    · exact HO4.out.heap (HOG.out.heap HV2.out (by simp)) (by simpa using HN3.out)
    · exact HB3.out
    · exact ((HO3.out.mono (T := [gv, gb]) (by simp)).trans (HOG.out.mono (T := [gv, gb]) (by simp))).trans (HO4.out.mono (T := [gv, gb]) (by simp))
end Go.Proofs.YtbmdhmmahmdccaaDoor.Print
/-! ### TgPure -/
namespace Go.Proofs.YtbmdhmmahmdccaaDoor.Print
open Go.RowKit Go.Proofs.YtbmdhmmahmdccaaDoorW.PrintWords Go.Proofs.YtbmdhmmahmdccaaDoorW.PrintLast Go.Proofs.YtbmdhmmahmdccaaDoorW.PrintMore
set_option linter.unusedSimpArgs false
set_option linter.unusedVariables false
/-- Are names not too long to speak of? -/
def okTags (l : List S48) : Prop := l.length ≤ 1000000000 ∧ ∀ t ∈ l, t.f0.size ≤ 1000000000
instance (l : List S48) : Decidable (okTags l) := by unfold okTags; exact inferInstance
def checkFrom (l : List S48) : Nat → Nat → Int
  | 0, _ => 0
  | f + 1, i => if h : i < l.length then (if nameB l[i].f0 = false ∨ l[i].f2 > l[i].f3 then 1 else if firstFrom (tagIs l[i].f0) 0 l < i then 5 else checkFrom l f (i + 1)) else 0
def checkZ (l : List S48) : Int := if 12 < l.length then 2 else checkFrom l l.length 0
theorem firstFrom_range {α : Type} (p : α → Bool) : ∀ (l : List α) (k : Nat), firstFrom p k l = -1 ∨ ((k : Int) ≤ firstFrom p k l ∧ firstFrom p k l < (k + l.length : Nat)) := by
  intro l
  induction l with
  | nil => intro k; exact .inl rfl
  | cons x l ih =>
    intro k
    unfold firstFrom
    split
    · exact .inr ⟨by omega, by simp; omega⟩
    · rcases ih (k + 1) with h | h
      · exact .inl h
      · exact .inr ⟨by omega, by simp; omega⟩
theorem firstFrom_le {α : Type} (p : α → Bool) : ∀ (l : List α) (k i : Nat) (hi : i < l.length), p l[i] = true → (k : Int) ≤ firstFrom p k l ∧ firstFrom p k l ≤ (k + i : Nat) := by
  intro l
  induction l with
  | nil => intro k i hi; simp at hi
  | cons x l ih =>
    intro k i hi hp
    unfold firstFrom
    split
    · exact ⟨by omega, by omega⟩
    · cases i with
      | zero => simp at hp; rename_i h; exact absurd hp h
      | succ i =>
        have := ih (k + 1) i (by simpa using hi) (by simpa using hp)
        exact ⟨by omega, by omega⟩
theorem tagIs_self (t : S48) : tagIs t.f0 t = true := by unfold tagIs; simp
theorem rd_at (l : List S48) (i : Nat) (hi : i < l.length) : rd_T48 l (i : Int) = l[i] := getD_at l _ i hi
theorem find_is (l : List S48) (a : ByteArray) (hl : l.length ≤ 1000000000) : tags_Find.f l a = some (firstFrom (tagIs a) 0 l) := if_pos (by omega)
theorem ref_find_loop (l : List S48) (a : ByteArray) (hl : l.length ≤ 1000000000) : ∀ (f i k : Nat), l.length ≤ i + f → i ≤ l.length → f < k → malthouseref08_Find.l0 k l a (i : Int) = some (firstFrom (tagIs a) i (l.drop i)) := by
  intro f
  induction f with
  | zero =>
    intro i k h1 h2 hk
    obtain ⟨k, rfl⟩ : ∃ m, k = m + 1 := ⟨k - 1, by omega⟩
    simp only [malthouseref08_Find.l0]
    rw [if_neg (by omega), List.drop_eq_nil_of_le (by omega)]
    rfl
  | succ f ih =>
    intro i k h1 h2 hk
    obtain ⟨k, rfl⟩ : ∃ m, k = m + 1 := ⟨k - 1, by omega⟩
    simp only [malthouseref08_Find.l0]
    by_cases hi : i < l.length
    · rw [if_pos (by omega), if_pos (by omega), firstFrom_drop _ _ _ hi, rd_at l i hi]
      by_cases ht : tagIs a l[i] = true
      · rw [if_pos ht, if_pos (by unfold tagIs at ht; simpa using ht)]
      · rw [if_neg ht, if_neg (by unfold tagIs at ht; simpa using ht), wrap_small _ (by omega) (by omega)]
        exact ih (i + 1) k (by omega) (by omega) (by omega)
    · rw [if_neg (by omega), List.drop_eq_nil_of_le (by omega)]
      rfl
theorem ref_find_is (l : List S48) (a : ByteArray) (hl : l.length ≤ 1000000000) (k : Nat) (hk : l.length < k) : malthouseref08_Find.f k l a = some (firstFrom (tagIs a) 0 l) := by
  have := ref_find_loop l a hl l.length 0 k (by omega) (by omega) hk
  rw [List.drop_zero] at this
  exact this
theorem check_loop (l : List S48) (hl : okTags l) : ∀ (f i k : Nat), l.length ≤ i + f → i ≤ l.length → 2 * f < k → tags_Check.l0 k l l (l.length : Int) (i : Int) = some (checkFrom l f i) := by
  obtain ⟨hl, hsz⟩ := hl
  intro f
  induction f with
  | zero =>
    intro i k h1 h2 hk
    obtain ⟨k, rfl⟩ : ∃ m, k = m + 1 := ⟨k - 1, by omega⟩
    simp only [tags_Check.l0, checkFrom]
    rw [if_neg (by omega)]
  | succ f ih =>
    intro i k h1 h2 hk
    obtain ⟨k, rfl⟩ : ∃ m, k = m + 1 + 1 := ⟨k - 2, by omega⟩
    rw [tags_Check.l0, checkFrom]
    by_cases hi : i < l.length
    · rw [if_pos (by omega), if_pos (by omega), if_pos (by omega), dif_pos hi, rd_at l i hi, lex_name_is _ (hsz _ (List.getElem_mem hi))]
      simp only [Option.bind_some]
      have hj : ∀ b : Bool, tags_Check.j1 (k + 1) l (i : Int) l (l.length : Int) (i : Int) b l[i].f0 l[i].f1 l[i].f2 l[i].f3 = if b = true then some 1 else if firstFrom (tagIs l[i].f0) 0 l < i then some 5 else some (checkFrom l f (i + 1)) := by
        intro b
        rw [tags_Check.j1]
        rw [find_is l _ hl]
        simp only [Option.bind_some]
        rw [wrap_small _ (by omega) (by omega)]
        have := ih (i + 1) k (by omega) (by omega) (by omega)
        rw [show (i : Int) + 1 = ((i + 1 : Nat) : Int) by omega, this]
      by_cases hn : nameB l[i].f0 = true
      · rw [if_pos hn, hj]
        by_cases hlo : l[i].f2 > l[i].f3
        · rw [if_pos (by simpa using hlo), if_pos (.inr hlo)]
        · have hno : ¬ (nameB l[i].f0 = false ∨ l[i].f2 > l[i].f3) := by rw [hn]; simp; omega
          rw [if_neg (by simpa using hlo)]
          by_cases hff : firstFrom (tagIs l[i].f0) 0 l < i
          · rw [if_pos hff, if_neg hno, if_pos hff]
          · rw [if_neg hff, if_neg hno, if_neg hff]
      · rw [if_neg hn, hj, if_pos rfl, if_pos (.inl (by simpa using hn))]
    · rw [if_neg (by omega), dif_neg hi]
theorem check_is (l : List S48) (hl : okTags l) (k : Nat) (hk : 2 * l.length < k) : tags_Check.f k l = some (checkZ l) := by
  unfold tags_Check.f checkZ
  by_cases h : 12 < l.length
  · rw [if_pos (by omega), if_pos h]
  · rw [if_neg (by omega), if_neg h]
    exact check_loop l hl l.length 0 k (by omega) (by omega) hk
/-- How many rounds a name takes at most. -/
def longest (l : List S48) : Nat := l.foldr (fun t n => max t.f0.size n) 0
theorem longest_le (l : List S48) : ∀ t ∈ l, t.f0.size ≤ longest l := by
  induction l with
  | nil => intro t h; simp at h
  | cons x l ih =>
    intro t h
    rcases List.mem_cons.1 h with rfl | h
    · exact Nat.le_max_left _ _
    · exact Nat.le_trans (ih t h) (Nat.le_max_right _ _)
theorem name_more (s : ByteArray) (hs : s.size ≤ 1000000000) (k : Nat) (hk : s.size + 20 ≤ k) : malthouseref01_Name.f k s = some (nameB s) := by
  have := ref_name_is s hs (k - s.size - 20)
  rwa [show k - s.size - 20 + s.size + 20 = k by omega] at this
theorem ref_check_loop (l : List S48) (hl : okTags l) : ∀ (f i k : Nat), l.length ≤ i + f → i ≤ l.length → 2 * f + l.length + longest l + 20 < k → malthouseref08_Check.l0 k l (i : Int) = some (checkFrom l f i) := by
  obtain ⟨hl, hsz⟩ := hl
  intro f
  induction f with
  | zero =>
    intro i k h1 h2 hk
    obtain ⟨k, rfl⟩ : ∃ m, k = m + 1 := ⟨k - 1, by omega⟩
    rw [malthouseref08_Check.l0, checkFrom]
    rw [if_neg (by omega)]
  | succ f ih =>
    intro i k h1 h2 hk
    obtain ⟨k, rfl⟩ : ∃ m, k = m + 1 + 1 := ⟨k - 2, by omega⟩
    rw [malthouseref08_Check.l0, checkFrom]
    by_cases hi : i < l.length
    · have hlo := longest_le l _ (List.getElem_mem hi)
      rw [if_pos (by omega), if_pos (by omega), dif_pos hi, rd_at l i hi, name_more _ (hsz _ (List.getElem_mem hi)) (k + 1) (by omega)]
      simp only [Option.bind_some]
      obtain ⟨q1, q2⟩ := firstFrom_le (tagIs l[i].f0) l 0 i hi (tagIs_self _)
      have hj : ∀ b : Bool, malthouseref08_Check.j1 (k + 1) l (i : Int) b = if b = true then some 1 else if firstFrom (tagIs l[i].f0) 0 l < i then some 5 else some (checkFrom l f (i + 1)) := by
        intro b
        rw [malthouseref08_Check.j1]
        rw [if_pos (show (0 : Int) ≤ i by omega), if_pos (show (i : Int) < l.length by omega), rd_at l i hi, ref_find_is l _ hl k (by omega)]
        simp only [Option.bind_some]
        rw [wrap_small _ (by omega) (by omega)]
        have := ih (i + 1) k (by omega) (by omega) (by omega)
        rw [show (i : Int) + 1 = ((i + 1 : Nat) : Int) by omega, this]
        by_cases hb : b = true
        · rw [if_pos hb, if_pos hb]
        · rw [if_neg hb, if_neg hb]
          by_cases he : firstFrom (tagIs l[i].f0) 0 l = i
          · rw [if_pos he, if_neg (by omega)]
          · rw [if_neg he, if_pos (by omega)]
      by_cases hn : nameB l[i].f0 = true
      · rw [if_pos hn, hj]
        by_cases hlo : l[i].f2 > l[i].f3
        · rw [if_pos (by simpa using hlo), if_pos (.inr hlo)]
        · have hno : ¬ (nameB l[i].f0 = false ∨ l[i].f2 > l[i].f3) := by rw [hn]; simp; omega
          rw [if_neg (by simpa using hlo)]
          by_cases hff : firstFrom (tagIs l[i].f0) 0 l < i
          · rw [if_pos hff, if_neg hno, if_pos hff]
          · rw [if_neg hff, if_neg hno, if_neg hff]
      · rw [if_neg hn, hj, if_pos rfl, if_pos (.inl (by simpa using hn))]
    · rw [if_neg (by omega), dif_neg hi]
theorem ref_check_is (l : List S48) (hl : okTags l) (k : Nat) (hk : 3 * l.length + longest l + 20 < k) : malthouseref08_Check.f k l = some (checkZ l) := by
  unfold malthouseref08_Check.f checkZ
  by_cases h : 12 < l.length
  · rw [if_pos (by omega), if_pos h]
  · rw [if_neg (by omega), if_neg h]
    exact ref_check_loop l hl l.length 0 k (by omega) (by omega) (by omega)
/-- Tags that may be have bounds in order, and no more than so many. -/
theorem checkFrom_ok (l : List S48) : ∀ (f i : Nat), l.length ≤ i + f → checkFrom l f i = 0 → ∀ j (hj : j < l.length), i ≤ j → l[j].f2 ≤ l[j].f3 ∧ firstFrom (tagIs l[j].f0) 0 l = j := by
  intro f
  induction f with
  | zero => intro i h1 h2 j hj hij; omega
  | succ f ih =>
    intro i h1 h2 j hj hij
    unfold checkFrom at h2
    by_cases hi : i < l.length
    · rw [dif_pos hi] at h2
      split at h2
      · omega
      rename_i hb
      split at h2
      · omega
      rename_i hc
      by_cases hij2 : j = i
      · subst hij2
        obtain ⟨q1, q2⟩ := firstFrom_le (tagIs l[j].f0) l 0 j hj (tagIs_self _)
        exact ⟨by have := fun h => hb (.inr h); omega, by omega⟩
      · exact ih (i + 1) (by omega) h2 j hj (by omega)
    · omega
theorem check_ok {l : List S48} (h : checkZ l = 0) : l.length ≤ 12 ∧ ∀ j (hj : j < l.length), l[j].f2 ≤ l[j].f3 ∧ firstFrom (tagIs l[j].f0) 0 l = j := by
  unfold checkZ at h
  split at h
  · omega
  · exact ⟨by omega, fun j hj => checkFrom_ok l l.length 0 (by omega) h j hj (by omega)⟩
theorem near_is {t : S48} (h : t.f2 ≤ t.f3) (n : Int) : malthouseref08_Near.f t.f0 t.f1 t.f2 t.f3 n = some (nearT t n) := by
  unfold malthouseref08_Near.f nearT mn mx
  repeat' split
  all_goals (first | rfl | (congr 1; omega) | (exfalso; omega))
/-- May a tag have a number, and be bad or not? -/
def rightAt (t : S48) (v : Int) (b : Bool) : Bool := nearT t v == v && !(t.f1 && b)
def rightFrom (l : List S48) (V : List Int) (B : List Bool) : Nat → Nat → Bool
  | 0, _ => true
  | f + 1, i => if h : i < l.length then rightAt l[i] (V.getD i 0) (B.getD i false) && rightFrom l V B f (i + 1) else true
def rightB (l : List S48) (V : List Int) (B : List Bool) : Bool := checkZ l == 0 && V.length == l.length && B.length == l.length && rightFrom l V B l.length 0
theorem rightFrom_next (l : List S48) (V : List Int) (B : List Bool) (n k : Nat) (hn : l.length = n) (h : k < n) : rightFrom l V B (n - k) k = (rightAt (l[k]'(by omega)) (V.getD k 0) (B.getD k false) && rightFrom l V B (n - (k + 1)) (k + 1)) := by
  obtain ⟨m, hm⟩ : ∃ m, n - k = m + 1 := ⟨n - k - 1, by omega⟩
  rw [hm, show n - (k + 1) = m by omega, rightFrom, dif_pos (by omega)]
theorem Kd.int_at {w : World} {A : Option Addr} {xs : List Int} (h : Kd.C (Kd.int .i64) w A xs.length xs) (k : Nat) (hk : k < xs.length) : ∃ ad, A = some ad ∧ w.cell? (ad.add k) = some (.int .i64 (xs.getD k 0)) := by
  obtain ⟨ad, cs, e, _, hK, hc⟩ := Kd.C_cells h k hk
  have hk' : cs = [.int .i64 xs[k]] := hK
  subst hk'
  refine ⟨ad, e, ?_⟩
  rw [List.getD_eq_getElem?_getD, List.getElem?_eq_getElem hk]
  have := hc 0 _ rfl
  rw [show k * (Kd.int .i64).sz = k from Nat.mul_one k, Go.Deep.add_add, Nat.add_zero] at this
  exact this
theorem Kd.bool_at {w : World} {A : Option Addr} {xs : List Bool} (h : Kd.C Kd.bool w A xs.length xs) (k : Nat) (hk : k < xs.length) : ∃ ad, A = some ad ∧ w.cell? (ad.add k) = some (.bool (xs.getD k false)) := by
  obtain ⟨ad, cs, e, _, hK, hc⟩ := Kd.C_cells h k hk
  have hk' : cs = [.bool xs[k]] := hK
  subst hk'
  refine ⟨ad, e, ?_⟩
  rw [List.getD_eq_getElem?_getD, List.getElem?_eq_getElem hk]
  have := hc 0 _ rfl
  rw [show k * Kd.bool.sz = k from Nat.mul_one k, Go.Deep.add_add, Nat.add_zero] at this
  exact this
def newZ (l : List S48) : List Int × List Bool × Int := if checkZ l = 0 then (l.map (nearT · 0), List.replicate l.length false, 0) else ([], [], checkZ l)
theorem new_loop (l : List S48) (hl : l.length ≤ 1000000000) : ∀ (f i k : Nat) (V : List Int) (B : List Bool), l.length ≤ i + f → i ≤ l.length → V.length = i → f < k → tags_New.l0 k l (l.length : Int) (i : Int) V B = some (V ++ (l.drop i).map (nearT · 0), B, 0) := by
  intro f
  induction f with
  | zero =>
    intro i k V B h1 h2 h3 hk
    obtain ⟨k, rfl⟩ : ∃ m, k = m + 1 := ⟨k - 1, by omega⟩
    rw [tags_New.l0, if_neg (by omega), List.drop_eq_nil_of_le (by omega)]
    simp
  | succ f ih =>
    intro i k V B h1 h2 h3 hk
    obtain ⟨k, rfl⟩ : ∃ m, k = m + 1 := ⟨k - 1, by omega⟩
    rw [tags_New.l0]
    by_cases hi : i < l.length
    · rw [if_pos (by omega), if_pos (by omega), if_pos (by omega), rd_at l i hi]
      unfold tags_within.f
      simp only [Option.bind_some]
      rw [if_pos (by omega), wrap_small _ (by omega) (by omega), show (i : Int) + 1 = ((i + 1 : Nat) : Int) by omega, ih (i + 1) k _ B (by omega) (by omega) (by simp; omega) (by omega), List.drop_eq_getElem_cons hi, List.map_cons, List.append_assoc]
      rfl
    · rw [if_neg (by omega), List.drop_eq_nil_of_le (by omega)]
      simp
theorem new_is (l : List S48) (hl : okTags l) (k : Nat) (hk : 2 * l.length < k) : tags_New.f k l = some (newZ l) := by
  unfold tags_New.f newZ
  rw [check_is l hl k hk]
  simp only [Option.bind_some]
  by_cases h : checkZ l = 0
  · have := (check_ok h).1
    rw [if_pos h, if_pos h, if_pos (by omega), if_pos (by omega)]
    have := new_loop l hl.1 l.length 0 k [] (List.replicate l.length false) (by omega) (by omega) rfl (by omega)
    simpa using this
  · rw [if_neg h, if_neg h]
end Go.Proofs.YtbmdhmmahmdccaaDoor.Print
/-! ### ERight -/
namespace Go.Proofs.YtbmdhmmahmdccaaDoor.Print
open Go.RowKit Go.Proofs.YtbmdhmmahmdccaaDoorW.PrintWords Go.Proofs.YtbmdhmmahmdccaaDoorW.PrintLast Go.Proofs.YtbmdhmmahmdccaaDoorW.PrintMore
set_option linter.unusedSimpArgs false
set_option linter.unusedVariables false
def tags_Right.f (l0 : List S48) (l1_0 : List Int) (l1_1 : List Bool) : Option Bool := if okTags l0 ∧ l1_0.length ≤ 1000000000 ∧ l1_1.length ≤ 1000000000 then some (rightB l0 l1_0 l1_1) else none
set_option maxHeartbeats 8000000 in
set_option maxRecDepth 100000 in
theorem tags_Right.calls (A0 : Option Addr) (c0 : Nat) (l0 : List S48) (A1_0 : Option Addr) (c1_0 : Nat) (l1_0 : List Int) (A1_1 : Option Addr) (c1_1 : Nat) (l1_1 : List Bool) (r : Bool) (w : World) (hr0 : Kd.C k48 w A0 l0.length l0) (hc0 : l0.length ≤ c0) (hr1_0 : Kd.C (Kd.int .i64) w A1_0 l1_0.length l1_0) (hc1_0 : l1_0.length ≤ c1_0) (hr1_1 : Kd.C Kd.bool w A1_1 l1_1.length l1_1) (hc1_1 : l1_1.length ≤ c1_1) (hT : Tabs w) (h : tags_Right.f l0 l1_0 l1_1 = some r) :
    Calls Tryd.prog 24 #[.slice A0 l0.length c0, .agg #[.slice A1_0 l1_0.length c1_0, .slice A1_1 l1_1.length c1_1]] w fun e w' => e = .returned (.bool r) ∧ Below w.heap.size w w' := by
  unfold tags_Right.f at h
  split at h
  case isFalse => cases h
  rename_i hok
  obtain ⟨hok, hl0, hl1⟩ := hok
  obtain rfl := Option.some.inj h
  clear h
  obtain ⟨V, hV⟩ : ∃ V, V = rightB l0 l1_0 l1_1 := ⟨_, rfl⟩
  rw [← hV]
  have HV := Lib.hid hV
  have HR := Lib.hid hr0
  have HR0 := Lib.hid hr1_0
  have HR1 := Lib.hid hr1_1
  have HOK := Lib.hid hok
  have HTB := Lib.hid hT
  have hll := hok.1
  have hu := Tryd.underlying48
  have hu2 := Tryd.underlying28
  clear hV hr0 hr1_0 hr1_1 hok hT
  have HB0 := Lib.hid (show Below w.heap.size w (w.alloc (.cells #[.slice A1_0 l1_0.length c1_0, .slice A1_1 l1_1.length c1_1] 28)) from (Below.refl _ _).alloc (Nat.le_refl _) _)
  have HX0 := Lib.hid (heap_alloc_new w (.cells #[.slice A1_0 l1_0.length c1_0, .slice A1_1 l1_1.length c1_1] 28))
  obtain ⟨ch, hch⟩ : ∃ ch, ch = checkZ l0 := ⟨_, rfl⟩
  have HCH := Lib.hid hch
  clear hch
  have hcheck : ∀ W, Below w.heap.size w W → Calls Tryd.prog 14 #[.slice A0 l0.length c0] W fun e w' => e = .returned (.int .i64 ch) ∧ Below W.heap.size W w' := fun W hb => by
    rw [HCH.out]
    exact tags_Check.calls (2 * l0.length + 1) A0 c0 l0 (checkZ l0) W (Kd.C_below HR.out hb) hc0 (HTB.out.below hb) (check_is l0 HOK.out _ (by omega))
  have HC := Lib.hid hcheck
  clear hcheck
  by_cases h1 : ch = 0
  · by_cases h2 : l1_0.length = l0.length
    · by_cases h3 : l1_1.length = l0.length
      · have hv := HV.out
        unfold rightB at hv
        rw [← HCH.out, h1, h2, h3] at hv
        simp only [beq_self_eq_true, Bool.true_and] at hv
        have HV1 := Lib.hid hv
        have HC1 := Lib.hid h1
        have HH2 := Lib.hid h2
        have HH3 := Lib.hid h3
        rw [h2, h3] at HB0 HX0 ⊢
        subst h1
        clear HV hv h2 h3 HC1
        generalize hm : l0.length = m at *
        have HM := Lib.hid hm
        clear hm
        go_enter Tryd.func24, Tryd.ntmps24
        go_wp2_with (go_at_call 14; refine (HC.out _ HB0.out).mono ?_; rintro e w1 ⟨rfl, hb1⟩; have HX1 := Lib.hid ((hb1.block _ (by simp)).trans HX0.out); have HB1 := Lib.hid (below_then HB0.out HB0.out.size hb1); clear hb1; have d0 : w1.cell? ⟨w.heap.size, 0, none⟩ = some (.slice A1_0 m c1_0) := (cell_of_row w1 w.heap.size 0 _ _ _ HX1.out).trans rfl; have d1 : w1.cell? ⟨w.heap.size, 1, none⟩ = some (.slice A1_1 m c1_1) := (cell_of_row w1 w.heap.size 1 _ _ _ HX1.out).trans rfl)
        clear d0 d1
        go_loopw [5, 6, 28] (fun _ _ i wr => ∃ k : Nat, k ≤ m ∧ i = .int .i64 k ∧ Hid (V = rightFrom l0 l1_0 l1_1 (m - k) k) ∧ Hid (wr.heap[w.heap.size]? = some (.cells #[.slice A1_0 m c1_0, .slice A1_1 m c1_1] 28 (0, 0))) ∧ Hid (Below w.heap.size w wr)) (fun _ _ i _ => m - (intOf i).toNat)
        case atStart => exact ⟨0, by omega, rfl, HV1, HX1, HB1⟩
        case round =>
          obtain ⟨k, hk, rfl, hv, hx, hbw⟩ := hrel
          clear HX1 HB1
          by_cases hlt : k < m
          · have hlt' : (k : Int) < m := by omega
            have hk0 : (0 : Int) ≤ k := by omega
            have hbel : Below w.heap.size w wr := hbw.out
            obtain ⟨ad, cs, rfl, _, hK, hcs⟩ := Kd.C_cells (Kd.C_below HR.out hbel) k (by rw [HM.out]; exact hlt)
            obtain rfl := k48_open hK
            obtain ⟨a0, rfl, hi0⟩ := Kd.int_at (Kd.C_below HR0.out hbel) k (by rw [HH2.out]; exact hlt)
            obtain ⟨a1, rfl, hi1⟩ := Kd.bool_at (Kd.C_below HR1.out hbel) k (by rw [HH3.out]; exact hlt)
            have hn := rightFrom_next l0 l1_0 l1_1 m k HM.out hlt
            have hv' := hv.out
            rw [hn] at hv'
            have HV2 := Lib.hid hv'
            have HCS := Lib.hid (show CellsAt wr (ad.add (k * 4)) _ from hcs)
            have HI0 := Lib.hid hi0
            have HI1 := Lib.hid hi1
            have HX := Lib.hid hx.out
            clear hcs hK hn hv hv' hi0 hi1 hx hbel
            generalize l0[k]'(by rw [HM.out]; exact hlt) = t at *
            generalize l1_0.getD k 0 = v at *
            generalize l1_1.getD k false = bd at *
            go_wp2_with (with_reducible refine wpList_load_at rfl 48 (.tmp 31) rfl (ad.add (k * 4)) rfl _ _ HCS.out Tryd.underlying48 rfl (by kernel_rfl) ?_)
            have HT0 := Lib.hid (heap_alloc_new wr (.cells #[.string t.f0, .bool t.f1, .int .i64 t.f2, .int .i64 t.f3] 48))
            have HX2 := Lib.hid ((Below.heap_alloc wr (.cells #[.string t.f0, .bool t.f1, .int .i64 t.f2, .int .i64 t.f3] 48) w.heap.size (heap_lt HX.out)).trans HX.out)
            have HB2 := Lib.hid (hbw.out.alloc hbw.out.size (.cells #[.string t.f0, .bool t.f1, .int .i64 t.f2, .int .i64 t.f3] 48))
            have HJ0 := Lib.hid (((Below.refl wr.heap.size wr).alloc (Nat.le_refl _) (.cells #[.string t.f0, .bool t.f1, .int .i64 t.f2, .int .i64 t.f3] 48)).cell (p := a0.add k) (block_lt_of_cell HI0.out) |>.trans HI0.out)
            have HJ1 := Lib.hid (((Below.refl wr.heap.size wr).alloc (Nat.le_refl _) (.cells #[.string t.f0, .bool t.f1, .int .i64 t.f2, .int .i64 t.f3] 48)).cell (p := a1.add k) (block_lt_of_cell HI1.out) |>.trans HI1.out)
            generalize wr.alloc (.cells #[.string t.f0, .bool t.f1, .int .i64 t.f2, .int .i64 t.f3] 48) = w2 at *
            refine L.grow_start [] 24 ((0, true, false) :: (1, true, false) :: (2, true, false) :: (3, true, false) :: (4, true, false) :: (5, true, false) :: (7, true, false) :: (8, true, false) :: (9, true, false) :: (10, true, false) :: (11, true, false) :: (6, false, true) :: (12, true, true) :: (13, true, true) :: (14, true, true) :: (15, true, true) :: (16, true, true) :: (17, true, false) :: (18, true, false) :: (19, true, true) :: (20, true, true) :: (21, true, true) :: (22, true, true) :: (23, true, true) :: []) (by kernel_rfl) (([], [6], some 33) :: ([], [3], some 34) :: ([1], [34], some 35) :: ([], [5], some 36) :: ([2, 3], [35, 36], some 37) :: ([4], [37], some 38) :: ([0, 5], [33, 38], some 39) :: ([], [3], some 40) :: ([7], [40], some 41) :: ([], [5], some 42) :: ([8, 9], [41, 42], some 43) :: ([10], [43], some 44) :: ([6, 11], [39, 44], some 45) :: ([12, 6], [45], some 46) :: ([13], [6, 46], some 47) :: ([14, 13], [47, 46], some 48) :: ([15, 13, 13], [48, 46], some 49) :: ([16], [3, 49], some 50) :: ([17, 16], [50, 49], some 51) :: ([16], [5, 49], some 52) :: ([18, 19, 16], [51, 52, 49], some 53) :: ([20, 16], [53, 49], some 54) :: ([16, 21, 13], [49, 54, 46], some 55) :: ([13, 22], [46, 55], some 56) :: []) (by kernel_rfl) (by kernel_rfl) (n := 24) rfl (by kernel_rfl) (fun _ _ _ _ _ h => h) (fun wg hog => ?_)
            refine L.growe_start (N := 58) (by rfl) ?_
            have e0 : ∀ w', Only [] wg w' → w'.cell? ⟨w.heap.size, 0, none⟩ = some (.slice (some a0) m c1_0) := fun w' q => (cell_of_row w' w.heap.size 0 _ _ _ ((hog.trans q).heap HX2.out (by simp))).trans rfl
            have e1 : ∀ w', Only [] wg w' → w'.cell? ⟨w.heap.size, 1, none⟩ = some (.slice (some a1) m c1_1) := fun w' q => (cell_of_row w' w.heap.size 1 _ _ _ ((hog.trans q).heap HX2.out (by simp))).trans rfl
            have f0 : ∀ w', Only [] wg w' → w'.cell? ⟨wr.heap.size, 0, none⟩ = some (.string t.f0) := fun w' q => (cell_of_row w' wr.heap.size 0 _ _ _ ((hog.trans q).heap HT0.out (by simp))).trans rfl
            have f1 : ∀ w', Only [] wg w' → w'.cell? ⟨wr.heap.size, 1, none⟩ = some (.bool t.f1) := fun w' q => (cell_of_row w' wr.heap.size 1 _ _ _ ((hog.trans q).heap HT0.out (by simp))).trans rfl
            have f2 : ∀ w', Only [] wg w' → w'.cell? ⟨wr.heap.size, 2, none⟩ = some (.int .i64 t.f2) := fun w' q => (cell_of_row w' wr.heap.size 2 _ _ _ ((hog.trans q).heap HT0.out (by simp))).trans rfl
            have f3 : ∀ w', Only [] wg w' → w'.cell? ⟨wr.heap.size, 3, none⟩ = some (.int .i64 t.f3) := fun w' q => (cell_of_row w' wr.heap.size 3 _ _ _ ((hog.trans q).heap HT0.out (by simp))).trans rfl
            have g0 : ∀ w', Only [] wg w' → w'.cell? (a0.add k) = some (.int .i64 v) := fun w' q => (hog.trans q).cell HJ0.out (by simp)
            have g1 : ∀ w', Only [] wg w' → w'.cell? (a1.add k) = some (.bool bd) := fun w' q => (hog.trans q).cell HJ1.out (by simp)
            have HOG := Lib.hid hog
            clear hog
            iterate 11 (first | (refine L.ge_off rfl rfl rfl (by rfl) ?_) | (refine L.ge_move rfl rfl rfl (by rfl) rfl (by simp [L.evE, L.lk, Act.eval]; rfl) ?_) | (refine L.ge_pick rfl rfl rfl (by rfl) rfl (by simp [L.evE, L.lk, Act.eval]; rfl) (by simp [L.evE, L.lk, Act.eval]; rfl) ?_) | (refine L.ge_val rfl rfl rfl (by rfl) (by intro w' hw'; simp [execOp, L.evE, L.lk, Act.eval]; go_simp; rfl) ?_))
            refine L.ge_call rfl rfl rfl (by rfl) rfl (by simp [L.evE, L.lk, Act.eval]; rfl) (by go_simp) ?_
            obtain ⟨y, hy⟩ : ∃ y, y = nearT t v := ⟨_, rfl⟩
            have HY := Lib.hid hy
            refine (tags_within.calls t.f0 t.f1 t.f2 t.f3 v y wg (by rw [hy]; rfl)).mono ?_
            clear hy
            rintro e w3 ⟨rfl, hb3⟩
            refine ⟨_, rfl, Only.of_below hb3, ?_⟩
            have HO3 := Lib.hid (Only.of_below hb3)
            have e0 : ∀ w', Only [] w3 w' → w'.cell? ⟨w.heap.size, 0, none⟩ = some (.slice (some a0) m c1_0) := fun w' q => e0 w' (HO3.out.trans q)
            have e1 : ∀ w', Only [] w3 w' → w'.cell? ⟨w.heap.size, 1, none⟩ = some (.slice (some a1) m c1_1) := fun w' q => e1 w' (HO3.out.trans q)
            have f1 : ∀ w', Only [] w3 w' → w'.cell? ⟨wr.heap.size, 1, none⟩ = some (.bool t.f1) := fun w' q => f1 w' (HO3.out.trans q)
            have g0 : ∀ w', Only [] w3 w' → w'.cell? (a0.add k) = some (.int .i64 v) := fun w' q => g0 w' (HO3.out.trans q)
            have g1 : ∀ w', Only [] w3 w' → w'.cell? (a1.add k) = some (.bool bd) := fun w' q => g1 w' (HO3.out.trans q)
            have HB3 := Lib.hid (below_then HB2.out HB2.out.size (HOG.out.trans HO3.out).nil_below)
            have HX3 := Lib.hid ((HOG.out.trans HO3.out).heap HX2.out (by simp))
            clear hb3
            have hra : rightAt t v bd = (!(y != v) && !(t.f1 && bd)) := by
              unfold rightAt
              rw [HY.out]
              simp [bne]
            have hv2 := HV2.out
            rw [hra] at hv2
            have HV3 := Lib.hid hv2
            clear HV2 hv2 hra HY HCS
            generalize ht1 : t.f1 = o at *
            clear ht1
            cases hyb : (y != v) <;> cases o <;> cases bd
            all_goals
              iterate 12 (first | (refine L.ge_off rfl rfl rfl (by rfl) ?_) | (refine L.ge_move rfl rfl rfl (by rfl) rfl (by simp [L.evE, L.lk, Act.eval]; rfl) ?_) | (refine L.ge_pick rfl rfl rfl (by rfl) rfl (by simp [L.evE, L.lk, Act.eval]; rfl) (by simp [L.evE, L.lk, Act.eval]; rfl) ?_) | (refine L.ge_val rfl rfl rfl (by rfl) (by intro w' hw'; simp [execOp, L.evE, L.lk, Act.eval]; go_simp; rfl) ?_))
              refine L.ge_done ?_
              simp only [L.puts, Act.put, goInt, List.setIfInBounds_toArray, List.set_cons_zero, List.set_cons_succ]
              have hv3 := HV3.out
              rw [hyb] at hv3
              simp only [Bool.not_true, Bool.not_false, Bool.and_true, Bool.and_false, Bool.true_and, Bool.false_and] at hv3
              have HV4 := Lib.hid hv3
              clear HV3 hv3
              go_wp2
              first
                | (go_roundw
                   case rel => exact ⟨k + 1, by omega, by go_num, HV4, HX3, HB3⟩
                   case measure => simp [intOf]; omega)
                | (go_ret
                   exact ⟨by rw [HV4.out]; rfl, HB3.out⟩)
          · obtain rfl : k = m := by omega
            have hv' := hv.out
            rw [Nat.sub_self] at hv'
            have HV2 := Lib.hid hv'
            clear hv hv'
            go_wp2
            go_ret
            exact ⟨by rw [HV2.out]; rfl, hbw.out⟩
      · have hv := HV.out
        unfold rightB at hv
        have hb3 : (l1_1.length == l0.length) = false := by simpa using h3
        have hb3' : ((l1_1.length : Int) != l0.length) = true := by rw [bne_iff_ne]; omega
        rw [hb3, Bool.and_false, Bool.false_and] at hv
        have HV1 := Lib.hid hv
        have HH2 := Lib.hid h2
        have hb2' : ((l1_0.length : Int) != l0.length) = false := by rw [bne_eq_false_iff_eq]; omega
        have HC1 := Lib.hid h1
        subst h1
        clear HV hv h2 h3 hb3
        go_enter Tryd.func24, Tryd.ntmps24
        go_wp2_with (go_at_call 14; refine (HC.out _ HB0.out).mono ?_; rintro e w1 ⟨rfl, hb1⟩; have HX1 := Lib.hid ((hb1.block _ (by simp)).trans HX0.out); have HB1 := Lib.hid (below_then HB0.out HB0.out.size hb1); clear hb1; have d0 : w1.cell? ⟨w.heap.size, 0, none⟩ = some (.slice A1_0 l1_0.length c1_0) := (cell_of_row w1 w.heap.size 0 _ _ _ HX1.out).trans rfl; have d1 : w1.cell? ⟨w.heap.size, 1, none⟩ = some (.slice A1_1 l1_1.length c1_1) := (cell_of_row w1 w.heap.size 1 _ _ _ HX1.out).trans rfl)
        go_ret
        exact ⟨by rw [HV1.out]; rfl, HB1.out⟩
    · have hv := HV.out
      unfold rightB at hv
      have hb2 : (l1_0.length == l0.length) = false := by simpa using h2
      have hb2' : ((l1_0.length : Int) != l0.length) = true := by rw [bne_iff_ne]; omega
      rw [hb2, Bool.and_false, Bool.false_and, Bool.false_and] at hv
      have HV1 := Lib.hid hv
      subst h1
      clear HV hv h2 hb2
      go_enter Tryd.func24, Tryd.ntmps24
      go_wp2_with (go_at_call 14; refine (HC.out _ HB0.out).mono ?_; rintro e w1 ⟨rfl, hb1⟩; have HX1 := Lib.hid ((hb1.block _ (by simp)).trans HX0.out); have HB1 := Lib.hid (below_then HB0.out HB0.out.size hb1); clear hb1; have d0 : w1.cell? ⟨w.heap.size, 0, none⟩ = some (.slice A1_0 l1_0.length c1_0) := (cell_of_row w1 w.heap.size 0 _ _ _ HX1.out).trans rfl; have d1 : w1.cell? ⟨w.heap.size, 1, none⟩ = some (.slice A1_1 l1_1.length c1_1) := (cell_of_row w1 w.heap.size 1 _ _ _ HX1.out).trans rfl)
      go_ret
      exact ⟨by rw [HV1.out]; rfl, HB1.out⟩
  · have hv := HV.out
    unfold rightB at hv
    have hb1 : (checkZ l0 == 0) = false := by rw [← HCH.out]; simpa using h1
    have hb1' : (ch != 0) = true := by simpa using h1
    rw [hb1, Bool.false_and, Bool.false_and, Bool.false_and] at hv
    have HV1 := Lib.hid hv
    clear HV hv h1 hb1
    go_enter Tryd.func24, Tryd.ntmps24
    go_wp2_with (go_at_call 14; refine (HC.out _ HB0.out).mono ?_; rintro e w1 ⟨rfl, hb1⟩; have HB1 := Lib.hid (below_then HB0.out HB0.out.size hb1); clear hb1)
    go_ret
    exact ⟨by rw [HV1.out]; rfl, HB1.out⟩
end Go.Proofs.YtbmdhmmahmdccaaDoor.Print
/-! ### EClone -/
namespace Go.Proofs.YtbmdhmmahmdccaaDoor.Print
open Go.RowKit Go.Proofs.YtbmdhmmahmdccaaDoorW.PrintWords Go.Proofs.YtbmdhmmahmdccaaDoorW.PrintLast Go.Proofs.YtbmdhmmahmdccaaDoorW.PrintMore
set_option linter.unusedSimpArgs false
set_option linter.unusedVariables false
set_option maxHeartbeats 8000000 in
set_option maxRecDepth 100000 in
theorem clone_ints (A : Option Addr) (c : Nat) (l : List Int) (w : World) (hr : Kd.C (Kd.int .i64) w A l.length l) (hl : l.length ≤ 1000000000) :
    Calls Tryd.prog 44 #[.slice A l.length c] w fun e w' => ∃ v, e = .returned v ∧ Kd.R (Kd.int .i64) 3 w' w.heap.size (fun _ => True) v l ∧ Below w.heap.size w w' := by
  have q : ∀ (w : World) (a : Option Addr) (n c n' c' : Nat), (binOp .eql 25 (.slice a n c) (.slice none n' c')).run Tryd.prog w = .ok (.bool a.isNone) w := fun w a n c n' c' => Lib.run_eql_slice_nil w _ _ a n c n' c' Tryd.underlying25
  obtain ⟨news, hn, ha, ho⟩ := Kd.C_flat hr
  cases A with
  | none =>
    have h0 : l = [] := by
      rcases Nat.eq_zero_or_pos l.length with h | h
      · exact List.eq_nil_of_length_eq_zero h
      · obtain ⟨ad, h1, _⟩ := ha h
        cases h1
    subst h0
    clear hn ha ho hr
    go_enter Tryd.func44, Tryd.ntmps44
    go_wp2
    go_ret
    exact ⟨_, rfl, Kd.R_nil _ _ _ _ _, Below.refl _ _⟩
  | some ad =>
    have HL := Lib.hid (show news.length = l.length * 1 from hn.1)
    have HN := Lib.hid hn
    have HA := Lib.hid ha
    have HO := Lib.hid ho
    clear hr hn ha ho
    generalize hm : l.length = m at *
    have HM := Lib.hid hm
    clear hm
    go_enter Tryd.func44, Tryd.ntmps44
    go_wp2_with (at_builtin; refine wpList_append_row rfl _ _ 25 rfl w.heap.size 3 1 8 (.int .i64 0) Tryd.underlying25 info3 rfl (by omega) (.slice (some ⟨w.heap.size, 0, none⟩) 0 0) 0 [] rfl (World.ownsRow_made w #[] 0 (Nat.le_refl _) (Nat.zero_le _) (by simp)) (some ad) m c news rfl HL.out (fun hp => by obtain ⟨a2, h1, h2⟩ := HA.out hp; exact ⟨a2, h1, h2.below ((Below.refl _ _).alloc (Nat.le_refl _) _)⟩) HO.out (by unfold maxLen; omega) (by omega) (by simp) ?_; intro A' c' w' h2 h3 h4; have H2 := Lib.hid h2; have H3 := Lib.hid h3; clear h2 h3 h4)
    go_ret
    have h2 := H2.out
    rw [Nat.zero_add, List.nil_append] at h2
    refine ⟨_, rfl, Kd.R_of_own (news := news) (fun x cs h => h) HN.out (by rw [HM.out]; exact h2), ?_⟩
    exact ((Only.refl [w.heap.size] w).alloc _ |>.then H3.out (by intro i hi; simp [Value.ownBlock] at hi; left; simp [hi])).pop (Nat.le_refl _) |>.nil_below
set_option maxHeartbeats 8000000 in
set_option maxRecDepth 100000 in
theorem clone_bools (A : Option Addr) (c : Nat) (l : List Bool) (w : World) (hr : Kd.C Kd.bool w A l.length l) (hl : l.length ≤ 1000000000) :
    Calls Tryd.prog 45 #[.slice A l.length c] w fun e w' => ∃ v, e = .returned v ∧ Kd.R Kd.bool 4 w' w.heap.size (fun _ => True) v l ∧ Below w.heap.size w w' := by
  have q : ∀ (w : World) (a : Option Addr) (n c n' c' : Nat), (binOp .eql 26 (.slice a n c) (.slice none n' c')).run Tryd.prog w = .ok (.bool a.isNone) w := fun w a n c n' c' => Lib.run_eql_slice_nil w _ _ a n c n' c' Tryd.underlying26
  obtain ⟨news, hn, ha, ho⟩ := Kd.C_flat hr
  cases A with
  | none =>
    have h0 : l = [] := by
      rcases Nat.eq_zero_or_pos l.length with h | h
      · exact List.eq_nil_of_length_eq_zero h
      · obtain ⟨ad, h1, _⟩ := ha h
        cases h1
    subst h0
    clear hn ha ho hr
    go_enter Tryd.func45, Tryd.ntmps45
    go_wp2
    go_ret
    exact ⟨_, rfl, Kd.R_nil _ _ _ _ _, Below.refl _ _⟩
  | some ad =>
    have HL := Lib.hid (show news.length = l.length * 1 from hn.1)
    have HN := Lib.hid hn
    have HA := Lib.hid ha
    have HO := Lib.hid ho
    clear hr hn ha ho
    generalize hm : l.length = m at *
    have HM := Lib.hid hm
    clear hm
    go_enter Tryd.func45, Tryd.ntmps45
    go_wp2_with (at_builtin; refine wpList_append_row rfl _ _ 26 rfl w.heap.size 4 1 1 (.bool false) Tryd.underlying26 info4 rfl (by omega) (.slice (some ⟨w.heap.size, 0, none⟩) 0 0) 0 [] rfl (World.ownsRow_made w #[] 0 (Nat.le_refl _) (Nat.zero_le _) (by simp)) (some ad) m c news rfl HL.out (fun hp => by obtain ⟨a2, h1, h2⟩ := HA.out hp; exact ⟨a2, h1, h2.below ((Below.refl _ _).alloc (Nat.le_refl _) _)⟩) HO.out (by unfold maxLen; omega) (by omega) (by simp) ?_; intro A' c' w' h2 h3 h4; have H2 := Lib.hid h2; have H3 := Lib.hid h3; clear h2 h3 h4)
    go_ret
    have h2 := H2.out
    rw [Nat.zero_add, List.nil_append] at h2
    refine ⟨_, rfl, Kd.R_of_own (news := news) (fun x cs h => h) HN.out (by rw [HM.out]; exact h2), ?_⟩
    exact ((Only.refl [w.heap.size] w).alloc _ |>.then H3.out (by intro i hi; simp [Value.ownBlock] at hi; left; simp [hi])).pop (Nat.le_refl _) |>.nil_below
end Go.Proofs.YtbmdhmmahmdccaaDoor.Print
/-! ### ETold -/
namespace Go.Proofs.YtbmdhmmahmdccaaDoor.Print
open Go.RowKit Go.Proofs.YtbmdhmmahmdccaaDoorW.PrintWords Go.Proofs.YtbmdhmmahmdccaaDoorW.PrintLast Go.Proofs.YtbmdhmmahmdccaaDoorW.PrintMore
set_option linter.unusedSimpArgs false
set_option linter.unusedVariables false
def toldGo (l : List S48) (out : Bool) : List S46 → List Int → List Bool → List Int × List Bool × Int
  | [], V, B => (V, B, 0)
  | c :: cs, V, B =>
    if firstFrom (tagIs c.f0) 0 l < 0 ∨ (l.getD (firstFrom (tagIs c.f0) 0 l).toNat z48).f1 ≠ out then ([], [], 21)
    else toldGo l out cs (V.set (firstFrom (tagIs c.f0) 0 l).toNat (nearT (l.getD (firstFrom (tagIs c.f0) 0 l).toNat z48) c.f1))
      (B.set (firstFrom (tagIs c.f0) 0 l).toNat (!(l.getD (firstFrom (tagIs c.f0) 0 l).toNat z48).f1 && nearT (l.getD (firstFrom (tagIs c.f0) 0 l).toNat z48) c.f1 != c.f1))
def toldZ (l : List S48) (V : List Int) (B : List Bool) (cs : List S46) (out : Bool) : List Int × List Bool × Int := if rightB l V B = true then toldGo l out cs V B else ([], [], 1)
def tags_told.f (l0 : List S48) (l1_0 : List Int) (l1_1 : List Bool) (l2 : List S46) (a3 : Bool) : Option (List Int × List Bool × Int) :=
  if okTags l0 ∧ l1_0.length ≤ 1000000000 ∧ l1_1.length ≤ 1000000000 ∧ l2.length ≤ 1000000000 then some (toldZ l0 l1_0 l1_1 l2 a3) else none
set_option maxHeartbeats 8000000 in
set_option maxRecDepth 100000 in
theorem tags_told.calls (A0 : Option Addr) (c0 : Nat) (l0 : List S48) (A1_0 : Option Addr) (c1_0 : Nat) (l1_0 : List Int) (A1_1 : Option Addr) (c1_1 : Nat) (l1_1 : List Bool) (A2 : Option Addr) (c2 : Nat) (l2 : List S46) (a3 : Bool) (r1 : List Int) (r2 : List Bool) (r3 : Int) (w : World)
    (hr0 : Kd.C k48 w A0 l0.length l0) (hc0 : l0.length ≤ c0) (hr1_0 : Kd.C (Kd.int .i64) w A1_0 l1_0.length l1_0) (hc1_0 : l1_0.length ≤ c1_0) (hr1_1 : Kd.C Kd.bool w A1_1 l1_1.length l1_1) (hc1_1 : l1_1.length ≤ c1_1) (hr2 : Kd.C k46 w A2 l2.length l2) (hc2 : l2.length ≤ c2) (hT : Tabs w) (h : tags_told.f l0 l1_0 l1_1 l2 a3 = some (r1, r2, r3)) :
    Calls Tryd.prog 36 #[.slice A0 l0.length c0, .agg #[.slice A1_0 l1_0.length c1_0, .slice A1_1 l1_1.length c1_1], .slice A2 l2.length c2, .bool a3] w fun e w' => ∃ v0_ v1_ : Value, e = .returned (.tuple #[.agg #[v0_, v1_], .int .i64 r3]) ∧ Kd.R (Kd.int .i64) 3 w' w.heap.size (fun _ => True) v0_ r1 ∧ Kd.R Kd.bool 4 w' w.heap.size (fun _ => True) v1_ r2 ∧ Below w.heap.size w w' := by
  unfold tags_told.f at h
  split at h
  case isFalse => cases h
  rename_i hok
  obtain ⟨hok, hl0, hl1, hl2⟩ := hok
  have hv := Option.some.inj h
  clear h
  have HV := Lib.hid hv
  have HR := Lib.hid hr0
  have HR0 := Lib.hid hr1_0
  have HR1 := Lib.hid hr1_1
  have HR2 := Lib.hid hr2
  have HOK := Lib.hid hok
  have HTB := Lib.hid hT
  have hll := hok.1
  have hu := Tryd.underlying48
  have hu2 := Tryd.underlying28
  have hu3 := Tryd.underlying71
  have hu4 := Tryd.underlying46
  clear hv hr0 hr1_0 hr1_1 hr2 hok hT
  obtain ⟨rt, hrt⟩ : ∃ rt, rt = rightB l0 l1_0 l1_1 := ⟨_, rfl⟩
  have HRT := Lib.hid hrt
  clear hrt
  have HCR := Lib.hid (show ∀ W, Below w.heap.size w W → Calls Tryd.prog 24 #[.slice A0 l0.length c0, .agg #[.slice A1_0 l1_0.length c1_0, .slice A1_1 l1_1.length c1_1]] W fun e w' => e = .returned (.bool rt) ∧ Below W.heap.size W w' from fun W hb =>
    tags_Right.calls A0 c0 l0 A1_0 c1_0 l1_0 A1_1 c1_1 l1_1 rt W (Kd.C_below HR.out hb) hc0 (Kd.C_below HR0.out hb) hc1_0 (Kd.C_below HR1.out hb) hc1_1 (HTB.out.below hb) (by unfold tags_Right.f; rw [if_pos ⟨HOK.out, hl0, hl1⟩, HRT.out]))
  have HB0 := Lib.hid (show Below w.heap.size w ((w.alloc (.cells #[.slice A1_0 l1_0.length c1_0, .slice A1_1 l1_1.length c1_1] 28)).alloc (.cells #[.slice none 0 0, .slice none 0 0] 28)) from ((Below.refl _ _).alloc (Nat.le_refl _) _).alloc (by simp) _)
  have HX0 := Lib.hid (show ((w.alloc (.cells #[.slice A1_0 l1_0.length c1_0, .slice A1_1 l1_1.length c1_1] 28)).alloc (.cells #[.slice none 0 0, .slice none 0 0] 28)).heap[w.heap.size]? = some (.cells #[.slice A1_0 l1_0.length c1_0, .slice A1_1 l1_1.length c1_1] 28 (0, 0)) from (Below.heap_alloc _ _ _ (by simp)).trans (heap_alloc_new w _))
  have HY0 := Lib.hid (show ((w.alloc (.cells #[.slice A1_0 l1_0.length c1_0, .slice A1_1 l1_1.length c1_1] 28)).alloc (.cells #[.slice none 0 0, .slice none 0 0] 28)).heap[w.heap.size + 1]? = some (.cells #[.slice none 0 0, .slice none 0 0] 28 (0, 0)) from by
    have := heap_alloc_new (w.alloc (.cells #[.slice A1_0 l1_0.length c1_0, .slice A1_1 l1_1.length c1_1] 28)) (.cells #[.slice none 0 0, .slice none 0 0] 28)
    simpa using this)
  cases rt with
  | false =>
    have hv := HV.out
    unfold toldZ at hv
    rw [← HRT.out, if_neg (by simp)] at hv
    simp only [Prod.mk.injEq] at hv
    obtain ⟨rfl, rfl, rfl⟩ := hv
    clear HV
    go_enter Tryd.func36, Tryd.ntmps36
    go_wp2_with (first
      | (go_at_call 24; refine (HCR.out _ HB0.out).mono ?_; rintro e w1 ⟨rfl, hb1⟩; have HY1 := Lib.hid ((hb1.block _ (by simp)).trans HY0.out); have HB1 := Lib.hid (below_then HB0.out HB0.out.size hb1); clear hb1; refine (fun (h : Hid _) => h.out) ?_))
    refine Lib.hid ?_
    have y0 : w1.cell? ⟨w.heap.size + 1, 0, none⟩ = some (.slice none 0 0) := (cell_of_row w1 _ 0 _ _ _ HY1.out).trans rfl
    have y1 : w1.cell? ⟨w.heap.size + 1, 1, none⟩ = some (.slice none 0 0) := (cell_of_row w1 _ 1 _ _ _ HY1.out).trans rfl
    have z0 : w1.frozen? ⟨w.heap.size + 1, 0, none⟩ = false := frozen_of_row w1 _ 0 _ _ HY1.out
    have z1 : w1.frozen? ⟨w.heap.size + 1, 1, none⟩ = false := frozen_of_row w1 _ 1 _ _ HY1.out
    go_wp2
    refine bodyPost_ret (v := .tuple #[.agg #[.slice none 0 0, .slice none 0 0], .int .i64 1]) (by simp [results, Tryd.results36, go_sem, y0, y1]) rfl ⟨_, _, rfl, Kd.R_nil _ _ _ _ _, Kd.R_nil _ _ _ _ _, ?_⟩
    exact (HB1.out.setCell (by simp) _).setCell (by simp) _
  | true =>
    have hv := HV.out
    unfold toldZ at hv
    rw [← HRT.out, if_pos rfl] at hv
    have HV1 := Lib.hid hv
    clear HV hv
    have hlen : l1_0.length = l0.length ∧ l1_1.length = l0.length ∧ l0.length ≤ 12 := by
      have := HRT.out
      unfold rightB at this
      simp only [Bool.true_eq, Bool.and_eq_true, beq_iff_eq] at this
      exact ⟨this.1.1.2, this.1.2, (check_ok this.1.1.1).1⟩
    have HLEN := Lib.hid hlen
    clear hlen
    go_enter Tryd.func36, Tryd.ntmps36
    go_wp2_with (first
      | (go_at_call 24; refine (HCR.out _ HB0.out).mono ?_; rintro e w1 ⟨rfl, hb1⟩; have HX1 := Lib.hid ((hb1.block _ (by simp; omega)).trans HX0.out); have HY1 := Lib.hid ((hb1.block _ (by simp)).trans HY0.out); have HB1 := Lib.hid (below_then HB0.out HB0.out.size hb1); clear hb1; refine (fun (h : Hid _) => h.out) ?_))
    refine Lib.hid ?_
    go_wp2
    refine L.grow_start [] 11 ((0, true, false) :: (1, true, false) :: (3, true, false) :: (4, true, false) :: (7, true, false) :: (2, false, true) :: (5, false, true) :: (6, true, true) :: (8, true, true) :: (9, false, true) :: (10, true, true) :: []) (by kernel_rfl) (([], [5], some 19) :: ([0], [19], some 20) :: ([1], [20], some 21) :: ([], [5], some 22) :: ([3], [22], some 23) :: ([4, 2], [23], some 24) :: ([2, 5], [21, 24], some 25) :: ([], [0], some 26) :: ([6, 7], [25, 26], some 27) :: ([8], [27], some 28) :: ([9, 5, 0, 1, 2, 3, 4, 5, 6, 7, 8, 9], [28], some 10) :: []) (by kernel_rfl) (by kernel_rfl) (n := 11) rfl (by kernel_rfl) (fun _ _ _ _ _ h => h) (fun wg hog => ?_)
    refine L.growe_start (N := 61) (by rfl) ?_
    have e0 : ∀ w', Only [] wg w' → w'.cell? ⟨w.heap.size, 0, none⟩ = some (.slice A1_0 l1_0.length c1_0) := fun w' q => (cell_of_row w' w.heap.size 0 _ _ _ ((hog.trans q).heap HX1.out (by simp))).trans rfl
    have e1 : ∀ w', Only [] wg w' → w'.cell? ⟨w.heap.size, 1, none⟩ = some (.slice A1_1 l1_1.length c1_1) := fun w' q => (cell_of_row w' w.heap.size 1 _ _ _ ((hog.trans q).heap HX1.out (by simp))).trans rfl
    have HOG := Lib.hid hog
    clear hog
    have HBG := Lib.hid (below_then HB1.out HB1.out.size HOG.out.nil_below)
    iterate 5 (first | (refine L.ge_off rfl rfl rfl (by rfl) ?_) | (refine L.ge_move rfl rfl rfl (by rfl) rfl (by simp [L.evE, L.lk, Act.eval]; rfl) ?_) | (refine L.ge_pick rfl rfl rfl (by rfl) rfl (by simp [L.evE, L.lk, Act.eval]; rfl) (by simp [L.evE, L.lk, Act.eval]; rfl) ?_) | (refine L.ge_val rfl rfl rfl (by rfl) (by intro w' hw'; simp [execOp, L.evE, L.lk, Act.eval]; go_simp; rfl) ?_))
    refine L.ge_call rfl rfl rfl (by rfl) rfl (by simp [L.evE, L.lk, Act.eval]; rfl) (by go_simp) ?_
    refine (clone_ints A1_0 c1_0 l1_0 wg (Kd.C_below HR0.out HBG.out) hl0).mono ?_
    rintro e w2 ⟨v0, rfl, hR2, hb2⟩
    obtain ⟨Av, cv, rfl⟩ := Kd.R_slice hR2
    refine ⟨_, rfl, Only.of_below hb2, ?_⟩
    have HR2' := Lib.hid (Kd.R_lower hR2 HBG.out.size)
    have HO2 := Lib.hid (Only.of_below hb2)
    have HB2 := Lib.hid (below_then HBG.out HBG.out.size hb2)
    clear hR2 hb2 e0 e1
    refine L.ge_call rfl rfl rfl (by rfl) rfl (by simp [L.evE, L.lk, Act.eval]; rfl) (by go_simp) ?_
    refine (clone_bools A1_1 c1_1 l1_1 w2 (Kd.C_below HR1.out HB2.out) hl1).mono ?_
    rintro e w3 ⟨v1, rfl, hR3, hb3⟩
    obtain ⟨Ab, cb, rfl⟩ := Kd.R_slice hR3
    refine ⟨_, rfl, Only.of_below hb3, ?_⟩
    have HR3' := Lib.hid (Kd.R_lower hR3 HB2.out.size)
    have HR2'' := Lib.hid (Kd.R_below HR2'.out hb3)
    have HO3 := Lib.hid (Only.of_below hb3)
    have HB3 := Lib.hid (below_then HB2.out HB2.out.size hb3)
    have HY3 := Lib.hid ((HOG.out.trans (HO2.out.trans HO3.out)).heap HY1.out (by simp))
    clear hR3 hb3 HR2'
    iterate 2 (first | (refine L.ge_off rfl rfl rfl (by rfl) ?_) | (refine L.ge_move rfl rfl rfl (by rfl) rfl (by simp [L.evE, L.lk, Act.eval]; rfl) ?_) | (refine L.ge_pick rfl rfl rfl (by rfl) rfl (by simp [L.evE, L.lk, Act.eval]; rfl) (by simp [L.evE, L.lk, Act.eval]; rfl) ?_) | (refine L.ge_val rfl rfl rfl (by rfl) (by intro w' hw'; simp [execOp, L.evE, L.lk, Act.eval]; go_simp; rfl) ?_))
    refine L.ge_mem rfl rfl rfl (by rfl) (v := .pointer (some ⟨w3.heap.size, 0, none⟩)) (w' := w3.alloc (.cells #[.slice Av l1_0.length cv, .slice Ab l1_1.length cb, .slice A0 l0.length c0] 71)) (by simp [execOp, L.evE, L.lk, Act.eval]; go_simp) ((Only.refl _ _).alloc _) ?_
    iterate 1 (first | (refine L.ge_off rfl rfl rfl (by rfl) ?_) | (refine L.ge_move rfl rfl rfl (by rfl) rfl (by simp [L.evE, L.lk, Act.eval]; rfl) ?_) | (refine L.ge_pick rfl rfl rfl (by rfl) rfl (by simp [L.evE, L.lk, Act.eval]; rfl) (by simp [L.evE, L.lk, Act.eval]; rfl) ?_) | (refine L.ge_val rfl rfl rfl (by rfl) (by intro w' hw'; simp [execOp, L.evE, L.lk, Act.eval]; go_simp; rfl) ?_))
    refine L.ge_done ?_
    simp only [L.puts, Act.put, goInt, List.setIfInBounds_toArray, List.set_cons_zero, List.set_cons_succ]
    have HT4 := Lib.hid (heap_alloc_new w3 (.cells #[.slice Av l1_0.length cv, .slice Ab l1_1.length cb, .slice A0 l0.length c0] 71))
    have HB4 := Lib.hid (HB3.out.alloc HB3.out.size (.cells #[.slice Av l1_0.length cv, .slice Ab l1_1.length cb, .slice A0 l0.length c0] 71))
    have HY4 := Lib.hid ((Below.heap_alloc w3 (.cells #[.slice Av l1_0.length cv, .slice Ab l1_1.length cb, .slice A0 l0.length c0] 71) (w.heap.size + 1) (heap_lt HY3.out)).trans HY3.out)
    have HVV := Lib.hid (own_of_R (Kd.R_below HR2''.out ((Below.refl _ _).alloc (Nat.le_refl _) (.cells #[.slice Av l1_0.length cv, .slice Ab l1_1.length cb, .slice A0 l0.length c0] 71))))
    have HBV := Lib.hid (own_of_R (Kd.R_below HR3'.out ((Below.refl _ _).alloc (Nat.le_refl _) (.cells #[.slice Av l1_0.length cv, .slice Ab l1_1.length cb, .slice A0 l0.length c0] 71))))
    have HG := Lib.hid (show w.heap.size + 1 < w3.heap.size from heap_lt HY3.out)
    generalize w3.alloc (.cells #[.slice Av l1_0.length cv, .slice Ab l1_1.length cb, .slice A0 l0.length c0] 71) = w4 at *
    generalize w3.heap.size = gt at *
    clear HR2'' HR3' HO2 HO3 HB2 HB3 HY3 HBG HOG HX1 HY1 HB1 HX0 HY0 HB0 HCR
    go_wp2
    go_loopw [12, 13, 31] (fun _ _ i wr => ∃ (k : Nat) (xs : List Int) (ys : List Bool), k ≤ l2.length ∧ i = .int .i64 k ∧ Hid (xs.length = l1_0.length) ∧ Hid (ys.length = l1_1.length) ∧ Hid (toldGo l0 a3 (l2.drop k) xs ys = (r1, r2, r3)) ∧
      Hid (wr.ownsRow w.heap.size 3 1 (.slice Av l1_0.length cv) l1_0.length (xs.map (Value.int .i64))) ∧ Hid (wr.ownsRow w.heap.size 4 1 (.slice Ab l1_1.length cb) l1_1.length (ys.map Value.bool)) ∧
      Hid (wr.heap[gt]? = some (.cells #[.slice Av l1_0.length cv, .slice Ab l1_1.length cb, .slice A0 l0.length c0] 71 (0, 0))) ∧ Hid (wr.heap[w.heap.size + 1]? = some (.cells #[.slice none 0 0, .slice none 0 0] 28 (0, 0))) ∧ Hid (Below w.heap.size w wr)) (fun _ _ i _ => l2.length - (intOf i).toNat)
    case atStart => exact ⟨0, l1_0, l1_1, by omega, rfl, rfl, rfl, HV1, HVV, HBV, HT4, HY4, HB4⟩
    case round =>
      obtain ⟨k, xs, ys, hk, rfl, hxl, hyl, hgo, hvv, hbv, ht, hy, hbw⟩ := hrel
      clear HVV HBV HT4 HY4 HB4 HV1
      by_cases hlt : k < l2.length
      · have hlt' : (k : Int) < l2.length := by omega
        have hk0 : (0 : Int) ≤ k := by omega
        obtain ⟨ad, cs, rfl, _, hK, hcs⟩ := Kd.C_cells (Kd.C_below HR2.out hbw.out) k hlt
        obtain rfl := k46_open hK
        have HCS := Lib.hid (show CellsAt wr (ad.add (k * 2)) _ from hcs)
        have hgo' := hgo.out
        rw [List.drop_eq_getElem_cons hlt] at hgo'
        unfold toldGo at hgo'
        have HGO := Lib.hid hgo'
        clear hcs hK hgo hgo'
        generalize l2[k] = c at *
        obtain ⟨fi, hfi⟩ : ∃ fi, fi = firstFrom (tagIs c.f0) 0 l0 := ⟨_, rfl⟩
        rw [← hfi] at HGO
        have hrange := firstFrom_range (tagIs c.f0) l0 0
        rw [← hfi] at hrange
        have HFI := Lib.hid hfi
        clear hfi
        go_wp2_with (first
          | (with_reducible refine wpList_load_at rfl 46 (.tmp 33) rfl (ad.add (k * 2)) rfl _ _ HCS.out Tryd.underlying46 rfl (by kernel_rfl) ?_)
          | (go_at_call 16; refine (tags_Find.calls A0 c0 l0 c.f0 fi _ ?hr hc0 ?hf).mono ?_; (case hr => exact Kd.C_alloc (Kd.C_below HR.out hbw.out) _); (case hf => rw [HFI.out]; exact find_is l0 _ hll); rintro e w5 ⟨rfl, hb5⟩; have HB5 := Lib.hid hb5; clear hb5; refine (fun (h : Hid _) => h.out) ?_))
        refine Lib.hid ?_
        have HO5 := Lib.hid (show Only [] wr w5 from ((Only.refl _ _).alloc _).trans (Only.of_below HB5.out))
        have HC5 := Lib.hid ((HB5.out.block wr.heap.size (by simp)).trans (heap_alloc_new wr (.cells #[.string c.f0, .int .i64 c.f1] 46)))
        have HB6 := Lib.hid (below_then hbw.out hbw.out.size HO5.out.nil_below)
        have HVV5 := Lib.hid (ownsRow_only hvv.out HO5.out (by simp))
        have HBV5 := Lib.hid (ownsRow_only hbv.out HO5.out (by simp))
        have HT5 := Lib.hid (HO5.out.heap ht.out (by simp))
        have HY5 := Lib.hid (HO5.out.heap hy.out (by simp))
        clear HB5 HCS
        have y0 : w5.cell? ⟨w.heap.size + 1, 0, none⟩ = some (.slice none 0 0) := (cell_of_row w5 _ 0 _ _ _ HY5.out).trans rfl
        have y1 : w5.cell? ⟨w.heap.size + 1, 1, none⟩ = some (.slice none 0 0) := (cell_of_row w5 _ 1 _ _ _ HY5.out).trans rfl
        have z0 : w5.frozen? ⟨w.heap.size + 1, 0, none⟩ = false := frozen_of_row w5 _ 0 _ _ HY5.out
        have z1 : w5.frozen? ⟨w.heap.size + 1, 1, none⟩ = false := frozen_of_row w5 _ 1 _ _ HY5.out
        have kc : w5.cell? ⟨wr.heap.size, 1, none⟩ = some (.int .i64 c.f1) := (cell_of_row w5 _ 1 _ _ _ HC5.out).trans rfl
        by_cases hneg : fi < 0
        · have hgo' := HGO.out
          rw [if_pos (.inl hneg)] at hgo'
          simp only [Prod.mk.injEq] at hgo'
          obtain ⟨rfl, rfl, rfl⟩ := hgo'
          clear HGO hrange
          go_wp2
          refine bodyPost_ret (v := .tuple #[.agg #[.slice none 0 0, .slice none 0 0], .int .i64 21]) (by simp [results, Tryd.results36, go_sem, y0, y1]) rfl ⟨_, _, rfl, Kd.R_nil _ _ _ _ _, Kd.R_nil _ _ _ _ _, ?_⟩
          exact (HB6.out.setCell (by simp) _).setCell (by simp) _
        · obtain ⟨j, rfl⟩ : ∃ j : Nat, fi = j := ⟨fi.toNat, by omega⟩
          have hjl : j < l0.length := by omega
          have hjl' : (j : Int) < l0.length := by omega
          have hj0 : (0 : Int) ≤ j := by omega
          obtain ⟨ad0, cs0, rfl, _, hK0, hcs0⟩ := Kd.C_cells (Kd.C_below HR.out HB6.out) j hjl
          obtain rfl := k48_open hK0
          have kt : w5.cell? ⟨(ad0.add (j * 4)).block, (ad0.add (j * 4)).off + 1, none⟩ = some (.bool l0[j].f1) := cellsAt_field (show CellsAt w5 (ad0.add (j * 4)) _ from hcs0) 1 (by omega) rfl
          clear hcs0 hK0
          have hgo' := HGO.out
          have egd : l0.getD ((j : Int)).toNat z48 = l0[j] := getD_at l0 _ j hjl
          rw [egd, Int.toNat_natCast] at hgo'
          by_cases hout : l0[j].f1 = a3
          · rw [if_neg (by simp [hout])] at hgo'
            have HGO2 := Lib.hid hgo'
            have hob : (l0[j].f1 == a3) = true := by rw [hout]; simp
            clear HGO hgo' hrange egd hneg hout
            obtain ⟨gv, capv, curv, ev, hgb, hgv, hgn⟩ := ownsRow_block HVV5.out (by have := HLEN.out; omega)
            obtain ⟨gb, capb, curb, eb, hbb, hgbv, hbn⟩ := ownsRow_block HBV5.out (by have := HLEN.out; omega)
            injection ev with ev1 ev2 ev3
            injection eb with eb1 eb2 eb3
            subst ev1
            subst ev3
            subst eb1
            subst eb3
            have HGV := Lib.hid hgv
            have HGB := Lib.hid hgbv
            have n1 : gt ≠ gv := by
              rintro rfl
              have := HT5.out.symm.trans hgv
              simp at this
            have n2 : gt ≠ gb := by
              rintro rfl
              have := HT5.out.symm.trans hgbv
              simp at this
            have n3 : gv ≠ gb := by
              rintro rfl
              have := hgv.symm.trans hgbv
              simp at this
            have n4 : w.heap.size + 1 ≠ gv := by
              intro e9
              have := hy.out
              have h9 := HY5.out
              rw [e9] at h9
              have := h9.symm.trans hgv
              simp at this
            have n5 : w.heap.size + 1 ≠ gb := by
              intro e9
              have h9 := HY5.out
              rw [e9] at h9
              have := h9.symm.trans hgbv
              simp at this
            have NN := Lib.hid (And.intro n1 (And.intro n2 (And.intro n3 (And.intro n4 n5))))
            have had : ∀ ad, some ad0 = some ad → ad.block ≠ gv ∧ ad.block ≠ gb := by
              intro ad e9
              injection e9 with e9
              subst e9
              obtain ⟨ad1, cs1, e1, hl1', _, hc1⟩ := Kd.C_cells HR.out j hjl
              injection e1 with e1
              subst e1
              have hpos : 0 < cs1.length := by rw [hl1']; exact Nat.succ_pos _
              have := block_lt_of_cell (hc1 0 _ (List.getElem?_eq_getElem hpos))
              rw [add_block, add_block] at this
              omega
            have HAD := Lib.hid had
            have HJV := Lib.hid (show curv[j]? ≠ none by rw [Array.getElem?_eq_getElem (by have := HLEN.out; omega)]; simp)
            have HJB := Lib.hid (show curb[j]? ≠ none by rw [Array.getElem?_eq_getElem (by have := HLEN.out; omega)]; simp)
            have HRL := Lib.hid (Kd.C_below HR.out HB6.out)
            clear hgv hgbv n1 n2 n3 n4 n5 had
            go_wp2_with (go_at_call 46; refine (tell_any gt gv gb l1_0.length l1_1.length cv cb (some ad0) c0 l0 j c.f1 curv curb w5 HT5.out HGV.out HGB.out HJV.out HJB.out HRL.out HAD.out (by have := HLEN.out; omega) (by have := HLEN.out; omega) hjl NN.out.1 NN.out.2.1 NN.out.2.2.1).mono ?_; rintro e w6 ⟨rfl, hv6, hb6, ho6⟩; have HV6 := Lib.hid hv6; have HBV6 := Lib.hid hb6; have HO6 := Lib.hid ho6; clear hv6 hb6 ho6)
            go_roundw
            case rel =>
              refine ⟨k + 1, xs.set j (nearT l0[j] c.f1), ys.set j (!l0[j].f1 && nearT l0[j] c.f1 != c.f1), by omega, by go_num, ?_, ?_, HGO2, ?_, ?_, ?_, ?_, ?_⟩
              · exact Lib.hid (by rw [List.length_set]; exact hxl.out)
              · exact Lib.hid (by rw [List.length_set]; exact hyl.out)
              · refine Lib.hid ?_
                rw [List.map_set]
                exact ownsRow_poke HVV5.out HGV.out HV6.out (by have := HLEN.out; omega)
              · refine Lib.hid ?_
                rw [List.map_set]
                exact ownsRow_poke HBV5.out HGB.out HBV6.out (by have := HLEN.out; omega)
              · exact Lib.hid (HO6.out.heap HT5.out (by have := NN.out; simp [this.1, this.2.1]))
              · exact Lib.hid (HO6.out.heap HY5.out (by have := NN.out; simp [this.2.2.2.1, this.2.2.2.2]))
              · refine Lib.hid ⟨?_, ?_, ?_, ?_, ?_⟩
                · rw [HO6.out.os]; exact HB6.out.os
                · rw [HO6.out.tape]; exact HB6.out.tape
                · rw [HO6.out.output]; exact HB6.out.output
                · exact Nat.le_trans HB6.out.size HO6.out.size
                · intro q hq
                  rw [HO6.out.block q (Nat.lt_of_lt_of_le hq HB6.out.size) (by simp; omega)]
                  exact HB6.out.block q hq
            case measure => simp [intOf]; omega
          · rw [if_pos (.inr hout)] at hgo'
            simp only [Prod.mk.injEq] at hgo'
            obtain ⟨rfl, rfl, rfl⟩ := hgo'
            have hob : (l0[j].f1 == a3) = false := by simpa using hout
            clear HGO hrange egd hneg hout
            go_wp2
            refine bodyPost_ret (v := .tuple #[.agg #[.slice none 0 0, .slice none 0 0], .int .i64 21]) (by simp [results, Tryd.results36, go_sem, y0, y1]) rfl ⟨_, _, rfl, Kd.R_nil _ _ _ _ _, Kd.R_nil _ _ _ _ _, ?_⟩
            exact (HB6.out.setCell (by simp) _).setCell (by simp) _
      · obtain rfl : k = l2.length := by omega
        have hgo' := hgo.out
        rw [List.drop_length] at hgo'
        unfold toldGo at hgo'
        simp only [Prod.mk.injEq] at hgo'
        obtain ⟨rfl, rfl, rfl⟩ := hgo'
        clear hgo
        have y0 : wr.cell? ⟨w.heap.size + 1, 0, none⟩ = some (.slice none 0 0) := (cell_of_row wr _ 0 _ _ _ hy.out).trans rfl
        have y1 : wr.cell? ⟨w.heap.size + 1, 1, none⟩ = some (.slice none 0 0) := (cell_of_row wr _ 1 _ _ _ hy.out).trans rfl
        have z0 : wr.frozen? ⟨w.heap.size + 1, 0, none⟩ = false := frozen_of_row wr _ 0 _ _ hy.out
        have z1 : wr.frozen? ⟨w.heap.size + 1, 1, none⟩ = false := frozen_of_row wr _ 1 _ _ hy.out
        have t0 : wr.cell? ⟨gt, 0, none⟩ = some (.slice Av l1_0.length cv) := (cell_of_row wr _ 0 _ _ _ ht.out).trans rfl
        have t1 : wr.cell? ⟨gt, 1, none⟩ = some (.slice Ab l1_1.length cb) := (cell_of_row wr _ 1 _ _ _ ht.out).trans rfl
        have na : ∀ k, (Value.slice Av l1_0.length cv).ownBlock = some k → k ≠ w.heap.size + 1 := by
          intro q hq e9
          subst e9
          rcases hvv.out.2 with ⟨h9, _⟩ | ⟨g, cap, cur, e1, _, hh, _⟩
          · rw [h9] at hq; simp [Value.ownBlock] at hq
          · rw [e1] at hq
            have : g = w.heap.size + 1 := by simpa [Value.ownBlock] using hq
            subst this
            have := hh.symm.trans hy.out
            simp at this
        have nb : ∀ k, (Value.slice Ab l1_1.length cb).ownBlock = some k → k ≠ w.heap.size + 1 := by
          intro q hq e9
          subst e9
          rcases hbv.out.2 with ⟨h9, _⟩ | ⟨g, cap, cur, e1, _, hh, _⟩
          · rw [h9] at hq; simp [Value.ownBlock] at hq
          · rw [e1] at hq
            have : g = w.heap.size + 1 := by simpa [Value.ownBlock] using hq
            subst this
            have := hh.symm.trans hy.out
            simp at this
        have HNA := Lib.hid na
        have HNB := Lib.hid nb
        clear na nb
        go_wp2
        have f0 := ownsRow_only hvv.out ((Only.refl [w.heap.size + 1] wr).setCell (p := ⟨w.heap.size + 1, 0, none⟩) (by simp) (.slice Av l1_0.length cv) |>.setCell (p := ⟨w.heap.size + 1, 1, none⟩) (by simp) (.slice Ab l1_1.length cb)) (fun q hq => by simpa using HNA.out q hq)
        have f1 := ownsRow_only hbv.out ((Only.refl [w.heap.size + 1] wr).setCell (p := ⟨w.heap.size + 1, 0, none⟩) (by simp) (.slice Av l1_0.length cv) |>.setCell (p := ⟨w.heap.size + 1, 1, none⟩) (by simp) (.slice Ab l1_1.length cb)) (fun q hq => by simpa using HNB.out q hq)
        rw [← hxl.out, ← hyl.out] at f0 f1
        refine bodyPost_ret (v := .tuple #[.agg #[.slice Av l1_0.length cv, .slice Ab l1_1.length cb], .int .i64 0]) (by simp [results, Tryd.results36, go_sem, y0, y1]) rfl ⟨_, _, rfl, ?_, ?_, ?_⟩
        · rw [← hxl.out, ← hyl.out]
          exact R_of_ownsRow f0
        · rw [← hxl.out, ← hyl.out]
          exact R_of_ownsRow f1
        · exact (hbw.out.setCell (by simp) _).setCell (by simp) _
end Go.Proofs.YtbmdhmmahmdccaaDoor.Print
/-! ### Print8 -/
namespace Go.Proofs.YtbmdhmmahmdccaaDoor.Print
open Go.RowKit Go.Proofs.YtbmdhmmahmdccaaDoorW.PrintWords Go.Proofs.YtbmdhmmahmdccaaDoorW.PrintLast Go.Proofs.YtbmdhmmahmdccaaDoorW.PrintMore
attribute [local go_sem] max2_int min2_int max_two min_two
set_option linter.unusedVariables false
set_option linter.unusedSimpArgs false
def tags_Latch.f (l0 : List (S48)) (l1_0 : List Int) (l1_1 : List Bool) (l2 : List (S46)) : Option (List Int × List Bool × Int) := (tags_told.f l0 l1_0 l1_1 l2 false).bind fun bt127 => (some (bt127.1, bt127.2.1, bt127.2.2))
set_option maxHeartbeats 8000000 in
set_option maxRecDepth 100000 in
theorem tags_Latch.calls (A0 : Option Addr) (c0 : Nat) (l0 : List (S48)) (A1_0 : Option Addr) (c1_0 : Nat) (l1_0 : List Int) (A1_1 : Option Addr) (c1_1 : Nat) (l1_1 : List Bool) (A2 : Option Addr) (c2 : Nat) (l2 : List (S46)) (r1 : List Int) (r2 : List Bool) (r3 : Int) (w : World) (hr0 : Kd.C k48 w A0 l0.length l0) (hc0 : l0.length ≤ c0) (hr1_0 : Kd.C (Kd.int .i64) w A1_0 l1_0.length l1_0) (hc1_0 : l1_0.length ≤ c1_0) (hr1_1 : Kd.C Kd.bool w A1_1 l1_1.length l1_1) (hc1_1 : l1_1.length ≤ c1_1) (hr2 : Kd.C k46 w A2 l2.length l2) (hc2 : l2.length ≤ c2) (hT : Tabs w) (h : tags_Latch.f l0 l1_0 l1_1 l2 = some (r1, r2, r3)) :
    Calls Tryd.prog 20 #[.slice A0 l0.length c0, .agg #[.slice A1_0 l1_0.length c1_0, .slice A1_1 l1_1.length c1_1], .slice A2 l2.length c2] w fun e w' => ∃ v0_ v1_ : Value, e = .returned (.tuple #[.agg #[v0_, v1_], .int .i64 r3]) ∧ Kd.R (Kd.int .i64) 3 w' w.heap.size (fun _ => True) v0_ r1 ∧ Kd.R Kd.bool 4 w' w.heap.size (fun _ => True) v1_ r2 ∧ Below w.heap.size w w' := by
  have hu28 := Tryd.underlying28
  have HR0 := Aside0.mk hr0
  have HC0 := Aside0.mk hc0
  clear hr0 hc0
  have HR1_0 := Aside0.mk hr1_0
  have HC1_0 := Aside0.mk hc1_0
  clear hr1_0 hc1_0
  have HR1_1 := Aside0.mk hr1_1
  have HC1_1 := Aside0.mk hc1_1
  clear hr1_1 hc1_1
  have HR2 := Aside0.mk hr2
  have HC2 := Aside0.mk hc2
  clear hr2 hc2
  have HB := Aside0.mk (Below.refl w.heap.size w)
  have H : ((tags_told.f l0 l1_0 l1_1 l2 false).bind fun bt127 => (some (bt127.1, bt127.2.1, bt127.2.2))) = some (r1, r2, r3) := h
  clear h
  replace H := Option.bind_eq_some_iff.mp H
  obtain ⟨⟨t127, t130, t133⟩, A40, H⟩ := H
  replace H : (some (t127, t130, t133)) = some (r1, r2, r3) := H
  have A4 := Aside0.mk A40
  clear A40
  simp only [Option.some.injEq, Prod.mk.injEq] at H
  obtain ⟨rfl, rfl, rfl⟩ := H
  go_enter Tryd.func20, Tryd.ntmps20
  go_wp2_with (first | ((with_reducible refine gate_dst (N := 4) rfl ?_); refine box_event ?hg (N := 4) ?hd (cs := #[.slice A1_0 l1_0.length c1_0, .slice A1_1 l1_1.length c1_1]) (t := 28) ?hr ?_; (case hd => rfl); (case hg => rfl); (case hr => first | (go_simp; done) | (go_simp; rfl)); intro gb125 hg w5 hbox hb; have n0_ := Aside0.mk (below_step (by repeat (first | (with_reducible first | exact HB.out | apply below_alloc | apply pw_below_drewN | apply below_drew1) | exact HB.out)) hb); have n1_ := Aside0.mk (hbox); have n2_ := Aside0.mk ((by rw [hg]; exact (below_size (by repeat (first | (with_reducible first | exact HB.out | apply below_alloc | apply pw_below_drewN | apply below_drew1) | exact HB.out))) : w.heap.size ≤ gb125)); have n3_ := Aside0.mk ((by rw [hg]; exact (below_size (by repeat (first | (with_reducible first | exact HB.out | apply below_alloc | apply pw_below_drewN | apply below_drew1) | exact HB.out))) : w.heap.size ≤ gb125)); clear HB; have HB := n0_; have BK125 := n1_; have GW125 := n2_; have GE125 := n3_; clear n0_ n1_ n2_ n3_; clear hb hbox hg) | ((with_reducible refine gate_dst (N := 6) rfl ?_); refine box_event ?hg (N := 6) ?hd (cs := #[.slice none 0 0, .slice none 0 0]) (t := 28) ?hr ?_; (case hd => rfl); (case hg => rfl); (case hr => first | (go_simp; done) | (go_simp; rfl)); intro gb126 hg w6 hbox hb; have n0_ := Aside0.mk (blk_below (g := gb125) (o := .cells #[.slice A1_0 l1_0.length c1_0, .slice A1_1 l1_1.length c1_1] 28 (0, 0)) (by (with_reducible repeat (first | refine blk_drewN ?_ _ | refine blk_drew ?_ | refine blk_alloc ?_ _)); exact BK125.out) hb); have n1_ := Aside0.mk (below_step (by repeat (first | (with_reducible first | exact HB.out | apply below_alloc | apply pw_below_drewN | apply below_drew1 | refine below_set ?_ GE125.out) | exact HB.out)) hb); have n2_ := Aside0.mk (hbox); have n3_ := Aside0.mk ((by rw [hg]; exact (below_size (by repeat (first | (with_reducible first | exact HB.out | apply below_alloc | apply pw_below_drewN | apply below_drew1 | refine below_set ?_ GE125.out) | exact HB.out))) : w.heap.size ≤ gb126)); have n4_ := Aside0.mk ((by rw [hg]; exact (below_size (by repeat (first | (with_reducible first | exact HB.out | apply below_alloc | apply pw_below_drewN | apply below_drew1 | refine below_set ?_ GE125.out) | exact HB.out))) : w.heap.size ≤ gb126)); have n5_ := Aside0.mk ((by rw [hg]; exact Nat.ne_of_lt (blk_lt (g := gb125) (o := .cells #[.slice A1_0 l1_0.length c1_0, .slice A1_1 l1_1.length c1_1] 28 (0, 0)) (by (with_reducible repeat (first | refine blk_drewN ?_ _ | refine blk_drew ?_ | refine blk_alloc ?_ _)); exact BK125.out)) : gb125 ≠ gb126)); have n6_ := Aside0.mk ((by rw [hg]; exact Nat.ne_of_gt (blk_lt (g := gb125) (o := .cells #[.slice A1_0 l1_0.length c1_0, .slice A1_1 l1_1.length c1_1] 28 (0, 0)) (by (with_reducible repeat (first | refine blk_drewN ?_ _ | refine blk_drew ?_ | refine blk_alloc ?_ _)); exact BK125.out)) : gb126 ≠ gb125)); clear BK125; clear HB; have BK125 := n0_; have HB := n1_; have BK126 := n2_; have GW126 := n3_; have GE126 := n4_; have NB125_126 := n5_; have NB126_125 := n6_; clear n0_ n1_ n2_ n3_ n4_ n5_ n6_; clear hb hbox hg; have hnb7 := NB125_126.out; have hnc7 := NB126_125.out; have hcz8_0 : w6.cell? ⟨gb125, 0, none⟩ = some (.slice A1_0 l1_0.length c1_0) := (blk_cell BK125.out 0).trans rfl; have hcz8_1 : w6.cell? ⟨gb125, 1, none⟩ = some (.slice A1_1 l1_1.length c1_1) := (blk_cell BK125.out 1).trans rfl; have hfz8_0 := blk_frozen BK125.out 0; have hfz8_1 := blk_frozen BK125.out 1) | ((with_reducible refine gate_callee (f := 36) rfl ?_); refine goesL_ (some 11) rfl rfl Tryd.func36 (by kernel_rfl) rfl #[.slice A0 l0.length c0, .agg #[.slice A1_0 l1_0.length c1_0, .slice A1_1 l1_1.length c1_1], .slice A2 l2.length c2, .bool false] rfl (by (try simp only [List.map_toArray, List.map_cons, List.map_nil]); first | done | rfl | (simp only [List.length_drop, List.length_take]; rfl)) ?_; (with_reducible refine (tags_told.calls _ _ l0 _ _ l1_0 _ _ l1_1 _ _ l2 false t127 t130 t133 _ ?side1 ?side2 ?side3 ?side4 ?side5 ?side6 ?side7 ?side8 ?side9 A4.out).mono ?_); (case side1 => repeat (first | exact (Kd.C_below HR0.out HB.out) | (with_reducible refine Kd.C_alloc ?_ _) | (with_reducible refine Kd.C_drewN ?_ _) | (with_reducible refine Kd.C_drew ?_))); (case side2 => exact HC0.out); (case side3 => repeat (first | exact (Kd.C_below HR1_0.out HB.out) | (with_reducible refine Kd.C_alloc ?_ _) | (with_reducible refine Kd.C_drewN ?_ _) | (with_reducible refine Kd.C_drew ?_))); (case side4 => exact HC1_0.out); (case side5 => repeat (first | exact (Kd.C_below HR1_1.out HB.out) | (with_reducible refine Kd.C_alloc ?_ _) | (with_reducible refine Kd.C_drewN ?_ _) | (with_reducible refine Kd.C_drew ?_))); (case side6 => exact HC1_1.out); (case side7 => repeat (first | exact (Kd.C_below HR2.out HB.out) | (with_reducible refine Kd.C_alloc ?_ _) | (with_reducible refine Kd.C_drewN ?_ _) | (with_reducible refine Kd.C_drew ?_))); (case side8 => exact HC2.out); (case side9 => exact Tabs.below hT (by repeat (first | (with_reducible first | exact HB.out | apply below_alloc | apply pw_below_drewN | apply below_drew1 | refine below_set ?_ GE125.out | refine below_set ?_ GE126.out) | exact HB.out))); rintro e w9 ⟨v128, v131, rfl, ho0, ho1, hb⟩; refine ⟨_, rfl, ?_⟩; have n0_ := Aside0.mk (Kd.R_lower ho0 (below_size (by repeat (first | (with_reducible first | exact HB.out | apply below_alloc | apply pw_below_drewN | apply below_drew1 | refine below_set ?_ GE125.out | refine below_set ?_ GE126.out) | exact HB.out)))); have n1_ := Aside0.mk (Kd.R_lower ho1 (below_size (by repeat (first | (with_reducible first | exact HB.out | apply below_alloc | apply pw_below_drewN | apply below_drew1 | refine below_set ?_ GE125.out | refine below_set ?_ GE126.out) | exact HB.out)))); have n2_ := Aside0.mk (blk_below (g := gb125) (o := .cells #[.slice A1_0 l1_0.length c1_0, .slice A1_1 l1_1.length c1_1] 28 (0, 0)) (by (with_reducible repeat (first | refine blk_drewN ?_ _ | refine blk_drew ?_ | refine blk_alloc ?_ _)); exact BK125.out) hb); have n3_ := Aside0.mk (blk_below (g := gb126) (o := .cells #[.slice none 0 0, .slice none 0 0] 28 (0, 0)) (by (with_reducible repeat (first | refine blk_drewN ?_ _ | refine blk_drew ?_ | refine blk_alloc ?_ _)); exact BK126.out) hb); have n4_ := Aside0.mk (below_step (by repeat (first | (with_reducible first | exact HB.out | apply below_alloc | apply pw_below_drewN | apply below_drew1 | refine below_set ?_ GE125.out | refine below_set ?_ GE126.out) | exact HB.out)) hb); clear BK125; clear BK126; clear HB; have HO129 := n0_; have HO132 := n1_; have BK125 := n2_; have BK126 := n3_; have HB := n4_; clear n0_ n1_ n2_ n3_ n4_; (try clear hb); (try clear hb2); (try clear hk); (try clear hi); (try clear ho0); (try clear ho1); obtain ⟨Ao10, co10, eo10⟩ := Kd.R_slice HO129.out; subst eo10; have hcz11_0 : w9.cell? ⟨gb126, 0, none⟩ = some (.slice none 0 0) := (blk_cell BK126.out 0).trans rfl; have hcz11_1 : w9.cell? ⟨gb126, 1, none⟩ = some (.slice none 0 0) := (blk_cell BK126.out 1).trans rfl; have hfz11_0 := blk_frozen BK126.out 0; have hfz11_1 := blk_frozen BK126.out 1; obtain ⟨Ao12, co12, eo12⟩ := Kd.R_slice HO132.out; subst eo12))
  refine bodyPost_ret (results_ct rfl _ _ gb126 28 #[.slice Ao10 t127.length co10, .slice Ao12 t130.length co12] (0, 0) _ rfl (by (with_reducible repeat (first | refine blk_drewN ?_ _ | refine blk_drew ?_ | refine blk_alloc ?_ _)); refine blk_put (cs := #[.slice Ao10 t127.length co10, .slice none 0 0]) ?_ 1 _ rfl; (with_reducible repeat (first | refine blk_drewN ?_ _ | refine blk_drew ?_ | refine blk_alloc ?_ _)); refine blk_put (cs := #[.slice none 0 0, .slice none 0 0]) ?_ 0 _ rfl; (with_reducible repeat (first | refine blk_drewN ?_ _ | refine blk_drew ?_ | refine blk_alloc ?_ _)); exact BK126.out) Tryd.underlying28 rfl (by kernel_rfl)) rfl ?_
  exact ⟨_, _, by first | rfl | (simp [errW_none, errW_some] <;> rfl) | (simp [*, errW_none, errW_some] <;> rfl), by (with_reducible repeat (first | apply Kd.R_alloc | apply Kd.R_drewN | apply Kd.R_drew)); exact Kd.R_mono (Kd.R_far (p := ⟨gb126, 1, none⟩) (Kd.R_far (p := ⟨gb126, 0, none⟩) (Kd.R_types HO129.out BK126.out (by decide)) (fun _ hk => hk.2) (.slice Ao10 t127.length co10)) (fun _ hk => hk.2) (.slice Ao12 t130.length co12)) (fun _ hk => trivial), by (with_reducible repeat (first | apply Kd.R_alloc | apply Kd.R_drewN | apply Kd.R_drew)); exact Kd.R_mono (Kd.R_far (p := ⟨gb126, 1, none⟩) (Kd.R_far (p := ⟨gb126, 0, none⟩) (Kd.R_types HO132.out BK126.out (by decide)) (fun _ hk => hk.2) (.slice Ao10 t127.length co10)) (fun _ hk => hk.2) (.slice Ao12 t130.length co12)) (fun _ hk => trivial), by repeat (first | (with_reducible first | exact HB.out | apply below_alloc | apply pw_below_drewN | apply below_drew1 | refine below_set ?_ GE125.out | refine below_set ?_ GE126.out) | exact HB.out)⟩
def tags_Drive.f (l0 : List (S48)) (l1_0 : List Int) (l1_1 : List Bool) (l2 : List (S46)) : Option (List Int × List Bool × Int) := (tags_told.f l0 l1_0 l1_1 l2 true).bind fun bt136 => (some (bt136.1, bt136.2.1, bt136.2.2))
set_option maxHeartbeats 8000000 in
set_option maxRecDepth 100000 in
theorem tags_Drive.calls (A0 : Option Addr) (c0 : Nat) (l0 : List (S48)) (A1_0 : Option Addr) (c1_0 : Nat) (l1_0 : List Int) (A1_1 : Option Addr) (c1_1 : Nat) (l1_1 : List Bool) (A2 : Option Addr) (c2 : Nat) (l2 : List (S46)) (r1 : List Int) (r2 : List Bool) (r3 : Int) (w : World) (hr0 : Kd.C k48 w A0 l0.length l0) (hc0 : l0.length ≤ c0) (hr1_0 : Kd.C (Kd.int .i64) w A1_0 l1_0.length l1_0) (hc1_0 : l1_0.length ≤ c1_0) (hr1_1 : Kd.C Kd.bool w A1_1 l1_1.length l1_1) (hc1_1 : l1_1.length ≤ c1_1) (hr2 : Kd.C k46 w A2 l2.length l2) (hc2 : l2.length ≤ c2) (hT : Tabs w) (h : tags_Drive.f l0 l1_0 l1_1 l2 = some (r1, r2, r3)) :
    Calls Tryd.prog 22 #[.slice A0 l0.length c0, .agg #[.slice A1_0 l1_0.length c1_0, .slice A1_1 l1_1.length c1_1], .slice A2 l2.length c2] w fun e w' => ∃ v0_ v1_ : Value, e = .returned (.tuple #[.agg #[v0_, v1_], .int .i64 r3]) ∧ Kd.R (Kd.int .i64) 3 w' w.heap.size (fun _ => True) v0_ r1 ∧ Kd.R Kd.bool 4 w' w.heap.size (fun _ => True) v1_ r2 ∧ Below w.heap.size w w' := by
  have hu28 := Tryd.underlying28
  have HR0 := Aside0.mk hr0
  have HC0 := Aside0.mk hc0
  clear hr0 hc0
  have HR1_0 := Aside0.mk hr1_0
  have HC1_0 := Aside0.mk hc1_0
  clear hr1_0 hc1_0
  have HR1_1 := Aside0.mk hr1_1
  have HC1_1 := Aside0.mk hc1_1
  clear hr1_1 hc1_1
  have HR2 := Aside0.mk hr2
  have HC2 := Aside0.mk hc2
  clear hr2 hc2
  have HB := Aside0.mk (Below.refl w.heap.size w)
  have H : ((tags_told.f l0 l1_0 l1_1 l2 true).bind fun bt136 => (some (bt136.1, bt136.2.1, bt136.2.2))) = some (r1, r2, r3) := h
  clear h
  replace H := Option.bind_eq_some_iff.mp H
  obtain ⟨⟨t136, t139, t142⟩, A40, H⟩ := H
  replace H : (some (t136, t139, t142)) = some (r1, r2, r3) := H
  have A4 := Aside0.mk A40
  clear A40
  simp only [Option.some.injEq, Prod.mk.injEq] at H
  obtain ⟨rfl, rfl, rfl⟩ := H
  go_enter Tryd.func22, Tryd.ntmps22
  go_wp2_with (first | ((with_reducible refine gate_dst (N := 4) rfl ?_); refine box_event ?hg (N := 4) ?hd (cs := #[.slice A1_0 l1_0.length c1_0, .slice A1_1 l1_1.length c1_1]) (t := 28) ?hr ?_; (case hd => rfl); (case hg => rfl); (case hr => first | (go_simp; done) | (go_simp; rfl)); intro gb134 hg w5 hbox hb; have n0_ := Aside0.mk (below_step (by repeat (first | (with_reducible first | exact HB.out | apply below_alloc | apply pw_below_drewN | apply below_drew1) | exact HB.out)) hb); have n1_ := Aside0.mk (hbox); have n2_ := Aside0.mk ((by rw [hg]; exact (below_size (by repeat (first | (with_reducible first | exact HB.out | apply below_alloc | apply pw_below_drewN | apply below_drew1) | exact HB.out))) : w.heap.size ≤ gb134)); have n3_ := Aside0.mk ((by rw [hg]; exact (below_size (by repeat (first | (with_reducible first | exact HB.out | apply below_alloc | apply pw_below_drewN | apply below_drew1) | exact HB.out))) : w.heap.size ≤ gb134)); clear HB; have HB := n0_; have BK134 := n1_; have GW134 := n2_; have GE134 := n3_; clear n0_ n1_ n2_ n3_; clear hb hbox hg) | ((with_reducible refine gate_dst (N := 6) rfl ?_); refine box_event ?hg (N := 6) ?hd (cs := #[.slice none 0 0, .slice none 0 0]) (t := 28) ?hr ?_; (case hd => rfl); (case hg => rfl); (case hr => first | (go_simp; done) | (go_simp; rfl)); intro gb135 hg w6 hbox hb; have n0_ := Aside0.mk (blk_below (g := gb134) (o := .cells #[.slice A1_0 l1_0.length c1_0, .slice A1_1 l1_1.length c1_1] 28 (0, 0)) (by (with_reducible repeat (first | refine blk_drewN ?_ _ | refine blk_drew ?_ | refine blk_alloc ?_ _)); exact BK134.out) hb); have n1_ := Aside0.mk (below_step (by repeat (first | (with_reducible first | exact HB.out | apply below_alloc | apply pw_below_drewN | apply below_drew1 | refine below_set ?_ GE134.out) | exact HB.out)) hb); have n2_ := Aside0.mk (hbox); have n3_ := Aside0.mk ((by rw [hg]; exact (below_size (by repeat (first | (with_reducible first | exact HB.out | apply below_alloc | apply pw_below_drewN | apply below_drew1 | refine below_set ?_ GE134.out) | exact HB.out))) : w.heap.size ≤ gb135)); have n4_ := Aside0.mk ((by rw [hg]; exact (below_size (by repeat (first | (with_reducible first | exact HB.out | apply below_alloc | apply pw_below_drewN | apply below_drew1 | refine below_set ?_ GE134.out) | exact HB.out))) : w.heap.size ≤ gb135)); have n5_ := Aside0.mk ((by rw [hg]; exact Nat.ne_of_lt (blk_lt (g := gb134) (o := .cells #[.slice A1_0 l1_0.length c1_0, .slice A1_1 l1_1.length c1_1] 28 (0, 0)) (by (with_reducible repeat (first | refine blk_drewN ?_ _ | refine blk_drew ?_ | refine blk_alloc ?_ _)); exact BK134.out)) : gb134 ≠ gb135)); have n6_ := Aside0.mk ((by rw [hg]; exact Nat.ne_of_gt (blk_lt (g := gb134) (o := .cells #[.slice A1_0 l1_0.length c1_0, .slice A1_1 l1_1.length c1_1] 28 (0, 0)) (by (with_reducible repeat (first | refine blk_drewN ?_ _ | refine blk_drew ?_ | refine blk_alloc ?_ _)); exact BK134.out)) : gb135 ≠ gb134)); clear BK134; clear HB; have BK134 := n0_; have HB := n1_; have BK135 := n2_; have GW135 := n3_; have GE135 := n4_; have NB134_135 := n5_; have NB135_134 := n6_; clear n0_ n1_ n2_ n3_ n4_ n5_ n6_; clear hb hbox hg; have hnb7 := NB134_135.out; have hnc7 := NB135_134.out; have hcz8_0 : w6.cell? ⟨gb134, 0, none⟩ = some (.slice A1_0 l1_0.length c1_0) := (blk_cell BK134.out 0).trans rfl; have hcz8_1 : w6.cell? ⟨gb134, 1, none⟩ = some (.slice A1_1 l1_1.length c1_1) := (blk_cell BK134.out 1).trans rfl; have hfz8_0 := blk_frozen BK134.out 0; have hfz8_1 := blk_frozen BK134.out 1) | ((with_reducible refine gate_callee (f := 36) rfl ?_); refine goesL_ (some 11) rfl rfl Tryd.func36 (by kernel_rfl) rfl #[.slice A0 l0.length c0, .agg #[.slice A1_0 l1_0.length c1_0, .slice A1_1 l1_1.length c1_1], .slice A2 l2.length c2, .bool true] rfl (by (try simp only [List.map_toArray, List.map_cons, List.map_nil]); first | done | rfl | (simp only [List.length_drop, List.length_take]; rfl)) ?_; (with_reducible refine (tags_told.calls _ _ l0 _ _ l1_0 _ _ l1_1 _ _ l2 true t136 t139 t142 _ ?side1 ?side2 ?side3 ?side4 ?side5 ?side6 ?side7 ?side8 ?side9 A4.out).mono ?_); (case side1 => repeat (first | exact (Kd.C_below HR0.out HB.out) | (with_reducible refine Kd.C_alloc ?_ _) | (with_reducible refine Kd.C_drewN ?_ _) | (with_reducible refine Kd.C_drew ?_))); (case side2 => exact HC0.out); (case side3 => repeat (first | exact (Kd.C_below HR1_0.out HB.out) | (with_reducible refine Kd.C_alloc ?_ _) | (with_reducible refine Kd.C_drewN ?_ _) | (with_reducible refine Kd.C_drew ?_))); (case side4 => exact HC1_0.out); (case side5 => repeat (first | exact (Kd.C_below HR1_1.out HB.out) | (with_reducible refine Kd.C_alloc ?_ _) | (with_reducible refine Kd.C_drewN ?_ _) | (with_reducible refine Kd.C_drew ?_))); (case side6 => exact HC1_1.out); (case side7 => repeat (first | exact (Kd.C_below HR2.out HB.out) | (with_reducible refine Kd.C_alloc ?_ _) | (with_reducible refine Kd.C_drewN ?_ _) | (with_reducible refine Kd.C_drew ?_))); (case side8 => exact HC2.out); (case side9 => exact Tabs.below hT (by repeat (first | (with_reducible first | exact HB.out | apply below_alloc | apply pw_below_drewN | apply below_drew1 | refine below_set ?_ GE134.out | refine below_set ?_ GE135.out) | exact HB.out))); rintro e w9 ⟨v137, v140, rfl, ho0, ho1, hb⟩; refine ⟨_, rfl, ?_⟩; have n0_ := Aside0.mk (Kd.R_lower ho0 (below_size (by repeat (first | (with_reducible first | exact HB.out | apply below_alloc | apply pw_below_drewN | apply below_drew1 | refine below_set ?_ GE134.out | refine below_set ?_ GE135.out) | exact HB.out)))); have n1_ := Aside0.mk (Kd.R_lower ho1 (below_size (by repeat (first | (with_reducible first | exact HB.out | apply below_alloc | apply pw_below_drewN | apply below_drew1 | refine below_set ?_ GE134.out | refine below_set ?_ GE135.out) | exact HB.out)))); have n2_ := Aside0.mk (blk_below (g := gb134) (o := .cells #[.slice A1_0 l1_0.length c1_0, .slice A1_1 l1_1.length c1_1] 28 (0, 0)) (by (with_reducible repeat (first | refine blk_drewN ?_ _ | refine blk_drew ?_ | refine blk_alloc ?_ _)); exact BK134.out) hb); have n3_ := Aside0.mk (blk_below (g := gb135) (o := .cells #[.slice none 0 0, .slice none 0 0] 28 (0, 0)) (by (with_reducible repeat (first | refine blk_drewN ?_ _ | refine blk_drew ?_ | refine blk_alloc ?_ _)); exact BK135.out) hb); have n4_ := Aside0.mk (below_step (by repeat (first | (with_reducible first | exact HB.out | apply below_alloc | apply pw_below_drewN | apply below_drew1 | refine below_set ?_ GE134.out | refine below_set ?_ GE135.out) | exact HB.out)) hb); clear BK134; clear BK135; clear HB; have HO138 := n0_; have HO141 := n1_; have BK134 := n2_; have BK135 := n3_; have HB := n4_; clear n0_ n1_ n2_ n3_ n4_; (try clear hb); (try clear hb2); (try clear hk); (try clear hi); (try clear ho0); (try clear ho1); obtain ⟨Ao10, co10, eo10⟩ := Kd.R_slice HO138.out; subst eo10; have hcz11_0 : w9.cell? ⟨gb135, 0, none⟩ = some (.slice none 0 0) := (blk_cell BK135.out 0).trans rfl; have hcz11_1 : w9.cell? ⟨gb135, 1, none⟩ = some (.slice none 0 0) := (blk_cell BK135.out 1).trans rfl; have hfz11_0 := blk_frozen BK135.out 0; have hfz11_1 := blk_frozen BK135.out 1; obtain ⟨Ao12, co12, eo12⟩ := Kd.R_slice HO141.out; subst eo12))
  refine bodyPost_ret (results_ct rfl _ _ gb135 28 #[.slice Ao10 t136.length co10, .slice Ao12 t139.length co12] (0, 0) _ rfl (by (with_reducible repeat (first | refine blk_drewN ?_ _ | refine blk_drew ?_ | refine blk_alloc ?_ _)); refine blk_put (cs := #[.slice Ao10 t136.length co10, .slice none 0 0]) ?_ 1 _ rfl; (with_reducible repeat (first | refine blk_drewN ?_ _ | refine blk_drew ?_ | refine blk_alloc ?_ _)); refine blk_put (cs := #[.slice none 0 0, .slice none 0 0]) ?_ 0 _ rfl; (with_reducible repeat (first | refine blk_drewN ?_ _ | refine blk_drew ?_ | refine blk_alloc ?_ _)); exact BK135.out) Tryd.underlying28 rfl (by kernel_rfl)) rfl ?_
  exact ⟨_, _, by first | rfl | (simp [errW_none, errW_some] <;> rfl) | (simp [*, errW_none, errW_some] <;> rfl), by (with_reducible repeat (first | apply Kd.R_alloc | apply Kd.R_drewN | apply Kd.R_drew)); exact Kd.R_mono (Kd.R_far (p := ⟨gb135, 1, none⟩) (Kd.R_far (p := ⟨gb135, 0, none⟩) (Kd.R_types HO138.out BK135.out (by decide)) (fun _ hk => hk.2) (.slice Ao10 t136.length co10)) (fun _ hk => hk.2) (.slice Ao12 t139.length co12)) (fun _ hk => trivial), by (with_reducible repeat (first | apply Kd.R_alloc | apply Kd.R_drewN | apply Kd.R_drew)); exact Kd.R_mono (Kd.R_far (p := ⟨gb135, 1, none⟩) (Kd.R_far (p := ⟨gb135, 0, none⟩) (Kd.R_types HO141.out BK135.out (by decide)) (fun _ hk => hk.2) (.slice Ao10 t136.length co10)) (fun _ hk => hk.2) (.slice Ao12 t139.length co12)) (fun _ hk => trivial), by repeat (first | (with_reducible first | exact HB.out | apply below_alloc | apply pw_below_drewN | apply below_drew1 | refine below_set ?_ GE134.out | refine below_set ?_ GE135.out) | exact HB.out)⟩
def malthouselaw08_pair.f  : Option ((List (S48))) := some (([(⟨(⟨#[116]⟩ : ByteArray), false, 0, 100⟩ : S48), (⟨(⟨#[118]⟩ : ByteArray), true, 1, 5⟩ : S48)] : List (S48)))
set_option maxHeartbeats 8000000 in
set_option maxRecDepth 100000 in
theorem malthouselaw08_pair.calls  (r : List (S48)) (w : World) (h : malthouselaw08_pair.f  = some r) :
    Calls Tryd.prog 29 #[] w fun e w' => ∃ v0_ : Value, e = .returned (v0_) ∧ Kd.R k48 48 w' w.heap.size (fun _ => True) v0_ r ∧ Below w.heap.size w w' := by
  have hu48 := Tryd.underlying48
  have HB := Aside0.mk (Below.refl w.heap.size w)
  have H : (some (([(⟨(⟨#[116]⟩ : ByteArray), false, 0, 100⟩ : S48), (⟨(⟨#[118]⟩ : ByteArray), true, 1, 5⟩ : S48)] : List (S48)))) = some r := h
  clear h
  obtain ⟨y143, hy143⟩ : ∃ y_ : List (S48), y_ = (([(⟨(⟨#[116]⟩ : ByteArray), false, 0, 100⟩ : S48), (⟨(⟨#[118]⟩ : ByteArray), true, 1, 5⟩ : S48)] : List (S48))) := ⟨_, rfl⟩
  replace H : (some y143) = some r := by first | (rw [hy143]; with_reducible exact H) | (have H2_ := (Option.bind_some _ _).symm.trans H; rw [hy143]; with_reducible exact H2_) | (have H2_ := (Option.bind_some _ _).symm.trans H; with_reducible exact H2_) | with_reducible exact H | (rw [hy143]; exact H) | exact H
  have Ny143 := Aside0.mk hy143
  clear hy143
  obtain rfl := Option.some.inj H
  go_enter Tryd.func29, Tryd.ntmps29
  go_wp2_with (first | ((with_reducible refine gate_dst (N := 3) rfl ?_); refine Kd.R_lit k48 _ 48 ?hg (N := 3) ?hd (xs := ([(⟨(⟨#[116]⟩ : ByteArray), false, 0, 100⟩ : S48), (⟨(⟨#[118]⟩ : ByteArray), true, 1, 5⟩ : S48)] : List (S48))) (inner := [.string (⟨#[116]⟩ : ByteArray), .bool false, .int .i64 0, .int .i64 100, .string (⟨#[118]⟩ : ByteArray), .bool true, .int .i64 1, .int .i64 5]) (ok := fun _ => True) (okp := fun _ => True) ?hr ?hp (fun _ hk => hk) trivial (Below.refl _ _) (Nat.le_refl _) (by simp) ?_; (case hd => rfl); (case hg => rfl); (case hr => first | (go_simp; done) | (go_simp; rfl)); (case hp => exact (Reps.c4 (show Kd.M k48 _ _ _ (⟨(⟨#[116]⟩ : ByteArray), false, 0, 100⟩ : S48) [.string (⟨#[116]⟩ : ByteArray), .bool false, .int .i64 0, .int .i64 100] from (k48_mkM _ _ _ (⟨(⟨#[116]⟩ : ByteArray), false, 0, 100⟩ : S48) )) (Reps.c4 (show Kd.M k48 _ _ _ (⟨(⟨#[118]⟩ : ByteArray), true, 1, 5⟩ : S48) [.string (⟨#[118]⟩ : ByteArray), .bool true, .int .i64 1, .int .i64 5] from (k48_mkM _ _ _ (⟨(⟨#[118]⟩ : ByteArray), true, 1, 5⟩ : S48) )) (Reps.none _ _)))); intro v144 w1 ho2 hb hg_ hnew_; clear hg_ hnew_; (first | rw [← Ny143.out] at ho2 | (simp only [Int.reduceToNat] at ho2; rw [← Ny143.out] at ho2)); have n0_ := Aside0.mk (Kd.R_lower ho2 (below_size (by repeat (first | (with_reducible first | exact HB.out | apply below_alloc | apply pw_below_drewN | apply below_drew1) | exact HB.out)))); have n1_ := Aside0.mk (below_step (by repeat (first | (with_reducible first | exact HB.out | apply below_alloc | apply pw_below_drewN | apply below_drew1) | exact HB.out)) hb); clear HB; have HO145 := n0_; have HB := n1_; clear n0_ n1_; clear hb ho2))
  go_ret
  exact ⟨_, by first | rfl | (simp [errW_none, errW_some] <;> rfl) | (simp [*, errW_none, errW_some] <;> rfl), by (with_reducible repeat (first | apply Kd.R_alloc | apply Kd.R_drewN | apply Kd.R_drew)); exact HO145.out, by repeat (first | (with_reducible first | exact HB.out | apply below_alloc | apply pw_below_drewN | apply below_drew1) | exact HB.out)⟩
end Go.Proofs.YtbmdhmmahmdccaaDoor.Print
/-! ### EAwake -/
namespace Go.Proofs.YtbmdhmmahmdccaaDoor.Print
open Go.RowKit Go.Proofs.YtbmdhmmahmdccaaDoorW.PrintWords Go.Proofs.YtbmdhmmahmdccaaDoorW.PrintLast Go.Proofs.YtbmdhmmahmdccaaDoorW.PrintMore
set_option linter.unusedSimpArgs false
set_option linter.unusedVariables false
def pairL : List S48 := [⟨⟨#[116]⟩, false, 0, 100⟩, ⟨⟨#[118]⟩, true, 1, 5⟩]
def cellT : List S46 := [⟨⟨#[116]⟩, 120⟩]
def cellV : List S46 := [⟨⟨#[118]⟩, 9⟩]
theorem pair_ok : okTags pairL := by unfold okTags pairL; decide
theorem pair_new : tags_New.f 5 pairL = some ([0, 1], [false, false], 0) := by
  rw [new_is pairL pair_ok 5 (by decide)]
  decide +kernel
theorem pair_latch : tags_Latch.f pairL [0, 1] [false, false] cellT = some ([100, 1], [true, false], 0) := by
  have h : tags_told.f pairL [0, 1] [false, false] cellT false = some ([100, 1], [true, false], 0) := by
    unfold tags_told.f
    rw [if_pos ⟨pair_ok, by decide, by decide, by decide⟩]
    decide +kernel
  unfold tags_Latch.f
  rw [h]
  rfl
theorem pair_drive : tags_Drive.f pairL [100, 1] [true, false] cellV = some ([100, 5], [true, false], 0) := by
  have h : tags_told.f pairL [100, 1] [true, false] cellV true = some ([100, 5], [true, false], 0) := by
    unfold tags_told.f
    rw [if_pos ⟨pair_ok, by decide, by decide, by decide⟩]
    decide +kernel
  unfold tags_Drive.f
  rw [h]
  rfl
theorem reps_one_C (b : ByteArray) (n : Int) (w : World) : Reps (k46.K w) k46.sz [⟨b, n⟩] [.string b, .int .i64 n] := by
  refine ⟨rfl, fun j p hj => ?_⟩
  cases j with
  | zero => obtain rfl := Option.some.inj hj; exact k46_mk w _
  | succ j => simp at hj
def malthouselaw08_awake.f : Option Bool := some true
set_option maxHeartbeats 8000000 in
set_option maxRecDepth 100000 in
theorem malthouselaw08_awake.calls (r : Bool) (w : World) (hT : Tabs w) (h : malthouselaw08_awake.f = some r) :
    Calls Tryd.prog 9 #[] w fun e w' => e = .returned (.bool r) ∧ Below w.heap.size w w' := by
  obtain rfl := Option.some.inj h
  clear h
  have HTB := Lib.hid hT
  have hu2 := Tryd.underlying28
  have hu4 := Tryd.underlying46
  clear hT
  go_enter Tryd.func9, Tryd.ntmps9
  go_wp2_with (first
    | (go_at_call 29; refine (malthouselaw08_pair.calls pairL w rfl).mono ?_; rintro e w1 ⟨v0, rfl, hR, hb⟩; obtain ⟨Ap, cp, rfl, hcp, hC⟩ := Kd.R_reads hR; have HP1 := Lib.hid hC; have HB1 := Lib.hid hb; clear hR hC hb; refine (fun (h : Hid _) => h.out) ?_))
  refine Lib.hid ?_
  go_wp2_with (first
    | (go_at_call 11; refine (tags_New.calls 5 Ap cp pairL _ _ _ w1 HP1.out hcp (HTB.out.below HB1.out) pair_new).mono ?_; rintro e w2 ⟨v0, v1, rfl, hR, hR', hb⟩; obtain ⟨Av, cv, rfl, hcv, hC⟩ := Kd.R_reads hR; obtain ⟨Ab, cb, rfl, hcb, hC'⟩ := Kd.R_reads hR'; have HV2 := Lib.hid hC; have HW2 := Lib.hid hC'; have HB2 := Lib.hid (below_then HB1.out HB1.out.size hb); have HP2 := Lib.hid (Kd.C_below HP1.out hb); clear hR hR' hC hC' hb HP1 HB1; refine (fun (h : Hid _) => h.out) ?_))
  refine Lib.hid ?_
  have hb3 : Below w.heap.size w ((w2.alloc (.cells #[.slice Av [0, 1].length cv, .slice Ab [false, false].length cb] 28)).alloc (.cells #[.string ⟨#[116]⟩, .int .i64 120] 46)) := (HB2.out.alloc HB2.out.size _).alloc (Nat.le_trans HB2.out.size (by simp)) _
  have hb23 : Below w2.heap.size w2 ((w2.alloc (.cells #[.slice Av [0, 1].length cv, .slice Ab [false, false].length cb] 28)).alloc (.cells #[.string ⟨#[116]⟩, .int .i64 120] 46)) := ((Below.refl _ _).alloc (Nat.le_refl _) _).alloc (by simp) _
  have hl : Kd.C k46 ((w2.alloc (.cells #[.slice Av [0, 1].length cv, .slice Ab [false, false].length cb] 28)).alloc (.cells #[.string ⟨#[116]⟩, .int .i64 120] 46)) (some ⟨w2.heap.size + 1, 0, none⟩) cellT.length cellT := by
    refine Kd.C_lit (e := 46) (inner := [.string ⟨#[116]⟩, .int .i64 120]) ?_ ?_ (by decide)
    · have := heap_alloc_new (w2.alloc (.cells #[.slice Av [0, 1].length cv, .slice Ab [false, false].length cb] 28)) (.cells #[.string ⟨#[116]⟩, .int .i64 120] 46)
      simpa using this
    · exact reps_one_C _ _ _
  have HB3 := Lib.hid hb3
  have HB23 := Lib.hid hb23
  have HL := Lib.hid hl
  clear hb3 hb23 hl
  go_wp2_with (first
    | (go_at_call 20; refine (tags_Latch.calls Ap cp pairL Av cv [0, 1] Ab cb [false, false] (some ⟨w2.heap.size + 1, 0, none⟩) 1 cellT _ _ _ _ (Kd.C_below HP2.out HB23.out) hcp (Kd.C_below HV2.out HB23.out) hcv (Kd.C_below HW2.out HB23.out) hcb HL.out (by decide) (HTB.out.below HB3.out) pair_latch).mono ?_; rintro e w3 ⟨v0, v1, rfl, hR, hR', hb⟩; obtain ⟨Av3, cv3, rfl, hcv3, hC⟩ := Kd.R_reads hR; obtain ⟨Ab3, cb3, rfl, hcb3, hC'⟩ := Kd.R_reads hR'; have HV3 := Lib.hid hC; have HW3 := Lib.hid hC'; have HP3 := Lib.hid (Kd.C_below HP2.out (below_then HB23.out HB23.out.size hb)); have HB4 := Lib.hid (below_then HB3.out HB3.out.size hb); clear hR hR' hC hC' hb HP2 HB2 HB3 HB23 HL HV2 HW2; refine (fun (h : Hid _) => h.out) ?_))
  refine Lib.hid ?_
  have hb3 : Below w.heap.size w ((w3.alloc (.cells #[.slice Av3 [100, 1].length cv3, .slice Ab3 [true, false].length cb3] 28)).alloc (.cells #[.string ⟨#[118]⟩, .int .i64 9] 46)) := (HB4.out.alloc HB4.out.size _).alloc (Nat.le_trans HB4.out.size (by simp)) _
  have hb23 : Below w3.heap.size w3 ((w3.alloc (.cells #[.slice Av3 [100, 1].length cv3, .slice Ab3 [true, false].length cb3] 28)).alloc (.cells #[.string ⟨#[118]⟩, .int .i64 9] 46)) := ((Below.refl _ _).alloc (Nat.le_refl _) _).alloc (by simp) _
  have hl : Kd.C k46 ((w3.alloc (.cells #[.slice Av3 [100, 1].length cv3, .slice Ab3 [true, false].length cb3] 28)).alloc (.cells #[.string ⟨#[118]⟩, .int .i64 9] 46)) (some ⟨w3.heap.size + 1, 0, none⟩) cellV.length cellV := by
    refine Kd.C_lit (e := 46) (inner := [.string ⟨#[118]⟩, .int .i64 9]) ?_ ?_ (by decide)
    · have := heap_alloc_new (w3.alloc (.cells #[.slice Av3 [100, 1].length cv3, .slice Ab3 [true, false].length cb3] 28)) (.cells #[.string ⟨#[118]⟩, .int .i64 9] 46)
      simpa using this
    · exact reps_one_C _ _ _
  have HB5 := Lib.hid hb3
  have HB23 := Lib.hid hb23
  have HL := Lib.hid hl
  clear hb3 hb23 hl
  go_wp2_with (first
    | (go_at_call 22; refine (tags_Drive.calls Ap cp pairL Av3 cv3 [100, 1] Ab3 cb3 [true, false] (some ⟨w3.heap.size + 1, 0, none⟩) 1 cellV _ _ _ _ (Kd.C_below HP3.out HB23.out) hcp (Kd.C_below HV3.out HB23.out) hcv3 (Kd.C_below HW3.out HB23.out) hcb3 HL.out (by decide) (HTB.out.below HB5.out) pair_drive).mono ?_; rintro e w4 ⟨v0, v1, rfl, hR, hR', hb⟩; obtain ⟨Av4, cv4, rfl, hcv4, hC⟩ := Kd.R_reads hR; obtain ⟨Ab4, cb4, rfl, hcb4, hC'⟩ := Kd.R_reads hR'; have HV4 := Lib.hid hC; have HW4 := Lib.hid hC'; have HB6 := Lib.hid (below_then HB5.out HB5.out.size hb); clear hR hR' hC hC' hb HP3 HB4 HB5 HB23 HL HV3 HW3; refine (fun (h : Hid _) => h.out) ?_))
  refine Lib.hid ?_
  obtain ⟨av, rfl, n0⟩ := Kd.int_at (Kd.C_alloc HV4.out (.cells #[.slice Av4 [100, 5].length cv4, .slice Ab4 [true, false].length cb4] 28)) 0 (by decide)
  obtain ⟨av', e1, n1⟩ := Kd.int_at (Kd.C_alloc HV4.out (.cells #[.slice (some av) [100, 5].length cv4, .slice Ab4 [true, false].length cb4] 28)) 1 (by decide)
  obtain rfl := Option.some.inj e1
  obtain ⟨ab, rfl, b0⟩ := Kd.bool_at (Kd.C_alloc HW4.out (.cells #[.slice (some av) [100, 5].length cv4, .slice Ab4 [true, false].length cb4] 28)) 0 (by decide)
  obtain ⟨ab', e1, b1⟩ := Kd.bool_at (Kd.C_alloc HW4.out (.cells #[.slice (some av) [100, 5].length cv4, .slice (some ab) [true, false].length cb4] 28)) 1 (by decide)
  obtain rfl := Option.some.inj e1
  replace n0 : (w4.alloc (.cells #[.slice (some av) 2 cv4, .slice (some ab) 2 cb4] 28)).cell? (av.add 0) = some (.int .i64 100) := n0
  replace n1 : (w4.alloc (.cells #[.slice (some av) 2 cv4, .slice (some ab) 2 cb4] 28)).cell? ⟨av.block, av.off + 1, none⟩ = some (.int .i64 5) := n1
  replace b0 : (w4.alloc (.cells #[.slice (some av) 2 cv4, .slice (some ab) 2 cb4] 28)).cell? (ab.add 0) = some (.bool true) := b0
  replace b1 : (w4.alloc (.cells #[.slice (some av) 2 cv4, .slice (some ab) 2 cb4] 28)).cell? ⟨ab.block, ab.off + 1, none⟩ = some (.bool false) := b1
  rw [show ∀ a : Addr, a.add 0 = a from fun a => by simp [Addr.add]] at n0 b0
  go_wp2
  go_ret
  exact ⟨rfl, HB6.out.alloc HB6.out.size _⟩
end Go.Proofs.YtbmdhmmahmdccaaDoor.Print
/-! ### Print13 -/
namespace Go.Proofs.YtbmdhmmahmdccaaDoor.Print
open Go.RowKit Go.Proofs.YtbmdhmmahmdccaaDoorW.PrintWords Go.Proofs.YtbmdhmmahmdccaaDoorW.PrintLast Go.Proofs.YtbmdhmmahmdccaaDoorW.PrintMore
attribute [local go_sem] max2_int min2_int max_two min_two
set_option linter.unusedVariables false
set_option linter.unusedSimpArgs false
mutual
def malthouselaw08_fair.j0 : Nat → List (S46) → Bool → Option (Bool)
  | 0, _, _ => none
  | k + 1, x1, x20 => if x20 = true then (some false) else (malthouselaw08_fair.l0 k x1 0)
def malthouselaw08_fair.l0 : Nat → List (S46) → Int → Option (Bool)
  | 0, _, _ => none
  | k + 1, x1, x5 => if x5 < (x1.length : Int) then (if 0 ≤ x5 then (if (((rd_T46 x1 x5).f0).size : Int) > 200 then (some false) else (malthouselaw08_fair.l0 k x1 (wrap64 (x5 + 1)))) else (none)) else (some true)
end
def malthouselaw08_fair.f (k : Nat) (l0_0 : List Int) (l0_1 : List Bool) (l1 : List (S46)) : Option (Bool) := if (l0_0.length : Int) > 1000 then (malthouselaw08_fair.j0 k l1 true) else (if (l0_1.length : Int) > 1000 then (malthouselaw08_fair.j0 k l1 true) else (malthouselaw08_fair.j0 k l1 (decide ((l1.length : Int) > 1000))))
set_option maxHeartbeats 8000000 in
set_option maxRecDepth 100000 in
theorem malthouselaw08_fair.calls (k : Nat) (A0_0 : Option Addr) (c0_0 : Nat) (l0_0 : List Int) (A0_1 : Option Addr) (c0_1 : Nat) (l0_1 : List Bool) (A1 : Option Addr) (c1 : Nat) (l1 : List (S46)) (r : Bool) (w : World) (hr0_0 : Kd.C (Kd.int .i64) w A0_0 l0_0.length l0_0) (hc0_0 : l0_0.length ≤ c0_0) (hr0_1 : Kd.C Kd.bool w A0_1 l0_1.length l0_1) (hc0_1 : l0_1.length ≤ c0_1) (hr1 : Kd.C k46 w A1 l1.length l1) (hc1 : l1.length ≤ c1) (h : malthouselaw08_fair.f k l0_0 l0_1 l1 = some r) :
    Calls Tryd.prog 18 #[.agg #[.slice A0_0 l0_0.length c0_0, .slice A0_1 l0_1.length c0_1], .slice A1 l1.length c1] w fun e w' => e = .returned (.bool r) ∧ Below w.heap.size w w' := by
  have hu28 := Tryd.underlying28
  have HR0_0 := Aside0.mk hr0_0
  have HC0_0 := Aside0.mk hc0_0
  clear hr0_0 hc0_0
  have HR0_1 := Aside0.mk hr0_1
  have HC0_1 := Aside0.mk hc0_1
  clear hr0_1 hc0_1
  have HR1 := Aside0.mk hr1
  have HC1 := Aside0.mk hc1
  clear hr1 hc1
  have HB := Aside0.mk (Below.refl w.heap.size w)
  have H : (if (l0_0.length : Int) > 1000 then (malthouselaw08_fair.j0 k l1 true) else (if (l0_1.length : Int) > 1000 then (malthouselaw08_fair.j0 k l1 true) else (malthouselaw08_fair.j0 k l1 (decide ((l1.length : Int) > 1000))))) = some r := h
  clear h
  have HC3 := Aside0.mk H
  clear H
  go_enter Tryd.func18, Tryd.ntmps18
  go_upto_region 1 with (first | ((with_reducible refine gate_dst (N := 2) rfl ?_); (try (refine gate_guard (by rfl) ?_; dsimp only)); refine box_event ?hg (N := 2) ?hd (cs := #[.slice A0_0 l0_0.length c0_0, .slice A0_1 l0_1.length c0_1]) (t := 28) ?hr ?_; (case hd => rfl); (case hg => rfl); (case hr => first | (go_simp; done) | (go_simp; rfl)); intro gb222 hg w4 hbox hb; have n0_ := Aside0.mk (below_step (by repeat (first | (with_reducible first | exact HB.out | apply below_alloc | apply pw_below_drewN | apply below_drew1) | exact HB.out)) hb); have n1_ := Aside0.mk (hbox); have n2_ := Aside0.mk ((by rw [hg]; exact (below_size (by repeat (first | (with_reducible first | exact HB.out | apply below_alloc | apply pw_below_drewN | apply below_drew1) | exact HB.out))) : w.heap.size ≤ gb222)); have n3_ := Aside0.mk ((by rw [hg]; exact (below_size (by repeat (first | (with_reducible first | exact HB.out | apply below_alloc | apply pw_below_drewN | apply below_drew1) | exact HB.out))) : w.heap.size ≤ gb222)); clear HB; have HB := n0_; have BK222 := n1_; have GW222 := n2_; have GE222 := n3_; clear n0_ n1_ n2_ n3_; clear hb hbox hg))
  (try simp only [Act.put, List.setIfInBounds_toArray, List.set_cons_zero, List.set_cons_succ])
  go_cut [20] (fun v20 wc => ∃ (kq : Nat) (x20_2 : Bool), v20 = .bool x20_2 ∧ Aside0 (malthouselaw08_fair.j0 kq l1 x20_2 = some r) ∧ Aside0 (kq ≤ k) ∧ Aside0 (wc.heap[gb222]? = some (.cells #[(.slice A0_0 l0_0.length c0_0), (.slice A0_1 l0_1.length c0_1)] 28 (0, 0))) ∧ Aside0 (Below w.heap.size w wc))
  case first =>
    have H := HC3.out
    clear HC3
    by_cases c5 : (l0_0.length : Int) > 1000
    · rw [if_pos c5] at H
      have c5b0 : decide (1000 < (l0_0.length : Int)) = true := decide_eq_true c5
      have c5b1 : decide (1000 < l0_0.length) = true := decide_eq_true (by omega)
      clear c5
      (first | rw [c5b0] | (simp only [i64_w, i32_w]; rw [c5b0]) | skip)
      have H' := Aside0.mk H
      clear H
      have hcz6_0 : w4.cell? ⟨gb222, 0, none⟩ = some (.slice A0_0 l0_0.length c0_0) := (blk_cell BK222.out 0).trans rfl
      have hcz6_1 : w4.cell? ⟨gb222, 1, none⟩ = some (.slice A0_1 l0_1.length c0_1) := (blk_cell BK222.out 1).trans rfl
      have hfz6_0 := blk_frozen BK222.out 0
      have hfz6_1 := blk_frozen BK222.out 1
      go_wp2
      go_meet
      case rel => exact ⟨_, (true), (by first | rfl | (simp; done) | (simp [*]; done)), H', ⟨by first | omega | exact Nat.le_refl _⟩, ⟨by (with_reducible repeat (first | refine blk_drewN ?_ _ | refine blk_drew ?_ | refine blk_alloc ?_ _)); exact BK222.out⟩, ⟨by repeat (first | (with_reducible first | exact HB.out | apply below_alloc | apply pw_below_drewN | apply below_drew1 | refine below_set ?_ GE222.out) | exact HB.out)⟩⟩
    · rw [if_neg c5] at H
      have c5b0 : decide (1000 < (l0_0.length : Int)) = false := decide_eq_false c5
      have c5b1 : decide (1000 < l0_0.length) = false := decide_eq_false (by omega)
      clear c5
      (first | rw [c5b0] | (simp only [i64_w, i32_w]; rw [c5b0]) | skip)
      by_cases c7 : (l0_1.length : Int) > 1000
      · rw [if_pos c7] at H
        have c7b0 : decide (1000 < (l0_1.length : Int)) = true := decide_eq_true c7
        have c7b1 : decide (1000 < l0_1.length) = true := decide_eq_true (by omega)
        clear c7
        have H' := Aside0.mk H
        clear H
        have hcz8_0 : w4.cell? ⟨gb222, 0, none⟩ = some (.slice A0_0 l0_0.length c0_0) := (blk_cell BK222.out 0).trans rfl
        have hcz8_1 : w4.cell? ⟨gb222, 1, none⟩ = some (.slice A0_1 l0_1.length c0_1) := (blk_cell BK222.out 1).trans rfl
        have hfz8_0 := blk_frozen BK222.out 0
        have hfz8_1 := blk_frozen BK222.out 1
        go_wp2
        go_meet
        case rel => exact ⟨_, (true), (by first | rfl | (simp; done) | (simp [*]; done)), H', ⟨by first | omega | exact Nat.le_refl _⟩, ⟨by (with_reducible repeat (first | refine blk_drewN ?_ _ | refine blk_drew ?_ | refine blk_alloc ?_ _)); exact BK222.out⟩, ⟨by repeat (first | (with_reducible first | exact HB.out | apply below_alloc | apply pw_below_drewN | apply below_drew1 | refine below_set ?_ GE222.out) | exact HB.out)⟩⟩
      · rw [if_neg c7] at H
        have c7b0 : decide (1000 < (l0_1.length : Int)) = false := decide_eq_false c7
        have c7b1 : decide (1000 < l0_1.length) = false := decide_eq_false (by omega)
        clear c7
        have H' := Aside0.mk H
        clear H
        have hcz9_0 : w4.cell? ⟨gb222, 0, none⟩ = some (.slice A0_0 l0_0.length c0_0) := (blk_cell BK222.out 0).trans rfl
        have hcz9_1 : w4.cell? ⟨gb222, 1, none⟩ = some (.slice A0_1 l0_1.length c0_1) := (blk_cell BK222.out 1).trans rfl
        have hfz9_0 := blk_frozen BK222.out 0
        have hfz9_1 := blk_frozen BK222.out 1
        go_wp2
        go_meet
        case rel => exact ⟨_, (decide ((l1.length : Int) > 1000)), (by first | rfl | (simp; done) | (simp [*]; done)), H', ⟨by first | omega | exact Nat.le_refl _⟩, ⟨by (with_reducible repeat (first | refine blk_drewN ?_ _ | refine blk_drew ?_ | refine blk_alloc ?_ _)); exact BK222.out⟩, ⟨by repeat (first | (with_reducible first | exact HB.out | apply below_alloc | apply pw_below_drewN | apply below_drew1 | refine below_set ?_ GE222.out) | exact HB.out)⟩⟩
  case rest =>
    clear HC3
    try clear c1
    try clear p2
    try clear c5
    try clear c5b0
    try clear c5b1
    try clear c7
    try clear c7b0
    try clear c7b1
    try clear hcz6_0
    try clear hcz6_1
    try clear hcz8_0
    try clear hcz8_1
    try clear hcz9_0
    try clear hcz9_1
    try clear hfz6_0
    try clear hfz6_1
    try clear hfz8_0
    try clear hfz8_1
    try clear hfz9_0
    try clear hfz9_1
    obtain ⟨kq, x20_2, rfl, HA, HJ2, BK222, HB⟩ := hcut
    cases kq with
    | zero => exact absurd HA.out (by simp [malthouselaw08_fair.j0])
    | succ kj2 =>
      have H := HA.out
      clear HA
      simp only [malthouselaw08_fair.j0] at H
      by_cases c10 : x20_2 = true
      · subst c10
        have H1 : (some false) = some r := by rw [if_pos rfl] at H; exact H
        clear H
        have H := H1
        clear H1
        obtain rfl := Option.some.inj H
        go_wp2
        go_ret
        exact ⟨by first | rfl | (simp [errW_none, errW_some] <;> rfl) | (simp [*, errW_none, errW_some] <;> rfl), by repeat (first | (with_reducible first | exact HB.out | apply below_alloc | apply pw_below_drewN | apply below_drew1 | refine below_set ?_ GE222.out) | exact HB.out)⟩
      · replace c10 := Bool.eq_false_iff.mpr c10
        subst c10
        have H1 : (malthouselaw08_fair.l0 kj2 l1 0) = some r := by rw [if_neg (show ¬ (false = true) by decide)] at H; exact H
        clear H
        have H := H1
        clear H1
        have H' := Aside0.mk H
        clear H
        go_wp2
        go_loopg [5] kj2 (fun kq v5 w' => ∃ (x5_2 : Int), v5 = .int .i64 x5_2 ∧ Aside0 (malthouselaw08_fair.l0 kq l1 x5_2 = some r) ∧ Aside0 (kq ≤ kj2) ∧ Aside0 (w'.heap[gb222]? = some (.cells #[(.slice A0_0 l0_0.length c0_0), (.slice A0_1 l0_1.length c0_1)] 28 (0, 0))) ∧ Aside0 (Below w.heap.size w w'))
        case atStart => exact ⟨(0), (by first | rfl | (simp; done) | (simp [*]; done)), H', ⟨Nat.le_refl _⟩, ⟨by (with_reducible repeat (first | refine blk_drewN ?_ _ | refine blk_drew ?_ | refine blk_alloc ?_ _)); exact BK222.out⟩, ⟨by repeat (first | (with_reducible first | exact HB.out | apply below_alloc | apply pw_below_drewN | apply below_drew1 | refine below_set ?_ GE222.out) | exact HB.out)⟩⟩
        case round =>
          clear H'
          try clear c1
          try clear p2
          try clear c5
          try clear c5b0
          try clear c5b1
          try clear c7
          try clear c7b0
          try clear c7b1
          try clear c10
          try clear hcz6_0
          try clear hcz6_1
          try clear hcz8_0
          try clear hcz8_1
          try clear hcz9_0
          try clear hcz9_1
          try clear hfz6_0
          try clear hfz6_1
          try clear hfz8_0
          try clear hfz8_1
          try clear hfz9_0
          try clear hfz9_1
          try clear p2
          obtain ⟨x5_2, rfl, HA, HK2, BK222, HB⟩ := hrel
          cases gk with
          | zero => exact absurd HA.out (by simp [malthouselaw08_fair.l0])
          | succ k2 =>
            have H := HA.out
            clear HA
            simp only [malthouselaw08_fair.l0] at H
            by_cases c11 : x5_2 < (l1.length : Int)
            · rw [if_pos c11] at H
              have c11b0 : decide (x5_2 < (l1.length : Int)) = true := decide_eq_true c11
              clear c11
              by_cases c12 : 0 ≤ x5_2
              · rw [if_pos c12] at H
                have c12b0 : decide (0 ≤ x5_2) = true := decide_eq_true c12
                clear c12
                by_cases c13 : (((rd_T46 l1 x5_2).f0).size : Int) > 200
                · rw [if_pos c13] at H
                  have c13b0 : decide (200 < (((rd_T46 l1 x5_2).f0).size : Int)) = true := decide_eq_true c13
                  have c13b1 : decide (200 < ((rd_T46 l1 x5_2).f0).size) = true := decide_eq_true (by omega)
                  clear c13
                  obtain rfl := Option.some.inj H
                  have p223 : 0 ≤ (x5_2 : Int) := of_decide_eq_true (by first | (with_reducible assumption) | assumption)
                  have q223 : x5_2 < (l1.length : Int) := of_decide_eq_true (by first | (with_reducible assumption) | assumption)
                  obtain ⟨ad223, e223, hx223_0, hx223_1⟩ := at_T46 HR1.out x5_2 p223 q223
                  cases e223
                  replace hx223_0 := (HB.out.cell (World.block_lt_of_cell? w _ hx223_0)).trans hx223_0
                  replace hx223_1 := (HB.out.cell (World.block_lt_of_cell? w _ hx223_1)).trans hx223_1
                  replace p223 := eq_true p223
                  replace q223 := eq_true q223
                  go_wp2
                  go_ret
                  exact ⟨by first | rfl | (simp [errW_none, errW_some] <;> rfl) | (simp [*, errW_none, errW_some] <;> rfl), by repeat (first | (with_reducible first | exact HB.out | apply below_alloc | apply pw_below_drewN | apply below_drew1 | refine below_set ?_ GE222.out) | exact HB.out)⟩
                · rw [if_neg c13] at H
                  have c13b0 : decide (200 < (((rd_T46 l1 x5_2).f0).size : Int)) = false := decide_eq_false c13
                  have c13b1 : decide (200 < ((rd_T46 l1 x5_2).f0).size) = false := decide_eq_false (by omega)
                  clear c13
                  have H' := Aside0.mk H
                  clear H
                  have p223 : 0 ≤ (x5_2 : Int) := of_decide_eq_true (by first | (with_reducible assumption) | assumption)
                  have q223 : x5_2 < (l1.length : Int) := of_decide_eq_true (by first | (with_reducible assumption) | assumption)
                  obtain ⟨ad223, e223, hx223_0, hx223_1⟩ := at_T46 HR1.out x5_2 p223 q223
                  cases e223
                  replace hx223_0 := (HB.out.cell (World.block_lt_of_cell? w _ hx223_0)).trans hx223_0
                  replace hx223_1 := (HB.out.cell (World.block_lt_of_cell? w _ hx223_1)).trans hx223_1
                  replace p223 := eq_true p223
                  replace q223 := eq_true q223
                  go_wp2
                  go_roundg k2
                  case measure => have := HJ2.out; have := HK2.out; omega
                  case rel => exact ⟨(wrap64 (x5_2 + 1)), (by first | rfl | (simp; done) | (simp [*]; done)), H', ⟨by have := HJ2.out; have := HK2.out; omega⟩, ⟨by (with_reducible repeat (first | refine blk_drewN ?_ _ | refine blk_drew ?_ | refine blk_alloc ?_ _)); exact BK222.out⟩, ⟨by repeat (first | (with_reducible first | exact HB.out | apply below_alloc | apply pw_below_drewN | apply below_drew1 | refine below_set ?_ GE222.out) | exact HB.out)⟩⟩
              · rw [if_neg c12] at H
                exact absurd H (by simp)
            · rw [if_neg c11] at H
              have c11b0 : decide (x5_2 < (l1.length : Int)) = false := decide_eq_false c11
              clear c11
              obtain rfl := Option.some.inj H
              go_wp2
              go_ret
              exact ⟨by first | rfl | (simp [errW_none, errW_some] <;> rfl) | (simp [*, errW_none, errW_some] <;> rfl), by repeat (first | (with_reducible first | exact HB.out | apply below_alloc | apply pw_below_drewN | apply below_drew1 | refine below_set ?_ GE222.out) | exact HB.out)⟩
end Go.Proofs.YtbmdhmmahmdccaaDoor.Print
/-! ### Print1 -/
namespace Go.Proofs.YtbmdhmmahmdccaaDoor.Print
open Go.RowKit Go.Proofs.YtbmdhmmahmdccaaDoorW.PrintWords Go.Proofs.YtbmdhmmahmdccaaDoorW.PrintLast Go.Proofs.YtbmdhmmahmdccaaDoorW.PrintMore
attribute [local go_sem] max2_int min2_int max_two min_two
set_option linter.unusedVariables false
set_option linter.unusedSimpArgs false
theorem eqA46 (d : Nat) (w : World) (x0 y0 : ByteArray) (x1 y1 : Int) :
    (Op.equalIn (d + 2) 46 (.agg #[.string x0, .int .i64 x1]) (.agg #[.string y0, .int .i64 y1])).run Tryd.prog w = .ok (x0.toList == y0.toList && (x1 == y1)) w := by
  refine eqA_of Tryd.underlying46 (by kernel_rfl) ?_
  refine eqf_cons (by rfl) (by go_simp; rfl) (by go_simp; rfl) (by go_simp) ?_
  exact eqf_last (by rfl) (by go_simp; rfl) (by go_simp; rfl) (by go_simp)
end Go.Proofs.YtbmdhmmahmdccaaDoor.Print
/-! ### ERefRight -/
namespace Go.Proofs.YtbmdhmmahmdccaaDoor.Print
open Go.RowKit Go.Proofs.YtbmdhmmahmdccaaDoorW.PrintWords Go.Proofs.YtbmdhmmahmdccaaDoorW.PrintLast Go.Proofs.YtbmdhmmahmdccaaDoorW.PrintMore
set_option linter.unusedSimpArgs false
set_option linter.unusedVariables false
def malthouseref08_Right.f (l0 : List S48) (l1_0 : List Int) (l1_1 : List Bool) : Option Bool := if okTags l0 ∧ l1_0.length ≤ 1000000000 ∧ l1_1.length ≤ 1000000000 then some (rightB l0 l1_0 l1_1) else none
set_option maxHeartbeats 8000000 in
set_option maxRecDepth 100000 in
theorem malthouseref08_Right.calls (A0 : Option Addr) (c0 : Nat) (l0 : List S48) (A1_0 : Option Addr) (c1_0 : Nat) (l1_0 : List Int) (A1_1 : Option Addr) (c1_1 : Nat) (l1_1 : List Bool) (r : Bool) (w : World) (hr0 : Kd.C k48 w A0 l0.length l0) (hc0 : l0.length ≤ c0) (hr1_0 : Kd.C (Kd.int .i64) w A1_0 l1_0.length l1_0) (hc1_0 : l1_0.length ≤ c1_0) (hr1_1 : Kd.C Kd.bool w A1_1 l1_1.length l1_1) (hc1_1 : l1_1.length ≤ c1_1) (h : malthouseref08_Right.f l0 l1_0 l1_1 = some r) :
    Calls Tryd.prog 28 #[.slice A0 l0.length c0, .agg #[.slice A1_0 l1_0.length c1_0, .slice A1_1 l1_1.length c1_1]] w fun e w' => e = .returned (.bool r) ∧ Below w.heap.size w w' := by
  unfold malthouseref08_Right.f at h
  split at h
  case isFalse => cases h
  rename_i hok
  obtain ⟨hok, hl0, hl1⟩ := hok
  obtain rfl := Option.some.inj h
  clear h
  obtain ⟨V, hV⟩ : ∃ V, V = rightB l0 l1_0 l1_1 := ⟨_, rfl⟩
  rw [← hV]
  have HV := Lib.hid hV
  have HR := Lib.hid hr0
  have HR0 := Lib.hid hr1_0
  have HR1 := Lib.hid hr1_1
  have HOK := Lib.hid hok
  have hll := hok.1
  have hu := Tryd.underlying48
  have hu2 := Tryd.underlying28
  clear hV hr0 hr1_0 hr1_1 hok
  have HB0 := Lib.hid (show Below w.heap.size w (w.alloc (.cells #[.slice A1_0 l1_0.length c1_0, .slice A1_1 l1_1.length c1_1] 28)) from (Below.refl _ _).alloc (Nat.le_refl _) _)
  have HX0 := Lib.hid (heap_alloc_new w (.cells #[.slice A1_0 l1_0.length c1_0, .slice A1_1 l1_1.length c1_1] 28))
  obtain ⟨ch, hch⟩ : ∃ ch, ch = checkZ l0 := ⟨_, rfl⟩
  have HCH := Lib.hid hch
  clear hch
  have hcheck : ∀ W, Below w.heap.size w W → Calls Tryd.prog 15 #[.slice A0 l0.length c0] W fun e w' => e = .returned (.int .i64 ch) ∧ Below W.heap.size W w' := fun W hb => by
    rw [HCH.out]
    exact malthouseref08_Check.calls (3 * l0.length + longest l0 + 21) A0 c0 l0 (checkZ l0) W (Kd.C_below HR.out hb) hc0 (ref_check_is l0 HOK.out _ (by omega))
  have HC := Lib.hid hcheck
  clear hcheck
  by_cases h1 : ch = 0
  · by_cases h2 : l1_0.length = l0.length
    · by_cases h3 : l1_1.length = l0.length
      · have hv := HV.out
        unfold rightB at hv
        rw [← HCH.out, h1, h2, h3] at hv
        simp only [beq_self_eq_true, Bool.true_and] at hv
        have HV1 := Lib.hid hv
        have HC1 := Lib.hid (show ∀ t ∈ l0, t.f2 ≤ t.f3 from fun t ht => by obtain ⟨j, hj, rfl⟩ := List.getElem_of_mem ht; exact ((check_ok (l := l0) (by rw [← HCH.out]; exact h1)).2 j hj).1)
        have HH2 := Lib.hid h2
        have HH3 := Lib.hid h3
        rw [h2, h3] at HB0 HX0 ⊢
        subst h1
        clear HV hv h2 h3
        generalize hm : l0.length = m at *
        have HM := Lib.hid hm
        clear hm
        go_enter Tryd.func28, Tryd.ntmps28
        go_wp2_with (go_at_call 15; refine (HC.out _ HB0.out).mono ?_; rintro e w1 ⟨rfl, hb1⟩; have HX1 := Lib.hid ((hb1.block _ (by simp)).trans HX0.out); have HB1 := Lib.hid (below_then HB0.out HB0.out.size hb1); clear hb1; have d0 : w1.cell? ⟨w.heap.size, 0, none⟩ = some (.slice A1_0 m c1_0) := (cell_of_row w1 w.heap.size 0 _ _ _ HX1.out).trans rfl; have d1 : w1.cell? ⟨w.heap.size, 1, none⟩ = some (.slice A1_1 m c1_1) := (cell_of_row w1 w.heap.size 1 _ _ _ HX1.out).trans rfl)
        clear d0 d1
        go_loopw [5] (fun i wr => ∃ k : Nat, k ≤ m ∧ i = .int .i64 k ∧ Hid (V = rightFrom l0 l1_0 l1_1 (m - k) k) ∧ Hid (wr.heap[w.heap.size]? = some (.cells #[.slice A1_0 m c1_0, .slice A1_1 m c1_1] 28 (0, 0))) ∧ Hid (Below w.heap.size w wr)) (fun i _ => m - (intOf i).toNat)
        case atStart => exact ⟨0, by omega, rfl, HV1, HX1, HB1⟩
        case round =>
          obtain ⟨k, hk, rfl, hv, hx, hbw⟩ := hrel
          clear HX1 HB1
          by_cases hlt : k < m
          · have hlt' : (k : Int) < m := by omega
            have hk0 : (0 : Int) ≤ k := by omega
            have hbel : Below w.heap.size w wr := hbw.out
            obtain ⟨ad, cs, rfl, _, hK, hcs⟩ := Kd.C_cells (Kd.C_below HR.out hbel) k (by rw [HM.out]; exact hlt)
            obtain rfl := k48_open hK
            obtain ⟨a0, rfl, hi0⟩ := Kd.int_at (Kd.C_below HR0.out hbel) k (by rw [HH2.out]; exact hlt)
            obtain ⟨a1, rfl, hi1⟩ := Kd.bool_at (Kd.C_below HR1.out hbel) k (by rw [HH3.out]; exact hlt)
            have hn := rightFrom_next l0 l1_0 l1_1 m k HM.out hlt
            have hv' := hv.out
            rw [hn] at hv'
            have HV2 := Lib.hid hv'
            have HCS := Lib.hid (show CellsAt wr (ad.add (k * 4)) _ from hcs)
            have HI0 := Lib.hid hi0
            have HI1 := Lib.hid hi1
            have HX := Lib.hid hx.out
            clear hcs hK hn hv hv' hi0 hi1 hx hbel
            have hlohi := HC1.out (l0[k]'(by rw [HM.out]; exact hlt)) (List.getElem_mem _)
            generalize l0[k]'(by rw [HM.out]; exact hlt) = t at *
            generalize l1_0.getD k 0 = v at *
            generalize l1_1.getD k false = bd at *
            have HLH := Lib.hid hlohi
            clear hlohi
            go_wp2
            refine L.grow_start [] 30 ((0, true, false) :: (1, true, false) :: (2, true, false) :: (3, true, false) :: (4, true, false) :: (5, true, false) :: (6, true, false) :: (7, true, false) :: (8, true, false) :: (10, true, false) :: (11, true, false) :: (12, true, false) :: (13, true, false) :: (14, true, false) :: (9, false, true) :: (15, true, true) :: (16, true, true) :: (17, true, false) :: (18, true, true) :: (19, true, true) :: (20, true, true) :: (21, true, true) :: (22, true, true) :: (23, true, false) :: (24, true, false) :: (25, true, true) :: (26, true, true) :: (27, true, true) :: (28, true, true) :: (29, true, true) :: []) (by kernel_rfl) (([], [0], some 31) :: ([], [5], some 32) :: ([0, 1], [31, 32], some 33) :: ([2], [33], some 34) :: ([], [3], some 35) :: ([4], [35], some 36) :: ([], [5], some 37) :: ([5, 6], [36, 37], some 38) :: ([7], [38], some 39) :: ([3, 8], [34, 39], some 40) :: ([], [3], some 41) :: ([10], [41], some 42) :: ([], [5], some 43) :: ([11, 12], [42, 43], some 44) :: ([13], [44], some 45) :: ([9, 14], [40, 45], some 46) :: ([15, 9], [46], some 47) :: ([16], [0, 47], some 48) :: ([16], [5, 47], some 49) :: ([17, 18, 16], [48, 49, 47], some 50) :: ([19, 16], [50, 47], some 51) :: ([20, 16], [51, 47], some 52) :: ([21, 16, 16], [52, 47], some 53) :: ([22], [3, 53], some 54) :: ([23, 22], [54, 53], some 55) :: ([22], [5, 53], some 56) :: ([24, 25, 22], [55, 56, 53], some 57) :: ([26, 22], [57, 53], some 58) :: ([22, 27, 16], [53, 58, 47], some 59) :: ([16, 28], [47, 59], some 60) :: []) (by kernel_rfl) (by kernel_rfl) (n := 30) rfl (by kernel_rfl) (fun _ _ _ _ _ h => h) (fun wg hog => ?_)
            refine L.growe_start (N := 61) (by rfl) ?_
            have e0 : ∀ w', Only [] wg w' → w'.cell? ⟨w.heap.size, 0, none⟩ = some (.slice (some a0) m c1_0) := fun w' q => (cell_of_row w' w.heap.size 0 _ _ _ ((hog.trans q).heap HX.out (by simp))).trans rfl
            have e1 : ∀ w', Only [] wg w' → w'.cell? ⟨w.heap.size, 1, none⟩ = some (.slice (some a1) m c1_1) := fun w' q => (cell_of_row w' w.heap.size 1 _ _ _ ((hog.trans q).heap HX.out (by simp))).trans rfl
            have f0 : ∀ w', Only [] wg w' → w'.cell? (ad.add (k * 4)) = some (.string t.f0) := fun w' q => cellsAt_head (HCS.out.only (hog.trans q) (by simp)) rfl
            have f1 : ∀ w', Only [] wg w' → w'.cell? ⟨(ad.add (k * 4)).block, (ad.add (k * 4)).off + 1, none⟩ = some (.bool t.f1) := fun w' q => cellsAt_field (HCS.out.only (hog.trans q) (by simp)) 1 (by omega) rfl
            have f2 : ∀ w', Only [] wg w' → w'.cell? ⟨(ad.add (k * 4)).block, (ad.add (k * 4)).off + 2, none⟩ = some (.int .i64 t.f2) := fun w' q => cellsAt_field (HCS.out.only (hog.trans q) (by simp)) 2 (by omega) rfl
            have f3 : ∀ w', Only [] wg w' → w'.cell? ⟨(ad.add (k * 4)).block, (ad.add (k * 4)).off + 3, none⟩ = some (.int .i64 t.f3) := fun w' q => cellsAt_field (HCS.out.only (hog.trans q) (by simp)) 3 (by omega) rfl
            have g0 : ∀ w', Only [] wg w' → w'.cell? (a0.add k) = some (.int .i64 v) := fun w' q => (hog.trans q).cell HI0.out (by simp)
            have g1 : ∀ w', Only [] wg w' → w'.cell? (a1.add k) = some (.bool bd) := fun w' q => (hog.trans q).cell HI1.out (by simp)
            have HOG := Lib.hid hog
            clear hog
            iterate 14 (first | (refine L.ge_off rfl rfl rfl (by rfl) ?_) | (refine L.ge_move rfl rfl rfl (by rfl) rfl (by simp [L.evE, L.lk, Act.eval]; rfl) ?_) | (refine L.ge_pick rfl rfl rfl (by rfl) rfl (by simp [L.evE, L.lk, Act.eval]; rfl) (by simp [L.evE, L.lk, Act.eval]; rfl) ?_) | (refine L.ge_val rfl rfl rfl (by rfl) (by intro w' hw'; simp [execOp, L.evE, L.lk, Act.eval]; go_simp; rfl) ?_))
            refine L.ge_call rfl rfl rfl (by rfl) rfl (by simp [L.evE, L.lk, Act.eval]; rfl) (by go_simp) ?_
            obtain ⟨y, hy⟩ : ∃ y, y = nearT t v := ⟨_, rfl⟩
            have HY := Lib.hid hy
            refine (malthouseref08_Near.calls t.f0 t.f1 t.f2 t.f3 v y wg (by rw [hy]; exact near_is HLH.out v)).mono ?_
            clear hy
            rintro e w3 ⟨rfl, hb3⟩
            refine ⟨_, rfl, Only.of_below hb3, ?_⟩
            have HO3 := Lib.hid (Only.of_below hb3)
            have e0 : ∀ w', Only [] w3 w' → w'.cell? ⟨w.heap.size, 0, none⟩ = some (.slice (some a0) m c1_0) := fun w' q => e0 w' (HO3.out.trans q)
            have e1 : ∀ w', Only [] w3 w' → w'.cell? ⟨w.heap.size, 1, none⟩ = some (.slice (some a1) m c1_1) := fun w' q => e1 w' (HO3.out.trans q)
            have f1 : ∀ w', Only [] w3 w' → w'.cell? ⟨(ad.add (k * 4)).block, (ad.add (k * 4)).off + 1, none⟩ = some (.bool t.f1) := fun w' q => f1 w' (HO3.out.trans q)
            have g0 : ∀ w', Only [] w3 w' → w'.cell? (a0.add k) = some (.int .i64 v) := fun w' q => g0 w' (HO3.out.trans q)
            have g1 : ∀ w', Only [] w3 w' → w'.cell? (a1.add k) = some (.bool bd) := fun w' q => g1 w' (HO3.out.trans q)
            have HB3 := Lib.hid (below_then hbw.out hbw.out.size (HOG.out.trans HO3.out).nil_below)
            have HX3 := Lib.hid ((HOG.out.trans HO3.out).heap HX.out (by simp))
            clear hb3
            have hra : rightAt t v bd = (!(y != v) && !(t.f1 && bd)) := by
              unfold rightAt
              rw [HY.out]
              simp [bne]
            have hv2 := HV2.out
            rw [hra] at hv2
            have HV3 := Lib.hid hv2
            clear HV2 hv2 hra HY HCS
            generalize ht1 : t.f1 = o at *
            clear ht1
            cases hyb : (y != v) <;> cases o <;> cases bd
            all_goals
              iterate 15 (first | (refine L.ge_off rfl rfl rfl (by rfl) ?_) | (refine L.ge_move rfl rfl rfl (by rfl) rfl (by simp [L.evE, L.lk, Act.eval]; rfl) ?_) | (refine L.ge_pick rfl rfl rfl (by rfl) rfl (by simp [L.evE, L.lk, Act.eval]; rfl) (by simp [L.evE, L.lk, Act.eval]; rfl) ?_) | (refine L.ge_val rfl rfl rfl (by rfl) (by intro w' hw'; simp [execOp, L.evE, L.lk, Act.eval]; go_simp; rfl) ?_))
              refine L.ge_done ?_
              simp only [L.puts, Act.put, goInt, List.setIfInBounds_toArray, List.set_cons_zero, List.set_cons_succ]
              have hv3 := HV3.out
              rw [hyb] at hv3
              simp only [Bool.not_true, Bool.not_false, Bool.and_true, Bool.and_false, Bool.true_and, Bool.false_and] at hv3
              have HV4 := Lib.hid hv3
              clear HV3 hv3
              go_wp2
              first
                | (go_roundw
                   case rel => exact ⟨k + 1, by omega, by go_num, HV4, HX3, HB3⟩
                   case measure => simp [intOf]; omega)
                | (go_ret
                   exact ⟨by rw [HV4.out]; rfl, HB3.out⟩)
          · obtain rfl : k = m := by omega
            have hv' := hv.out
            rw [Nat.sub_self] at hv'
            have HV2 := Lib.hid hv'
            clear hv hv'
            go_wp2
            go_ret
            exact ⟨by rw [HV2.out]; rfl, hbw.out⟩
      · have hv := HV.out
        unfold rightB at hv
        have hb3 : (l1_1.length == l0.length) = false := by simpa using h3
        have hb3' : ((l1_1.length : Int) != l0.length) = true := by rw [bne_iff_ne]; omega
        rw [hb3, Bool.and_false, Bool.false_and] at hv
        have HV1 := Lib.hid hv
        have HH2 := Lib.hid h2
        have hb2' : ((l1_0.length : Int) != l0.length) = false := by rw [bne_eq_false_iff_eq]; omega
        have HC1 := Lib.hid h1
        subst h1
        clear HV hv h2 h3 hb3
        go_enter Tryd.func28, Tryd.ntmps28
        go_wp2_with (go_at_call 15; refine (HC.out _ HB0.out).mono ?_; rintro e w1 ⟨rfl, hb1⟩; have HX1 := Lib.hid ((hb1.block _ (by simp)).trans HX0.out); have HB1 := Lib.hid (below_then HB0.out HB0.out.size hb1); clear hb1; have d0 : w1.cell? ⟨w.heap.size, 0, none⟩ = some (.slice A1_0 l1_0.length c1_0) := (cell_of_row w1 w.heap.size 0 _ _ _ HX1.out).trans rfl; have d1 : w1.cell? ⟨w.heap.size, 1, none⟩ = some (.slice A1_1 l1_1.length c1_1) := (cell_of_row w1 w.heap.size 1 _ _ _ HX1.out).trans rfl)
        go_ret
        exact ⟨by rw [HV1.out]; rfl, HB1.out⟩
    · have hv := HV.out
      unfold rightB at hv
      have hb2 : (l1_0.length == l0.length) = false := by simpa using h2
      have hb2' : ((l1_0.length : Int) != l0.length) = true := by rw [bne_iff_ne]; omega
      rw [hb2, Bool.and_false, Bool.false_and, Bool.false_and] at hv
      have HV1 := Lib.hid hv
      subst h1
      clear HV hv h2 hb2
      go_enter Tryd.func28, Tryd.ntmps28
      go_wp2_with (go_at_call 15; refine (HC.out _ HB0.out).mono ?_; rintro e w1 ⟨rfl, hb1⟩; have HX1 := Lib.hid ((hb1.block _ (by simp)).trans HX0.out); have HB1 := Lib.hid (below_then HB0.out HB0.out.size hb1); clear hb1; have d0 : w1.cell? ⟨w.heap.size, 0, none⟩ = some (.slice A1_0 l1_0.length c1_0) := (cell_of_row w1 w.heap.size 0 _ _ _ HX1.out).trans rfl; have d1 : w1.cell? ⟨w.heap.size, 1, none⟩ = some (.slice A1_1 l1_1.length c1_1) := (cell_of_row w1 w.heap.size 1 _ _ _ HX1.out).trans rfl)
      go_ret
      exact ⟨by rw [HV1.out]; rfl, HB1.out⟩
  · have hv := HV.out
    unfold rightB at hv
    have hb1 : (checkZ l0 == 0) = false := by rw [← HCH.out]; simpa using h1
    have hb1' : (ch != 0) = true := by simpa using h1
    rw [hb1, Bool.false_and, Bool.false_and, Bool.false_and] at hv
    have HV1 := Lib.hid hv
    clear HV hv h1 hb1
    go_enter Tryd.func28, Tryd.ntmps28
    go_wp2_with (go_at_call 15; refine (HC.out _ HB0.out).mono ?_; rintro e w1 ⟨rfl, hb1⟩; have HB1 := Lib.hid (below_then HB0.out HB0.out.size hb1); clear hb1)
    go_ret
    exact ⟨by rw [HV1.out]; rfl, HB1.out⟩
end Go.Proofs.YtbmdhmmahmdccaaDoor.Print
