import Derived.Test.YtbmdhmmahmdccaaDoorMTagsApart2
import Derived.Below
import Derived.ChangeOld
import Derived.LaidLaws
import Derived.LaidOnce
import Derived.Lay
import Derived.Lib.LaidU8T
import Derived.OpenShut
import Derived.PinnedBridge
import Derived.ProofKit
import Derived.SevenTiedAt
import Derived.Shelf.Lay
import Derived.ShutString
import Derived.SizedLaws
import Derived.Test.YtbmdhmmahmdccaaDoorCards
import Derived.Test.YtbmdhmmahmdccaaDoorProg
import Derived.Test.YtbmdhmmahmdccaaDoorRows
import Derived.Test.YtbmdhmmahmdccaaDoorTie
import Derived.WalkKit
set_option linter.unusedVariables false
set_option linter.unusedSimpArgs false
/-! ### Print17 -/
namespace Go.Proofs.YtbmdhmmahmdccaaDoor.Print
open Go.RowKit Go.Proofs.YtbmdhmmahmdccaaDoorW.PrintWords Go.Proofs.YtbmdhmmahmdccaaDoorW.PrintLast Go.Proofs.YtbmdhmmahmdccaaDoorW.PrintMore
attribute [local go_sem] max2_int min2_int max_two min_two
set_option linter.unusedVariables false
set_option linter.unusedSimpArgs false
mutual
def malthouselaw08_TagsApart.j0 : Nat → List (S48) → Bool → Bool → List Int → List Bool → ByteArray → Int → ByteArray → Int → Option (Bool)
  | 0, _, _, _, _, _, _, _, _, _ => none
  | k + 1, x0, x9, x42, x332000, x332001, x333000, x333001, x334000, x334001 => if x42 = true then (some x9) else ((tags_Latch.f x0 x332000 x332001 (([(⟨x333000, x333001⟩ : S46), (⟨x334000, x334001⟩ : S46)] : List (S46)))).bind fun bt343 => ((tags_Latch.f x0 x332000 x332001 (([(⟨x334000, x334001⟩ : S46), (⟨x333000, x333001⟩ : S46)] : List (S46)))).bind fun bt354 => ((malthouseref08_Same.f k bt343.1 bt343.2.1 bt354.1 bt354.2.1).bind fun t362 => (if t362 = true then (malthouselaw08_TagsApart.j1 k x0 bt343.2.2 (bt343.2.2 != bt354.2.2) x332000 x332001 x333000 x333001 x334000 x334001 bt343.1 bt343.2.1) else (malthouselaw08_TagsApart.j1 k x0 bt343.2.2 true x332000 x332001 x333000 x333001 x334000 x334001 bt343.1 bt343.2.1)))))
def malthouselaw08_TagsApart.j1 : Nat → List (S48) → Int → Bool → List Int → List Bool → ByteArray → Int → ByteArray → Int → List Int → List Bool → Option (Bool)
  | 0, _, _, _, _, _, _, _, _, _, _, _ => none
  | k + 1, x0, x13, x71, x332000, x332001, x333000, x333001, x334000, x334001, x351000, x351001 => if x71 = true then (some false) else (if x13 = 0 then (malthouselaw08_TagsApart.l0 k x0 0 x332000 x332001 x333000 x333001 x334000 x334001 x351000 x351001) else (some ((x351000.length : Int) == 0)))
def malthouselaw08_TagsApart.l0 : Nat → List (S48) → Int → List Int → List Bool → ByteArray → Int → ByteArray → Int → List Int → List Bool → Option (Bool)
  | 0, _, _, _, _, _, _, _, _, _, _ => none
  | k + 1, x0, x17, x332000, x332001, x333000, x333001, x334000, x334001, x351000, x351001 => if x17 < (x0.length : Int) then (if 0 ≤ x17 then (if ((rd_T48 x0 x17).f0).toList = x333000.toList then (malthouselaw08_TagsApart.l0 k x0 (wrap64 (x17 + 1)) x332000 x332001 x333000 x333001 x334000 x334001 x351000 x351001) else (if ((rd_T48 x0 x17).f0).toList = x334000.toList then (malthouselaw08_TagsApart.l0 k x0 (wrap64 (x17 + 1)) x332000 x332001 x333000 x333001 x334000 x334001 x351000 x351001) else (if x17 < (x351000.length : Int) then (if x17 < (x332000.length : Int) then (if (rd x351000 x17) = (rd x332000 x17) then (if x17 < (x351001.length : Int) then (if x17 < (x332001.length : Int) then (if ((rdOf false x351001 x17) != (rdOf false x332001 x17)) = true then (some false) else (malthouselaw08_TagsApart.l0 k x0 (wrap64 (x17 + 1)) x332000 x332001 x333000 x333001 x334000 x334001 x351000 x351001)) else (none)) else (none)) else (some false)) else (none)) else (none)))) else (none)) else (some true)
end
def malthouselaw08_TagsApart.f (k : Nat) (l0 : List (S48)) (l1_0 : List Int) (l1_1 : List Bool) (a2_0 : ByteArray) (a2_1 : Int) (a3_0 : ByteArray) (a3_1 : Int) : Option (Bool) := (malthouselaw08_awake.f).bind fun t334 => ((malthouselaw08_small.f k l0).bind fun t335 => ((malthouselaw08_fair.f k l1_0 l1_1 (([(⟨a2_0, a2_1⟩ : S46), (⟨a3_0, a3_1⟩ : S46)] : List (S46)))).bind fun t339 => (if t334 = true then (if t335 = true then (if t339 = true then (malthouselaw08_TagsApart.j0 k l0 t334 (a2_0.toList == a3_0.toList) l1_0 l1_1 a2_0 a2_1 a3_0 a3_1) else (malthouselaw08_TagsApart.j0 k l0 t334 true l1_0 l1_1 a2_0 a2_1 a3_0 a3_1)) else (malthouselaw08_TagsApart.j0 k l0 t334 true l1_0 l1_1 a2_0 a2_1 a3_0 a3_1)) else (malthouselaw08_TagsApart.j0 k l0 t334 true l1_0 l1_1 a2_0 a2_1 a3_0 a3_1))))
set_option maxHeartbeats 8000000 in
set_option maxRecDepth 100000 in
theorem malthouselaw08_TagsApart.calls (k : Nat) (A0 : Option Addr) (c0 : Nat) (l0 : List (S48)) (A1_0 : Option Addr) (c1_0 : Nat) (l1_0 : List Int) (A1_1 : Option Addr) (c1_1 : Nat) (l1_1 : List Bool) (a2_0 : ByteArray) (a2_1 : Int) (a3_0 : ByteArray) (a3_1 : Int) (r : Bool) (w : World) (hr0 : Kd.C k48 w A0 l0.length l0) (hc0 : l0.length ≤ c0) (hr1_0 : Kd.C (Kd.int .i64) w A1_0 l1_0.length l1_0) (hc1_0 : l1_0.length ≤ c1_0) (hr1_1 : Kd.C Kd.bool w A1_1 l1_1.length l1_1) (hc1_1 : l1_1.length ≤ c1_1) (hT : Tabs w) (h : malthouselaw08_TagsApart.f k l0 l1_0 l1_1 a2_0 a2_1 a3_0 a3_1 = some r) :
    Calls Tryd.prog 7 #[.slice A0 l0.length c0, .agg #[.slice A1_0 l1_0.length c1_0, .slice A1_1 l1_1.length c1_1], .agg #[.string a2_0, .int .i64 a2_1], .agg #[.string a3_0, .int .i64 a3_1]] w fun e w' => e = .returned (.bool r) ∧ Below w.heap.size w w' := by
  have hu28 := Tryd.underlying28
  have hu46 := Tryd.underlying46
  have HR0 := Aside0.mk hr0
  have HC0 := Aside0.mk hc0
  clear hr0 hc0
  have HR1_0 := Aside0.mk hr1_0
  have HC1_0 := Aside0.mk hc1_0
  clear hr1_0 hc1_0
  have HR1_1 := Aside0.mk hr1_1
  have HC1_1 := Aside0.mk hc1_1
  clear hr1_1 hc1_1
  have HB := Aside0.mk (Below.refl w.heap.size w)
  have H : ((malthouselaw08_awake.f).bind fun t334 => ((malthouselaw08_small.f k l0).bind fun t335 => ((malthouselaw08_fair.f k l1_0 l1_1 (([(⟨a2_0, a2_1⟩ : S46), (⟨a3_0, a3_1⟩ : S46)] : List (S46)))).bind fun t339 => (if t334 = true then (if t335 = true then (if t339 = true then (malthouselaw08_TagsApart.j0 k l0 t334 (a2_0.toList == a3_0.toList) l1_0 l1_1 a2_0 a2_1 a3_0 a3_1) else (malthouselaw08_TagsApart.j0 k l0 t334 true l1_0 l1_1 a2_0 a2_1 a3_0 a3_1)) else (malthouselaw08_TagsApart.j0 k l0 t334 true l1_0 l1_1 a2_0 a2_1 a3_0 a3_1)) else (malthouselaw08_TagsApart.j0 k l0 t334 true l1_0 l1_1 a2_0 a2_1 a3_0 a3_1))))) = some r := h
  clear h
  replace H := Option.bind_eq_some_iff.mp H
  obtain ⟨t334, A50, H⟩ := H
  replace H : ((malthouselaw08_small.f k l0).bind fun t335 => ((malthouselaw08_fair.f k l1_0 l1_1 (([(⟨a2_0, a2_1⟩ : S46), (⟨a3_0, a3_1⟩ : S46)] : List (S46)))).bind fun t339 => (if t334 = true then (if t335 = true then (if t339 = true then (malthouselaw08_TagsApart.j0 k l0 t334 (a2_0.toList == a3_0.toList) l1_0 l1_1 a2_0 a2_1 a3_0 a3_1) else (malthouselaw08_TagsApart.j0 k l0 t334 true l1_0 l1_1 a2_0 a2_1 a3_0 a3_1)) else (malthouselaw08_TagsApart.j0 k l0 t334 true l1_0 l1_1 a2_0 a2_1 a3_0 a3_1)) else (malthouselaw08_TagsApart.j0 k l0 t334 true l1_0 l1_1 a2_0 a2_1 a3_0 a3_1)))) = some r := H
  have A5 := Aside0.mk A50
  clear A50
  replace H := Option.bind_eq_some_iff.mp H
  obtain ⟨t335, A60, H⟩ := H
  replace H : ((malthouselaw08_fair.f k l1_0 l1_1 (([(⟨a2_0, a2_1⟩ : S46), (⟨a3_0, a3_1⟩ : S46)] : List (S46)))).bind fun t339 => (if t334 = true then (if t335 = true then (if t339 = true then (malthouselaw08_TagsApart.j0 k l0 t334 (a2_0.toList == a3_0.toList) l1_0 l1_1 a2_0 a2_1 a3_0 a3_1) else (malthouselaw08_TagsApart.j0 k l0 t334 true l1_0 l1_1 a2_0 a2_1 a3_0 a3_1)) else (malthouselaw08_TagsApart.j0 k l0 t334 true l1_0 l1_1 a2_0 a2_1 a3_0 a3_1)) else (malthouselaw08_TagsApart.j0 k l0 t334 true l1_0 l1_1 a2_0 a2_1 a3_0 a3_1))) = some r := H
  have A6 := Aside0.mk A60
  clear A60
  obtain ⟨y336, hy336⟩ : ∃ y_ : List (S46), y_ = (([(⟨a2_0, a2_1⟩ : S46), (⟨a3_0, a3_1⟩ : S46)] : List (S46))) := ⟨_, rfl⟩
  replace H : ((malthouselaw08_fair.f k l1_0 l1_1 y336).bind fun t339 => (if t334 = true then (if t335 = true then (if t339 = true then (malthouselaw08_TagsApart.j0 k l0 t334 (a2_0.toList == a3_0.toList) l1_0 l1_1 a2_0 a2_1 a3_0 a3_1) else (malthouselaw08_TagsApart.j0 k l0 t334 true l1_0 l1_1 a2_0 a2_1 a3_0 a3_1)) else (malthouselaw08_TagsApart.j0 k l0 t334 true l1_0 l1_1 a2_0 a2_1 a3_0 a3_1)) else (malthouselaw08_TagsApart.j0 k l0 t334 true l1_0 l1_1 a2_0 a2_1 a3_0 a3_1))) = some r := by first | (rw [hy336]; with_reducible exact H) | (have H2_ := (Option.bind_some _ _).symm.trans H; rw [hy336]; with_reducible exact H2_) | (have H2_ := (Option.bind_some _ _).symm.trans H; with_reducible exact H2_) | with_reducible exact H | (rw [hy336]; exact H) | exact H
  have Ny336 := Aside0.mk hy336
  clear hy336
  replace H := Option.bind_eq_some_iff.mp H
  obtain ⟨t339, A70, H⟩ := H
  replace H : (if t334 = true then (if t335 = true then (if t339 = true then (malthouselaw08_TagsApart.j0 k l0 t334 (a2_0.toList == a3_0.toList) l1_0 l1_1 a2_0 a2_1 a3_0 a3_1) else (malthouselaw08_TagsApart.j0 k l0 t334 true l1_0 l1_1 a2_0 a2_1 a3_0 a3_1)) else (malthouselaw08_TagsApart.j0 k l0 t334 true l1_0 l1_1 a2_0 a2_1 a3_0 a3_1)) else (malthouselaw08_TagsApart.j0 k l0 t334 true l1_0 l1_1 a2_0 a2_1 a3_0 a3_1)) = some r := H
  have A7 := Aside0.mk A70
  clear A70
  have HC8 := Aside0.mk H
  clear H
  go_enter Tryd.func7, Tryd.ntmps7
  go_upto_region 4 with (first | ((with_reducible refine gate_dst (N := 5) rfl ?_); refine box_event ?hg (N := 5) ?hd (cs := #[.slice A1_0 l1_0.length c1_0, .slice A1_1 l1_1.length c1_1]) (t := 28) ?hr ?_; (case hd => rfl); (case hg => rfl); (case hr => first | (go_simp; done) | (go_simp; rfl)); intro gb331 hg w9 hbox hb; have n0_ := Aside0.mk (below_step (by repeat (first | (with_reducible first | exact HB.out | apply below_alloc | apply pw_below_drewN | apply below_drew1) | exact HB.out)) hb); have n1_ := Aside0.mk (hbox); have n2_ := Aside0.mk ((by rw [hg]; exact (below_size (by repeat (first | (with_reducible first | exact HB.out | apply below_alloc | apply pw_below_drewN | apply below_drew1) | exact HB.out))) : w.heap.size ≤ gb331)); have n3_ := Aside0.mk ((by rw [hg]; exact (below_size (by repeat (first | (with_reducible first | exact HB.out | apply below_alloc | apply pw_below_drewN | apply below_drew1) | exact HB.out))) : w.heap.size ≤ gb331)); clear HB; have HB := n0_; have BK331 := n1_; have GW331 := n2_; have GE331 := n3_; clear n0_ n1_ n2_ n3_; clear hb hbox hg) | ((with_reducible refine gate_dst (N := 6) rfl ?_); refine box_event ?hg (N := 6) ?hd (cs := #[.string a2_0, .int .i64 a2_1]) (t := 46) ?hr ?_; (case hd => rfl); (case hg => rfl); (case hr => first | (go_simp; done) | (go_simp; rfl)); intro gb332 hg w10 hbox hb; have n0_ := Aside0.mk (blk_below (g := gb331) (o := .cells #[.slice A1_0 l1_0.length c1_0, .slice A1_1 l1_1.length c1_1] 28 (0, 0)) (by (with_reducible repeat (first | refine blk_drewN ?_ _ | refine blk_drew ?_ | refine blk_alloc ?_ _)); exact BK331.out) hb); have n1_ := Aside0.mk (below_step (by repeat (first | (with_reducible first | exact HB.out | apply below_alloc | apply pw_below_drewN | apply below_drew1 | refine below_set ?_ GE331.out) | exact HB.out)) hb); have n2_ := Aside0.mk (hbox); have n3_ := Aside0.mk ((by rw [hg]; exact (below_size (by repeat (first | (with_reducible first | exact HB.out | apply below_alloc | apply pw_below_drewN | apply below_drew1 | refine below_set ?_ GE331.out) | exact HB.out))) : w.heap.size ≤ gb332)); have n4_ := Aside0.mk ((by rw [hg]; exact (below_size (by repeat (first | (with_reducible first | exact HB.out | apply below_alloc | apply pw_below_drewN | apply below_drew1 | refine below_set ?_ GE331.out) | exact HB.out))) : w.heap.size ≤ gb332)); have n5_ := Aside0.mk ((by rw [hg]; exact Nat.ne_of_lt (blk_lt (g := gb331) (o := .cells #[.slice A1_0 l1_0.length c1_0, .slice A1_1 l1_1.length c1_1] 28 (0, 0)) (by (with_reducible repeat (first | refine blk_drewN ?_ _ | refine blk_drew ?_ | refine blk_alloc ?_ _)); exact BK331.out)) : gb331 ≠ gb332)); have n6_ := Aside0.mk ((by rw [hg]; exact Nat.ne_of_gt (blk_lt (g := gb331) (o := .cells #[.slice A1_0 l1_0.length c1_0, .slice A1_1 l1_1.length c1_1] 28 (0, 0)) (by (with_reducible repeat (first | refine blk_drewN ?_ _ | refine blk_drew ?_ | refine blk_alloc ?_ _)); exact BK331.out)) : gb332 ≠ gb331)); clear BK331; clear HB; have BK331 := n0_; have HB := n1_; have BK332 := n2_; have GW332 := n3_; have GE332 := n4_; have NB331_332 := n5_; have NB332_331 := n6_; clear n0_ n1_ n2_ n3_ n4_ n5_ n6_; clear hb hbox hg) | ((with_reducible refine gate_dst (N := 7) rfl ?_); refine box_event ?hg (N := 7) ?hd (cs := #[.string a3_0, .int .i64 a3_1]) (t := 46) ?hr ?_; (case hd => rfl); (case hg => rfl); (case hr => first | (go_simp; done) | (go_simp; rfl)); intro gb333 hg w11 hbox hb; have n0_ := Aside0.mk (blk_below (g := gb331) (o := .cells #[.slice A1_0 l1_0.length c1_0, .slice A1_1 l1_1.length c1_1] 28 (0, 0)) (by (with_reducible repeat (first | refine blk_drewN ?_ _ | refine blk_drew ?_ | refine blk_alloc ?_ _)); exact BK331.out) hb); have n1_ := Aside0.mk (blk_below (g := gb332) (o := .cells #[.string a2_0, .int .i64 a2_1] 46 (0, 0)) (by (with_reducible repeat (first | refine blk_drewN ?_ _ | refine blk_drew ?_ | refine blk_alloc ?_ _)); exact BK332.out) hb); have n2_ := Aside0.mk (below_step (by repeat (first | (with_reducible first | exact HB.out | apply below_alloc | apply pw_below_drewN | apply below_drew1 | refine below_set ?_ GE331.out | refine below_set ?_ GE332.out) | exact HB.out)) hb); have n3_ := Aside0.mk (hbox); have n4_ := Aside0.mk ((by rw [hg]; exact (below_size (by repeat (first | (with_reducible first | exact HB.out | apply below_alloc | apply pw_below_drewN | apply below_drew1 | refine below_set ?_ GE331.out | refine below_set ?_ GE332.out) | exact HB.out))) : w.heap.size ≤ gb333)); have n5_ := Aside0.mk ((by rw [hg]; exact (below_size (by repeat (first | (with_reducible first | exact HB.out | apply below_alloc | apply pw_below_drewN | apply below_drew1 | refine below_set ?_ GE331.out | refine below_set ?_ GE332.out) | exact HB.out))) : w.heap.size ≤ gb333)); have n6_ := Aside0.mk ((by rw [hg]; exact Nat.ne_of_lt (blk_lt (g := gb331) (o := .cells #[.slice A1_0 l1_0.length c1_0, .slice A1_1 l1_1.length c1_1] 28 (0, 0)) (by (with_reducible repeat (first | refine blk_drewN ?_ _ | refine blk_drew ?_ | refine blk_alloc ?_ _)); exact BK331.out)) : gb331 ≠ gb333)); have n7_ := Aside0.mk ((by rw [hg]; exact Nat.ne_of_gt (blk_lt (g := gb331) (o := .cells #[.slice A1_0 l1_0.length c1_0, .slice A1_1 l1_1.length c1_1] 28 (0, 0)) (by (with_reducible repeat (first | refine blk_drewN ?_ _ | refine blk_drew ?_ | refine blk_alloc ?_ _)); exact BK331.out)) : gb333 ≠ gb331)); have n8_ := Aside0.mk ((by rw [hg]; exact Nat.ne_of_lt (blk_lt (g := gb332) (o := .cells #[.string a2_0, .int .i64 a2_1] 46 (0, 0)) (by (with_reducible repeat (first | refine blk_drewN ?_ _ | refine blk_drew ?_ | refine blk_alloc ?_ _)); exact BK332.out)) : gb332 ≠ gb333)); have n9_ := Aside0.mk ((by rw [hg]; exact Nat.ne_of_gt (blk_lt (g := gb332) (o := .cells #[.string a2_0, .int .i64 a2_1] 46 (0, 0)) (by (with_reducible repeat (first | refine blk_drewN ?_ _ | refine blk_drew ?_ | refine blk_alloc ?_ _)); exact BK332.out)) : gb333 ≠ gb332)); clear BK331; clear BK332; clear HB; have BK331 := n0_; have BK332 := n1_; have HB := n2_; have BK333 := n3_; have GW333 := n4_; have GE333 := n5_; have NB331_333 := n6_; have NB333_331 := n7_; have NB332_333 := n8_; have NB333_332 := n9_; clear n0_ n1_ n2_ n3_ n4_ n5_ n6_ n7_ n8_ n9_; clear hb hbox hg) | (go_at_call 9; (with_reducible refine (malthouselaw08_awake.calls  t334 _ ?side1 A5.out).mono ?_); (case side1 => exact Tabs.below hT (by repeat (first | (with_reducible first | exact HB.out | apply below_alloc | apply pw_below_drewN | apply below_drew1 | refine below_set ?_ GE331.out | refine below_set ?_ GE332.out | refine below_set ?_ GE333.out) | exact HB.out))); rintro e w12 ⟨rfl, hb⟩; have n0_ := Aside0.mk (blk_below (g := gb331) (o := .cells #[.slice A1_0 l1_0.length c1_0, .slice A1_1 l1_1.length c1_1] 28 (0, 0)) (by (with_reducible repeat (first | refine blk_drewN ?_ _ | refine blk_drew ?_ | refine blk_alloc ?_ _)); exact BK331.out) hb); have n1_ := Aside0.mk (blk_below (g := gb332) (o := .cells #[.string a2_0, .int .i64 a2_1] 46 (0, 0)) (by (with_reducible repeat (first | refine blk_drewN ?_ _ | refine blk_drew ?_ | refine blk_alloc ?_ _)); exact BK332.out) hb); have n2_ := Aside0.mk (blk_below (g := gb333) (o := .cells #[.string a3_0, .int .i64 a3_1] 46 (0, 0)) (by (with_reducible repeat (first | refine blk_drewN ?_ _ | refine blk_drew ?_ | refine blk_alloc ?_ _)); exact BK333.out) hb); have n3_ := Aside0.mk (below_step (by repeat (first | (with_reducible first | exact HB.out | apply below_alloc | apply pw_below_drewN | apply below_drew1 | refine below_set ?_ GE331.out | refine below_set ?_ GE332.out | refine below_set ?_ GE333.out) | exact HB.out)) hb); clear BK331; clear BK332; clear BK333; clear HB; have BK331 := n0_; have BK332 := n1_; have BK333 := n2_; have HB := n3_; clear n0_ n1_ n2_ n3_; (try clear hb); (try clear hb2); (try clear hk); (try clear hi)) | (go_at_call 10; (with_reducible refine (malthouselaw08_small.calls k _ _ l0 t335 _ ?side1 ?side2 A6.out).mono ?_); (case side1 => repeat (first | exact (Kd.C_below HR0.out HB.out) | (with_reducible refine Kd.C_alloc ?_ _) | (with_reducible refine Kd.C_drewN ?_ _) | (with_reducible refine Kd.C_drew ?_))); (case side2 => exact HC0.out); rintro e w' ⟨rfl, ⟨nd, rfl⟩⟩; (try first | exact ⟨rfl, _, World.drewN_drewN _ _ _⟩ | exact ⟨rfl, _, Eq.trans (World.drewN_drewN _ _ _) (congrArg (World.drewN _) (Nat.add_assoc _ _ _))⟩); have hnb13 := NB331_332.out; have hnc13 := NB332_331.out; have hnb14 := NB331_333.out; have hnc14 := NB333_331.out; have hcz15_0 : w12.cell? ⟨gb331, 0, none⟩ = some (.slice A1_0 l1_0.length c1_0) := (blk_cell BK331.out 0).trans rfl; have hcz15_1 : w12.cell? ⟨gb331, 1, none⟩ = some (.slice A1_1 l1_1.length c1_1) := (blk_cell BK331.out 1).trans rfl; have hfz15_0 := blk_frozen BK331.out 0; have hfz15_1 := blk_frozen BK331.out 1; have hnb16 := NB332_333.out; have hnc16 := NB333_332.out; have hcz17_0 : w12.cell? ⟨gb332, 0, none⟩ = some (.string a2_0) := (blk_cell BK332.out 0).trans rfl; have hcz17_1 : w12.cell? ⟨gb332, 1, none⟩ = some (.int .i64 a2_1) := (blk_cell BK332.out 1).trans rfl; have hfz17_0 := blk_frozen BK332.out 0; have hfz17_1 := blk_frozen BK332.out 1; have hcz18_0 : w12.cell? ⟨gb333, 0, none⟩ = some (.string a3_0) := (blk_cell BK333.out 0).trans rfl; have hcz18_1 : w12.cell? ⟨gb333, 1, none⟩ = some (.int .i64 a3_1) := (blk_cell BK333.out 1).trans rfl; have hfz18_0 := blk_frozen BK333.out 0; have hfz18_1 := blk_frozen BK333.out 1) | ((with_reducible refine gate_dst (N := 24) rfl ?_); refine Kd.R_lit k46 _ 46 ?hg (N := 24) ?hd (xs := ([(⟨a2_0, a2_1⟩ : S46), (⟨a3_0, a3_1⟩ : S46)] : List (S46))) (inner := [.string a2_0, .int .i64 a2_1, .string a3_0, .int .i64 a3_1]) (ok := fun _ => True) (okp := fun _ => True) ?hr ?hp (fun _ hk => hk) trivial (Below.refl _ _) (Nat.le_refl _) (by simp) ?_; (case hd => rfl); (case hg => rfl); (case hr => first | (go_simp; done) | (go_simp; rfl)); (case hp => exact (Reps.c2 (show Kd.M k46 _ _ _ (⟨a2_0, a2_1⟩ : S46) [.string a2_0, .int .i64 a2_1] from (k46_mkM _ _ _ (⟨a2_0, a2_1⟩ : S46) )) (Reps.c2 (show Kd.M k46 _ _ _ (⟨a3_0, a3_1⟩ : S46) [.string a3_0, .int .i64 a3_1] from (k46_mkM _ _ _ (⟨a3_0, a3_1⟩ : S46) )) (Reps.none _ _)))); intro v337 w19 ho20 hb hg_ hnew_; clear hg_ hnew_; (first | rw [← Ny336.out] at ho20 | (simp only [Int.reduceToNat] at ho20; rw [← Ny336.out] at ho20)); have n0_ := Aside0.mk (Kd.R_lower (Kd.R_newB (Kd.R_newB ho20 (g := gb332) (o := .cells #[.string a2_0, .int .i64 a2_1] 46 (0, 0)) (by (with_reducible repeat (first | refine blk_drewN ?_ _ | refine blk_drew ?_ | refine blk_alloc ?_ _)); exact BK332.out)) (g := gb333) (o := .cells #[.string a3_0, .int .i64 a3_1] 46 (0, 0)) (by (with_reducible repeat (first | refine blk_drewN ?_ _ | refine blk_drew ?_ | refine blk_alloc ?_ _)); exact BK333.out)) (below_size (by repeat (first | (with_reducible first | exact HB.out | apply below_alloc | apply pw_below_drewN | apply below_drew1 | refine below_set ?_ GE331.out | refine below_set ?_ GE332.out | refine below_set ?_ GE333.out) | exact HB.out)))); have n1_ := Aside0.mk (blk_below (g := gb331) (o := .cells #[.slice A1_0 l1_0.length c1_0, .slice A1_1 l1_1.length c1_1] 28 (0, 0)) (by (with_reducible repeat (first | refine blk_drewN ?_ _ | refine blk_drew ?_ | refine blk_alloc ?_ _)); exact BK331.out) hb); have n2_ := Aside0.mk (blk_below (g := gb332) (o := .cells #[.string a2_0, .int .i64 a2_1] 46 (0, 0)) (by (with_reducible repeat (first | refine blk_drewN ?_ _ | refine blk_drew ?_ | refine blk_alloc ?_ _)); exact BK332.out) hb); have n3_ := Aside0.mk (blk_below (g := gb333) (o := .cells #[.string a3_0, .int .i64 a3_1] 46 (0, 0)) (by (with_reducible repeat (first | refine blk_drewN ?_ _ | refine blk_drew ?_ | refine blk_alloc ?_ _)); exact BK333.out) hb); have n4_ := Aside0.mk (below_step (by repeat (first | (with_reducible first | exact HB.out | apply below_alloc | apply pw_below_drewN | apply below_drew1 | refine below_set ?_ GE331.out | refine below_set ?_ GE332.out | refine below_set ?_ GE333.out) | exact HB.out)) hb); clear BK331; clear BK332; clear BK333; clear HB; have HO338 := n0_; have BK331 := n1_; have BK332 := n2_; have BK333 := n3_; have HB := n4_; clear n0_ n1_ n2_ n3_ n4_; clear hb ho20; obtain ⟨Ao21, co21, eo21⟩ := Kd.R_slice HO338.out; subst eo21) | (go_at_call 18; (with_reducible refine (malthouselaw08_fair.calls k _ _ l1_0 _ _ l1_1 _ _ y336 t339 _ ?side1 ?side2 ?side3 ?side4 ?side5 ?side6 A7.out).mono ?_); (case side1 => repeat (first | exact (Kd.C_below HR1_0.out HB.out) | (with_reducible refine Kd.C_alloc ?_ _) | (with_reducible refine Kd.C_drewN ?_ _) | (with_reducible refine Kd.C_drew ?_))); (case side2 => exact HC1_0.out); (case side3 => repeat (first | exact (Kd.C_below HR1_1.out HB.out) | (with_reducible refine Kd.C_alloc ?_ _) | (with_reducible refine Kd.C_drewN ?_ _) | (with_reducible refine Kd.C_drew ?_))); (case side4 => exact HC1_1.out); (case side5 => repeat (first | exact (Kd.R_reads' HO338.out).2.2 | (with_reducible refine Kd.C_alloc ?_ _) | (with_reducible refine Kd.C_drewN ?_ _) | (with_reducible refine Kd.C_drew ?_))); (case side6 => exact (Kd.R_reads' HO338.out).2.1); rintro e w22 ⟨rfl, hb⟩; have n0_ := Aside0.mk (Kd.R_below (by (with_reducible repeat (first | apply Kd.R_alloc | apply Kd.R_drewN | apply Kd.R_drew)); exact HO338.out) hb); have n1_ := Aside0.mk (blk_below (g := gb331) (o := .cells #[.slice A1_0 l1_0.length c1_0, .slice A1_1 l1_1.length c1_1] 28 (0, 0)) (by (with_reducible repeat (first | refine blk_drewN ?_ _ | refine blk_drew ?_ | refine blk_alloc ?_ _)); exact BK331.out) hb); have n2_ := Aside0.mk (blk_below (g := gb332) (o := .cells #[.string a2_0, .int .i64 a2_1] 46 (0, 0)) (by (with_reducible repeat (first | refine blk_drewN ?_ _ | refine blk_drew ?_ | refine blk_alloc ?_ _)); exact BK332.out) hb); have n3_ := Aside0.mk (blk_below (g := gb333) (o := .cells #[.string a3_0, .int .i64 a3_1] 46 (0, 0)) (by (with_reducible repeat (first | refine blk_drewN ?_ _ | refine blk_drew ?_ | refine blk_alloc ?_ _)); exact BK333.out) hb); have n4_ := Aside0.mk (below_step (by repeat (first | (with_reducible first | exact HB.out | apply below_alloc | apply pw_below_drewN | apply below_drew1 | refine below_set ?_ GE331.out | refine below_set ?_ GE332.out | refine below_set ?_ GE333.out) | exact HB.out)) hb); clear HO338; clear BK331; clear BK332; clear BK333; clear HB; have HO338 := n0_; have BK331 := n1_; have BK332 := n2_; have BK333 := n3_; have HB := n4_; clear n0_ n1_ n2_ n3_ n4_; (try clear hb); (try clear hb2); (try clear hk); (try clear hi)))
  repeat (go_quiet (first | ((with_reducible refine gate_dst (N := 5) rfl ?_); refine box_event ?hg (N := 5) ?hd (cs := #[.slice A1_0 l1_0.length c1_0, .slice A1_1 l1_1.length c1_1]) (t := 28) ?hr ?_; (case hd => rfl); (case hg => rfl); (case hr => first | (go_simp; done) | (go_simp; rfl)); intro gb331 hg w9 hbox hb; have n0_ := Aside0.mk (below_step (by repeat (first | (with_reducible first | exact HB.out | apply below_alloc | apply pw_below_drewN | apply below_drew1) | exact HB.out)) hb); have n1_ := Aside0.mk (hbox); have n2_ := Aside0.mk ((by rw [hg]; exact (below_size (by repeat (first | (with_reducible first | exact HB.out | apply below_alloc | apply pw_below_drewN | apply below_drew1) | exact HB.out))) : w.heap.size ≤ gb331)); have n3_ := Aside0.mk ((by rw [hg]; exact (below_size (by repeat (first | (with_reducible first | exact HB.out | apply below_alloc | apply pw_below_drewN | apply below_drew1) | exact HB.out))) : w.heap.size ≤ gb331)); clear HB; have HB := n0_; have BK331 := n1_; have GW331 := n2_; have GE331 := n3_; clear n0_ n1_ n2_ n3_; clear hb hbox hg) | ((with_reducible refine gate_dst (N := 6) rfl ?_); refine box_event ?hg (N := 6) ?hd (cs := #[.string a2_0, .int .i64 a2_1]) (t := 46) ?hr ?_; (case hd => rfl); (case hg => rfl); (case hr => first | (go_simp; done) | (go_simp; rfl)); intro gb332 hg w10 hbox hb; have n0_ := Aside0.mk (blk_below (g := gb331) (o := .cells #[.slice A1_0 l1_0.length c1_0, .slice A1_1 l1_1.length c1_1] 28 (0, 0)) (by (with_reducible repeat (first | refine blk_drewN ?_ _ | refine blk_drew ?_ | refine blk_alloc ?_ _)); exact BK331.out) hb); have n1_ := Aside0.mk (below_step (by repeat (first | (with_reducible first | exact HB.out | apply below_alloc | apply pw_below_drewN | apply below_drew1 | refine below_set ?_ GE331.out) | exact HB.out)) hb); have n2_ := Aside0.mk (hbox); have n3_ := Aside0.mk ((by rw [hg]; exact (below_size (by repeat (first | (with_reducible first | exact HB.out | apply below_alloc | apply pw_below_drewN | apply below_drew1 | refine below_set ?_ GE331.out) | exact HB.out))) : w.heap.size ≤ gb332)); have n4_ := Aside0.mk ((by rw [hg]; exact (below_size (by repeat (first | (with_reducible first | exact HB.out | apply below_alloc | apply pw_below_drewN | apply below_drew1 | refine below_set ?_ GE331.out) | exact HB.out))) : w.heap.size ≤ gb332)); have n5_ := Aside0.mk ((by rw [hg]; exact Nat.ne_of_lt (blk_lt (g := gb331) (o := .cells #[.slice A1_0 l1_0.length c1_0, .slice A1_1 l1_1.length c1_1] 28 (0, 0)) (by (with_reducible repeat (first | refine blk_drewN ?_ _ | refine blk_drew ?_ | refine blk_alloc ?_ _)); exact BK331.out)) : gb331 ≠ gb332)); have n6_ := Aside0.mk ((by rw [hg]; exact Nat.ne_of_gt (blk_lt (g := gb331) (o := .cells #[.slice A1_0 l1_0.length c1_0, .slice A1_1 l1_1.length c1_1] 28 (0, 0)) (by (with_reducible repeat (first | refine blk_drewN ?_ _ | refine blk_drew ?_ | refine blk_alloc ?_ _)); exact BK331.out)) : gb332 ≠ gb331)); clear BK331; clear HB; have BK331 := n0_; have HB := n1_; have BK332 := n2_; have GW332 := n3_; have GE332 := n4_; have NB331_332 := n5_; have NB332_331 := n6_; clear n0_ n1_ n2_ n3_ n4_ n5_ n6_; clear hb hbox hg) | ((with_reducible refine gate_dst (N := 7) rfl ?_); refine box_event ?hg (N := 7) ?hd (cs := #[.string a3_0, .int .i64 a3_1]) (t := 46) ?hr ?_; (case hd => rfl); (case hg => rfl); (case hr => first | (go_simp; done) | (go_simp; rfl)); intro gb333 hg w11 hbox hb; have n0_ := Aside0.mk (blk_below (g := gb331) (o := .cells #[.slice A1_0 l1_0.length c1_0, .slice A1_1 l1_1.length c1_1] 28 (0, 0)) (by (with_reducible repeat (first | refine blk_drewN ?_ _ | refine blk_drew ?_ | refine blk_alloc ?_ _)); exact BK331.out) hb); have n1_ := Aside0.mk (blk_below (g := gb332) (o := .cells #[.string a2_0, .int .i64 a2_1] 46 (0, 0)) (by (with_reducible repeat (first | refine blk_drewN ?_ _ | refine blk_drew ?_ | refine blk_alloc ?_ _)); exact BK332.out) hb); have n2_ := Aside0.mk (below_step (by repeat (first | (with_reducible first | exact HB.out | apply below_alloc | apply pw_below_drewN | apply below_drew1 | refine below_set ?_ GE331.out | refine below_set ?_ GE332.out) | exact HB.out)) hb); have n3_ := Aside0.mk (hbox); have n4_ := Aside0.mk ((by rw [hg]; exact (below_size (by repeat (first | (with_reducible first | exact HB.out | apply below_alloc | apply pw_below_drewN | apply below_drew1 | refine below_set ?_ GE331.out | refine below_set ?_ GE332.out) | exact HB.out))) : w.heap.size ≤ gb333)); have n5_ := Aside0.mk ((by rw [hg]; exact (below_size (by repeat (first | (with_reducible first | exact HB.out | apply below_alloc | apply pw_below_drewN | apply below_drew1 | refine below_set ?_ GE331.out | refine below_set ?_ GE332.out) | exact HB.out))) : w.heap.size ≤ gb333)); have n6_ := Aside0.mk ((by rw [hg]; exact Nat.ne_of_lt (blk_lt (g := gb331) (o := .cells #[.slice A1_0 l1_0.length c1_0, .slice A1_1 l1_1.length c1_1] 28 (0, 0)) (by (with_reducible repeat (first | refine blk_drewN ?_ _ | refine blk_drew ?_ | refine blk_alloc ?_ _)); exact BK331.out)) : gb331 ≠ gb333)); have n7_ := Aside0.mk ((by rw [hg]; exact Nat.ne_of_gt (blk_lt (g := gb331) (o := .cells #[.slice A1_0 l1_0.length c1_0, .slice A1_1 l1_1.length c1_1] 28 (0, 0)) (by (with_reducible repeat (first | refine blk_drewN ?_ _ | refine blk_drew ?_ | refine blk_alloc ?_ _)); exact BK331.out)) : gb333 ≠ gb331)); have n8_ := Aside0.mk ((by rw [hg]; exact Nat.ne_of_lt (blk_lt (g := gb332) (o := .cells #[.string a2_0, .int .i64 a2_1] 46 (0, 0)) (by (with_reducible repeat (first | refine blk_drewN ?_ _ | refine blk_drew ?_ | refine blk_alloc ?_ _)); exact BK332.out)) : gb332 ≠ gb333)); have n9_ := Aside0.mk ((by rw [hg]; exact Nat.ne_of_gt (blk_lt (g := gb332) (o := .cells #[.string a2_0, .int .i64 a2_1] 46 (0, 0)) (by (with_reducible repeat (first | refine blk_drewN ?_ _ | refine blk_drew ?_ | refine blk_alloc ?_ _)); exact BK332.out)) : gb333 ≠ gb332)); clear BK331; clear BK332; clear HB; have BK331 := n0_; have BK332 := n1_; have HB := n2_; have BK333 := n3_; have GW333 := n4_; have GE333 := n5_; have NB331_333 := n6_; have NB333_331 := n7_; have NB332_333 := n8_; have NB333_332 := n9_; clear n0_ n1_ n2_ n3_ n4_ n5_ n6_ n7_ n8_ n9_; clear hb hbox hg) | (go_at_call 9; (with_reducible refine (malthouselaw08_awake.calls  t334 _ ?side1 A5.out).mono ?_); (case side1 => exact Tabs.below hT (by repeat (first | (with_reducible first | exact HB.out | apply below_alloc | apply pw_below_drewN | apply below_drew1 | refine below_set ?_ GE331.out | refine below_set ?_ GE332.out | refine below_set ?_ GE333.out) | exact HB.out))); rintro e w12 ⟨rfl, hb⟩; have n0_ := Aside0.mk (blk_below (g := gb331) (o := .cells #[.slice A1_0 l1_0.length c1_0, .slice A1_1 l1_1.length c1_1] 28 (0, 0)) (by (with_reducible repeat (first | refine blk_drewN ?_ _ | refine blk_drew ?_ | refine blk_alloc ?_ _)); exact BK331.out) hb); have n1_ := Aside0.mk (blk_below (g := gb332) (o := .cells #[.string a2_0, .int .i64 a2_1] 46 (0, 0)) (by (with_reducible repeat (first | refine blk_drewN ?_ _ | refine blk_drew ?_ | refine blk_alloc ?_ _)); exact BK332.out) hb); have n2_ := Aside0.mk (blk_below (g := gb333) (o := .cells #[.string a3_0, .int .i64 a3_1] 46 (0, 0)) (by (with_reducible repeat (first | refine blk_drewN ?_ _ | refine blk_drew ?_ | refine blk_alloc ?_ _)); exact BK333.out) hb); have n3_ := Aside0.mk (below_step (by repeat (first | (with_reducible first | exact HB.out | apply below_alloc | apply pw_below_drewN | apply below_drew1 | refine below_set ?_ GE331.out | refine below_set ?_ GE332.out | refine below_set ?_ GE333.out) | exact HB.out)) hb); clear BK331; clear BK332; clear BK333; clear HB; have BK331 := n0_; have BK332 := n1_; have BK333 := n2_; have HB := n3_; clear n0_ n1_ n2_ n3_; (try clear hb); (try clear hb2); (try clear hk); (try clear hi)) | (go_at_call 10; (with_reducible refine (malthouselaw08_small.calls k _ _ l0 t335 _ ?side1 ?side2 A6.out).mono ?_); (case side1 => repeat (first | exact (Kd.C_below HR0.out HB.out) | (with_reducible refine Kd.C_alloc ?_ _) | (with_reducible refine Kd.C_drewN ?_ _) | (with_reducible refine Kd.C_drew ?_))); (case side2 => exact HC0.out); rintro e w' ⟨rfl, ⟨nd, rfl⟩⟩; (try first | exact ⟨rfl, _, World.drewN_drewN _ _ _⟩ | exact ⟨rfl, _, Eq.trans (World.drewN_drewN _ _ _) (congrArg (World.drewN _) (Nat.add_assoc _ _ _))⟩); have hnb13 := NB331_332.out; have hnc13 := NB332_331.out; have hnb14 := NB331_333.out; have hnc14 := NB333_331.out; have hcz15_0 : w12.cell? ⟨gb331, 0, none⟩ = some (.slice A1_0 l1_0.length c1_0) := (blk_cell BK331.out 0).trans rfl; have hcz15_1 : w12.cell? ⟨gb331, 1, none⟩ = some (.slice A1_1 l1_1.length c1_1) := (blk_cell BK331.out 1).trans rfl; have hfz15_0 := blk_frozen BK331.out 0; have hfz15_1 := blk_frozen BK331.out 1; have hnb16 := NB332_333.out; have hnc16 := NB333_332.out; have hcz17_0 : w12.cell? ⟨gb332, 0, none⟩ = some (.string a2_0) := (blk_cell BK332.out 0).trans rfl; have hcz17_1 : w12.cell? ⟨gb332, 1, none⟩ = some (.int .i64 a2_1) := (blk_cell BK332.out 1).trans rfl; have hfz17_0 := blk_frozen BK332.out 0; have hfz17_1 := blk_frozen BK332.out 1; have hcz18_0 : w12.cell? ⟨gb333, 0, none⟩ = some (.string a3_0) := (blk_cell BK333.out 0).trans rfl; have hcz18_1 : w12.cell? ⟨gb333, 1, none⟩ = some (.int .i64 a3_1) := (blk_cell BK333.out 1).trans rfl; have hfz18_0 := blk_frozen BK333.out 0; have hfz18_1 := blk_frozen BK333.out 1) | ((with_reducible refine gate_dst (N := 24) rfl ?_); refine Kd.R_lit k46 _ 46 ?hg (N := 24) ?hd (xs := ([(⟨a2_0, a2_1⟩ : S46), (⟨a3_0, a3_1⟩ : S46)] : List (S46))) (inner := [.string a2_0, .int .i64 a2_1, .string a3_0, .int .i64 a3_1]) (ok := fun _ => True) (okp := fun _ => True) ?hr ?hp (fun _ hk => hk) trivial (Below.refl _ _) (Nat.le_refl _) (by simp) ?_; (case hd => rfl); (case hg => rfl); (case hr => first | (go_simp; done) | (go_simp; rfl)); (case hp => exact (Reps.c2 (show Kd.M k46 _ _ _ (⟨a2_0, a2_1⟩ : S46) [.string a2_0, .int .i64 a2_1] from (k46_mkM _ _ _ (⟨a2_0, a2_1⟩ : S46) )) (Reps.c2 (show Kd.M k46 _ _ _ (⟨a3_0, a3_1⟩ : S46) [.string a3_0, .int .i64 a3_1] from (k46_mkM _ _ _ (⟨a3_0, a3_1⟩ : S46) )) (Reps.none _ _)))); intro v337 w19 ho20 hb hg_ hnew_; clear hg_ hnew_; (first | rw [← Ny336.out] at ho20 | (simp only [Int.reduceToNat] at ho20; rw [← Ny336.out] at ho20)); have n0_ := Aside0.mk (Kd.R_lower (Kd.R_newB (Kd.R_newB ho20 (g := gb332) (o := .cells #[.string a2_0, .int .i64 a2_1] 46 (0, 0)) (by (with_reducible repeat (first | refine blk_drewN ?_ _ | refine blk_drew ?_ | refine blk_alloc ?_ _)); exact BK332.out)) (g := gb333) (o := .cells #[.string a3_0, .int .i64 a3_1] 46 (0, 0)) (by (with_reducible repeat (first | refine blk_drewN ?_ _ | refine blk_drew ?_ | refine blk_alloc ?_ _)); exact BK333.out)) (below_size (by repeat (first | (with_reducible first | exact HB.out | apply below_alloc | apply pw_below_drewN | apply below_drew1 | refine below_set ?_ GE331.out | refine below_set ?_ GE332.out | refine below_set ?_ GE333.out) | exact HB.out)))); have n1_ := Aside0.mk (blk_below (g := gb331) (o := .cells #[.slice A1_0 l1_0.length c1_0, .slice A1_1 l1_1.length c1_1] 28 (0, 0)) (by (with_reducible repeat (first | refine blk_drewN ?_ _ | refine blk_drew ?_ | refine blk_alloc ?_ _)); exact BK331.out) hb); have n2_ := Aside0.mk (blk_below (g := gb332) (o := .cells #[.string a2_0, .int .i64 a2_1] 46 (0, 0)) (by (with_reducible repeat (first | refine blk_drewN ?_ _ | refine blk_drew ?_ | refine blk_alloc ?_ _)); exact BK332.out) hb); have n3_ := Aside0.mk (blk_below (g := gb333) (o := .cells #[.string a3_0, .int .i64 a3_1] 46 (0, 0)) (by (with_reducible repeat (first | refine blk_drewN ?_ _ | refine blk_drew ?_ | refine blk_alloc ?_ _)); exact BK333.out) hb); have n4_ := Aside0.mk (below_step (by repeat (first | (with_reducible first | exact HB.out | apply below_alloc | apply pw_below_drewN | apply below_drew1 | refine below_set ?_ GE331.out | refine below_set ?_ GE332.out | refine below_set ?_ GE333.out) | exact HB.out)) hb); clear BK331; clear BK332; clear BK333; clear HB; have HO338 := n0_; have BK331 := n1_; have BK332 := n2_; have BK333 := n3_; have HB := n4_; clear n0_ n1_ n2_ n3_ n4_; clear hb ho20; obtain ⟨Ao21, co21, eo21⟩ := Kd.R_slice HO338.out; subst eo21) | (go_at_call 18; (with_reducible refine (malthouselaw08_fair.calls k _ _ l1_0 _ _ l1_1 _ _ y336 t339 _ ?side1 ?side2 ?side3 ?side4 ?side5 ?side6 A7.out).mono ?_); (case side1 => repeat (first | exact (Kd.C_below HR1_0.out HB.out) | (with_reducible refine Kd.C_alloc ?_ _) | (with_reducible refine Kd.C_drewN ?_ _) | (with_reducible refine Kd.C_drew ?_))); (case side2 => exact HC1_0.out); (case side3 => repeat (first | exact (Kd.C_below HR1_1.out HB.out) | (with_reducible refine Kd.C_alloc ?_ _) | (with_reducible refine Kd.C_drewN ?_ _) | (with_reducible refine Kd.C_drew ?_))); (case side4 => exact HC1_1.out); (case side5 => repeat (first | exact (Kd.R_reads' HO338.out).2.2 | (with_reducible refine Kd.C_alloc ?_ _) | (with_reducible refine Kd.C_drewN ?_ _) | (with_reducible refine Kd.C_drew ?_))); (case side6 => exact (Kd.R_reads' HO338.out).2.1); rintro e w22 ⟨rfl, hb⟩; have n0_ := Aside0.mk (Kd.R_below (by (with_reducible repeat (first | apply Kd.R_alloc | apply Kd.R_drewN | apply Kd.R_drew)); exact HO338.out) hb); have n1_ := Aside0.mk (blk_below (g := gb331) (o := .cells #[.slice A1_0 l1_0.length c1_0, .slice A1_1 l1_1.length c1_1] 28 (0, 0)) (by (with_reducible repeat (first | refine blk_drewN ?_ _ | refine blk_drew ?_ | refine blk_alloc ?_ _)); exact BK331.out) hb); have n2_ := Aside0.mk (blk_below (g := gb332) (o := .cells #[.string a2_0, .int .i64 a2_1] 46 (0, 0)) (by (with_reducible repeat (first | refine blk_drewN ?_ _ | refine blk_drew ?_ | refine blk_alloc ?_ _)); exact BK332.out) hb); have n3_ := Aside0.mk (blk_below (g := gb333) (o := .cells #[.string a3_0, .int .i64 a3_1] 46 (0, 0)) (by (with_reducible repeat (first | refine blk_drewN ?_ _ | refine blk_drew ?_ | refine blk_alloc ?_ _)); exact BK333.out) hb); have n4_ := Aside0.mk (below_step (by repeat (first | (with_reducible first | exact HB.out | apply below_alloc | apply pw_below_drewN | apply below_drew1 | refine below_set ?_ GE331.out | refine below_set ?_ GE332.out | refine below_set ?_ GE333.out) | exact HB.out)) hb); clear HO338; clear BK331; clear BK332; clear BK333; clear HB; have HO338 := n0_; have BK331 := n1_; have BK332 := n2_; have BK333 := n3_; have HB := n4_; clear n0_ n1_ n2_ n3_ n4_; (try clear hb); (try clear hb2); (try clear hk); (try clear hi))); go_upto_region 4 with (first | ((with_reducible refine gate_dst (N := 5) rfl ?_); refine box_event ?hg (N := 5) ?hd (cs := #[.slice A1_0 l1_0.length c1_0, .slice A1_1 l1_1.length c1_1]) (t := 28) ?hr ?_; (case hd => rfl); (case hg => rfl); (case hr => first | (go_simp; done) | (go_simp; rfl)); intro gb331 hg w9 hbox hb; have n0_ := Aside0.mk (below_step (by repeat (first | (with_reducible first | exact HB.out | apply below_alloc | apply pw_below_drewN | apply below_drew1) | exact HB.out)) hb); have n1_ := Aside0.mk (hbox); have n2_ := Aside0.mk ((by rw [hg]; exact (below_size (by repeat (first | (with_reducible first | exact HB.out | apply below_alloc | apply pw_below_drewN | apply below_drew1) | exact HB.out))) : w.heap.size ≤ gb331)); have n3_ := Aside0.mk ((by rw [hg]; exact (below_size (by repeat (first | (with_reducible first | exact HB.out | apply below_alloc | apply pw_below_drewN | apply below_drew1) | exact HB.out))) : w.heap.size ≤ gb331)); clear HB; have HB := n0_; have BK331 := n1_; have GW331 := n2_; have GE331 := n3_; clear n0_ n1_ n2_ n3_; clear hb hbox hg) | ((with_reducible refine gate_dst (N := 6) rfl ?_); refine box_event ?hg (N := 6) ?hd (cs := #[.string a2_0, .int .i64 a2_1]) (t := 46) ?hr ?_; (case hd => rfl); (case hg => rfl); (case hr => first | (go_simp; done) | (go_simp; rfl)); intro gb332 hg w10 hbox hb; have n0_ := Aside0.mk (blk_below (g := gb331) (o := .cells #[.slice A1_0 l1_0.length c1_0, .slice A1_1 l1_1.length c1_1] 28 (0, 0)) (by (with_reducible repeat (first | refine blk_drewN ?_ _ | refine blk_drew ?_ | refine blk_alloc ?_ _)); exact BK331.out) hb); have n1_ := Aside0.mk (below_step (by repeat (first | (with_reducible first | exact HB.out | apply below_alloc | apply pw_below_drewN | apply below_drew1 | refine below_set ?_ GE331.out) | exact HB.out)) hb); have n2_ := Aside0.mk (hbox); have n3_ := Aside0.mk ((by rw [hg]; exact (below_size (by repeat (first | (with_reducible first | exact HB.out | apply below_alloc | apply pw_below_drewN | apply below_drew1 | refine below_set ?_ GE331.out) | exact HB.out))) : w.heap.size ≤ gb332)); have n4_ := Aside0.mk ((by rw [hg]; exact (below_size (by repeat (first | (with_reducible first | exact HB.out | apply below_alloc | apply pw_below_drewN | apply below_drew1 | refine below_set ?_ GE331.out) | exact HB.out))) : w.heap.size ≤ gb332)); have n5_ := Aside0.mk ((by rw [hg]; exact Nat.ne_of_lt (blk_lt (g := gb331) (o := .cells #[.slice A1_0 l1_0.length c1_0, .slice A1_1 l1_1.length c1_1] 28 (0, 0)) (by (with_reducible repeat (first | refine blk_drewN ?_ _ | refine blk_drew ?_ | refine blk_alloc ?_ _)); exact BK331.out)) : gb331 ≠ gb332)); have n6_ := Aside0.mk ((by rw [hg]; exact Nat.ne_of_gt (blk_lt (g := gb331) (o := .cells #[.slice A1_0 l1_0.length c1_0, .slice A1_1 l1_1.length c1_1] 28 (0, 0)) (by (with_reducible repeat (first | refine blk_drewN ?_ _ | refine blk_drew ?_ | refine blk_alloc ?_ _)); exact BK331.out)) : gb332 ≠ gb331)); clear BK331; clear HB; have BK331 := n0_; have HB := n1_; have BK332 := n2_; have GW332 := n3_; have GE332 := n4_; have NB331_332 := n5_; have NB332_331 := n6_; clear n0_ n1_ n2_ n3_ n4_ n5_ n6_; clear hb hbox hg) | ((with_reducible refine gate_dst (N := 7) rfl ?_); refine box_event ?hg (N := 7) ?hd (cs := #[.string a3_0, .int .i64 a3_1]) (t := 46) ?hr ?_; (case hd => rfl); (case hg => rfl); (case hr => first | (go_simp; done) | (go_simp; rfl)); intro gb333 hg w11 hbox hb; have n0_ := Aside0.mk (blk_below (g := gb331) (o := .cells #[.slice A1_0 l1_0.length c1_0, .slice A1_1 l1_1.length c1_1] 28 (0, 0)) (by (with_reducible repeat (first | refine blk_drewN ?_ _ | refine blk_drew ?_ | refine blk_alloc ?_ _)); exact BK331.out) hb); have n1_ := Aside0.mk (blk_below (g := gb332) (o := .cells #[.string a2_0, .int .i64 a2_1] 46 (0, 0)) (by (with_reducible repeat (first | refine blk_drewN ?_ _ | refine blk_drew ?_ | refine blk_alloc ?_ _)); exact BK332.out) hb); have n2_ := Aside0.mk (below_step (by repeat (first | (with_reducible first | exact HB.out | apply below_alloc | apply pw_below_drewN | apply below_drew1 | refine below_set ?_ GE331.out | refine below_set ?_ GE332.out) | exact HB.out)) hb); have n3_ := Aside0.mk (hbox); have n4_ := Aside0.mk ((by rw [hg]; exact (below_size (by repeat (first | (with_reducible first | exact HB.out | apply below_alloc | apply pw_below_drewN | apply below_drew1 | refine below_set ?_ GE331.out | refine below_set ?_ GE332.out) | exact HB.out))) : w.heap.size ≤ gb333)); have n5_ := Aside0.mk ((by rw [hg]; exact (below_size (by repeat (first | (with_reducible first | exact HB.out | apply below_alloc | apply pw_below_drewN | apply below_drew1 | refine below_set ?_ GE331.out | refine below_set ?_ GE332.out) | exact HB.out))) : w.heap.size ≤ gb333)); have n6_ := Aside0.mk ((by rw [hg]; exact Nat.ne_of_lt (blk_lt (g := gb331) (o := .cells #[.slice A1_0 l1_0.length c1_0, .slice A1_1 l1_1.length c1_1] 28 (0, 0)) (by (with_reducible repeat (first | refine blk_drewN ?_ _ | refine blk_drew ?_ | refine blk_alloc ?_ _)); exact BK331.out)) : gb331 ≠ gb333)); have n7_ := Aside0.mk ((by rw [hg]; exact Nat.ne_of_gt (blk_lt (g := gb331) (o := .cells #[.slice A1_0 l1_0.length c1_0, .slice A1_1 l1_1.length c1_1] 28 (0, 0)) (by (with_reducible repeat (first | refine blk_drewN ?_ _ | refine blk_drew ?_ | refine blk_alloc ?_ _)); exact BK331.out)) : gb333 ≠ gb331)); have n8_ := Aside0.mk ((by rw [hg]; exact Nat.ne_of_lt (blk_lt (g := gb332) (o := .cells #[.string a2_0, .int .i64 a2_1] 46 (0, 0)) (by (with_reducible repeat (first | refine blk_drewN ?_ _ | refine blk_drew ?_ | refine blk_alloc ?_ _)); exact BK332.out)) : gb332 ≠ gb333)); have n9_ := Aside0.mk ((by rw [hg]; exact Nat.ne_of_gt (blk_lt (g := gb332) (o := .cells #[.string a2_0, .int .i64 a2_1] 46 (0, 0)) (by (with_reducible repeat (first | refine blk_drewN ?_ _ | refine blk_drew ?_ | refine blk_alloc ?_ _)); exact BK332.out)) : gb333 ≠ gb332)); clear BK331; clear BK332; clear HB; have BK331 := n0_; have BK332 := n1_; have HB := n2_; have BK333 := n3_; have GW333 := n4_; have GE333 := n5_; have NB331_333 := n6_; have NB333_331 := n7_; have NB332_333 := n8_; have NB333_332 := n9_; clear n0_ n1_ n2_ n3_ n4_ n5_ n6_ n7_ n8_ n9_; clear hb hbox hg) | (go_at_call 9; (with_reducible refine (malthouselaw08_awake.calls  t334 _ ?side1 A5.out).mono ?_); (case side1 => exact Tabs.below hT (by repeat (first | (with_reducible first | exact HB.out | apply below_alloc | apply pw_below_drewN | apply below_drew1 | refine below_set ?_ GE331.out | refine below_set ?_ GE332.out | refine below_set ?_ GE333.out) | exact HB.out))); rintro e w12 ⟨rfl, hb⟩; have n0_ := Aside0.mk (blk_below (g := gb331) (o := .cells #[.slice A1_0 l1_0.length c1_0, .slice A1_1 l1_1.length c1_1] 28 (0, 0)) (by (with_reducible repeat (first | refine blk_drewN ?_ _ | refine blk_drew ?_ | refine blk_alloc ?_ _)); exact BK331.out) hb); have n1_ := Aside0.mk (blk_below (g := gb332) (o := .cells #[.string a2_0, .int .i64 a2_1] 46 (0, 0)) (by (with_reducible repeat (first | refine blk_drewN ?_ _ | refine blk_drew ?_ | refine blk_alloc ?_ _)); exact BK332.out) hb); have n2_ := Aside0.mk (blk_below (g := gb333) (o := .cells #[.string a3_0, .int .i64 a3_1] 46 (0, 0)) (by (with_reducible repeat (first | refine blk_drewN ?_ _ | refine blk_drew ?_ | refine blk_alloc ?_ _)); exact BK333.out) hb); have n3_ := Aside0.mk (below_step (by repeat (first | (with_reducible first | exact HB.out | apply below_alloc | apply pw_below_drewN | apply below_drew1 | refine below_set ?_ GE331.out | refine below_set ?_ GE332.out | refine below_set ?_ GE333.out) | exact HB.out)) hb); clear BK331; clear BK332; clear BK333; clear HB; have BK331 := n0_; have BK332 := n1_; have BK333 := n2_; have HB := n3_; clear n0_ n1_ n2_ n3_; (try clear hb); (try clear hb2); (try clear hk); (try clear hi)) | (go_at_call 10; (with_reducible refine (malthouselaw08_small.calls k _ _ l0 t335 _ ?side1 ?side2 A6.out).mono ?_); (case side1 => repeat (first | exact (Kd.C_below HR0.out HB.out) | (with_reducible refine Kd.C_alloc ?_ _) | (with_reducible refine Kd.C_drewN ?_ _) | (with_reducible refine Kd.C_drew ?_))); (case side2 => exact HC0.out); rintro e w' ⟨rfl, ⟨nd, rfl⟩⟩; (try first | exact ⟨rfl, _, World.drewN_drewN _ _ _⟩ | exact ⟨rfl, _, Eq.trans (World.drewN_drewN _ _ _) (congrArg (World.drewN _) (Nat.add_assoc _ _ _))⟩); have hnb13 := NB331_332.out; have hnc13 := NB332_331.out; have hnb14 := NB331_333.out; have hnc14 := NB333_331.out; have hcz15_0 : w12.cell? ⟨gb331, 0, none⟩ = some (.slice A1_0 l1_0.length c1_0) := (blk_cell BK331.out 0).trans rfl; have hcz15_1 : w12.cell? ⟨gb331, 1, none⟩ = some (.slice A1_1 l1_1.length c1_1) := (blk_cell BK331.out 1).trans rfl; have hfz15_0 := blk_frozen BK331.out 0; have hfz15_1 := blk_frozen BK331.out 1; have hnb16 := NB332_333.out; have hnc16 := NB333_332.out; have hcz17_0 : w12.cell? ⟨gb332, 0, none⟩ = some (.string a2_0) := (blk_cell BK332.out 0).trans rfl; have hcz17_1 : w12.cell? ⟨gb332, 1, none⟩ = some (.int .i64 a2_1) := (blk_cell BK332.out 1).trans rfl; have hfz17_0 := blk_frozen BK332.out 0; have hfz17_1 := blk_frozen BK332.out 1; have hcz18_0 : w12.cell? ⟨gb333, 0, none⟩ = some (.string a3_0) := (blk_cell BK333.out 0).trans rfl; have hcz18_1 : w12.cell? ⟨gb333, 1, none⟩ = some (.int .i64 a3_1) := (blk_cell BK333.out 1).trans rfl; have hfz18_0 := blk_frozen BK333.out 0; have hfz18_1 := blk_frozen BK333.out 1) | ((with_reducible refine gate_dst (N := 24) rfl ?_); refine Kd.R_lit k46 _ 46 ?hg (N := 24) ?hd (xs := ([(⟨a2_0, a2_1⟩ : S46), (⟨a3_0, a3_1⟩ : S46)] : List (S46))) (inner := [.string a2_0, .int .i64 a2_1, .string a3_0, .int .i64 a3_1]) (ok := fun _ => True) (okp := fun _ => True) ?hr ?hp (fun _ hk => hk) trivial (Below.refl _ _) (Nat.le_refl _) (by simp) ?_; (case hd => rfl); (case hg => rfl); (case hr => first | (go_simp; done) | (go_simp; rfl)); (case hp => exact (Reps.c2 (show Kd.M k46 _ _ _ (⟨a2_0, a2_1⟩ : S46) [.string a2_0, .int .i64 a2_1] from (k46_mkM _ _ _ (⟨a2_0, a2_1⟩ : S46) )) (Reps.c2 (show Kd.M k46 _ _ _ (⟨a3_0, a3_1⟩ : S46) [.string a3_0, .int .i64 a3_1] from (k46_mkM _ _ _ (⟨a3_0, a3_1⟩ : S46) )) (Reps.none _ _)))); intro v337 w19 ho20 hb hg_ hnew_; clear hg_ hnew_; (first | rw [← Ny336.out] at ho20 | (simp only [Int.reduceToNat] at ho20; rw [← Ny336.out] at ho20)); have n0_ := Aside0.mk (Kd.R_lower (Kd.R_newB (Kd.R_newB ho20 (g := gb332) (o := .cells #[.string a2_0, .int .i64 a2_1] 46 (0, 0)) (by (with_reducible repeat (first | refine blk_drewN ?_ _ | refine blk_drew ?_ | refine blk_alloc ?_ _)); exact BK332.out)) (g := gb333) (o := .cells #[.string a3_0, .int .i64 a3_1] 46 (0, 0)) (by (with_reducible repeat (first | refine blk_drewN ?_ _ | refine blk_drew ?_ | refine blk_alloc ?_ _)); exact BK333.out)) (below_size (by repeat (first | (with_reducible first | exact HB.out | apply below_alloc | apply pw_below_drewN | apply below_drew1 | refine below_set ?_ GE331.out | refine below_set ?_ GE332.out | refine below_set ?_ GE333.out) | exact HB.out)))); have n1_ := Aside0.mk (blk_below (g := gb331) (o := .cells #[.slice A1_0 l1_0.length c1_0, .slice A1_1 l1_1.length c1_1] 28 (0, 0)) (by (with_reducible repeat (first | refine blk_drewN ?_ _ | refine blk_drew ?_ | refine blk_alloc ?_ _)); exact BK331.out) hb); have n2_ := Aside0.mk (blk_below (g := gb332) (o := .cells #[.string a2_0, .int .i64 a2_1] 46 (0, 0)) (by (with_reducible repeat (first | refine blk_drewN ?_ _ | refine blk_drew ?_ | refine blk_alloc ?_ _)); exact BK332.out) hb); have n3_ := Aside0.mk (blk_below (g := gb333) (o := .cells #[.string a3_0, .int .i64 a3_1] 46 (0, 0)) (by (with_reducible repeat (first | refine blk_drewN ?_ _ | refine blk_drew ?_ | refine blk_alloc ?_ _)); exact BK333.out) hb); have n4_ := Aside0.mk (below_step (by repeat (first | (with_reducible first | exact HB.out | apply below_alloc | apply pw_below_drewN | apply below_drew1 | refine below_set ?_ GE331.out | refine below_set ?_ GE332.out | refine below_set ?_ GE333.out) | exact HB.out)) hb); clear BK331; clear BK332; clear BK333; clear HB; have HO338 := n0_; have BK331 := n1_; have BK332 := n2_; have BK333 := n3_; have HB := n4_; clear n0_ n1_ n2_ n3_ n4_; clear hb ho20; obtain ⟨Ao21, co21, eo21⟩ := Kd.R_slice HO338.out; subst eo21) | (go_at_call 18; (with_reducible refine (malthouselaw08_fair.calls k _ _ l1_0 _ _ l1_1 _ _ y336 t339 _ ?side1 ?side2 ?side3 ?side4 ?side5 ?side6 A7.out).mono ?_); (case side1 => repeat (first | exact (Kd.C_below HR1_0.out HB.out) | (with_reducible refine Kd.C_alloc ?_ _) | (with_reducible refine Kd.C_drewN ?_ _) | (with_reducible refine Kd.C_drew ?_))); (case side2 => exact HC1_0.out); (case side3 => repeat (first | exact (Kd.C_below HR1_1.out HB.out) | (with_reducible refine Kd.C_alloc ?_ _) | (with_reducible refine Kd.C_drewN ?_ _) | (with_reducible refine Kd.C_drew ?_))); (case side4 => exact HC1_1.out); (case side5 => repeat (first | exact (Kd.R_reads' HO338.out).2.2 | (with_reducible refine Kd.C_alloc ?_ _) | (with_reducible refine Kd.C_drewN ?_ _) | (with_reducible refine Kd.C_drew ?_))); (case side6 => exact (Kd.R_reads' HO338.out).2.1); rintro e w22 ⟨rfl, hb⟩; have n0_ := Aside0.mk (Kd.R_below (by (with_reducible repeat (first | apply Kd.R_alloc | apply Kd.R_drewN | apply Kd.R_drew)); exact HO338.out) hb); have n1_ := Aside0.mk (blk_below (g := gb331) (o := .cells #[.slice A1_0 l1_0.length c1_0, .slice A1_1 l1_1.length c1_1] 28 (0, 0)) (by (with_reducible repeat (first | refine blk_drewN ?_ _ | refine blk_drew ?_ | refine blk_alloc ?_ _)); exact BK331.out) hb); have n2_ := Aside0.mk (blk_below (g := gb332) (o := .cells #[.string a2_0, .int .i64 a2_1] 46 (0, 0)) (by (with_reducible repeat (first | refine blk_drewN ?_ _ | refine blk_drew ?_ | refine blk_alloc ?_ _)); exact BK332.out) hb); have n3_ := Aside0.mk (blk_below (g := gb333) (o := .cells #[.string a3_0, .int .i64 a3_1] 46 (0, 0)) (by (with_reducible repeat (first | refine blk_drewN ?_ _ | refine blk_drew ?_ | refine blk_alloc ?_ _)); exact BK333.out) hb); have n4_ := Aside0.mk (below_step (by repeat (first | (with_reducible first | exact HB.out | apply below_alloc | apply pw_below_drewN | apply below_drew1 | refine below_set ?_ GE331.out | refine below_set ?_ GE332.out | refine below_set ?_ GE333.out) | exact HB.out)) hb); clear HO338; clear BK331; clear BK332; clear BK333; clear HB; have HO338 := n0_; have BK331 := n1_; have BK332 := n2_; have BK333 := n3_; have HB := n4_; clear n0_ n1_ n2_ n3_ n4_; (try clear hb); (try clear hb2); (try clear hk); (try clear hi))))
  (try simp only [Act.put, List.setIfInBounds_toArray, List.set_cons_zero, List.set_cons_succ])
  go_cut [42] (fun v42 wc => ∃ (kq : Nat) (x42_7 : Bool), v42 = .bool x42_7 ∧ Aside0 (malthouselaw08_TagsApart.j0 kq l0 t334 x42_7 l1_0 l1_1 a2_0 a2_1 a3_0 a3_1 = some r) ∧ Aside0 (kq ≤ k) ∧ Aside0 (wc.heap[gb331]? = some (.cells #[(.slice A1_0 l1_0.length c1_0), (.slice A1_1 l1_1.length c1_1)] 28 (0, 0))) ∧ Aside0 (wc.heap[gb332]? = some (.cells #[.string a2_0, .int .i64 a2_1] 46 (0, 0))) ∧ Aside0 (wc.heap[gb333]? = some (.cells #[.string a3_0, .int .i64 a3_1] 46 (0, 0))) ∧ Aside0 (Below w.heap.size w wc))
  case first =>
    have H := HC8.out
    clear HC8
    by_cases c23 : t334 = true
    · subst c23
      have H1 : (if t335 = true then (if t339 = true then (malthouselaw08_TagsApart.j0 k l0 true (a2_0.toList == a3_0.toList) l1_0 l1_1 a2_0 a2_1 a3_0 a3_1) else (malthouselaw08_TagsApart.j0 k l0 true true l1_0 l1_1 a2_0 a2_1 a3_0 a3_1)) else (malthouselaw08_TagsApart.j0 k l0 true true l1_0 l1_1 a2_0 a2_1 a3_0 a3_1)) = some r := by rw [if_pos rfl] at H; exact H
      clear H
      have H := H1
      clear H1
      by_cases c24 : t335 = true
      · subst c24
        have H1 : (if t339 = true then (malthouselaw08_TagsApart.j0 k l0 true (a2_0.toList == a3_0.toList) l1_0 l1_1 a2_0 a2_1 a3_0 a3_1) else (malthouselaw08_TagsApart.j0 k l0 true true l1_0 l1_1 a2_0 a2_1 a3_0 a3_1)) = some r := by rw [if_pos rfl] at H; exact H
        clear H
        have H := H1
        clear H1
        by_cases c25 : t339 = true
        · subst c25
          have H1 : (malthouselaw08_TagsApart.j0 k l0 true (a2_0.toList == a3_0.toList) l1_0 l1_1 a2_0 a2_1 a3_0 a3_1) = some r := by rw [if_pos rfl] at H; exact H
          clear H
          have H := H1
          clear H1
          have H' := Aside0.mk H
          clear H
          have hnb26 := NB332_331.out
          have hnc26 := NB331_332.out
          have hnb27 := NB332_333.out
          have hnc27 := NB333_332.out
          have hcz28_0 : w22.cell? ⟨gb332, 0, none⟩ = some (.string a2_0) := (blk_cell BK332.out 0).trans rfl
          have hcz28_1 : w22.cell? ⟨gb332, 1, none⟩ = some (.int .i64 a2_1) := (blk_cell BK332.out 1).trans rfl
          have hfz28_0 := blk_frozen BK332.out 0
          have hfz28_1 := blk_frozen BK332.out 1
          have hnb29 := NB333_331.out
          have hnc29 := NB331_333.out
          have hcz30_0 : w22.cell? ⟨gb333, 0, none⟩ = some (.string a3_0) := (blk_cell BK333.out 0).trans rfl
          have hcz30_1 : w22.cell? ⟨gb333, 1, none⟩ = some (.int .i64 a3_1) := (blk_cell BK333.out 1).trans rfl
          have hfz30_0 := blk_frozen BK333.out 0
          have hfz30_1 := blk_frozen BK333.out 1
          go_wp2
          repeat (go_quiet (fail); try go_wp2)
          go_meet
          case rel => exact ⟨_, ((a2_0.toList == a3_0.toList)), (by first | rfl | (simp; done) | (simp [*]; done)), H', ⟨by first | omega | exact Nat.le_refl _⟩, ⟨by (with_reducible repeat (first | refine blk_drewN ?_ _ | refine blk_drew ?_ | refine blk_alloc ?_ _)); exact BK331.out⟩, ⟨by (with_reducible repeat (first | refine blk_drewN ?_ _ | refine blk_drew ?_ | refine blk_alloc ?_ _)); exact BK332.out⟩, ⟨by (with_reducible repeat (first | refine blk_drewN ?_ _ | refine blk_drew ?_ | refine blk_alloc ?_ _)); exact BK333.out⟩, ⟨by repeat (first | (with_reducible first | exact HB.out | apply below_alloc | apply pw_below_drewN | apply below_drew1 | refine below_set ?_ GE331.out | refine below_set ?_ GE332.out | refine below_set ?_ GE333.out) | exact HB.out)⟩⟩
        · replace c25 := Bool.eq_false_iff.mpr c25
          subst c25
          have H1 : (malthouselaw08_TagsApart.j0 k l0 true true l1_0 l1_1 a2_0 a2_1 a3_0 a3_1) = some r := by rw [if_neg (show ¬ (false = true) by decide)] at H; exact H
          clear H
          have H := H1
          clear H1
          have H' := Aside0.mk H
          clear H
          go_wp2
          repeat (go_quiet (fail); try go_wp2)
          go_meet
          case rel => exact ⟨_, (true), (by first | rfl | (simp; done) | (simp [*]; done)), H', ⟨by first | omega | exact Nat.le_refl _⟩, ⟨by (with_reducible repeat (first | refine blk_drewN ?_ _ | refine blk_drew ?_ | refine blk_alloc ?_ _)); exact BK331.out⟩, ⟨by (with_reducible repeat (first | refine blk_drewN ?_ _ | refine blk_drew ?_ | refine blk_alloc ?_ _)); exact BK332.out⟩, ⟨by (with_reducible repeat (first | refine blk_drewN ?_ _ | refine blk_drew ?_ | refine blk_alloc ?_ _)); exact BK333.out⟩, ⟨by repeat (first | (with_reducible first | exact HB.out | apply below_alloc | apply pw_below_drewN | apply below_drew1 | refine below_set ?_ GE331.out | refine below_set ?_ GE332.out | refine below_set ?_ GE333.out) | exact HB.out)⟩⟩
      · replace c24 := Bool.eq_false_iff.mpr c24
        subst c24
        have H1 : (malthouselaw08_TagsApart.j0 k l0 true true l1_0 l1_1 a2_0 a2_1 a3_0 a3_1) = some r := by rw [if_neg (show ¬ (false = true) by decide)] at H; exact H
        clear H
        have H := H1
        clear H1
        have H' := Aside0.mk H
        clear H
        go_wp2
        repeat (go_quiet (fail); try go_wp2)
        go_meet
        case rel => exact ⟨_, (true), (by first | rfl | (simp; done) | (simp [*]; done)), H', ⟨by first | omega | exact Nat.le_refl _⟩, ⟨by (with_reducible repeat (first | refine blk_drewN ?_ _ | refine blk_drew ?_ | refine blk_alloc ?_ _)); exact BK331.out⟩, ⟨by (with_reducible repeat (first | refine blk_drewN ?_ _ | refine blk_drew ?_ | refine blk_alloc ?_ _)); exact BK332.out⟩, ⟨by (with_reducible repeat (first | refine blk_drewN ?_ _ | refine blk_drew ?_ | refine blk_alloc ?_ _)); exact BK333.out⟩, ⟨by repeat (first | (with_reducible first | exact HB.out | apply below_alloc | apply pw_below_drewN | apply below_drew1 | refine below_set ?_ GE331.out | refine below_set ?_ GE332.out | refine below_set ?_ GE333.out) | exact HB.out)⟩⟩
    · replace c23 := Bool.eq_false_iff.mpr c23
      subst c23
      have H1 : (malthouselaw08_TagsApart.j0 k l0 false true l1_0 l1_1 a2_0 a2_1 a3_0 a3_1) = some r := by rw [if_neg (show ¬ (false = true) by decide)] at H; exact H
      clear H
      have H := H1
      clear H1
      have H' := Aside0.mk H
      clear H
      go_wp2
      repeat (go_quiet (fail); try go_wp2)
      go_meet
      case rel => exact ⟨_, (true), (by first | rfl | (simp; done) | (simp [*]; done)), H', ⟨by first | omega | exact Nat.le_refl _⟩, ⟨by (with_reducible repeat (first | refine blk_drewN ?_ _ | refine blk_drew ?_ | refine blk_alloc ?_ _)); exact BK331.out⟩, ⟨by (with_reducible repeat (first | refine blk_drewN ?_ _ | refine blk_drew ?_ | refine blk_alloc ?_ _)); exact BK332.out⟩, ⟨by (with_reducible repeat (first | refine blk_drewN ?_ _ | refine blk_drew ?_ | refine blk_alloc ?_ _)); exact BK333.out⟩, ⟨by repeat (first | (with_reducible first | exact HB.out | apply below_alloc | apply pw_below_drewN | apply below_drew1 | refine below_set ?_ GE331.out | refine below_set ?_ GE332.out | refine below_set ?_ GE333.out) | exact HB.out)⟩⟩
  case rest =>
    clear HC8
    try clear c1
    try clear c2
    try clear p2
    try clear c7
    try clear c13
    try clear c14
    try clear c16
    try clear c23
    try clear c24
    try clear c25
    try clear c26
    try clear c27
    try clear c29
    try clear hcz15_0
    try clear hcz15_1
    try clear hcz17_0
    try clear hcz17_1
    try clear hcz18_0
    try clear hcz18_1
    try clear hcz28_0
    try clear hcz28_1
    try clear hcz30_0
    try clear hcz30_1
    try clear hfz15_0
    try clear hfz15_1
    try clear hfz17_0
    try clear hfz17_1
    try clear hfz18_0
    try clear hfz18_1
    try clear hfz28_0
    try clear hfz28_1
    try clear hfz30_0
    try clear hfz30_1
    obtain ⟨kq, x42_7, rfl, HA, HJ7, BK331, BK332, BK333, HB⟩ := hcut
    cases kq with
    | zero => exact absurd HA.out (by simp [malthouselaw08_TagsApart.j0])
    | succ kj7 =>
      have H := HA.out
      clear HA
      simp only [malthouselaw08_TagsApart.j0] at H
      by_cases c31 : x42_7 = true
      · subst c31
        have H1 : (some t334) = some r := by rw [if_pos rfl] at H; exact H
        clear H
        have H := H1
        clear H1
        obtain rfl := Option.some.inj H
        go_wp2
        repeat (go_quiet (fail); try go_wp2)
        go_ret
        exact ⟨by first | rfl | (simp [errW_none, errW_some] <;> rfl) | (simp [*, errW_none, errW_some] <;> rfl), by repeat (first | (with_reducible first | exact HB.out | apply below_alloc | apply pw_below_drewN | apply below_drew1 | refine below_set ?_ GE331.out | refine below_set ?_ GE332.out | refine below_set ?_ GE333.out) | exact HB.out)⟩
      · replace c31 := Bool.eq_false_iff.mpr c31
        subst c31
        have H1 : ((tags_Latch.f l0 l1_0 l1_1 (([(⟨a2_0, a2_1⟩ : S46), (⟨a3_0, a3_1⟩ : S46)] : List (S46)))).bind fun bt343 => ((tags_Latch.f l0 l1_0 l1_1 (([(⟨a3_0, a3_1⟩ : S46), (⟨a2_0, a2_1⟩ : S46)] : List (S46)))).bind fun bt354 => ((malthouseref08_Same.f kj7 bt343.1 bt343.2.1 bt354.1 bt354.2.1).bind fun t362 => (if t362 = true then (malthouselaw08_TagsApart.j1 kj7 l0 bt343.2.2 (bt343.2.2 != bt354.2.2) l1_0 l1_1 a2_0 a2_1 a3_0 a3_1 bt343.1 bt343.2.1) else (malthouselaw08_TagsApart.j1 kj7 l0 bt343.2.2 true l1_0 l1_1 a2_0 a2_1 a3_0 a3_1 bt343.1 bt343.2.1))))) = some r := by rw [if_neg (show ¬ (false = true) by decide)] at H; exact H
        clear H
        have H := H1
        clear H1
        obtain ⟨y340, hy340⟩ : ∃ y_ : List (S46), y_ = (([(⟨a2_0, a2_1⟩ : S46), (⟨a3_0, a3_1⟩ : S46)] : List (S46))) := ⟨_, rfl⟩
        replace H : ((tags_Latch.f l0 l1_0 l1_1 y340).bind fun bt343 => ((tags_Latch.f l0 l1_0 l1_1 (([(⟨a3_0, a3_1⟩ : S46), (⟨a2_0, a2_1⟩ : S46)] : List (S46)))).bind fun bt354 => ((malthouseref08_Same.f kj7 bt343.1 bt343.2.1 bt354.1 bt354.2.1).bind fun t362 => (if t362 = true then (malthouselaw08_TagsApart.j1 kj7 l0 bt343.2.2 (bt343.2.2 != bt354.2.2) l1_0 l1_1 a2_0 a2_1 a3_0 a3_1 bt343.1 bt343.2.1) else (malthouselaw08_TagsApart.j1 kj7 l0 bt343.2.2 true l1_0 l1_1 a2_0 a2_1 a3_0 a3_1 bt343.1 bt343.2.1))))) = some r := by first | (rw [hy340]; with_reducible exact H) | (have H2_ := (Option.bind_some _ _).symm.trans H; rw [hy340]; with_reducible exact H2_) | (have H2_ := (Option.bind_some _ _).symm.trans H; with_reducible exact H2_) | with_reducible exact H | (rw [hy340]; exact H) | exact H
        have Ny340 := Aside0.mk hy340
        clear hy340
        replace H := Option.bind_eq_some_iff.mp H
        obtain ⟨⟨t343, t346, t349⟩, A320, H⟩ := H
        replace H : ((tags_Latch.f l0 l1_0 l1_1 (([(⟨a3_0, a3_1⟩ : S46), (⟨a2_0, a2_1⟩ : S46)] : List (S46)))).bind fun bt354 => ((malthouseref08_Same.f kj7 t343 t346 bt354.1 bt354.2.1).bind fun t362 => (if t362 = true then (malthouselaw08_TagsApart.j1 kj7 l0 t349 (t349 != bt354.2.2) l1_0 l1_1 a2_0 a2_1 a3_0 a3_1 t343 t346) else (malthouselaw08_TagsApart.j1 kj7 l0 t349 true l1_0 l1_1 a2_0 a2_1 a3_0 a3_1 t343 t346)))) = some r := H
        have A32 := Aside0.mk A320
        clear A320
        obtain ⟨y351, hy351⟩ : ∃ y_ : List (S46), y_ = (([(⟨a3_0, a3_1⟩ : S46), (⟨a2_0, a2_1⟩ : S46)] : List (S46))) := ⟨_, rfl⟩
        replace H : ((tags_Latch.f l0 l1_0 l1_1 y351).bind fun bt354 => ((malthouseref08_Same.f kj7 t343 t346 bt354.1 bt354.2.1).bind fun t362 => (if t362 = true then (malthouselaw08_TagsApart.j1 kj7 l0 t349 (t349 != bt354.2.2) l1_0 l1_1 a2_0 a2_1 a3_0 a3_1 t343 t346) else (malthouselaw08_TagsApart.j1 kj7 l0 t349 true l1_0 l1_1 a2_0 a2_1 a3_0 a3_1 t343 t346)))) = some r := by first | (rw [hy351]; with_reducible exact H) | (have H2_ := (Option.bind_some _ _).symm.trans H; rw [hy351]; with_reducible exact H2_) | (have H2_ := (Option.bind_some _ _).symm.trans H; with_reducible exact H2_) | with_reducible exact H | (rw [hy351]; exact H) | exact H
        have Ny351 := Aside0.mk hy351
        clear hy351
        replace H := Option.bind_eq_some_iff.mp H
        obtain ⟨⟨t354, t357, t360⟩, A330, H⟩ := H
        replace H : ((malthouseref08_Same.f kj7 t343 t346 t354 t357).bind fun t362 => (if t362 = true then (malthouselaw08_TagsApart.j1 kj7 l0 t349 (t349 != t360) l1_0 l1_1 a2_0 a2_1 a3_0 a3_1 t343 t346) else (malthouselaw08_TagsApart.j1 kj7 l0 t349 true l1_0 l1_1 a2_0 a2_1 a3_0 a3_1 t343 t346))) = some r := H
        have A33 := Aside0.mk A330
        clear A330
        replace H := Option.bind_eq_some_iff.mp H
        obtain ⟨t362, A340, H⟩ := H
        replace H : (if t362 = true then (malthouselaw08_TagsApart.j1 kj7 l0 t349 (t349 != t360) l1_0 l1_1 a2_0 a2_1 a3_0 a3_1 t343 t346) else (malthouselaw08_TagsApart.j1 kj7 l0 t349 true l1_0 l1_1 a2_0 a2_1 a3_0 a3_1 t343 t346)) = some r := H
        have A34 := Aside0.mk A340
        clear A340
        have HC35 := Aside0.mk H
        clear H
        have hnb36 := NB331_332.out
        have hnc36 := NB332_331.out
        have hnb37 := NB331_333.out
        have hnc37 := NB333_331.out
        have hcz38_0 : wc.cell? ⟨gb331, 0, none⟩ = some (.slice A1_0 l1_0.length c1_0) := (blk_cell BK331.out 0).trans rfl
        have hcz38_1 : wc.cell? ⟨gb331, 1, none⟩ = some (.slice A1_1 l1_1.length c1_1) := (blk_cell BK331.out 1).trans rfl
        have hfz38_0 := blk_frozen BK331.out 0
        have hfz38_1 := blk_frozen BK331.out 1
        have hnb39 := NB332_333.out
        have hnc39 := NB333_332.out
        have hcz40_0 : wc.cell? ⟨gb332, 0, none⟩ = some (.string a2_0) := (blk_cell BK332.out 0).trans rfl
        have hcz40_1 : wc.cell? ⟨gb332, 1, none⟩ = some (.int .i64 a2_1) := (blk_cell BK332.out 1).trans rfl
        have hfz40_0 := blk_frozen BK332.out 0
        have hfz40_1 := blk_frozen BK332.out 1
        have hcz41_0 : wc.cell? ⟨gb333, 0, none⟩ = some (.string a3_0) := (blk_cell BK333.out 0).trans rfl
        have hcz41_1 : wc.cell? ⟨gb333, 1, none⟩ = some (.int .i64 a3_1) := (blk_cell BK333.out 1).trans rfl
        have hfz41_0 := blk_frozen BK333.out 0
        have hfz41_1 := blk_frozen BK333.out 1
        go_upto_region 9 with (first | ((with_reducible refine gate_dst (N := 49) rfl ?_); refine Kd.R_lit k46 _ 46 ?hg (N := 49) ?hd (xs := ([(⟨a2_0, a2_1⟩ : S46), (⟨a3_0, a3_1⟩ : S46)] : List (S46))) (inner := [.string a2_0, .int .i64 a2_1, .string a3_0, .int .i64 a3_1]) (ok := fun _ => True) (okp := fun _ => True) ?hr ?hp (fun _ hk => hk) trivial (Below.refl _ _) (Nat.le_refl _) (by simp) ?_; (case hd => rfl); (case hg => rfl); (case hr => first | (go_simp; done) | (go_simp; rfl)); (case hp => exact (Reps.c2 (show Kd.M k46 _ _ _ (⟨a2_0, a2_1⟩ : S46) [.string a2_0, .int .i64 a2_1] from (k46_mkM _ _ _ (⟨a2_0, a2_1⟩ : S46) )) (Reps.c2 (show Kd.M k46 _ _ _ (⟨a3_0, a3_1⟩ : S46) [.string a3_0, .int .i64 a3_1] from (k46_mkM _ _ _ (⟨a3_0, a3_1⟩ : S46) )) (Reps.none _ _)))); intro v341 w42 ho43 hb hg_ hnew_; clear hg_ hnew_; (first | rw [← Ny340.out] at ho43 | (simp only [Int.reduceToNat] at ho43; rw [← Ny340.out] at ho43)); have n0_ := Aside0.mk (Kd.R_lower (Kd.R_newB (Kd.R_newB ho43 (g := gb332) (o := .cells #[.string a2_0, .int .i64 a2_1] 46 (0, 0)) (by (with_reducible repeat (first | refine blk_drewN ?_ _ | refine blk_drew ?_ | refine blk_alloc ?_ _)); exact BK332.out)) (g := gb333) (o := .cells #[.string a3_0, .int .i64 a3_1] 46 (0, 0)) (by (with_reducible repeat (first | refine blk_drewN ?_ _ | refine blk_drew ?_ | refine blk_alloc ?_ _)); exact BK333.out)) (below_size (by repeat (first | (with_reducible first | exact HB.out | apply below_alloc | apply pw_below_drewN | apply below_drew1 | refine below_set ?_ GE331.out | refine below_set ?_ GE332.out | refine below_set ?_ GE333.out) | exact HB.out)))); have n1_ := Aside0.mk (blk_below (g := gb331) (o := .cells #[.slice A1_0 l1_0.length c1_0, .slice A1_1 l1_1.length c1_1] 28 (0, 0)) (by (with_reducible repeat (first | refine blk_drewN ?_ _ | refine blk_drew ?_ | refine blk_alloc ?_ _)); exact BK331.out) hb); have n2_ := Aside0.mk (blk_below (g := gb332) (o := .cells #[.string a2_0, .int .i64 a2_1] 46 (0, 0)) (by (with_reducible repeat (first | refine blk_drewN ?_ _ | refine blk_drew ?_ | refine blk_alloc ?_ _)); exact BK332.out) hb); have n3_ := Aside0.mk (blk_below (g := gb333) (o := .cells #[.string a3_0, .int .i64 a3_1] 46 (0, 0)) (by (with_reducible repeat (first | refine blk_drewN ?_ _ | refine blk_drew ?_ | refine blk_alloc ?_ _)); exact BK333.out) hb); have n4_ := Aside0.mk (below_step (by repeat (first | (with_reducible first | exact HB.out | apply below_alloc | apply pw_below_drewN | apply below_drew1 | refine below_set ?_ GE331.out | refine below_set ?_ GE332.out | refine below_set ?_ GE333.out) | exact HB.out)) hb); clear BK331; clear BK332; clear BK333; clear HB; have HO342 := n0_; have BK331 := n1_; have BK332 := n2_; have BK333 := n3_; have HB := n4_; clear n0_ n1_ n2_ n3_ n4_; clear hb ho43; obtain ⟨Ao44, co44, eo44⟩ := Kd.R_slice HO342.out; subst eo44) | (go_at_call 20; (with_reducible refine (tags_Latch.calls _ _ l0 _ _ l1_0 _ _ l1_1 _ _ y340 t343 t346 t349 _ ?side1 ?side2 ?side3 ?side4 ?side5 ?side6 ?side7 ?side8 ?side9 A32.out).mono ?_); (case side1 => repeat (first | exact (Kd.C_below HR0.out HB.out) | (with_reducible refine Kd.C_alloc ?_ _) | (with_reducible refine Kd.C_drewN ?_ _) | (with_reducible refine Kd.C_drew ?_))); (case side2 => exact HC0.out); (case side3 => repeat (first | exact (Kd.C_below HR1_0.out HB.out) | (with_reducible refine Kd.C_alloc ?_ _) | (with_reducible refine Kd.C_drewN ?_ _) | (with_reducible refine Kd.C_drew ?_))); (case side4 => exact HC1_0.out); (case side5 => repeat (first | exact (Kd.C_below HR1_1.out HB.out) | (with_reducible refine Kd.C_alloc ?_ _) | (with_reducible refine Kd.C_drewN ?_ _) | (with_reducible refine Kd.C_drew ?_))); (case side6 => exact HC1_1.out); (case side7 => repeat (first | exact (Kd.R_reads' HO342.out).2.2 | (with_reducible refine Kd.C_alloc ?_ _) | (with_reducible refine Kd.C_drewN ?_ _) | (with_reducible refine Kd.C_drew ?_))); (case side8 => exact (Kd.R_reads' HO342.out).2.1); (case side9 => exact Tabs.below hT (by repeat (first | (with_reducible first | exact HB.out | apply below_alloc | apply pw_below_drewN | apply below_drew1 | refine below_set ?_ GE331.out | refine below_set ?_ GE332.out | refine below_set ?_ GE333.out) | exact HB.out))); rintro e w45 ⟨v344, v347, rfl, ho0, ho1, hb⟩; have n0_ := Aside0.mk (Kd.R_below (by (with_reducible repeat (first | apply Kd.R_alloc | apply Kd.R_drewN | apply Kd.R_drew)); exact HO342.out) hb); have n1_ := Aside0.mk (Kd.R_lower ho0 (below_size (by repeat (first | (with_reducible first | exact HB.out | apply below_alloc | apply pw_below_drewN | apply below_drew1 | refine below_set ?_ GE331.out | refine below_set ?_ GE332.out | refine below_set ?_ GE333.out) | exact HB.out)))); have n2_ := Aside0.mk (Kd.R_lower ho1 (below_size (by repeat (first | (with_reducible first | exact HB.out | apply below_alloc | apply pw_below_drewN | apply below_drew1 | refine below_set ?_ GE331.out | refine below_set ?_ GE332.out | refine below_set ?_ GE333.out) | exact HB.out)))); have n3_ := Aside0.mk (blk_below (g := gb331) (o := .cells #[.slice A1_0 l1_0.length c1_0, .slice A1_1 l1_1.length c1_1] 28 (0, 0)) (by (with_reducible repeat (first | refine blk_drewN ?_ _ | refine blk_drew ?_ | refine blk_alloc ?_ _)); exact BK331.out) hb); have n4_ := Aside0.mk (blk_below (g := gb332) (o := .cells #[.string a2_0, .int .i64 a2_1] 46 (0, 0)) (by (with_reducible repeat (first | refine blk_drewN ?_ _ | refine blk_drew ?_ | refine blk_alloc ?_ _)); exact BK332.out) hb); have n5_ := Aside0.mk (blk_below (g := gb333) (o := .cells #[.string a3_0, .int .i64 a3_1] 46 (0, 0)) (by (with_reducible repeat (first | refine blk_drewN ?_ _ | refine blk_drew ?_ | refine blk_alloc ?_ _)); exact BK333.out) hb); have n6_ := Aside0.mk (below_step (by repeat (first | (with_reducible first | exact HB.out | apply below_alloc | apply pw_below_drewN | apply below_drew1 | refine below_set ?_ GE331.out | refine below_set ?_ GE332.out | refine below_set ?_ GE333.out) | exact HB.out)) hb); clear HO342; clear BK331; clear BK332; clear BK333; clear HB; have HO342 := n0_; have HO345 := n1_; have HO348 := n2_; have BK331 := n3_; have BK332 := n4_; have BK333 := n5_; have HB := n6_; clear n0_ n1_ n2_ n3_ n4_ n5_ n6_; (try clear hb); (try clear hb2); (try clear hk); (try clear hi); (try clear ho0); (try clear ho1)) | ((with_reducible refine gate_dst (N := 12) rfl ?_); refine box_event ?hg (N := 12) ?hd (cs := #[.slice none 0 0, .slice none 0 0]) (t := 28) ?hr ?_; (case hd => rfl); (case hg => rfl); (case hr => first | (go_simp; done) | (go_simp; rfl)); intro gb350 hg w46 hbox hb; have n0_ := Aside0.mk (Kd.R_below (by (with_reducible repeat (first | apply Kd.R_alloc | apply Kd.R_drewN | apply Kd.R_drew)); exact HO342.out) hb); have n1_ := Aside0.mk (Kd.R_below (by (with_reducible repeat (first | apply Kd.R_alloc | apply Kd.R_drewN | apply Kd.R_drew)); exact HO345.out) hb); have n2_ := Aside0.mk (Kd.R_below (by (with_reducible repeat (first | apply Kd.R_alloc | apply Kd.R_drewN | apply Kd.R_drew)); exact HO348.out) hb); have n3_ := Aside0.mk (blk_below (g := gb331) (o := .cells #[.slice A1_0 l1_0.length c1_0, .slice A1_1 l1_1.length c1_1] 28 (0, 0)) (by (with_reducible repeat (first | refine blk_drewN ?_ _ | refine blk_drew ?_ | refine blk_alloc ?_ _)); exact BK331.out) hb); have n4_ := Aside0.mk (blk_below (g := gb332) (o := .cells #[.string a2_0, .int .i64 a2_1] 46 (0, 0)) (by (with_reducible repeat (first | refine blk_drewN ?_ _ | refine blk_drew ?_ | refine blk_alloc ?_ _)); exact BK332.out) hb); have n5_ := Aside0.mk (blk_below (g := gb333) (o := .cells #[.string a3_0, .int .i64 a3_1] 46 (0, 0)) (by (with_reducible repeat (first | refine blk_drewN ?_ _ | refine blk_drew ?_ | refine blk_alloc ?_ _)); exact BK333.out) hb); have n6_ := Aside0.mk (below_step (by repeat (first | (with_reducible first | exact HB.out | apply below_alloc | apply pw_below_drewN | apply below_drew1 | refine below_set ?_ GE331.out | refine below_set ?_ GE332.out | refine below_set ?_ GE333.out) | exact HB.out)) hb); have n7_ := Aside0.mk (hbox); have n8_ := Aside0.mk ((by rw [hg]; exact (below_size (by repeat (first | (with_reducible first | exact HB.out | apply below_alloc | apply pw_below_drewN | apply below_drew1 | refine below_set ?_ GE331.out | refine below_set ?_ GE332.out | refine below_set ?_ GE333.out) | exact HB.out))) : w.heap.size ≤ gb350)); have n9_ := Aside0.mk ((by rw [hg]; exact (below_size (by repeat (first | (with_reducible first | exact HB.out | apply below_alloc | apply pw_below_drewN | apply below_drew1 | refine below_set ?_ GE331.out | refine below_set ?_ GE332.out | refine below_set ?_ GE333.out) | exact HB.out))) : w.heap.size ≤ gb350)); have n10_ := Aside0.mk ((by rw [hg]; exact Nat.ne_of_lt (blk_lt (g := gb331) (o := .cells #[.slice A1_0 l1_0.length c1_0, .slice A1_1 l1_1.length c1_1] 28 (0, 0)) (by (with_reducible repeat (first | refine blk_drewN ?_ _ | refine blk_drew ?_ | refine blk_alloc ?_ _)); exact BK331.out)) : gb331 ≠ gb350)); have n11_ := Aside0.mk ((by rw [hg]; exact Nat.ne_of_gt (blk_lt (g := gb331) (o := .cells #[.slice A1_0 l1_0.length c1_0, .slice A1_1 l1_1.length c1_1] 28 (0, 0)) (by (with_reducible repeat (first | refine blk_drewN ?_ _ | refine blk_drew ?_ | refine blk_alloc ?_ _)); exact BK331.out)) : gb350 ≠ gb331)); have n12_ := Aside0.mk ((by rw [hg]; exact Nat.ne_of_lt (blk_lt (g := gb332) (o := .cells #[.string a2_0, .int .i64 a2_1] 46 (0, 0)) (by (with_reducible repeat (first | refine blk_drewN ?_ _ | refine blk_drew ?_ | refine blk_alloc ?_ _)); exact BK332.out)) : gb332 ≠ gb350)); have n13_ := Aside0.mk ((by rw [hg]; exact Nat.ne_of_gt (blk_lt (g := gb332) (o := .cells #[.string a2_0, .int .i64 a2_1] 46 (0, 0)) (by (with_reducible repeat (first | refine blk_drewN ?_ _ | refine blk_drew ?_ | refine blk_alloc ?_ _)); exact BK332.out)) : gb350 ≠ gb332)); have n14_ := Aside0.mk ((by rw [hg]; exact Nat.ne_of_lt (blk_lt (g := gb333) (o := .cells #[.string a3_0, .int .i64 a3_1] 46 (0, 0)) (by (with_reducible repeat (first | refine blk_drewN ?_ _ | refine blk_drew ?_ | refine blk_alloc ?_ _)); exact BK333.out)) : gb333 ≠ gb350)); have n15_ := Aside0.mk ((by rw [hg]; exact Nat.ne_of_gt (blk_lt (g := gb333) (o := .cells #[.string a3_0, .int .i64 a3_1] 46 (0, 0)) (by (with_reducible repeat (first | refine blk_drewN ?_ _ | refine blk_drew ?_ | refine blk_alloc ?_ _)); exact BK333.out)) : gb350 ≠ gb333)); clear HO342; clear HO345; clear HO348; clear BK331; clear BK332; clear BK333; clear HB; have HO342 := n0_; have HO345 := n1_; have HO348 := n2_; have BK331 := n3_; have BK332 := n4_; have BK333 := n5_; have HB := n6_; have BK350 := n7_; have GW350 := n8_; have GE350 := n9_; have NB331_350 := n10_; have NB350_331 := n11_; have NB332_350 := n12_; have NB350_332 := n13_; have NB333_350 := n14_; have NB350_333 := n15_; clear n0_ n1_ n2_ n3_ n4_ n5_ n6_ n7_ n8_ n9_ n10_ n11_ n12_ n13_ n14_ n15_; clear hb hbox hg; obtain ⟨Ao47, co47, eo47⟩ := Kd.R_slice HO345.out; subst eo47; have hnb48 := NB350_331.out; have hnc48 := NB331_350.out; have hnb49 := NB350_332.out; have hnc49 := NB332_350.out; have hnb50 := NB350_333.out; have hnc50 := NB333_350.out; have hcz51_0 : w46.cell? ⟨gb350, 0, none⟩ = some (.slice none 0 0) := (blk_cell BK350.out 0).trans rfl; have hcz51_1 : w46.cell? ⟨gb350, 1, none⟩ = some (.slice none 0 0) := (blk_cell BK350.out 1).trans rfl; have hfz51_0 := blk_frozen BK350.out 0; have hfz51_1 := blk_frozen BK350.out 1; obtain ⟨Ao52, co52, eo52⟩ := Kd.R_slice HO348.out; subst eo52; have hcz53_0 : w46.cell? ⟨gb331, 0, none⟩ = some (.slice A1_0 l1_0.length c1_0) := (blk_cell BK331.out 0).trans rfl; have hcz53_1 : w46.cell? ⟨gb331, 1, none⟩ = some (.slice A1_1 l1_1.length c1_1) := (blk_cell BK331.out 1).trans rfl; have hfz53_0 := blk_frozen BK331.out 0; have hfz53_1 := blk_frozen BK331.out 1; have hcz54_0 : w46.cell? ⟨gb333, 0, none⟩ = some (.string a3_0) := (blk_cell BK333.out 0).trans rfl; have hcz54_1 : w46.cell? ⟨gb333, 1, none⟩ = some (.int .i64 a3_1) := (blk_cell BK333.out 1).trans rfl; have hfz54_0 := blk_frozen BK333.out 0; have hfz54_1 := blk_frozen BK333.out 1; have hcz55_0 : w46.cell? ⟨gb332, 0, none⟩ = some (.string a2_0) := (blk_cell BK332.out 0).trans rfl; have hcz55_1 : w46.cell? ⟨gb332, 1, none⟩ = some (.int .i64 a2_1) := (blk_cell BK332.out 1).trans rfl; have hfz55_0 := blk_frozen BK332.out 0; have hfz55_1 := blk_frozen BK332.out 1) | ((with_reducible refine gate_dst (N := 58) rfl ?_); refine Kd.R_lit k46 _ 46 ?hg (N := 58) ?hd (xs := ([(⟨a3_0, a3_1⟩ : S46), (⟨a2_0, a2_1⟩ : S46)] : List (S46))) (inner := [.string a3_0, .int .i64 a3_1, .string a2_0, .int .i64 a2_1]) (ok := fun _ => True) (okp := fun _ => True) ?hr ?hp (fun _ hk => hk) trivial (Below.refl _ _) (Nat.le_refl _) (by simp) ?_; (case hd => rfl); (case hg => rfl); (case hr => first | (go_simp; done) | (go_simp; rfl)); (case hp => exact (Reps.c2 (show Kd.M k46 _ _ _ (⟨a3_0, a3_1⟩ : S46) [.string a3_0, .int .i64 a3_1] from (k46_mkM _ _ _ (⟨a3_0, a3_1⟩ : S46) )) (Reps.c2 (show Kd.M k46 _ _ _ (⟨a2_0, a2_1⟩ : S46) [.string a2_0, .int .i64 a2_1] from (k46_mkM _ _ _ (⟨a2_0, a2_1⟩ : S46) )) (Reps.none _ _)))); intro v352 w56 ho57 hb hg_ hnew_; clear hg_ hnew_; (first | rw [← Ny351.out] at ho57 | (simp only [Int.reduceToNat] at ho57; rw [← Ny351.out] at ho57)); have n0_ := Aside0.mk (Kd.R_elder' (by (with_reducible repeat (first | apply Kd.R_alloc | apply Kd.R_drewN | apply Kd.R_drew)); exact (Kd.R_mono (Kd.R_far (p := ⟨gb350, 1, none⟩) (Kd.R_far (p := ⟨gb350, 0, none⟩) (Kd.R_types HO342.out BK350.out (by decide)) (fun _ hk => hk.2) (.slice Ao47 t343.length co47)) (fun _ hk => hk.2) (.slice Ao52 t346.length co52)) (fun _ h_ => h_.1))) (Kd.R_base ho57) hb); have n1_ := Aside0.mk (Kd.R_below (by (with_reducible repeat (first | apply Kd.R_alloc | apply Kd.R_drewN | apply Kd.R_drew)); exact (Kd.R_mono (Kd.R_far (p := ⟨gb350, 1, none⟩) (Kd.R_far (p := ⟨gb350, 0, none⟩) (Kd.R_types HO345.out BK350.out (by decide)) (fun _ hk => hk.2) (.slice Ao47 t343.length co47)) (fun _ hk => hk.2) (.slice Ao52 t346.length co52)) (fun _ h_ => h_.1))) hb); have n2_ := Aside0.mk (Kd.R_below (by (with_reducible repeat (first | apply Kd.R_alloc | apply Kd.R_drewN | apply Kd.R_drew)); exact (Kd.R_mono (Kd.R_far (p := ⟨gb350, 1, none⟩) (Kd.R_far (p := ⟨gb350, 0, none⟩) (Kd.R_types HO348.out BK350.out (by decide)) (fun _ hk => hk.2) (.slice Ao47 t343.length co47)) (fun _ hk => hk.2) (.slice Ao52 t346.length co52)) (fun _ h_ => h_.1))) hb); have n3_ := Aside0.mk (Kd.R_lower (Kd.R_newB (Kd.R_newB (Kd.R_new' ho57 (Kd.R_lt (by (with_reducible repeat (first | apply Kd.R_alloc | apply Kd.R_drewN | apply Kd.R_drew)); exact (Kd.R_mono (Kd.R_far (p := ⟨gb350, 1, none⟩) (Kd.R_far (p := ⟨gb350, 0, none⟩) (Kd.R_types HO342.out BK350.out (by decide)) (fun _ hk => hk.2) (.slice Ao47 t343.length co47)) (fun _ hk => hk.2) (.slice Ao52 t346.length co52)) (fun _ h_ => h_.1))))) (g := gb332) (o := .cells #[.string a2_0, .int .i64 a2_1] 46 (0, 0)) (by (with_reducible repeat (first | refine blk_drewN ?_ _ | refine blk_drew ?_ | refine blk_alloc ?_ _)); refine blk_far ?_ NB332_350.out _; (with_reducible repeat (first | refine blk_drewN ?_ _ | refine blk_drew ?_ | refine blk_alloc ?_ _)); refine blk_far ?_ NB332_350.out _; (with_reducible repeat (first | refine blk_drewN ?_ _ | refine blk_drew ?_ | refine blk_alloc ?_ _)); exact BK332.out)) (g := gb333) (o := .cells #[.string a3_0, .int .i64 a3_1] 46 (0, 0)) (by (with_reducible repeat (first | refine blk_drewN ?_ _ | refine blk_drew ?_ | refine blk_alloc ?_ _)); refine blk_far ?_ NB333_350.out _; (with_reducible repeat (first | refine blk_drewN ?_ _ | refine blk_drew ?_ | refine blk_alloc ?_ _)); refine blk_far ?_ NB333_350.out _; (with_reducible repeat (first | refine blk_drewN ?_ _ | refine blk_drew ?_ | refine blk_alloc ?_ _)); exact BK333.out)) (below_size (by repeat (first | (with_reducible first | exact HB.out | apply below_alloc | apply pw_below_drewN | apply below_drew1 | refine below_set ?_ GE331.out | refine below_set ?_ GE332.out | refine below_set ?_ GE333.out | refine below_set ?_ GE350.out) | exact HB.out)))); have n4_ := Aside0.mk (blk_below (g := gb331) (o := .cells #[.slice A1_0 l1_0.length c1_0, .slice A1_1 l1_1.length c1_1] 28 (0, 0)) (by (with_reducible repeat (first | refine blk_drewN ?_ _ | refine blk_drew ?_ | refine blk_alloc ?_ _)); refine blk_far ?_ NB331_350.out _; (with_reducible repeat (first | refine blk_drewN ?_ _ | refine blk_drew ?_ | refine blk_alloc ?_ _)); refine blk_far ?_ NB331_350.out _; (with_reducible repeat (first | refine blk_drewN ?_ _ | refine blk_drew ?_ | refine blk_alloc ?_ _)); exact BK331.out) hb); have n5_ := Aside0.mk (blk_below (g := gb332) (o := .cells #[.string a2_0, .int .i64 a2_1] 46 (0, 0)) (by (with_reducible repeat (first | refine blk_drewN ?_ _ | refine blk_drew ?_ | refine blk_alloc ?_ _)); refine blk_far ?_ NB332_350.out _; (with_reducible repeat (first | refine blk_drewN ?_ _ | refine blk_drew ?_ | refine blk_alloc ?_ _)); refine blk_far ?_ NB332_350.out _; (with_reducible repeat (first | refine blk_drewN ?_ _ | refine blk_drew ?_ | refine blk_alloc ?_ _)); exact BK332.out) hb); have n6_ := Aside0.mk (blk_below (g := gb333) (o := .cells #[.string a3_0, .int .i64 a3_1] 46 (0, 0)) (by (with_reducible repeat (first | refine blk_drewN ?_ _ | refine blk_drew ?_ | refine blk_alloc ?_ _)); refine blk_far ?_ NB333_350.out _; (with_reducible repeat (first | refine blk_drewN ?_ _ | refine blk_drew ?_ | refine blk_alloc ?_ _)); refine blk_far ?_ NB333_350.out _; (with_reducible repeat (first | refine blk_drewN ?_ _ | refine blk_drew ?_ | refine blk_alloc ?_ _)); exact BK333.out) hb); have n7_ := Aside0.mk (blk_below (g := gb350) (o := .cells #[.slice Ao47 t343.length co47, .slice Ao52 t346.length co52] 28 (0, 0)) (by (with_reducible repeat (first | refine blk_drewN ?_ _ | refine blk_drew ?_ | refine blk_alloc ?_ _)); refine blk_put (cs := #[.slice Ao47 t343.length co47, .slice none 0 0]) ?_ 1 _ rfl; (with_reducible repeat (first | refine blk_drewN ?_ _ | refine blk_drew ?_ | refine blk_alloc ?_ _)); refine blk_put (cs := #[.slice none 0 0, .slice none 0 0]) ?_ 0 _ rfl; (with_reducible repeat (first | refine blk_drewN ?_ _ | refine blk_drew ?_ | refine blk_alloc ?_ _)); exact BK350.out) hb); have n8_ := Aside0.mk (below_step (by repeat (first | (with_reducible first | exact HB.out | apply below_alloc | apply pw_below_drewN | apply below_drew1 | refine below_set ?_ GE331.out | refine below_set ?_ GE332.out | refine below_set ?_ GE333.out | refine below_set ?_ GE350.out) | exact HB.out)) hb); clear HO342; clear HO345; clear HO348; clear BK331; clear BK332; clear BK333; clear BK350; clear HB; have HO342 := n0_; have HO345 := n1_; have HO348 := n2_; have HO353 := n3_; have BK331 := n4_; have BK332 := n5_; have BK333 := n6_; have BK350 := n7_; have HB := n8_; clear n0_ n1_ n2_ n3_ n4_ n5_ n6_ n7_ n8_; clear hb ho57; obtain ⟨Ao58, co58, eo58⟩ := Kd.R_slice HO353.out; subst eo58) | (go_at_call 20; (with_reducible refine (tags_Latch.calls _ _ l0 _ _ l1_0 _ _ l1_1 _ _ y351 t354 t357 t360 _ ?side1 ?side2 ?side3 ?side4 ?side5 ?side6 ?side7 ?side8 ?side9 A33.out).mono ?_); (case side1 => repeat (first | exact (Kd.C_below HR0.out HB.out) | (with_reducible refine Kd.C_alloc ?_ _) | (with_reducible refine Kd.C_drewN ?_ _) | (with_reducible refine Kd.C_drew ?_))); (case side2 => exact HC0.out); (case side3 => repeat (first | exact (Kd.C_below HR1_0.out HB.out) | (with_reducible refine Kd.C_alloc ?_ _) | (with_reducible refine Kd.C_drewN ?_ _) | (with_reducible refine Kd.C_drew ?_))); (case side4 => exact HC1_0.out); (case side5 => repeat (first | exact (Kd.C_below HR1_1.out HB.out) | (with_reducible refine Kd.C_alloc ?_ _) | (with_reducible refine Kd.C_drewN ?_ _) | (with_reducible refine Kd.C_drew ?_))); (case side6 => exact HC1_1.out); (case side7 => repeat (first | exact (Kd.R_reads' HO353.out).2.2 | (with_reducible refine Kd.C_alloc ?_ _) | (with_reducible refine Kd.C_drewN ?_ _) | (with_reducible refine Kd.C_drew ?_))); (case side8 => exact (Kd.R_reads' HO353.out).2.1); (case side9 => exact Tabs.below hT (by repeat (first | (with_reducible first | exact HB.out | apply below_alloc | apply pw_below_drewN | apply below_drew1 | refine below_set ?_ GE331.out | refine below_set ?_ GE332.out | refine below_set ?_ GE333.out | refine below_set ?_ GE350.out) | exact HB.out))); rintro e w59 ⟨v355, v358, rfl, ho0, ho1, hb⟩; have n0_ := Aside0.mk (Kd.R_below (by (with_reducible repeat (first | apply Kd.R_alloc | apply Kd.R_drewN | apply Kd.R_drew)); exact HO342.out) hb); have n1_ := Aside0.mk (Kd.R_elder' (by (with_reducible repeat (first | apply Kd.R_alloc | apply Kd.R_drewN | apply Kd.R_drew)); exact HO345.out) (Kd.R_base ho0) hb); have n2_ := Aside0.mk (Kd.R_elder' (by (with_reducible repeat (first | apply Kd.R_alloc | apply Kd.R_drewN | apply Kd.R_drew)); exact HO348.out) (Kd.R_base ho1) hb); have n3_ := Aside0.mk (Kd.R_below (by (with_reducible repeat (first | apply Kd.R_alloc | apply Kd.R_drewN | apply Kd.R_drew)); exact HO353.out) hb); have n4_ := Aside0.mk (Kd.R_lower (Kd.R_new' ho0 (Kd.R_lt (by (with_reducible repeat (first | apply Kd.R_alloc | apply Kd.R_drewN | apply Kd.R_drew)); exact HO345.out))) (below_size (by repeat (first | (with_reducible first | exact HB.out | apply below_alloc | apply pw_below_drewN | apply below_drew1 | refine below_set ?_ GE331.out | refine below_set ?_ GE332.out | refine below_set ?_ GE333.out | refine below_set ?_ GE350.out) | exact HB.out)))); have n5_ := Aside0.mk (Kd.R_lower (Kd.R_new' ho1 (Kd.R_lt (by (with_reducible repeat (first | apply Kd.R_alloc | apply Kd.R_drewN | apply Kd.R_drew)); exact HO348.out))) (below_size (by repeat (first | (with_reducible first | exact HB.out | apply below_alloc | apply pw_below_drewN | apply below_drew1 | refine below_set ?_ GE331.out | refine below_set ?_ GE332.out | refine below_set ?_ GE333.out | refine below_set ?_ GE350.out) | exact HB.out)))); have n6_ := Aside0.mk (blk_below (g := gb331) (o := .cells #[.slice A1_0 l1_0.length c1_0, .slice A1_1 l1_1.length c1_1] 28 (0, 0)) (by (with_reducible repeat (first | refine blk_drewN ?_ _ | refine blk_drew ?_ | refine blk_alloc ?_ _)); exact BK331.out) hb); have n7_ := Aside0.mk (blk_below (g := gb332) (o := .cells #[.string a2_0, .int .i64 a2_1] 46 (0, 0)) (by (with_reducible repeat (first | refine blk_drewN ?_ _ | refine blk_drew ?_ | refine blk_alloc ?_ _)); exact BK332.out) hb); have n8_ := Aside0.mk (blk_below (g := gb333) (o := .cells #[.string a3_0, .int .i64 a3_1] 46 (0, 0)) (by (with_reducible repeat (first | refine blk_drewN ?_ _ | refine blk_drew ?_ | refine blk_alloc ?_ _)); exact BK333.out) hb); have n9_ := Aside0.mk (blk_below (g := gb350) (o := .cells #[.slice Ao47 t343.length co47, .slice Ao52 t346.length co52] 28 (0, 0)) (by (with_reducible repeat (first | refine blk_drewN ?_ _ | refine blk_drew ?_ | refine blk_alloc ?_ _)); exact BK350.out) hb); have n10_ := Aside0.mk (below_step (by repeat (first | (with_reducible first | exact HB.out | apply below_alloc | apply pw_below_drewN | apply below_drew1 | refine below_set ?_ GE331.out | refine below_set ?_ GE332.out | refine below_set ?_ GE333.out | refine below_set ?_ GE350.out) | exact HB.out)) hb); clear HO342; clear HO345; clear HO348; clear HO353; clear BK331; clear BK332; clear BK333; clear BK350; clear HB; have HO342 := n0_; have HO345 := n1_; have HO348 := n2_; have HO353 := n3_; have HO356 := n4_; have HO359 := n5_; have BK331 := n6_; have BK332 := n7_; have BK333 := n8_; have BK350 := n9_; have HB := n10_; clear n0_ n1_ n2_ n3_ n4_ n5_ n6_ n7_ n8_ n9_ n10_; (try clear hb); (try clear hb2); (try clear hk); (try clear hi); (try clear ho0); (try clear ho1)) | ((with_reducible refine gate_dst (N := 14) rfl ?_); refine box_event ?hg (N := 14) ?hd (cs := #[.slice none 0 0, .slice none 0 0]) (t := 28) ?hr ?_; (case hd => rfl); (case hg => rfl); (case hr => first | (go_simp; done) | (go_simp; rfl)); intro gb361 hg w60 hbox hb; have n0_ := Aside0.mk (Kd.R_below (by (with_reducible repeat (first | apply Kd.R_alloc | apply Kd.R_drewN | apply Kd.R_drew)); exact HO342.out) hb); have n1_ := Aside0.mk (Kd.R_below (by (with_reducible repeat (first | apply Kd.R_alloc | apply Kd.R_drewN | apply Kd.R_drew)); exact HO345.out) hb); have n2_ := Aside0.mk (Kd.R_below (by (with_reducible repeat (first | apply Kd.R_alloc | apply Kd.R_drewN | apply Kd.R_drew)); exact HO348.out) hb); have n3_ := Aside0.mk (Kd.R_below (by (with_reducible repeat (first | apply Kd.R_alloc | apply Kd.R_drewN | apply Kd.R_drew)); exact HO353.out) hb); have n4_ := Aside0.mk (Kd.R_below (by (with_reducible repeat (first | apply Kd.R_alloc | apply Kd.R_drewN | apply Kd.R_drew)); exact HO356.out) hb); have n5_ := Aside0.mk (Kd.R_below (by (with_reducible repeat (first | apply Kd.R_alloc | apply Kd.R_drewN | apply Kd.R_drew)); exact HO359.out) hb); have n6_ := Aside0.mk (blk_below (g := gb331) (o := .cells #[.slice A1_0 l1_0.length c1_0, .slice A1_1 l1_1.length c1_1] 28 (0, 0)) (by (with_reducible repeat (first | refine blk_drewN ?_ _ | refine blk_drew ?_ | refine blk_alloc ?_ _)); exact BK331.out) hb); have n7_ := Aside0.mk (blk_below (g := gb332) (o := .cells #[.string a2_0, .int .i64 a2_1] 46 (0, 0)) (by (with_reducible repeat (first | refine blk_drewN ?_ _ | refine blk_drew ?_ | refine blk_alloc ?_ _)); exact BK332.out) hb); have n8_ := Aside0.mk (blk_below (g := gb333) (o := .cells #[.string a3_0, .int .i64 a3_1] 46 (0, 0)) (by (with_reducible repeat (first | refine blk_drewN ?_ _ | refine blk_drew ?_ | refine blk_alloc ?_ _)); exact BK333.out) hb); have n9_ := Aside0.mk (blk_below (g := gb350) (o := .cells #[.slice Ao47 t343.length co47, .slice Ao52 t346.length co52] 28 (0, 0)) (by (with_reducible repeat (first | refine blk_drewN ?_ _ | refine blk_drew ?_ | refine blk_alloc ?_ _)); exact BK350.out) hb); have n10_ := Aside0.mk (below_step (by repeat (first | (with_reducible first | exact HB.out | apply below_alloc | apply pw_below_drewN | apply below_drew1 | refine below_set ?_ GE331.out | refine below_set ?_ GE332.out | refine below_set ?_ GE333.out | refine below_set ?_ GE350.out) | exact HB.out)) hb); have n11_ := Aside0.mk (hbox); have n12_ := Aside0.mk ((by rw [hg]; exact (below_size (by repeat (first | (with_reducible first | exact HB.out | apply below_alloc | apply pw_below_drewN | apply below_drew1 | refine below_set ?_ GE331.out | refine below_set ?_ GE332.out | refine below_set ?_ GE333.out | refine below_set ?_ GE350.out) | exact HB.out))) : w.heap.size ≤ gb361)); have n13_ := Aside0.mk ((by rw [hg]; exact (below_size (by repeat (first | (with_reducible first | exact HB.out | apply below_alloc | apply pw_below_drewN | apply below_drew1 | refine below_set ?_ GE331.out | refine below_set ?_ GE332.out | refine below_set ?_ GE333.out | refine below_set ?_ GE350.out) | exact HB.out))) : w.heap.size ≤ gb361)); have n14_ := Aside0.mk ((by rw [hg]; exact Nat.ne_of_lt (blk_lt (g := gb331) (o := .cells #[.slice A1_0 l1_0.length c1_0, .slice A1_1 l1_1.length c1_1] 28 (0, 0)) (by (with_reducible repeat (first | refine blk_drewN ?_ _ | refine blk_drew ?_ | refine blk_alloc ?_ _)); exact BK331.out)) : gb331 ≠ gb361)); have n15_ := Aside0.mk ((by rw [hg]; exact Nat.ne_of_gt (blk_lt (g := gb331) (o := .cells #[.slice A1_0 l1_0.length c1_0, .slice A1_1 l1_1.length c1_1] 28 (0, 0)) (by (with_reducible repeat (first | refine blk_drewN ?_ _ | refine blk_drew ?_ | refine blk_alloc ?_ _)); exact BK331.out)) : gb361 ≠ gb331)); have n16_ := Aside0.mk ((by rw [hg]; exact Nat.ne_of_lt (blk_lt (g := gb332) (o := .cells #[.string a2_0, .int .i64 a2_1] 46 (0, 0)) (by (with_reducible repeat (first | refine blk_drewN ?_ _ | refine blk_drew ?_ | refine blk_alloc ?_ _)); exact BK332.out)) : gb332 ≠ gb361)); have n17_ := Aside0.mk ((by rw [hg]; exact Nat.ne_of_gt (blk_lt (g := gb332) (o := .cells #[.string a2_0, .int .i64 a2_1] 46 (0, 0)) (by (with_reducible repeat (first | refine blk_drewN ?_ _ | refine blk_drew ?_ | refine blk_alloc ?_ _)); exact BK332.out)) : gb361 ≠ gb332)); have n18_ := Aside0.mk ((by rw [hg]; exact Nat.ne_of_lt (blk_lt (g := gb333) (o := .cells #[.string a3_0, .int .i64 a3_1] 46 (0, 0)) (by (with_reducible repeat (first | refine blk_drewN ?_ _ | refine blk_drew ?_ | refine blk_alloc ?_ _)); exact BK333.out)) : gb333 ≠ gb361)); have n19_ := Aside0.mk ((by rw [hg]; exact Nat.ne_of_gt (blk_lt (g := gb333) (o := .cells #[.string a3_0, .int .i64 a3_1] 46 (0, 0)) (by (with_reducible repeat (first | refine blk_drewN ?_ _ | refine blk_drew ?_ | refine blk_alloc ?_ _)); exact BK333.out)) : gb361 ≠ gb333)); have n20_ := Aside0.mk ((by rw [hg]; exact Nat.ne_of_lt (blk_lt (g := gb350) (o := .cells #[.slice Ao47 t343.length co47, .slice Ao52 t346.length co52] 28 (0, 0)) (by (with_reducible repeat (first | refine blk_drewN ?_ _ | refine blk_drew ?_ | refine blk_alloc ?_ _)); exact BK350.out)) : gb350 ≠ gb361)); have n21_ := Aside0.mk ((by rw [hg]; exact Nat.ne_of_gt (blk_lt (g := gb350) (o := .cells #[.slice Ao47 t343.length co47, .slice Ao52 t346.length co52] 28 (0, 0)) (by (with_reducible repeat (first | refine blk_drewN ?_ _ | refine blk_drew ?_ | refine blk_alloc ?_ _)); exact BK350.out)) : gb361 ≠ gb350)); clear HO342; clear HO345; clear HO348; clear HO353; clear HO356; clear HO359; clear BK331; clear BK332; clear BK333; clear BK350; clear HB; have HO342 := n0_; have HO345 := n1_; have HO348 := n2_; have HO353 := n3_; have HO356 := n4_; have HO359 := n5_; have BK331 := n6_; have BK332 := n7_; have BK333 := n8_; have BK350 := n9_; have HB := n10_; have BK361 := n11_; have GW361 := n12_; have GE361 := n13_; have NB331_361 := n14_; have NB361_331 := n15_; have NB332_361 := n16_; have NB361_332 := n17_; have NB333_361 := n18_; have NB361_333 := n19_; have NB350_361 := n20_; have NB361_350 := n21_; clear n0_ n1_ n2_ n3_ n4_ n5_ n6_ n7_ n8_ n9_ n10_ n11_ n12_ n13_ n14_ n15_ n16_ n17_ n18_ n19_ n20_ n21_; clear hb hbox hg; obtain ⟨Ao61, co61, eo61⟩ := Kd.R_slice HO356.out; subst eo61; have hnb62 := NB361_331.out; have hnc62 := NB331_361.out; have hnb63 := NB361_332.out; have hnc63 := NB332_361.out; have hnb64 := NB361_333.out; have hnc64 := NB333_361.out; have hnb65 := NB361_350.out; have hnc65 := NB350_361.out; have hcz66_0 : w60.cell? ⟨gb361, 0, none⟩ = some (.slice none 0 0) := (blk_cell BK361.out 0).trans rfl; have hcz66_1 : w60.cell? ⟨gb361, 1, none⟩ = some (.slice none 0 0) := (blk_cell BK361.out 1).trans rfl; have hfz66_0 := blk_frozen BK361.out 0; have hfz66_1 := blk_frozen BK361.out 1; obtain ⟨Ao67, co67, eo67⟩ := Kd.R_slice HO359.out; subst eo67; have hcz68_0 : w60.cell? ⟨gb350, 0, none⟩ = some (.slice Ao47 t343.length co47) := (blk_cell BK350.out 0).trans rfl; have hcz68_1 : w60.cell? ⟨gb350, 1, none⟩ = some (.slice Ao52 t346.length co52) := (blk_cell BK350.out 1).trans rfl; have hfz68_0 := blk_frozen BK350.out 0; have hfz68_1 := blk_frozen BK350.out 1) | (go_at_call 13; (with_reducible refine (malthouseref08_Same.calls kj7 _ _ t343 _ _ t346 _ _ t354 _ _ t357 t362 _ ?side1 ?side2 ?side3 ?side4 ?side5 ?side6 ?side7 ?side8 A34.out).mono ?_); (case side1 => refine (Kd.R_reads' (e := 3) (base := w.heap.size) (ok := fun k_ => (True ∧ some k_ ≠ (.slice Ao61 t354.length co61 : Value).ownBlock)) (n := t343.length) (c := co47) ?_).2.2; exact (by (with_reducible repeat (first | apply Kd.R_alloc | apply Kd.R_drewN | apply Kd.R_drew)); exact (Kd.R_mono (Kd.R_far (p := ⟨gb361, 1, none⟩) (Kd.R_far (p := ⟨gb361, 0, none⟩) (Kd.R_types HO345.out BK361.out (by decide)) (fun _ hk => hk.2) (.slice Ao61 t354.length co61)) (fun _ hk => hk.2) (.slice Ao67 t357.length co67)) (fun _ h_ => h_.1)))); (case side2 => exact (Kd.R_reads' HO345.out).2.1); (case side3 => refine (Kd.R_reads' (e := 4) (base := w.heap.size) (ok := fun k_ => (True ∧ some k_ ≠ (.slice Ao67 t357.length co67 : Value).ownBlock)) (n := t346.length) (c := co52) ?_).2.2; exact (by (with_reducible repeat (first | apply Kd.R_alloc | apply Kd.R_drewN | apply Kd.R_drew)); exact (Kd.R_mono (Kd.R_far (p := ⟨gb361, 1, none⟩) (Kd.R_far (p := ⟨gb361, 0, none⟩) (Kd.R_types HO348.out BK361.out (by decide)) (fun _ hk => hk.2) (.slice Ao61 t354.length co61)) (fun _ hk => hk.2) (.slice Ao67 t357.length co67)) (fun _ h_ => h_.1)))); (case side4 => exact (Kd.R_reads' HO348.out).2.1); (case side5 => refine (Kd.R_reads' (e := 3) (base := w.heap.size) (ok := fun k_ => (True ∧ some k_ ≠ (.slice Ao47 t343.length co47 : Value).ownBlock)) (n := t354.length) (c := co61) ?_).2.2; exact (by (with_reducible repeat (first | apply Kd.R_alloc | apply Kd.R_drewN | apply Kd.R_drew)); exact (Kd.R_mono (Kd.R_far (p := ⟨gb361, 1, none⟩) (Kd.R_far (p := ⟨gb361, 0, none⟩) (Kd.R_types HO356.out BK361.out (by decide)) (fun _ hk => hk.2) (.slice Ao61 t354.length co61)) (fun _ hk => hk.2) (.slice Ao67 t357.length co67)) (fun _ h_ => h_.1)))); (case side6 => exact (Kd.R_reads' HO356.out).2.1); (case side7 => refine (Kd.R_reads' (e := 4) (base := w.heap.size) (ok := fun k_ => (True ∧ some k_ ≠ (.slice Ao52 t346.length co52 : Value).ownBlock)) (n := t357.length) (c := co67) ?_).2.2; exact (by (with_reducible repeat (first | apply Kd.R_alloc | apply Kd.R_drewN | apply Kd.R_drew)); exact (Kd.R_mono (Kd.R_far (p := ⟨gb361, 1, none⟩) (Kd.R_far (p := ⟨gb361, 0, none⟩) (Kd.R_types HO359.out BK361.out (by decide)) (fun _ hk => hk.2) (.slice Ao61 t354.length co61)) (fun _ hk => hk.2) (.slice Ao67 t357.length co67)) (fun _ h_ => h_.1)))); (case side8 => exact (Kd.R_reads' HO359.out).2.1); rintro e w69 ⟨rfl, hb⟩; have n0_ := Aside0.mk (Kd.R_below (by (with_reducible repeat (first | apply Kd.R_alloc | apply Kd.R_drewN | apply Kd.R_drew)); exact (Kd.R_mono (Kd.R_far (p := ⟨gb361, 1, none⟩) (Kd.R_far (p := ⟨gb361, 0, none⟩) (Kd.R_types HO342.out BK361.out (by decide)) (fun _ hk => hk.2) (.slice Ao61 t354.length co61)) (fun _ hk => hk.2) (.slice Ao67 t357.length co67)) (fun _ h_ => h_.1))) hb); have n1_ := Aside0.mk (Kd.R_below (by (with_reducible repeat (first | apply Kd.R_alloc | apply Kd.R_drewN | apply Kd.R_drew)); exact (Kd.R_mono (Kd.R_far (p := ⟨gb361, 1, none⟩) (Kd.R_far (p := ⟨gb361, 0, none⟩) (Kd.R_types HO345.out BK361.out (by decide)) (fun _ hk => hk.2) (.slice Ao61 t354.length co61)) (fun _ hk => hk.2) (.slice Ao67 t357.length co67)) (fun _ h_ => h_.1))) hb); have n2_ := Aside0.mk (Kd.R_below (by (with_reducible repeat (first | apply Kd.R_alloc | apply Kd.R_drewN | apply Kd.R_drew)); exact (Kd.R_mono (Kd.R_far (p := ⟨gb361, 1, none⟩) (Kd.R_far (p := ⟨gb361, 0, none⟩) (Kd.R_types HO348.out BK361.out (by decide)) (fun _ hk => hk.2) (.slice Ao61 t354.length co61)) (fun _ hk => hk.2) (.slice Ao67 t357.length co67)) (fun _ h_ => h_.1))) hb); have n3_ := Aside0.mk (Kd.R_below (by (with_reducible repeat (first | apply Kd.R_alloc | apply Kd.R_drewN | apply Kd.R_drew)); exact (Kd.R_mono (Kd.R_far (p := ⟨gb361, 1, none⟩) (Kd.R_far (p := ⟨gb361, 0, none⟩) (Kd.R_types HO353.out BK361.out (by decide)) (fun _ hk => hk.2) (.slice Ao61 t354.length co61)) (fun _ hk => hk.2) (.slice Ao67 t357.length co67)) (fun _ h_ => h_.1))) hb); have n4_ := Aside0.mk (Kd.R_below (by (with_reducible repeat (first | apply Kd.R_alloc | apply Kd.R_drewN | apply Kd.R_drew)); exact (Kd.R_mono (Kd.R_far (p := ⟨gb361, 1, none⟩) (Kd.R_far (p := ⟨gb361, 0, none⟩) (Kd.R_types HO356.out BK361.out (by decide)) (fun _ hk => hk.2) (.slice Ao61 t354.length co61)) (fun _ hk => hk.2) (.slice Ao67 t357.length co67)) (fun _ h_ => h_.1))) hb); have n5_ := Aside0.mk (Kd.R_below (by (with_reducible repeat (first | apply Kd.R_alloc | apply Kd.R_drewN | apply Kd.R_drew)); exact (Kd.R_mono (Kd.R_far (p := ⟨gb361, 1, none⟩) (Kd.R_far (p := ⟨gb361, 0, none⟩) (Kd.R_types HO359.out BK361.out (by decide)) (fun _ hk => hk.2) (.slice Ao61 t354.length co61)) (fun _ hk => hk.2) (.slice Ao67 t357.length co67)) (fun _ h_ => h_.1))) hb); have n6_ := Aside0.mk (blk_below (g := gb331) (o := .cells #[.slice A1_0 l1_0.length c1_0, .slice A1_1 l1_1.length c1_1] 28 (0, 0)) (by (with_reducible repeat (first | refine blk_drewN ?_ _ | refine blk_drew ?_ | refine blk_alloc ?_ _)); refine blk_far ?_ NB331_361.out _; (with_reducible repeat (first | refine blk_drewN ?_ _ | refine blk_drew ?_ | refine blk_alloc ?_ _)); refine blk_far ?_ NB331_361.out _; (with_reducible repeat (first | refine blk_drewN ?_ _ | refine blk_drew ?_ | refine blk_alloc ?_ _)); exact BK331.out) hb); have n7_ := Aside0.mk (blk_below (g := gb332) (o := .cells #[.string a2_0, .int .i64 a2_1] 46 (0, 0)) (by (with_reducible repeat (first | refine blk_drewN ?_ _ | refine blk_drew ?_ | refine blk_alloc ?_ _)); refine blk_far ?_ NB332_361.out _; (with_reducible repeat (first | refine blk_drewN ?_ _ | refine blk_drew ?_ | refine blk_alloc ?_ _)); refine blk_far ?_ NB332_361.out _; (with_reducible repeat (first | refine blk_drewN ?_ _ | refine blk_drew ?_ | refine blk_alloc ?_ _)); exact BK332.out) hb); have n8_ := Aside0.mk (blk_below (g := gb333) (o := .cells #[.string a3_0, .int .i64 a3_1] 46 (0, 0)) (by (with_reducible repeat (first | refine blk_drewN ?_ _ | refine blk_drew ?_ | refine blk_alloc ?_ _)); refine blk_far ?_ NB333_361.out _; (with_reducible repeat (first | refine blk_drewN ?_ _ | refine blk_drew ?_ | refine blk_alloc ?_ _)); refine blk_far ?_ NB333_361.out _; (with_reducible repeat (first | refine blk_drewN ?_ _ | refine blk_drew ?_ | refine blk_alloc ?_ _)); exact BK333.out) hb); have n9_ := Aside0.mk (blk_below (g := gb350) (o := .cells #[.slice Ao47 t343.length co47, .slice Ao52 t346.length co52] 28 (0, 0)) (by (with_reducible repeat (first | refine blk_drewN ?_ _ | refine blk_drew ?_ | refine blk_alloc ?_ _)); refine blk_far ?_ NB350_361.out _; (with_reducible repeat (first | refine blk_drewN ?_ _ | refine blk_drew ?_ | refine blk_alloc ?_ _)); refine blk_far ?_ NB350_361.out _; (with_reducible repeat (first | refine blk_drewN ?_ _ | refine blk_drew ?_ | refine blk_alloc ?_ _)); exact BK350.out) hb); have n10_ := Aside0.mk (blk_below (g := gb361) (o := .cells #[.slice Ao61 t354.length co61, .slice Ao67 t357.length co67] 28 (0, 0)) (by (with_reducible repeat (first | refine blk_drewN ?_ _ | refine blk_drew ?_ | refine blk_alloc ?_ _)); refine blk_put (cs := #[.slice Ao61 t354.length co61, .slice none 0 0]) ?_ 1 _ rfl; (with_reducible repeat (first | refine blk_drewN ?_ _ | refine blk_drew ?_ | refine blk_alloc ?_ _)); refine blk_put (cs := #[.slice none 0 0, .slice none 0 0]) ?_ 0 _ rfl; (with_reducible repeat (first | refine blk_drewN ?_ _ | refine blk_drew ?_ | refine blk_alloc ?_ _)); exact BK361.out) hb); have n11_ := Aside0.mk (below_step (by repeat (first | (with_reducible first | exact HB.out | apply below_alloc | apply pw_below_drewN | apply below_drew1 | refine below_set ?_ GE331.out | refine below_set ?_ GE332.out | refine below_set ?_ GE333.out | refine below_set ?_ GE350.out | refine below_set ?_ GE361.out) | exact HB.out)) hb); clear HO342; clear HO345; clear HO348; clear HO353; clear HO356; clear HO359; clear BK331; clear BK332; clear BK333; clear BK350; clear BK361; clear HB; have HO342 := n0_; have HO345 := n1_; have HO348 := n2_; have HO353 := n3_; have HO356 := n4_; have HO359 := n5_; have BK331 := n6_; have BK332 := n7_; have BK333 := n8_; have BK350 := n9_; have BK361 := n10_; have HB := n11_; clear n0_ n1_ n2_ n3_ n4_ n5_ n6_ n7_ n8_ n9_ n10_ n11_; (try clear hb); (try clear hb2); (try clear hk); (try clear hi)))
        repeat (go_quiet (first | ((with_reducible refine gate_dst (N := 49) rfl ?_); refine Kd.R_lit k46 _ 46 ?hg (N := 49) ?hd (xs := ([(⟨a2_0, a2_1⟩ : S46), (⟨a3_0, a3_1⟩ : S46)] : List (S46))) (inner := [.string a2_0, .int .i64 a2_1, .string a3_0, .int .i64 a3_1]) (ok := fun _ => True) (okp := fun _ => True) ?hr ?hp (fun _ hk => hk) trivial (Below.refl _ _) (Nat.le_refl _) (by simp) ?_; (case hd => rfl); (case hg => rfl); (case hr => first | (go_simp; done) | (go_simp; rfl)); (case hp => exact (Reps.c2 (show Kd.M k46 _ _ _ (⟨a2_0, a2_1⟩ : S46) [.string a2_0, .int .i64 a2_1] from (k46_mkM _ _ _ (⟨a2_0, a2_1⟩ : S46) )) (Reps.c2 (show Kd.M k46 _ _ _ (⟨a3_0, a3_1⟩ : S46) [.string a3_0, .int .i64 a3_1] from (k46_mkM _ _ _ (⟨a3_0, a3_1⟩ : S46) )) (Reps.none _ _)))); intro v341 w42 ho43 hb hg_ hnew_; clear hg_ hnew_; (first | rw [← Ny340.out] at ho43 | (simp only [Int.reduceToNat] at ho43; rw [← Ny340.out] at ho43)); have n0_ := Aside0.mk (Kd.R_lower (Kd.R_newB (Kd.R_newB ho43 (g := gb332) (o := .cells #[.string a2_0, .int .i64 a2_1] 46 (0, 0)) (by (with_reducible repeat (first | refine blk_drewN ?_ _ | refine blk_drew ?_ | refine blk_alloc ?_ _)); exact BK332.out)) (g := gb333) (o := .cells #[.string a3_0, .int .i64 a3_1] 46 (0, 0)) (by (with_reducible repeat (first | refine blk_drewN ?_ _ | refine blk_drew ?_ | refine blk_alloc ?_ _)); exact BK333.out)) (below_size (by repeat (first | (with_reducible first | exact HB.out | apply below_alloc | apply pw_below_drewN | apply below_drew1 | refine below_set ?_ GE331.out | refine below_set ?_ GE332.out | refine below_set ?_ GE333.out) | exact HB.out)))); have n1_ := Aside0.mk (blk_below (g := gb331) (o := .cells #[.slice A1_0 l1_0.length c1_0, .slice A1_1 l1_1.length c1_1] 28 (0, 0)) (by (with_reducible repeat (first | refine blk_drewN ?_ _ | refine blk_drew ?_ | refine blk_alloc ?_ _)); exact BK331.out) hb); have n2_ := Aside0.mk (blk_below (g := gb332) (o := .cells #[.string a2_0, .int .i64 a2_1] 46 (0, 0)) (by (with_reducible repeat (first | refine blk_drewN ?_ _ | refine blk_drew ?_ | refine blk_alloc ?_ _)); exact BK332.out) hb); have n3_ := Aside0.mk (blk_below (g := gb333) (o := .cells #[.string a3_0, .int .i64 a3_1] 46 (0, 0)) (by (with_reducible repeat (first | refine blk_drewN ?_ _ | refine blk_drew ?_ | refine blk_alloc ?_ _)); exact BK333.out) hb); have n4_ := Aside0.mk (below_step (by repeat (first | (with_reducible first | exact HB.out | apply below_alloc | apply pw_below_drewN | apply below_drew1 | refine below_set ?_ GE331.out | refine below_set ?_ GE332.out | refine below_set ?_ GE333.out) | exact HB.out)) hb); clear BK331; clear BK332; clear BK333; clear HB; have HO342 := n0_; have BK331 := n1_; have BK332 := n2_; have BK333 := n3_; have HB := n4_; clear n0_ n1_ n2_ n3_ n4_; clear hb ho43; obtain ⟨Ao44, co44, eo44⟩ := Kd.R_slice HO342.out; subst eo44) | (go_at_call 20; (with_reducible refine (tags_Latch.calls _ _ l0 _ _ l1_0 _ _ l1_1 _ _ y340 t343 t346 t349 _ ?side1 ?side2 ?side3 ?side4 ?side5 ?side6 ?side7 ?side8 ?side9 A32.out).mono ?_); (case side1 => repeat (first | exact (Kd.C_below HR0.out HB.out) | (with_reducible refine Kd.C_alloc ?_ _) | (with_reducible refine Kd.C_drewN ?_ _) | (with_reducible refine Kd.C_drew ?_))); (case side2 => exact HC0.out); (case side3 => repeat (first | exact (Kd.C_below HR1_0.out HB.out) | (with_reducible refine Kd.C_alloc ?_ _) | (with_reducible refine Kd.C_drewN ?_ _) | (with_reducible refine Kd.C_drew ?_))); (case side4 => exact HC1_0.out); (case side5 => repeat (first | exact (Kd.C_below HR1_1.out HB.out) | (with_reducible refine Kd.C_alloc ?_ _) | (with_reducible refine Kd.C_drewN ?_ _) | (with_reducible refine Kd.C_drew ?_))); (case side6 => exact HC1_1.out); (case side7 => repeat (first | exact (Kd.R_reads' HO342.out).2.2 | (with_reducible refine Kd.C_alloc ?_ _) | (with_reducible refine Kd.C_drewN ?_ _) | (with_reducible refine Kd.C_drew ?_))); (case side8 => exact (Kd.R_reads' HO342.out).2.1); (case side9 => exact Tabs.below hT (by repeat (first | (with_reducible first | exact HB.out | apply below_alloc | apply pw_below_drewN | apply below_drew1 | refine below_set ?_ GE331.out | refine below_set ?_ GE332.out | refine below_set ?_ GE333.out) | exact HB.out))); rintro e w45 ⟨v344, v347, rfl, ho0, ho1, hb⟩; have n0_ := Aside0.mk (Kd.R_below (by (with_reducible repeat (first | apply Kd.R_alloc | apply Kd.R_drewN | apply Kd.R_drew)); exact HO342.out) hb); have n1_ := Aside0.mk (Kd.R_lower ho0 (below_size (by repeat (first | (with_reducible first | exact HB.out | apply below_alloc | apply pw_below_drewN | apply below_drew1 | refine below_set ?_ GE331.out | refine below_set ?_ GE332.out | refine below_set ?_ GE333.out) | exact HB.out)))); have n2_ := Aside0.mk (Kd.R_lower ho1 (below_size (by repeat (first | (with_reducible first | exact HB.out | apply below_alloc | apply pw_below_drewN | apply below_drew1 | refine below_set ?_ GE331.out | refine below_set ?_ GE332.out | refine below_set ?_ GE333.out) | exact HB.out)))); have n3_ := Aside0.mk (blk_below (g := gb331) (o := .cells #[.slice A1_0 l1_0.length c1_0, .slice A1_1 l1_1.length c1_1] 28 (0, 0)) (by (with_reducible repeat (first | refine blk_drewN ?_ _ | refine blk_drew ?_ | refine blk_alloc ?_ _)); exact BK331.out) hb); have n4_ := Aside0.mk (blk_below (g := gb332) (o := .cells #[.string a2_0, .int .i64 a2_1] 46 (0, 0)) (by (with_reducible repeat (first | refine blk_drewN ?_ _ | refine blk_drew ?_ | refine blk_alloc ?_ _)); exact BK332.out) hb); have n5_ := Aside0.mk (blk_below (g := gb333) (o := .cells #[.string a3_0, .int .i64 a3_1] 46 (0, 0)) (by (with_reducible repeat (first | refine blk_drewN ?_ _ | refine blk_drew ?_ | refine blk_alloc ?_ _)); exact BK333.out) hb); have n6_ := Aside0.mk (below_step (by repeat (first | (with_reducible first | exact HB.out | apply below_alloc | apply pw_below_drewN | apply below_drew1 | refine below_set ?_ GE331.out | refine below_set ?_ GE332.out | refine below_set ?_ GE333.out) | exact HB.out)) hb); clear HO342; clear BK331; clear BK332; clear BK333; clear HB; have HO342 := n0_; have HO345 := n1_; have HO348 := n2_; have BK331 := n3_; have BK332 := n4_; have BK333 := n5_; have HB := n6_; clear n0_ n1_ n2_ n3_ n4_ n5_ n6_; (try clear hb); (try clear hb2); (try clear hk); (try clear hi); (try clear ho0); (try clear ho1)) | ((with_reducible refine gate_dst (N := 12) rfl ?_); refine box_event ?hg (N := 12) ?hd (cs := #[.slice none 0 0, .slice none 0 0]) (t := 28) ?hr ?_; (case hd => rfl); (case hg => rfl); (case hr => first | (go_simp; done) | (go_simp; rfl)); intro gb350 hg w46 hbox hb; have n0_ := Aside0.mk (Kd.R_below (by (with_reducible repeat (first | apply Kd.R_alloc | apply Kd.R_drewN | apply Kd.R_drew)); exact HO342.out) hb); have n1_ := Aside0.mk (Kd.R_below (by (with_reducible repeat (first | apply Kd.R_alloc | apply Kd.R_drewN | apply Kd.R_drew)); exact HO345.out) hb); have n2_ := Aside0.mk (Kd.R_below (by (with_reducible repeat (first | apply Kd.R_alloc | apply Kd.R_drewN | apply Kd.R_drew)); exact HO348.out) hb); have n3_ := Aside0.mk (blk_below (g := gb331) (o := .cells #[.slice A1_0 l1_0.length c1_0, .slice A1_1 l1_1.length c1_1] 28 (0, 0)) (by (with_reducible repeat (first | refine blk_drewN ?_ _ | refine blk_drew ?_ | refine blk_alloc ?_ _)); exact BK331.out) hb); have n4_ := Aside0.mk (blk_below (g := gb332) (o := .cells #[.string a2_0, .int .i64 a2_1] 46 (0, 0)) (by (with_reducible repeat (first | refine blk_drewN ?_ _ | refine blk_drew ?_ | refine blk_alloc ?_ _)); exact BK332.out) hb); have n5_ := Aside0.mk (blk_below (g := gb333) (o := .cells #[.string a3_0, .int .i64 a3_1] 46 (0, 0)) (by (with_reducible repeat (first | refine blk_drewN ?_ _ | refine blk_drew ?_ | refine blk_alloc ?_ _)); exact BK333.out) hb); have n6_ := Aside0.mk (below_step (by repeat (first | (with_reducible first | exact HB.out | apply below_alloc | apply pw_below_drewN | apply below_drew1 | refine below_set ?_ GE331.out | refine below_set ?_ GE332.out | refine below_set ?_ GE333.out) | exact HB.out)) hb); have n7_ := Aside0.mk (hbox); have n8_ := Aside0.mk ((by rw [hg]; exact (below_size (by repeat (first | (with_reducible first | exact HB.out | apply below_alloc | apply pw_below_drewN | apply below_drew1 | refine below_set ?_ GE331.out | refine below_set ?_ GE332.out | refine below_set ?_ GE333.out) | exact HB.out))) : w.heap.size ≤ gb350)); have n9_ := Aside0.mk ((by rw [hg]; exact (below_size (by repeat (first | (with_reducible first | exact HB.out | apply below_alloc | apply pw_below_drewN | apply below_drew1 | refine below_set ?_ GE331.out | refine below_set ?_ GE332.out | refine below_set ?_ GE333.out) | exact HB.out))) : w.heap.size ≤ gb350)); have n10_ := Aside0.mk ((by rw [hg]; exact Nat.ne_of_lt (blk_lt (g := gb331) (o := .cells #[.slice A1_0 l1_0.length c1_0, .slice A1_1 l1_1.length c1_1] 28 (0, 0)) (by (with_reducible repeat (first | refine blk_drewN ?_ _ | refine blk_drew ?_ | refine blk_alloc ?_ _)); exact BK331.out)) : gb331 ≠ gb350)); have n11_ := Aside0.mk ((by rw [hg]; exact Nat.ne_of_gt (blk_lt (g := gb331) (o := .cells #[.slice A1_0 l1_0.length c1_0, .slice A1_1 l1_1.length c1_1] 28 (0, 0)) (by (with_reducible repeat (first | refine blk_drewN ?_ _ | refine blk_drew ?_ | refine blk_alloc ?_ _)); exact BK331.out)) : gb350 ≠ gb331)); have n12_ := Aside0.mk ((by rw [hg]; exact Nat.ne_of_lt (blk_lt (g := gb332) (o := .cells #[.string a2_0, .int .i64 a2_1] 46 (0, 0)) (by (with_reducible repeat (first | refine blk_drewN ?_ _ | refine blk_drew ?_ | refine blk_alloc ?_ _)); exact BK332.out)) : gb332 ≠ gb350)); have n13_ := Aside0.mk ((by rw [hg]; exact Nat.ne_of_gt (blk_lt (g := gb332) (o := .cells #[.string a2_0, .int .i64 a2_1] 46 (0, 0)) (by (with_reducible repeat (first | refine blk_drewN ?_ _ | refine blk_drew ?_ | refine blk_alloc ?_ _)); exact BK332.out)) : gb350 ≠ gb332)); have n14_ := Aside0.mk ((by rw [hg]; exact Nat.ne_of_lt (blk_lt (g := gb333) (o := .cells #[.string a3_0, .int .i64 a3_1] 46 (0, 0)) (by (with_reducible repeat (first | refine blk_drewN ?_ _ | refine blk_drew ?_ | refine blk_alloc ?_ _)); exact BK333.out)) : gb333 ≠ gb350)); have n15_ := Aside0.mk ((by rw [hg]; exact Nat.ne_of_gt (blk_lt (g := gb333) (o := .cells #[.string a3_0, .int .i64 a3_1] 46 (0, 0)) (by (with_reducible repeat (first | refine blk_drewN ?_ _ | refine blk_drew ?_ | refine blk_alloc ?_ _)); exact BK333.out)) : gb350 ≠ gb333)); clear HO342; clear HO345; clear HO348; clear BK331; clear BK332; clear BK333; clear HB; have HO342 := n0_; have HO345 := n1_; have HO348 := n2_; have BK331 := n3_; have BK332 := n4_; have BK333 := n5_; have HB := n6_; have BK350 := n7_; have GW350 := n8_; have GE350 := n9_; have NB331_350 := n10_; have NB350_331 := n11_; have NB332_350 := n12_; have NB350_332 := n13_; have NB333_350 := n14_; have NB350_333 := n15_; clear n0_ n1_ n2_ n3_ n4_ n5_ n6_ n7_ n8_ n9_ n10_ n11_ n12_ n13_ n14_ n15_; clear hb hbox hg; obtain ⟨Ao47, co47, eo47⟩ := Kd.R_slice HO345.out; subst eo47; have hnb48 := NB350_331.out; have hnc48 := NB331_350.out; have hnb49 := NB350_332.out; have hnc49 := NB332_350.out; have hnb50 := NB350_333.out; have hnc50 := NB333_350.out; have hcz51_0 : w46.cell? ⟨gb350, 0, none⟩ = some (.slice none 0 0) := (blk_cell BK350.out 0).trans rfl; have hcz51_1 : w46.cell? ⟨gb350, 1, none⟩ = some (.slice none 0 0) := (blk_cell BK350.out 1).trans rfl; have hfz51_0 := blk_frozen BK350.out 0; have hfz51_1 := blk_frozen BK350.out 1; obtain ⟨Ao52, co52, eo52⟩ := Kd.R_slice HO348.out; subst eo52; have hcz53_0 : w46.cell? ⟨gb331, 0, none⟩ = some (.slice A1_0 l1_0.length c1_0) := (blk_cell BK331.out 0).trans rfl; have hcz53_1 : w46.cell? ⟨gb331, 1, none⟩ = some (.slice A1_1 l1_1.length c1_1) := (blk_cell BK331.out 1).trans rfl; have hfz53_0 := blk_frozen BK331.out 0; have hfz53_1 := blk_frozen BK331.out 1; have hcz54_0 : w46.cell? ⟨gb333, 0, none⟩ = some (.string a3_0) := (blk_cell BK333.out 0).trans rfl; have hcz54_1 : w46.cell? ⟨gb333, 1, none⟩ = some (.int .i64 a3_1) := (blk_cell BK333.out 1).trans rfl; have hfz54_0 := blk_frozen BK333.out 0; have hfz54_1 := blk_frozen BK333.out 1; have hcz55_0 : w46.cell? ⟨gb332, 0, none⟩ = some (.string a2_0) := (blk_cell BK332.out 0).trans rfl; have hcz55_1 : w46.cell? ⟨gb332, 1, none⟩ = some (.int .i64 a2_1) := (blk_cell BK332.out 1).trans rfl; have hfz55_0 := blk_frozen BK332.out 0; have hfz55_1 := blk_frozen BK332.out 1) | ((with_reducible refine gate_dst (N := 58) rfl ?_); refine Kd.R_lit k46 _ 46 ?hg (N := 58) ?hd (xs := ([(⟨a3_0, a3_1⟩ : S46), (⟨a2_0, a2_1⟩ : S46)] : List (S46))) (inner := [.string a3_0, .int .i64 a3_1, .string a2_0, .int .i64 a2_1]) (ok := fun _ => True) (okp := fun _ => True) ?hr ?hp (fun _ hk => hk) trivial (Below.refl _ _) (Nat.le_refl _) (by simp) ?_; (case hd => rfl); (case hg => rfl); (case hr => first | (go_simp; done) | (go_simp; rfl)); (case hp => exact (Reps.c2 (show Kd.M k46 _ _ _ (⟨a3_0, a3_1⟩ : S46) [.string a3_0, .int .i64 a3_1] from (k46_mkM _ _ _ (⟨a3_0, a3_1⟩ : S46) )) (Reps.c2 (show Kd.M k46 _ _ _ (⟨a2_0, a2_1⟩ : S46) [.string a2_0, .int .i64 a2_1] from (k46_mkM _ _ _ (⟨a2_0, a2_1⟩ : S46) )) (Reps.none _ _)))); intro v352 w56 ho57 hb hg_ hnew_; clear hg_ hnew_; (first | rw [← Ny351.out] at ho57 | (simp only [Int.reduceToNat] at ho57; rw [← Ny351.out] at ho57)); have n0_ := Aside0.mk (Kd.R_elder' (by (with_reducible repeat (first | apply Kd.R_alloc | apply Kd.R_drewN | apply Kd.R_drew)); exact (Kd.R_mono (Kd.R_far (p := ⟨gb350, 1, none⟩) (Kd.R_far (p := ⟨gb350, 0, none⟩) (Kd.R_types HO342.out BK350.out (by decide)) (fun _ hk => hk.2) (.slice Ao47 t343.length co47)) (fun _ hk => hk.2) (.slice Ao52 t346.length co52)) (fun _ h_ => h_.1))) (Kd.R_base ho57) hb); have n1_ := Aside0.mk (Kd.R_below (by (with_reducible repeat (first | apply Kd.R_alloc | apply Kd.R_drewN | apply Kd.R_drew)); exact (Kd.R_mono (Kd.R_far (p := ⟨gb350, 1, none⟩) (Kd.R_far (p := ⟨gb350, 0, none⟩) (Kd.R_types HO345.out BK350.out (by decide)) (fun _ hk => hk.2) (.slice Ao47 t343.length co47)) (fun _ hk => hk.2) (.slice Ao52 t346.length co52)) (fun _ h_ => h_.1))) hb); have n2_ := Aside0.mk (Kd.R_below (by (with_reducible repeat (first | apply Kd.R_alloc | apply Kd.R_drewN | apply Kd.R_drew)); exact (Kd.R_mono (Kd.R_far (p := ⟨gb350, 1, none⟩) (Kd.R_far (p := ⟨gb350, 0, none⟩) (Kd.R_types HO348.out BK350.out (by decide)) (fun _ hk => hk.2) (.slice Ao47 t343.length co47)) (fun _ hk => hk.2) (.slice Ao52 t346.length co52)) (fun _ h_ => h_.1))) hb); have n3_ := Aside0.mk (Kd.R_lower (Kd.R_newB (Kd.R_newB (Kd.R_new' ho57 (Kd.R_lt (by (with_reducible repeat (first | apply Kd.R_alloc | apply Kd.R_drewN | apply Kd.R_drew)); exact (Kd.R_mono (Kd.R_far (p := ⟨gb350, 1, none⟩) (Kd.R_far (p := ⟨gb350, 0, none⟩) (Kd.R_types HO342.out BK350.out (by decide)) (fun _ hk => hk.2) (.slice Ao47 t343.length co47)) (fun _ hk => hk.2) (.slice Ao52 t346.length co52)) (fun _ h_ => h_.1))))) (g := gb332) (o := .cells #[.string a2_0, .int .i64 a2_1] 46 (0, 0)) (by (with_reducible repeat (first | refine blk_drewN ?_ _ | refine blk_drew ?_ | refine blk_alloc ?_ _)); refine blk_far ?_ NB332_350.out _; (with_reducible repeat (first | refine blk_drewN ?_ _ | refine blk_drew ?_ | refine blk_alloc ?_ _)); refine blk_far ?_ NB332_350.out _; (with_reducible repeat (first | refine blk_drewN ?_ _ | refine blk_drew ?_ | refine blk_alloc ?_ _)); exact BK332.out)) (g := gb333) (o := .cells #[.string a3_0, .int .i64 a3_1] 46 (0, 0)) (by (with_reducible repeat (first | refine blk_drewN ?_ _ | refine blk_drew ?_ | refine blk_alloc ?_ _)); refine blk_far ?_ NB333_350.out _; (with_reducible repeat (first | refine blk_drewN ?_ _ | refine blk_drew ?_ | refine blk_alloc ?_ _)); refine blk_far ?_ NB333_350.out _; (with_reducible repeat (first | refine blk_drewN ?_ _ | refine blk_drew ?_ | refine blk_alloc ?_ _)); exact BK333.out)) (below_size (by repeat (first | (with_reducible first | exact HB.out | apply below_alloc | apply pw_below_drewN | apply below_drew1 | refine below_set ?_ GE331.out | refine below_set ?_ GE332.out | refine below_set ?_ GE333.out | refine below_set ?_ GE350.out) | exact HB.out)))); have n4_ := Aside0.mk (blk_below (g := gb331) (o := .cells #[.slice A1_0 l1_0.length c1_0, .slice A1_1 l1_1.length c1_1] 28 (0, 0)) (by (with_reducible repeat (first | refine blk_drewN ?_ _ | refine blk_drew ?_ | refine blk_alloc ?_ _)); refine blk_far ?_ NB331_350.out _; (with_reducible repeat (first | refine blk_drewN ?_ _ | refine blk_drew ?_ | refine blk_alloc ?_ _)); refine blk_far ?_ NB331_350.out _; (with_reducible repeat (first | refine blk_drewN ?_ _ | refine blk_drew ?_ | refine blk_alloc ?_ _)); exact BK331.out) hb); have n5_ := Aside0.mk (blk_below (g := gb332) (o := .cells #[.string a2_0, .int .i64 a2_1] 46 (0, 0)) (by (with_reducible repeat (first | refine blk_drewN ?_ _ | refine blk_drew ?_ | refine blk_alloc ?_ _)); refine blk_far ?_ NB332_350.out _; (with_reducible repeat (first | refine blk_drewN ?_ _ | refine blk_drew ?_ | refine blk_alloc ?_ _)); refine blk_far ?_ NB332_350.out _; (with_reducible repeat (first | refine blk_drewN ?_ _ | refine blk_drew ?_ | refine blk_alloc ?_ _)); exact BK332.out) hb); have n6_ := Aside0.mk (blk_below (g := gb333) (o := .cells #[.string a3_0, .int .i64 a3_1] 46 (0, 0)) (by (with_reducible repeat (first | refine blk_drewN ?_ _ | refine blk_drew ?_ | refine blk_alloc ?_ _)); refine blk_far ?_ NB333_350.out _; (with_reducible repeat (first | refine blk_drewN ?_ _ | refine blk_drew ?_ | refine blk_alloc ?_ _)); refine blk_far ?_ NB333_350.out _; (with_reducible repeat (first | refine blk_drewN ?_ _ | refine blk_drew ?_ | refine blk_alloc ?_ _)); exact BK333.out) hb); have n7_ := Aside0.mk (blk_below (g := gb350) (o := .cells #[.slice Ao47 t343.length co47, .slice Ao52 t346.length co52] 28 (0, 0)) (by (with_reducible repeat (first | refine blk_drewN ?_ _ | refine blk_drew ?_ | refine blk_alloc ?_ _)); refine blk_put (cs := #[.slice Ao47 t343.length co47, .slice none 0 0]) ?_ 1 _ rfl; (with_reducible repeat (first | refine blk_drewN ?_ _ | refine blk_drew ?_ | refine blk_alloc ?_ _)); refine blk_put (cs := #[.slice none 0 0, .slice none 0 0]) ?_ 0 _ rfl; (with_reducible repeat (first | refine blk_drewN ?_ _ | refine blk_drew ?_ | refine blk_alloc ?_ _)); exact BK350.out) hb); have n8_ := Aside0.mk (below_step (by repeat (first | (with_reducible first | exact HB.out | apply below_alloc | apply pw_below_drewN | apply below_drew1 | refine below_set ?_ GE331.out | refine below_set ?_ GE332.out | refine below_set ?_ GE333.out | refine below_set ?_ GE350.out) | exact HB.out)) hb); clear HO342; clear HO345; clear HO348; clear BK331; clear BK332; clear BK333; clear BK350; clear HB; have HO342 := n0_; have HO345 := n1_; have HO348 := n2_; have HO353 := n3_; have BK331 := n4_; have BK332 := n5_; have BK333 := n6_; have BK350 := n7_; have HB := n8_; clear n0_ n1_ n2_ n3_ n4_ n5_ n6_ n7_ n8_; clear hb ho57; obtain ⟨Ao58, co58, eo58⟩ := Kd.R_slice HO353.out; subst eo58) | (go_at_call 20; (with_reducible refine (tags_Latch.calls _ _ l0 _ _ l1_0 _ _ l1_1 _ _ y351 t354 t357 t360 _ ?side1 ?side2 ?side3 ?side4 ?side5 ?side6 ?side7 ?side8 ?side9 A33.out).mono ?_); (case side1 => repeat (first | exact (Kd.C_below HR0.out HB.out) | (with_reducible refine Kd.C_alloc ?_ _) | (with_reducible refine Kd.C_drewN ?_ _) | (with_reducible refine Kd.C_drew ?_))); (case side2 => exact HC0.out); (case side3 => repeat (first | exact (Kd.C_below HR1_0.out HB.out) | (with_reducible refine Kd.C_alloc ?_ _) | (with_reducible refine Kd.C_drewN ?_ _) | (with_reducible refine Kd.C_drew ?_))); (case side4 => exact HC1_0.out); (case side5 => repeat (first | exact (Kd.C_below HR1_1.out HB.out) | (with_reducible refine Kd.C_alloc ?_ _) | (with_reducible refine Kd.C_drewN ?_ _) | (with_reducible refine Kd.C_drew ?_))); (case side6 => exact HC1_1.out); (case side7 => repeat (first | exact (Kd.R_reads' HO353.out).2.2 | (with_reducible refine Kd.C_alloc ?_ _) | (with_reducible refine Kd.C_drewN ?_ _) | (with_reducible refine Kd.C_drew ?_))); (case side8 => exact (Kd.R_reads' HO353.out).2.1); (case side9 => exact Tabs.below hT (by repeat (first | (with_reducible first | exact HB.out | apply below_alloc | apply pw_below_drewN | apply below_drew1 | refine below_set ?_ GE331.out | refine below_set ?_ GE332.out | refine below_set ?_ GE333.out | refine below_set ?_ GE350.out) | exact HB.out))); rintro e w59 ⟨v355, v358, rfl, ho0, ho1, hb⟩; have n0_ := Aside0.mk (Kd.R_below (by (with_reducible repeat (first | apply Kd.R_alloc | apply Kd.R_drewN | apply Kd.R_drew)); exact HO342.out) hb); have n1_ := Aside0.mk (Kd.R_elder' (by (with_reducible repeat (first | apply Kd.R_alloc | apply Kd.R_drewN | apply Kd.R_drew)); exact HO345.out) (Kd.R_base ho0) hb); have n2_ := Aside0.mk (Kd.R_elder' (by (with_reducible repeat (first | apply Kd.R_alloc | apply Kd.R_drewN | apply Kd.R_drew)); exact HO348.out) (Kd.R_base ho1) hb); have n3_ := Aside0.mk (Kd.R_below (by (with_reducible repeat (first | apply Kd.R_alloc | apply Kd.R_drewN | apply Kd.R_drew)); exact HO353.out) hb); have n4_ := Aside0.mk (Kd.R_lower (Kd.R_new' ho0 (Kd.R_lt (by (with_reducible repeat (first | apply Kd.R_alloc | apply Kd.R_drewN | apply Kd.R_drew)); exact HO345.out))) (below_size (by repeat (first | (with_reducible first | exact HB.out | apply below_alloc | apply pw_below_drewN | apply below_drew1 | refine below_set ?_ GE331.out | refine below_set ?_ GE332.out | refine below_set ?_ GE333.out | refine below_set ?_ GE350.out) | exact HB.out)))); have n5_ := Aside0.mk (Kd.R_lower (Kd.R_new' ho1 (Kd.R_lt (by (with_reducible repeat (first | apply Kd.R_alloc | apply Kd.R_drewN | apply Kd.R_drew)); exact HO348.out))) (below_size (by repeat (first | (with_reducible first | exact HB.out | apply below_alloc | apply pw_below_drewN | apply below_drew1 | refine below_set ?_ GE331.out | refine below_set ?_ GE332.out | refine below_set ?_ GE333.out | refine below_set ?_ GE350.out) | exact HB.out)))); have n6_ := Aside0.mk (blk_below (g := gb331) (o := .cells #[.slice A1_0 l1_0.length c1_0, .slice A1_1 l1_1.length c1_1] 28 (0, 0)) (by (with_reducible repeat (first | refine blk_drewN ?_ _ | refine blk_drew ?_ | refine blk_alloc ?_ _)); exact BK331.out) hb); have n7_ := Aside0.mk (blk_below (g := gb332) (o := .cells #[.string a2_0, .int .i64 a2_1] 46 (0, 0)) (by (with_reducible repeat (first | refine blk_drewN ?_ _ | refine blk_drew ?_ | refine blk_alloc ?_ _)); exact BK332.out) hb); have n8_ := Aside0.mk (blk_below (g := gb333) (o := .cells #[.string a3_0, .int .i64 a3_1] 46 (0, 0)) (by (with_reducible repeat (first | refine blk_drewN ?_ _ | refine blk_drew ?_ | refine blk_alloc ?_ _)); exact BK333.out) hb); have n9_ := Aside0.mk (blk_below (g := gb350) (o := .cells #[.slice Ao47 t343.length co47, .slice Ao52 t346.length co52] 28 (0, 0)) (by (with_reducible repeat (first | refine blk_drewN ?_ _ | refine blk_drew ?_ | refine blk_alloc ?_ _)); exact BK350.out) hb); have n10_ := Aside0.mk (below_step (by repeat (first | (with_reducible first | exact HB.out | apply below_alloc | apply pw_below_drewN | apply below_drew1 | refine below_set ?_ GE331.out | refine below_set ?_ GE332.out | refine below_set ?_ GE333.out | refine below_set ?_ GE350.out) | exact HB.out)) hb); clear HO342; clear HO345; clear HO348; clear HO353; clear BK331; clear BK332; clear BK333; clear BK350; clear HB; have HO342 := n0_; have HO345 := n1_; have HO348 := n2_; have HO353 := n3_; have HO356 := n4_; have HO359 := n5_; have BK331 := n6_; have BK332 := n7_; have BK333 := n8_; have BK350 := n9_; have HB := n10_; clear n0_ n1_ n2_ n3_ n4_ n5_ n6_ n7_ n8_ n9_ n10_; (try clear hb); (try clear hb2); (try clear hk); (try clear hi); (try clear ho0); (try clear ho1)) | ((with_reducible refine gate_dst (N := 14) rfl ?_); refine box_event ?hg (N := 14) ?hd (cs := #[.slice none 0 0, .slice none 0 0]) (t := 28) ?hr ?_; (case hd => rfl); (case hg => rfl); (case hr => first | (go_simp; done) | (go_simp; rfl)); intro gb361 hg w60 hbox hb; have n0_ := Aside0.mk (Kd.R_below (by (with_reducible repeat (first | apply Kd.R_alloc | apply Kd.R_drewN | apply Kd.R_drew)); exact HO342.out) hb); have n1_ := Aside0.mk (Kd.R_below (by (with_reducible repeat (first | apply Kd.R_alloc | apply Kd.R_drewN | apply Kd.R_drew)); exact HO345.out) hb); have n2_ := Aside0.mk (Kd.R_below (by (with_reducible repeat (first | apply Kd.R_alloc | apply Kd.R_drewN | apply Kd.R_drew)); exact HO348.out) hb); have n3_ := Aside0.mk (Kd.R_below (by (with_reducible repeat (first | apply Kd.R_alloc | apply Kd.R_drewN | apply Kd.R_drew)); exact HO353.out) hb); have n4_ := Aside0.mk (Kd.R_below (by (with_reducible repeat (first | apply Kd.R_alloc | apply Kd.R_drewN | apply Kd.R_drew)); exact HO356.out) hb); have n5_ := Aside0.mk (Kd.R_below (by (with_reducible repeat (first | apply Kd.R_alloc | apply Kd.R_drewN | apply Kd.R_drew)); exact HO359.out) hb); have n6_ := Aside0.mk (blk_below (g := gb331) (o := .cells #[.slice A1_0 l1_0.length c1_0, .slice A1_1 l1_1.length c1_1] 28 (0, 0)) (by (with_reducible repeat (first | refine blk_drewN ?_ _ | refine blk_drew ?_ | refine blk_alloc ?_ _)); exact BK331.out) hb); have n7_ := Aside0.mk (blk_below (g := gb332) (o := .cells #[.string a2_0, .int .i64 a2_1] 46 (0, 0)) (by (with_reducible repeat (first | refine blk_drewN ?_ _ | refine blk_drew ?_ | refine blk_alloc ?_ _)); exact BK332.out) hb); have n8_ := Aside0.mk (blk_below (g := gb333) (o := .cells #[.string a3_0, .int .i64 a3_1] 46 (0, 0)) (by (with_reducible repeat (first | refine blk_drewN ?_ _ | refine blk_drew ?_ | refine blk_alloc ?_ _)); exact BK333.out) hb); have n9_ := Aside0.mk (blk_below (g := gb350) (o := .cells #[.slice Ao47 t343.length co47, .slice Ao52 t346.length co52] 28 (0, 0)) (by (with_reducible repeat (first | refine blk_drewN ?_ _ | refine blk_drew ?_ | refine blk_alloc ?_ _)); exact BK350.out) hb); have n10_ := Aside0.mk (below_step (by repeat (first | (with_reducible first | exact HB.out | apply below_alloc | apply pw_below_drewN | apply below_drew1 | refine below_set ?_ GE331.out | refine below_set ?_ GE332.out | refine below_set ?_ GE333.out | refine below_set ?_ GE350.out) | exact HB.out)) hb); have n11_ := Aside0.mk (hbox); have n12_ := Aside0.mk ((by rw [hg]; exact (below_size (by repeat (first | (with_reducible first | exact HB.out | apply below_alloc | apply pw_below_drewN | apply below_drew1 | refine below_set ?_ GE331.out | refine below_set ?_ GE332.out | refine below_set ?_ GE333.out | refine below_set ?_ GE350.out) | exact HB.out))) : w.heap.size ≤ gb361)); have n13_ := Aside0.mk ((by rw [hg]; exact (below_size (by repeat (first | (with_reducible first | exact HB.out | apply below_alloc | apply pw_below_drewN | apply below_drew1 | refine below_set ?_ GE331.out | refine below_set ?_ GE332.out | refine below_set ?_ GE333.out | refine below_set ?_ GE350.out) | exact HB.out))) : w.heap.size ≤ gb361)); have n14_ := Aside0.mk ((by rw [hg]; exact Nat.ne_of_lt (blk_lt (g := gb331) (o := .cells #[.slice A1_0 l1_0.length c1_0, .slice A1_1 l1_1.length c1_1] 28 (0, 0)) (by (with_reducible repeat (first | refine blk_drewN ?_ _ | refine blk_drew ?_ | refine blk_alloc ?_ _)); exact BK331.out)) : gb331 ≠ gb361)); have n15_ := Aside0.mk ((by rw [hg]; exact Nat.ne_of_gt (blk_lt (g := gb331) (o := .cells #[.slice A1_0 l1_0.length c1_0, .slice A1_1 l1_1.length c1_1] 28 (0, 0)) (by (with_reducible repeat (first | refine blk_drewN ?_ _ | refine blk_drew ?_ | refine blk_alloc ?_ _)); exact BK331.out)) : gb361 ≠ gb331)); have n16_ := Aside0.mk ((by rw [hg]; exact Nat.ne_of_lt (blk_lt (g := gb332) (o := .cells #[.string a2_0, .int .i64 a2_1] 46 (0, 0)) (by (with_reducible repeat (first | refine blk_drewN ?_ _ | refine blk_drew ?_ | refine blk_alloc ?_ _)); exact BK332.out)) : gb332 ≠ gb361)); have n17_ := Aside0.mk ((by rw [hg]; exact Nat.ne_of_gt (blk_lt (g := gb332) (o := .cells #[.string a2_0, .int .i64 a2_1] 46 (0, 0)) (by (with_reducible repeat (first | refine blk_drewN ?_ _ | refine blk_drew ?_ | refine blk_alloc ?_ _)); exact BK332.out)) : gb361 ≠ gb332)); have n18_ := Aside0.mk ((by rw [hg]; exact Nat.ne_of_lt (blk_lt (g := gb333) (o := .cells #[.string a3_0, .int .i64 a3_1] 46 (0, 0)) (by (with_reducible repeat (first | refine blk_drewN ?_ _ | refine blk_drew ?_ | refine blk_alloc ?_ _)); exact BK333.out)) : gb333 ≠ gb361)); have n19_ := Aside0.mk ((by rw [hg]; exact Nat.ne_of_gt (blk_lt (g := gb333) (o := .cells #[.string a3_0, .int .i64 a3_1] 46 (0, 0)) (by (with_reducible repeat (first | refine blk_drewN ?_ _ | refine blk_drew ?_ | refine blk_alloc ?_ _)); exact BK333.out)) : gb361 ≠ gb333)); have n20_ := Aside0.mk ((by rw [hg]; exact Nat.ne_of_lt (blk_lt (g := gb350) (o := .cells #[.slice Ao47 t343.length co47, .slice Ao52 t346.length co52] 28 (0, 0)) (by (with_reducible repeat (first | refine blk_drewN ?_ _ | refine blk_drew ?_ | refine blk_alloc ?_ _)); exact BK350.out)) : gb350 ≠ gb361)); have n21_ := Aside0.mk ((by rw [hg]; exact Nat.ne_of_gt (blk_lt (g := gb350) (o := .cells #[.slice Ao47 t343.length co47, .slice Ao52 t346.length co52] 28 (0, 0)) (by (with_reducible repeat (first | refine blk_drewN ?_ _ | refine blk_drew ?_ | refine blk_alloc ?_ _)); exact BK350.out)) : gb361 ≠ gb350)); clear HO342; clear HO345; clear HO348; clear HO353; clear HO356; clear HO359; clear BK331; clear BK332; clear BK333; clear BK350; clear HB; have HO342 := n0_; have HO345 := n1_; have HO348 := n2_; have HO353 := n3_; have HO356 := n4_; have HO359 := n5_; have BK331 := n6_; have BK332 := n7_; have BK333 := n8_; have BK350 := n9_; have HB := n10_; have BK361 := n11_; have GW361 := n12_; have GE361 := n13_; have NB331_361 := n14_; have NB361_331 := n15_; have NB332_361 := n16_; have NB361_332 := n17_; have NB333_361 := n18_; have NB361_333 := n19_; have NB350_361 := n20_; have NB361_350 := n21_; clear n0_ n1_ n2_ n3_ n4_ n5_ n6_ n7_ n8_ n9_ n10_ n11_ n12_ n13_ n14_ n15_ n16_ n17_ n18_ n19_ n20_ n21_; clear hb hbox hg; obtain ⟨Ao61, co61, eo61⟩ := Kd.R_slice HO356.out; subst eo61; have hnb62 := NB361_331.out; have hnc62 := NB331_361.out; have hnb63 := NB361_332.out; have hnc63 := NB332_361.out; have hnb64 := NB361_333.out; have hnc64 := NB333_361.out; have hnb65 := NB361_350.out; have hnc65 := NB350_361.out; have hcz66_0 : w60.cell? ⟨gb361, 0, none⟩ = some (.slice none 0 0) := (blk_cell BK361.out 0).trans rfl; have hcz66_1 : w60.cell? ⟨gb361, 1, none⟩ = some (.slice none 0 0) := (blk_cell BK361.out 1).trans rfl; have hfz66_0 := blk_frozen BK361.out 0; have hfz66_1 := blk_frozen BK361.out 1; obtain ⟨Ao67, co67, eo67⟩ := Kd.R_slice HO359.out; subst eo67; have hcz68_0 : w60.cell? ⟨gb350, 0, none⟩ = some (.slice Ao47 t343.length co47) := (blk_cell BK350.out 0).trans rfl; have hcz68_1 : w60.cell? ⟨gb350, 1, none⟩ = some (.slice Ao52 t346.length co52) := (blk_cell BK350.out 1).trans rfl; have hfz68_0 := blk_frozen BK350.out 0; have hfz68_1 := blk_frozen BK350.out 1) | (go_at_call 13; (with_reducible refine (malthouseref08_Same.calls kj7 _ _ t343 _ _ t346 _ _ t354 _ _ t357 t362 _ ?side1 ?side2 ?side3 ?side4 ?side5 ?side6 ?side7 ?side8 A34.out).mono ?_); (case side1 => refine (Kd.R_reads' (e := 3) (base := w.heap.size) (ok := fun k_ => (True ∧ some k_ ≠ (.slice Ao61 t354.length co61 : Value).ownBlock)) (n := t343.length) (c := co47) ?_).2.2; exact (by (with_reducible repeat (first | apply Kd.R_alloc | apply Kd.R_drewN | apply Kd.R_drew)); exact (Kd.R_mono (Kd.R_far (p := ⟨gb361, 1, none⟩) (Kd.R_far (p := ⟨gb361, 0, none⟩) (Kd.R_types HO345.out BK361.out (by decide)) (fun _ hk => hk.2) (.slice Ao61 t354.length co61)) (fun _ hk => hk.2) (.slice Ao67 t357.length co67)) (fun _ h_ => h_.1)))); (case side2 => exact (Kd.R_reads' HO345.out).2.1); (case side3 => refine (Kd.R_reads' (e := 4) (base := w.heap.size) (ok := fun k_ => (True ∧ some k_ ≠ (.slice Ao67 t357.length co67 : Value).ownBlock)) (n := t346.length) (c := co52) ?_).2.2; exact (by (with_reducible repeat (first | apply Kd.R_alloc | apply Kd.R_drewN | apply Kd.R_drew)); exact (Kd.R_mono (Kd.R_far (p := ⟨gb361, 1, none⟩) (Kd.R_far (p := ⟨gb361, 0, none⟩) (Kd.R_types HO348.out BK361.out (by decide)) (fun _ hk => hk.2) (.slice Ao61 t354.length co61)) (fun _ hk => hk.2) (.slice Ao67 t357.length co67)) (fun _ h_ => h_.1)))); (case side4 => exact (Kd.R_reads' HO348.out).2.1); (case side5 => refine (Kd.R_reads' (e := 3) (base := w.heap.size) (ok := fun k_ => (True ∧ some k_ ≠ (.slice Ao47 t343.length co47 : Value).ownBlock)) (n := t354.length) (c := co61) ?_).2.2; exact (by (with_reducible repeat (first | apply Kd.R_alloc | apply Kd.R_drewN | apply Kd.R_drew)); exact (Kd.R_mono (Kd.R_far (p := ⟨gb361, 1, none⟩) (Kd.R_far (p := ⟨gb361, 0, none⟩) (Kd.R_types HO356.out BK361.out (by decide)) (fun _ hk => hk.2) (.slice Ao61 t354.length co61)) (fun _ hk => hk.2) (.slice Ao67 t357.length co67)) (fun _ h_ => h_.1)))); (case side6 => exact (Kd.R_reads' HO356.out).2.1); (case side7 => refine (Kd.R_reads' (e := 4) (base := w.heap.size) (ok := fun k_ => (True ∧ some k_ ≠ (.slice Ao52 t346.length co52 : Value).ownBlock)) (n := t357.length) (c := co67) ?_).2.2; exact (by (with_reducible repeat (first | apply Kd.R_alloc | apply Kd.R_drewN | apply Kd.R_drew)); exact (Kd.R_mono (Kd.R_far (p := ⟨gb361, 1, none⟩) (Kd.R_far (p := ⟨gb361, 0, none⟩) (Kd.R_types HO359.out BK361.out (by decide)) (fun _ hk => hk.2) (.slice Ao61 t354.length co61)) (fun _ hk => hk.2) (.slice Ao67 t357.length co67)) (fun _ h_ => h_.1)))); (case side8 => exact (Kd.R_reads' HO359.out).2.1); rintro e w69 ⟨rfl, hb⟩; have n0_ := Aside0.mk (Kd.R_below (by (with_reducible repeat (first | apply Kd.R_alloc | apply Kd.R_drewN | apply Kd.R_drew)); exact (Kd.R_mono (Kd.R_far (p := ⟨gb361, 1, none⟩) (Kd.R_far (p := ⟨gb361, 0, none⟩) (Kd.R_types HO342.out BK361.out (by decide)) (fun _ hk => hk.2) (.slice Ao61 t354.length co61)) (fun _ hk => hk.2) (.slice Ao67 t357.length co67)) (fun _ h_ => h_.1))) hb); have n1_ := Aside0.mk (Kd.R_below (by (with_reducible repeat (first | apply Kd.R_alloc | apply Kd.R_drewN | apply Kd.R_drew)); exact (Kd.R_mono (Kd.R_far (p := ⟨gb361, 1, none⟩) (Kd.R_far (p := ⟨gb361, 0, none⟩) (Kd.R_types HO345.out BK361.out (by decide)) (fun _ hk => hk.2) (.slice Ao61 t354.length co61)) (fun _ hk => hk.2) (.slice Ao67 t357.length co67)) (fun _ h_ => h_.1))) hb); have n2_ := Aside0.mk (Kd.R_below (by (with_reducible repeat (first | apply Kd.R_alloc | apply Kd.R_drewN | apply Kd.R_drew)); exact (Kd.R_mono (Kd.R_far (p := ⟨gb361, 1, none⟩) (Kd.R_far (p := ⟨gb361, 0, none⟩) (Kd.R_types HO348.out BK361.out (by decide)) (fun _ hk => hk.2) (.slice Ao61 t354.length co61)) (fun _ hk => hk.2) (.slice Ao67 t357.length co67)) (fun _ h_ => h_.1))) hb); have n3_ := Aside0.mk (Kd.R_below (by (with_reducible repeat (first | apply Kd.R_alloc | apply Kd.R_drewN | apply Kd.R_drew)); exact (Kd.R_mono (Kd.R_far (p := ⟨gb361, 1, none⟩) (Kd.R_far (p := ⟨gb361, 0, none⟩) (Kd.R_types HO353.out BK361.out (by decide)) (fun _ hk => hk.2) (.slice Ao61 t354.length co61)) (fun _ hk => hk.2) (.slice Ao67 t357.length co67)) (fun _ h_ => h_.1))) hb); have n4_ := Aside0.mk (Kd.R_below (by (with_reducible repeat (first | apply Kd.R_alloc | apply Kd.R_drewN | apply Kd.R_drew)); exact (Kd.R_mono (Kd.R_far (p := ⟨gb361, 1, none⟩) (Kd.R_far (p := ⟨gb361, 0, none⟩) (Kd.R_types HO356.out BK361.out (by decide)) (fun _ hk => hk.2) (.slice Ao61 t354.length co61)) (fun _ hk => hk.2) (.slice Ao67 t357.length co67)) (fun _ h_ => h_.1))) hb); have n5_ := Aside0.mk (Kd.R_below (by (with_reducible repeat (first | apply Kd.R_alloc | apply Kd.R_drewN | apply Kd.R_drew)); exact (Kd.R_mono (Kd.R_far (p := ⟨gb361, 1, none⟩) (Kd.R_far (p := ⟨gb361, 0, none⟩) (Kd.R_types HO359.out BK361.out (by decide)) (fun _ hk => hk.2) (.slice Ao61 t354.length co61)) (fun _ hk => hk.2) (.slice Ao67 t357.length co67)) (fun _ h_ => h_.1))) hb); have n6_ := Aside0.mk (blk_below (g := gb331) (o := .cells #[.slice A1_0 l1_0.length c1_0, .slice A1_1 l1_1.length c1_1] 28 (0, 0)) (by (with_reducible repeat (first | refine blk_drewN ?_ _ | refine blk_drew ?_ | refine blk_alloc ?_ _)); refine blk_far ?_ NB331_361.out _; (with_reducible repeat (first | refine blk_drewN ?_ _ | refine blk_drew ?_ | refine blk_alloc ?_ _)); refine blk_far ?_ NB331_361.out _; (with_reducible repeat (first | refine blk_drewN ?_ _ | refine blk_drew ?_ | refine blk_alloc ?_ _)); exact BK331.out) hb); have n7_ := Aside0.mk (blk_below (g := gb332) (o := .cells #[.string a2_0, .int .i64 a2_1] 46 (0, 0)) (by (with_reducible repeat (first | refine blk_drewN ?_ _ | refine blk_drew ?_ | refine blk_alloc ?_ _)); refine blk_far ?_ NB332_361.out _; (with_reducible repeat (first | refine blk_drewN ?_ _ | refine blk_drew ?_ | refine blk_alloc ?_ _)); refine blk_far ?_ NB332_361.out _; (with_reducible repeat (first | refine blk_drewN ?_ _ | refine blk_drew ?_ | refine blk_alloc ?_ _)); exact BK332.out) hb); have n8_ := Aside0.mk (blk_below (g := gb333) (o := .cells #[.string a3_0, .int .i64 a3_1] 46 (0, 0)) (by (with_reducible repeat (first | refine blk_drewN ?_ _ | refine blk_drew ?_ | refine blk_alloc ?_ _)); refine blk_far ?_ NB333_361.out _; (with_reducible repeat (first | refine blk_drewN ?_ _ | refine blk_drew ?_ | refine blk_alloc ?_ _)); refine blk_far ?_ NB333_361.out _; (with_reducible repeat (first | refine blk_drewN ?_ _ | refine blk_drew ?_ | refine blk_alloc ?_ _)); exact BK333.out) hb); have n9_ := Aside0.mk (blk_below (g := gb350) (o := .cells #[.slice Ao47 t343.length co47, .slice Ao52 t346.length co52] 28 (0, 0)) (by (with_reducible repeat (first | refine blk_drewN ?_ _ | refine blk_drew ?_ | refine blk_alloc ?_ _)); refine blk_far ?_ NB350_361.out _; (with_reducible repeat (first | refine blk_drewN ?_ _ | refine blk_drew ?_ | refine blk_alloc ?_ _)); refine blk_far ?_ NB350_361.out _; (with_reducible repeat (first | refine blk_drewN ?_ _ | refine blk_drew ?_ | refine blk_alloc ?_ _)); exact BK350.out) hb); have n10_ := Aside0.mk (blk_below (g := gb361) (o := .cells #[.slice Ao61 t354.length co61, .slice Ao67 t357.length co67] 28 (0, 0)) (by (with_reducible repeat (first | refine blk_drewN ?_ _ | refine blk_drew ?_ | refine blk_alloc ?_ _)); refine blk_put (cs := #[.slice Ao61 t354.length co61, .slice none 0 0]) ?_ 1 _ rfl; (with_reducible repeat (first | refine blk_drewN ?_ _ | refine blk_drew ?_ | refine blk_alloc ?_ _)); refine blk_put (cs := #[.slice none 0 0, .slice none 0 0]) ?_ 0 _ rfl; (with_reducible repeat (first | refine blk_drewN ?_ _ | refine blk_drew ?_ | refine blk_alloc ?_ _)); exact BK361.out) hb); have n11_ := Aside0.mk (below_step (by repeat (first | (with_reducible first | exact HB.out | apply below_alloc | apply pw_below_drewN | apply below_drew1 | refine below_set ?_ GE331.out | refine below_set ?_ GE332.out | refine below_set ?_ GE333.out | refine below_set ?_ GE350.out | refine below_set ?_ GE361.out) | exact HB.out)) hb); clear HO342; clear HO345; clear HO348; clear HO353; clear HO356; clear HO359; clear BK331; clear BK332; clear BK333; clear BK350; clear BK361; clear HB; have HO342 := n0_; have HO345 := n1_; have HO348 := n2_; have HO353 := n3_; have HO356 := n4_; have HO359 := n5_; have BK331 := n6_; have BK332 := n7_; have BK333 := n8_; have BK350 := n9_; have BK361 := n10_; have HB := n11_; clear n0_ n1_ n2_ n3_ n4_ n5_ n6_ n7_ n8_ n9_ n10_ n11_; (try clear hb); (try clear hb2); (try clear hk); (try clear hi))); go_upto_region 9 with (first | ((with_reducible refine gate_dst (N := 49) rfl ?_); refine Kd.R_lit k46 _ 46 ?hg (N := 49) ?hd (xs := ([(⟨a2_0, a2_1⟩ : S46), (⟨a3_0, a3_1⟩ : S46)] : List (S46))) (inner := [.string a2_0, .int .i64 a2_1, .string a3_0, .int .i64 a3_1]) (ok := fun _ => True) (okp := fun _ => True) ?hr ?hp (fun _ hk => hk) trivial (Below.refl _ _) (Nat.le_refl _) (by simp) ?_; (case hd => rfl); (case hg => rfl); (case hr => first | (go_simp; done) | (go_simp; rfl)); (case hp => exact (Reps.c2 (show Kd.M k46 _ _ _ (⟨a2_0, a2_1⟩ : S46) [.string a2_0, .int .i64 a2_1] from (k46_mkM _ _ _ (⟨a2_0, a2_1⟩ : S46) )) (Reps.c2 (show Kd.M k46 _ _ _ (⟨a3_0, a3_1⟩ : S46) [.string a3_0, .int .i64 a3_1] from (k46_mkM _ _ _ (⟨a3_0, a3_1⟩ : S46) )) (Reps.none _ _)))); intro v341 w42 ho43 hb hg_ hnew_; clear hg_ hnew_; (first | rw [← Ny340.out] at ho43 | (simp only [Int.reduceToNat] at ho43; rw [← Ny340.out] at ho43)); have n0_ := Aside0.mk (Kd.R_lower (Kd.R_newB (Kd.R_newB ho43 (g := gb332) (o := .cells #[.string a2_0, .int .i64 a2_1] 46 (0, 0)) (by (with_reducible repeat (first | refine blk_drewN ?_ _ | refine blk_drew ?_ | refine blk_alloc ?_ _)); exact BK332.out)) (g := gb333) (o := .cells #[.string a3_0, .int .i64 a3_1] 46 (0, 0)) (by (with_reducible repeat (first | refine blk_drewN ?_ _ | refine blk_drew ?_ | refine blk_alloc ?_ _)); exact BK333.out)) (below_size (by repeat (first | (with_reducible first | exact HB.out | apply below_alloc | apply pw_below_drewN | apply below_drew1 | refine below_set ?_ GE331.out | refine below_set ?_ GE332.out | refine below_set ?_ GE333.out) | exact HB.out)))); have n1_ := Aside0.mk (blk_below (g := gb331) (o := .cells #[.slice A1_0 l1_0.length c1_0, .slice A1_1 l1_1.length c1_1] 28 (0, 0)) (by (with_reducible repeat (first | refine blk_drewN ?_ _ | refine blk_drew ?_ | refine blk_alloc ?_ _)); exact BK331.out) hb); have n2_ := Aside0.mk (blk_below (g := gb332) (o := .cells #[.string a2_0, .int .i64 a2_1] 46 (0, 0)) (by (with_reducible repeat (first | refine blk_drewN ?_ _ | refine blk_drew ?_ | refine blk_alloc ?_ _)); exact BK332.out) hb); have n3_ := Aside0.mk (blk_below (g := gb333) (o := .cells #[.string a3_0, .int .i64 a3_1] 46 (0, 0)) (by (with_reducible repeat (first | refine blk_drewN ?_ _ | refine blk_drew ?_ | refine blk_alloc ?_ _)); exact BK333.out) hb); have n4_ := Aside0.mk (below_step (by repeat (first | (with_reducible first | exact HB.out | apply below_alloc | apply pw_below_drewN | apply below_drew1 | refine below_set ?_ GE331.out | refine below_set ?_ GE332.out | refine below_set ?_ GE333.out) | exact HB.out)) hb); clear BK331; clear BK332; clear BK333; clear HB; have HO342 := n0_; have BK331 := n1_; have BK332 := n2_; have BK333 := n3_; have HB := n4_; clear n0_ n1_ n2_ n3_ n4_; clear hb ho43; obtain ⟨Ao44, co44, eo44⟩ := Kd.R_slice HO342.out; subst eo44) | (go_at_call 20; (with_reducible refine (tags_Latch.calls _ _ l0 _ _ l1_0 _ _ l1_1 _ _ y340 t343 t346 t349 _ ?side1 ?side2 ?side3 ?side4 ?side5 ?side6 ?side7 ?side8 ?side9 A32.out).mono ?_); (case side1 => repeat (first | exact (Kd.C_below HR0.out HB.out) | (with_reducible refine Kd.C_alloc ?_ _) | (with_reducible refine Kd.C_drewN ?_ _) | (with_reducible refine Kd.C_drew ?_))); (case side2 => exact HC0.out); (case side3 => repeat (first | exact (Kd.C_below HR1_0.out HB.out) | (with_reducible refine Kd.C_alloc ?_ _) | (with_reducible refine Kd.C_drewN ?_ _) | (with_reducible refine Kd.C_drew ?_))); (case side4 => exact HC1_0.out); (case side5 => repeat (first | exact (Kd.C_below HR1_1.out HB.out) | (with_reducible refine Kd.C_alloc ?_ _) | (with_reducible refine Kd.C_drewN ?_ _) | (with_reducible refine Kd.C_drew ?_))); (case side6 => exact HC1_1.out); (case side7 => repeat (first | exact (Kd.R_reads' HO342.out).2.2 | (with_reducible refine Kd.C_alloc ?_ _) | (with_reducible refine Kd.C_drewN ?_ _) | (with_reducible refine Kd.C_drew ?_))); (case side8 => exact (Kd.R_reads' HO342.out).2.1); (case side9 => exact Tabs.below hT (by repeat (first | (with_reducible first | exact HB.out | apply below_alloc | apply pw_below_drewN | apply below_drew1 | refine below_set ?_ GE331.out | refine below_set ?_ GE332.out | refine below_set ?_ GE333.out) | exact HB.out))); rintro e w45 ⟨v344, v347, rfl, ho0, ho1, hb⟩; have n0_ := Aside0.mk (Kd.R_below (by (with_reducible repeat (first | apply Kd.R_alloc | apply Kd.R_drewN | apply Kd.R_drew)); exact HO342.out) hb); have n1_ := Aside0.mk (Kd.R_lower ho0 (below_size (by repeat (first | (with_reducible first | exact HB.out | apply below_alloc | apply pw_below_drewN | apply below_drew1 | refine below_set ?_ GE331.out | refine below_set ?_ GE332.out | refine below_set ?_ GE333.out) | exact HB.out)))); have n2_ := Aside0.mk (Kd.R_lower ho1 (below_size (by repeat (first | (with_reducible first | exact HB.out | apply below_alloc | apply pw_below_drewN | apply below_drew1 | refine below_set ?_ GE331.out | refine below_set ?_ GE332.out | refine below_set ?_ GE333.out) | exact HB.out)))); have n3_ := Aside0.mk (blk_below (g := gb331) (o := .cells #[.slice A1_0 l1_0.length c1_0, .slice A1_1 l1_1.length c1_1] 28 (0, 0)) (by (with_reducible repeat (first | refine blk_drewN ?_ _ | refine blk_drew ?_ | refine blk_alloc ?_ _)); exact BK331.out) hb); have n4_ := Aside0.mk (blk_below (g := gb332) (o := .cells #[.string a2_0, .int .i64 a2_1] 46 (0, 0)) (by (with_reducible repeat (first | refine blk_drewN ?_ _ | refine blk_drew ?_ | refine blk_alloc ?_ _)); exact BK332.out) hb); have n5_ := Aside0.mk (blk_below (g := gb333) (o := .cells #[.string a3_0, .int .i64 a3_1] 46 (0, 0)) (by (with_reducible repeat (first | refine blk_drewN ?_ _ | refine blk_drew ?_ | refine blk_alloc ?_ _)); exact BK333.out) hb); have n6_ := Aside0.mk (below_step (by repeat (first | (with_reducible first | exact HB.out | apply below_alloc | apply pw_below_drewN | apply below_drew1 | refine below_set ?_ GE331.out | refine below_set ?_ GE332.out | refine below_set ?_ GE333.out) | exact HB.out)) hb); clear HO342; clear BK331; clear BK332; clear BK333; clear HB; have HO342 := n0_; have HO345 := n1_; have HO348 := n2_; have BK331 := n3_; have BK332 := n4_; have BK333 := n5_; have HB := n6_; clear n0_ n1_ n2_ n3_ n4_ n5_ n6_; (try clear hb); (try clear hb2); (try clear hk); (try clear hi); (try clear ho0); (try clear ho1)) | ((with_reducible refine gate_dst (N := 12) rfl ?_); refine box_event ?hg (N := 12) ?hd (cs := #[.slice none 0 0, .slice none 0 0]) (t := 28) ?hr ?_; (case hd => rfl); (case hg => rfl); (case hr => first | (go_simp; done) | (go_simp; rfl)); intro gb350 hg w46 hbox hb; have n0_ := Aside0.mk (Kd.R_below (by (with_reducible repeat (first | apply Kd.R_alloc | apply Kd.R_drewN | apply Kd.R_drew)); exact HO342.out) hb); have n1_ := Aside0.mk (Kd.R_below (by (with_reducible repeat (first | apply Kd.R_alloc | apply Kd.R_drewN | apply Kd.R_drew)); exact HO345.out) hb); have n2_ := Aside0.mk (Kd.R_below (by (with_reducible repeat (first | apply Kd.R_alloc | apply Kd.R_drewN | apply Kd.R_drew)); exact HO348.out) hb); have n3_ := Aside0.mk (blk_below (g := gb331) (o := .cells #[.slice A1_0 l1_0.length c1_0, .slice A1_1 l1_1.length c1_1] 28 (0, 0)) (by (with_reducible repeat (first | refine blk_drewN ?_ _ | refine blk_drew ?_ | refine blk_alloc ?_ _)); exact BK331.out) hb); have n4_ := Aside0.mk (blk_below (g := gb332) (o := .cells #[.string a2_0, .int .i64 a2_1] 46 (0, 0)) (by (with_reducible repeat (first | refine blk_drewN ?_ _ | refine blk_drew ?_ | refine blk_alloc ?_ _)); exact BK332.out) hb); have n5_ := Aside0.mk (blk_below (g := gb333) (o := .cells #[.string a3_0, .int .i64 a3_1] 46 (0, 0)) (by (with_reducible repeat (first | refine blk_drewN ?_ _ | refine blk_drew ?_ | refine blk_alloc ?_ _)); exact BK333.out) hb); have n6_ := Aside0.mk (below_step (by repeat (first | (with_reducible first | exact HB.out | apply below_alloc | apply pw_below_drewN | apply below_drew1 | refine below_set ?_ GE331.out | refine below_set ?_ GE332.out | refine below_set ?_ GE333.out) | exact HB.out)) hb); have n7_ := Aside0.mk (hbox); have n8_ := Aside0.mk ((by rw [hg]; exact (below_size (by repeat (first | (with_reducible first | exact HB.out | apply below_alloc | apply pw_below_drewN | apply below_drew1 | refine below_set ?_ GE331.out | refine below_set ?_ GE332.out | refine below_set ?_ GE333.out) | exact HB.out))) : w.heap.size ≤ gb350)); have n9_ := Aside0.mk ((by rw [hg]; exact (below_size (by repeat (first | (with_reducible first | exact HB.out | apply below_alloc | apply pw_below_drewN | apply below_drew1 | refine below_set ?_ GE331.out | refine below_set ?_ GE332.out | refine below_set ?_ GE333.out) | exact HB.out))) : w.heap.size ≤ gb350)); have n10_ := Aside0.mk ((by rw [hg]; exact Nat.ne_of_lt (blk_lt (g := gb331) (o := .cells #[.slice A1_0 l1_0.length c1_0, .slice A1_1 l1_1.length c1_1] 28 (0, 0)) (by (with_reducible repeat (first | refine blk_drewN ?_ _ | refine blk_drew ?_ | refine blk_alloc ?_ _)); exact BK331.out)) : gb331 ≠ gb350)); have n11_ := Aside0.mk ((by rw [hg]; exact Nat.ne_of_gt (blk_lt (g := gb331) (o := .cells #[.slice A1_0 l1_0.length c1_0, .slice A1_1 l1_1.length c1_1] 28 (0, 0)) (by (with_reducible repeat (first | refine blk_drewN ?_ _ | refine blk_drew ?_ | refine blk_alloc ?_ _)); exact BK331.out)) : gb350 ≠ gb331)); have n12_ := Aside0.mk ((by rw [hg]; exact Nat.ne_of_lt (blk_lt (g := gb332) (o := .cells #[.string a2_0, .int .i64 a2_1] 46 (0, 0)) (by (with_reducible repeat (first | refine blk_drewN ?_ _ | refine blk_drew ?_ | refine blk_alloc ?_ _)); exact BK332.out)) : gb332 ≠ gb350)); have n13_ := Aside0.mk ((by rw [hg]; exact Nat.ne_of_gt (blk_lt (g := gb332) (o := .cells #[.string a2_0, .int .i64 a2_1] 46 (0, 0)) (by (with_reducible repeat (first | refine blk_drewN ?_ _ | refine blk_drew ?_ | refine blk_alloc ?_ _)); exact BK332.out)) : gb350 ≠ gb332)); have n14_ := Aside0.mk ((by rw [hg]; exact Nat.ne_of_lt (blk_lt (g := gb333) (o := .cells #[.string a3_0, .int .i64 a3_1] 46 (0, 0)) (by (with_reducible repeat (first | refine blk_drewN ?_ _ | refine blk_drew ?_ | refine blk_alloc ?_ _)); exact BK333.out)) : gb333 ≠ gb350)); have n15_ := Aside0.mk ((by rw [hg]; exact Nat.ne_of_gt (blk_lt (g := gb333) (o := .cells #[.string a3_0, .int .i64 a3_1] 46 (0, 0)) (by (with_reducible repeat (first | refine blk_drewN ?_ _ | refine blk_drew ?_ | refine blk_alloc ?_ _)); exact BK333.out)) : gb350 ≠ gb333)); clear HO342; clear HO345; clear HO348; clear BK331; clear BK332; clear BK333; clear HB; have HO342 := n0_; have HO345 := n1_; have HO348 := n2_; have BK331 := n3_; have BK332 := n4_; have BK333 := n5_; have HB := n6_; have BK350 := n7_; have GW350 := n8_; have GE350 := n9_; have NB331_350 := n10_; have NB350_331 := n11_; have NB332_350 := n12_; have NB350_332 := n13_; have NB333_350 := n14_; have NB350_333 := n15_; clear n0_ n1_ n2_ n3_ n4_ n5_ n6_ n7_ n8_ n9_ n10_ n11_ n12_ n13_ n14_ n15_; clear hb hbox hg; obtain ⟨Ao47, co47, eo47⟩ := Kd.R_slice HO345.out; subst eo47; have hnb48 := NB350_331.out; have hnc48 := NB331_350.out; have hnb49 := NB350_332.out; have hnc49 := NB332_350.out; have hnb50 := NB350_333.out; have hnc50 := NB333_350.out; have hcz51_0 : w46.cell? ⟨gb350, 0, none⟩ = some (.slice none 0 0) := (blk_cell BK350.out 0).trans rfl; have hcz51_1 : w46.cell? ⟨gb350, 1, none⟩ = some (.slice none 0 0) := (blk_cell BK350.out 1).trans rfl; have hfz51_0 := blk_frozen BK350.out 0; have hfz51_1 := blk_frozen BK350.out 1; obtain ⟨Ao52, co52, eo52⟩ := Kd.R_slice HO348.out; subst eo52; have hcz53_0 : w46.cell? ⟨gb331, 0, none⟩ = some (.slice A1_0 l1_0.length c1_0) := (blk_cell BK331.out 0).trans rfl; have hcz53_1 : w46.cell? ⟨gb331, 1, none⟩ = some (.slice A1_1 l1_1.length c1_1) := (blk_cell BK331.out 1).trans rfl; have hfz53_0 := blk_frozen BK331.out 0; have hfz53_1 := blk_frozen BK331.out 1; have hcz54_0 : w46.cell? ⟨gb333, 0, none⟩ = some (.string a3_0) := (blk_cell BK333.out 0).trans rfl; have hcz54_1 : w46.cell? ⟨gb333, 1, none⟩ = some (.int .i64 a3_1) := (blk_cell BK333.out 1).trans rfl; have hfz54_0 := blk_frozen BK333.out 0; have hfz54_1 := blk_frozen BK333.out 1; have hcz55_0 : w46.cell? ⟨gb332, 0, none⟩ = some (.string a2_0) := (blk_cell BK332.out 0).trans rfl; have hcz55_1 : w46.cell? ⟨gb332, 1, none⟩ = some (.int .i64 a2_1) := (blk_cell BK332.out 1).trans rfl; have hfz55_0 := blk_frozen BK332.out 0; have hfz55_1 := blk_frozen BK332.out 1) | ((with_reducible refine gate_dst (N := 58) rfl ?_); refine Kd.R_lit k46 _ 46 ?hg (N := 58) ?hd (xs := ([(⟨a3_0, a3_1⟩ : S46), (⟨a2_0, a2_1⟩ : S46)] : List (S46))) (inner := [.string a3_0, .int .i64 a3_1, .string a2_0, .int .i64 a2_1]) (ok := fun _ => True) (okp := fun _ => True) ?hr ?hp (fun _ hk => hk) trivial (Below.refl _ _) (Nat.le_refl _) (by simp) ?_; (case hd => rfl); (case hg => rfl); (case hr => first | (go_simp; done) | (go_simp; rfl)); (case hp => exact (Reps.c2 (show Kd.M k46 _ _ _ (⟨a3_0, a3_1⟩ : S46) [.string a3_0, .int .i64 a3_1] from (k46_mkM _ _ _ (⟨a3_0, a3_1⟩ : S46) )) (Reps.c2 (show Kd.M k46 _ _ _ (⟨a2_0, a2_1⟩ : S46) [.string a2_0, .int .i64 a2_1] from (k46_mkM _ _ _ (⟨a2_0, a2_1⟩ : S46) )) (Reps.none _ _)))); intro v352 w56 ho57 hb hg_ hnew_; clear hg_ hnew_; (first | rw [← Ny351.out] at ho57 | (simp only [Int.reduceToNat] at ho57; rw [← Ny351.out] at ho57)); have n0_ := Aside0.mk (Kd.R_elder' (by (with_reducible repeat (first | apply Kd.R_alloc | apply Kd.R_drewN | apply Kd.R_drew)); exact (Kd.R_mono (Kd.R_far (p := ⟨gb350, 1, none⟩) (Kd.R_far (p := ⟨gb350, 0, none⟩) (Kd.R_types HO342.out BK350.out (by decide)) (fun _ hk => hk.2) (.slice Ao47 t343.length co47)) (fun _ hk => hk.2) (.slice Ao52 t346.length co52)) (fun _ h_ => h_.1))) (Kd.R_base ho57) hb); have n1_ := Aside0.mk (Kd.R_below (by (with_reducible repeat (first | apply Kd.R_alloc | apply Kd.R_drewN | apply Kd.R_drew)); exact (Kd.R_mono (Kd.R_far (p := ⟨gb350, 1, none⟩) (Kd.R_far (p := ⟨gb350, 0, none⟩) (Kd.R_types HO345.out BK350.out (by decide)) (fun _ hk => hk.2) (.slice Ao47 t343.length co47)) (fun _ hk => hk.2) (.slice Ao52 t346.length co52)) (fun _ h_ => h_.1))) hb); have n2_ := Aside0.mk (Kd.R_below (by (with_reducible repeat (first | apply Kd.R_alloc | apply Kd.R_drewN | apply Kd.R_drew)); exact (Kd.R_mono (Kd.R_far (p := ⟨gb350, 1, none⟩) (Kd.R_far (p := ⟨gb350, 0, none⟩) (Kd.R_types HO348.out BK350.out (by decide)) (fun _ hk => hk.2) (.slice Ao47 t343.length co47)) (fun _ hk => hk.2) (.slice Ao52 t346.length co52)) (fun _ h_ => h_.1))) hb); have n3_ := Aside0.mk (Kd.R_lower (Kd.R_newB (Kd.R_newB (Kd.R_new' ho57 (Kd.R_lt (by (with_reducible repeat (first | apply Kd.R_alloc | apply Kd.R_drewN | apply Kd.R_drew)); exact (Kd.R_mono (Kd.R_far (p := ⟨gb350, 1, none⟩) (Kd.R_far (p := ⟨gb350, 0, none⟩) (Kd.R_types HO342.out BK350.out (by decide)) (fun _ hk => hk.2) (.slice Ao47 t343.length co47)) (fun _ hk => hk.2) (.slice Ao52 t346.length co52)) (fun _ h_ => h_.1))))) (g := gb332) (o := .cells #[.string a2_0, .int .i64 a2_1] 46 (0, 0)) (by (with_reducible repeat (first | refine blk_drewN ?_ _ | refine blk_drew ?_ | refine blk_alloc ?_ _)); refine blk_far ?_ NB332_350.out _; (with_reducible repeat (first | refine blk_drewN ?_ _ | refine blk_drew ?_ | refine blk_alloc ?_ _)); refine blk_far ?_ NB332_350.out _; (with_reducible repeat (first | refine blk_drewN ?_ _ | refine blk_drew ?_ | refine blk_alloc ?_ _)); exact BK332.out)) (g := gb333) (o := .cells #[.string a3_0, .int .i64 a3_1] 46 (0, 0)) (by (with_reducible repeat (first | refine blk_drewN ?_ _ | refine blk_drew ?_ | refine blk_alloc ?_ _)); refine blk_far ?_ NB333_350.out _; (with_reducible repeat (first | refine blk_drewN ?_ _ | refine blk_drew ?_ | refine blk_alloc ?_ _)); refine blk_far ?_ NB333_350.out _; (with_reducible repeat (first | refine blk_drewN ?_ _ | refine blk_drew ?_ | refine blk_alloc ?_ _)); exact BK333.out)) (below_size (by repeat (first | (with_reducible first | exact HB.out | apply below_alloc | apply pw_below_drewN | apply below_drew1 | refine below_set ?_ GE331.out | refine below_set ?_ GE332.out | refine below_set ?_ GE333.out | refine below_set ?_ GE350.out) | exact HB.out)))); have n4_ := Aside0.mk (blk_below (g := gb331) (o := .cells #[.slice A1_0 l1_0.length c1_0, .slice A1_1 l1_1.length c1_1] 28 (0, 0)) (by (with_reducible repeat (first | refine blk_drewN ?_ _ | refine blk_drew ?_ | refine blk_alloc ?_ _)); refine blk_far ?_ NB331_350.out _; (with_reducible repeat (first | refine blk_drewN ?_ _ | refine blk_drew ?_ | refine blk_alloc ?_ _)); refine blk_far ?_ NB331_350.out _; (with_reducible repeat (first | refine blk_drewN ?_ _ | refine blk_drew ?_ | refine blk_alloc ?_ _)); exact BK331.out) hb); have n5_ := Aside0.mk (blk_below (g := gb332) (o := .cells #[.string a2_0, .int .i64 a2_1] 46 (0, 0)) (by (with_reducible repeat (first | refine blk_drewN ?_ _ | refine blk_drew ?_ | refine blk_alloc ?_ _)); refine blk_far ?_ NB332_350.out _; (with_reducible repeat (first | refine blk_drewN ?_ _ | refine blk_drew ?_ | refine blk_alloc ?_ _)); refine blk_far ?_ NB332_350.out _; (with_reducible repeat (first | refine blk_drewN ?_ _ | refine blk_drew ?_ | refine blk_alloc ?_ _)); exact BK332.out) hb); have n6_ := Aside0.mk (blk_below (g := gb333) (o := .cells #[.string a3_0, .int .i64 a3_1] 46 (0, 0)) (by (with_reducible repeat (first | refine blk_drewN ?_ _ | refine blk_drew ?_ | refine blk_alloc ?_ _)); refine blk_far ?_ NB333_350.out _; (with_reducible repeat (first | refine blk_drewN ?_ _ | refine blk_drew ?_ | refine blk_alloc ?_ _)); refine blk_far ?_ NB333_350.out _; (with_reducible repeat (first | refine blk_drewN ?_ _ | refine blk_drew ?_ | refine blk_alloc ?_ _)); exact BK333.out) hb); have n7_ := Aside0.mk (blk_below (g := gb350) (o := .cells #[.slice Ao47 t343.length co47, .slice Ao52 t346.length co52] 28 (0, 0)) (by (with_reducible repeat (first | refine blk_drewN ?_ _ | refine blk_drew ?_ | refine blk_alloc ?_ _)); refine blk_put (cs := #[.slice Ao47 t343.length co47, .slice none 0 0]) ?_ 1 _ rfl; (with_reducible repeat (first | refine blk_drewN ?_ _ | refine blk_drew ?_ | refine blk_alloc ?_ _)); refine blk_put (cs := #[.slice none 0 0, .slice none 0 0]) ?_ 0 _ rfl; (with_reducible repeat (first | refine blk_drewN ?_ _ | refine blk_drew ?_ | refine blk_alloc ?_ _)); exact BK350.out) hb); have n8_ := Aside0.mk (below_step (by repeat (first | (with_reducible first | exact HB.out | apply below_alloc | apply pw_below_drewN | apply below_drew1 | refine below_set ?_ GE331.out | refine below_set ?_ GE332.out | refine below_set ?_ GE333.out | refine below_set ?_ GE350.out) | exact HB.out)) hb); clear HO342; clear HO345; clear HO348; clear BK331; clear BK332; clear BK333; clear BK350; clear HB; have HO342 := n0_; have HO345 := n1_; have HO348 := n2_; have HO353 := n3_; have BK331 := n4_; have BK332 := n5_; have BK333 := n6_; have BK350 := n7_; have HB := n8_; clear n0_ n1_ n2_ n3_ n4_ n5_ n6_ n7_ n8_; clear hb ho57; obtain ⟨Ao58, co58, eo58⟩ := Kd.R_slice HO353.out; subst eo58) | (go_at_call 20; (with_reducible refine (tags_Latch.calls _ _ l0 _ _ l1_0 _ _ l1_1 _ _ y351 t354 t357 t360 _ ?side1 ?side2 ?side3 ?side4 ?side5 ?side6 ?side7 ?side8 ?side9 A33.out).mono ?_); (case side1 => repeat (first | exact (Kd.C_below HR0.out HB.out) | (with_reducible refine Kd.C_alloc ?_ _) | (with_reducible refine Kd.C_drewN ?_ _) | (with_reducible refine Kd.C_drew ?_))); (case side2 => exact HC0.out); (case side3 => repeat (first | exact (Kd.C_below HR1_0.out HB.out) | (with_reducible refine Kd.C_alloc ?_ _) | (with_reducible refine Kd.C_drewN ?_ _) | (with_reducible refine Kd.C_drew ?_))); (case side4 => exact HC1_0.out); (case side5 => repeat (first | exact (Kd.C_below HR1_1.out HB.out) | (with_reducible refine Kd.C_alloc ?_ _) | (with_reducible refine Kd.C_drewN ?_ _) | (with_reducible refine Kd.C_drew ?_))); (case side6 => exact HC1_1.out); (case side7 => repeat (first | exact (Kd.R_reads' HO353.out).2.2 | (with_reducible refine Kd.C_alloc ?_ _) | (with_reducible refine Kd.C_drewN ?_ _) | (with_reducible refine Kd.C_drew ?_))); (case side8 => exact (Kd.R_reads' HO353.out).2.1); (case side9 => exact Tabs.below hT (by repeat (first | (with_reducible first | exact HB.out | apply below_alloc | apply pw_below_drewN | apply below_drew1 | refine below_set ?_ GE331.out | refine below_set ?_ GE332.out | refine below_set ?_ GE333.out | refine below_set ?_ GE350.out) | exact HB.out))); rintro e w59 ⟨v355, v358, rfl, ho0, ho1, hb⟩; have n0_ := Aside0.mk (Kd.R_below (by (with_reducible repeat (first | apply Kd.R_alloc | apply Kd.R_drewN | apply Kd.R_drew)); exact HO342.out) hb); have n1_ := Aside0.mk (Kd.R_elder' (by (with_reducible repeat (first | apply Kd.R_alloc | apply Kd.R_drewN | apply Kd.R_drew)); exact HO345.out) (Kd.R_base ho0) hb); have n2_ := Aside0.mk (Kd.R_elder' (by (with_reducible repeat (first | apply Kd.R_alloc | apply Kd.R_drewN | apply Kd.R_drew)); exact HO348.out) (Kd.R_base ho1) hb); have n3_ := Aside0.mk (Kd.R_below (by (with_reducible repeat (first | apply Kd.R_alloc | apply Kd.R_drewN | apply Kd.R_drew)); exact HO353.out) hb); have n4_ := Aside0.mk (Kd.R_lower (Kd.R_new' ho0 (Kd.R_lt (by (with_reducible repeat (first | apply Kd.R_alloc | apply Kd.R_drewN | apply Kd.R_drew)); exact HO345.out))) (below_size (by repeat (first | (with_reducible first | exact HB.out | apply below_alloc | apply pw_below_drewN | apply below_drew1 | refine below_set ?_ GE331.out | refine below_set ?_ GE332.out | refine below_set ?_ GE333.out | refine below_set ?_ GE350.out) | exact HB.out)))); have n5_ := Aside0.mk (Kd.R_lower (Kd.R_new' ho1 (Kd.R_lt (by (with_reducible repeat (first | apply Kd.R_alloc | apply Kd.R_drewN | apply Kd.R_drew)); exact HO348.out))) (below_size (by repeat (first | (with_reducible first | exact HB.out | apply below_alloc | apply pw_below_drewN | apply below_drew1 | refine below_set ?_ GE331.out | refine below_set ?_ GE332.out | refine below_set ?_ GE333.out | refine below_set ?_ GE350.out) | exact HB.out)))); have n6_ := Aside0.mk (blk_below (g := gb331) (o := .cells #[.slice A1_0 l1_0.length c1_0, .slice A1_1 l1_1.length c1_1] 28 (0, 0)) (by (with_reducible repeat (first | refine blk_drewN ?_ _ | refine blk_drew ?_ | refine blk_alloc ?_ _)); exact BK331.out) hb); have n7_ := Aside0.mk (blk_below (g := gb332) (o := .cells #[.string a2_0, .int .i64 a2_1] 46 (0, 0)) (by (with_reducible repeat (first | refine blk_drewN ?_ _ | refine blk_drew ?_ | refine blk_alloc ?_ _)); exact BK332.out) hb); have n8_ := Aside0.mk (blk_below (g := gb333) (o := .cells #[.string a3_0, .int .i64 a3_1] 46 (0, 0)) (by (with_reducible repeat (first | refine blk_drewN ?_ _ | refine blk_drew ?_ | refine blk_alloc ?_ _)); exact BK333.out) hb); have n9_ := Aside0.mk (blk_below (g := gb350) (o := .cells #[.slice Ao47 t343.length co47, .slice Ao52 t346.length co52] 28 (0, 0)) (by (with_reducible repeat (first | refine blk_drewN ?_ _ | refine blk_drew ?_ | refine blk_alloc ?_ _)); exact BK350.out) hb); have n10_ := Aside0.mk (below_step (by repeat (first | (with_reducible first | exact HB.out | apply below_alloc | apply pw_below_drewN | apply below_drew1 | refine below_set ?_ GE331.out | refine below_set ?_ GE332.out | refine below_set ?_ GE333.out | refine below_set ?_ GE350.out) | exact HB.out)) hb); clear HO342; clear HO345; clear HO348; clear HO353; clear BK331; clear BK332; clear BK333; clear BK350; clear HB; have HO342 := n0_; have HO345 := n1_; have HO348 := n2_; have HO353 := n3_; have HO356 := n4_; have HO359 := n5_; have BK331 := n6_; have BK332 := n7_; have BK333 := n8_; have BK350 := n9_; have HB := n10_; clear n0_ n1_ n2_ n3_ n4_ n5_ n6_ n7_ n8_ n9_ n10_; (try clear hb); (try clear hb2); (try clear hk); (try clear hi); (try clear ho0); (try clear ho1)) | ((with_reducible refine gate_dst (N := 14) rfl ?_); refine box_event ?hg (N := 14) ?hd (cs := #[.slice none 0 0, .slice none 0 0]) (t := 28) ?hr ?_; (case hd => rfl); (case hg => rfl); (case hr => first | (go_simp; done) | (go_simp; rfl)); intro gb361 hg w60 hbox hb; have n0_ := Aside0.mk (Kd.R_below (by (with_reducible repeat (first | apply Kd.R_alloc | apply Kd.R_drewN | apply Kd.R_drew)); exact HO342.out) hb); have n1_ := Aside0.mk (Kd.R_below (by (with_reducible repeat (first | apply Kd.R_alloc | apply Kd.R_drewN | apply Kd.R_drew)); exact HO345.out) hb); have n2_ := Aside0.mk (Kd.R_below (by (with_reducible repeat (first | apply Kd.R_alloc | apply Kd.R_drewN | apply Kd.R_drew)); exact HO348.out) hb); have n3_ := Aside0.mk (Kd.R_below (by (with_reducible repeat (first | apply Kd.R_alloc | apply Kd.R_drewN | apply Kd.R_drew)); exact HO353.out) hb); have n4_ := Aside0.mk (Kd.R_below (by (with_reducible repeat (first | apply Kd.R_alloc | apply Kd.R_drewN | apply Kd.R_drew)); exact HO356.out) hb); have n5_ := Aside0.mk (Kd.R_below (by (with_reducible repeat (first | apply Kd.R_alloc | apply Kd.R_drewN | apply Kd.R_drew)); exact HO359.out) hb); have n6_ := Aside0.mk (blk_below (g := gb331) (o := .cells #[.slice A1_0 l1_0.length c1_0, .slice A1_1 l1_1.length c1_1] 28 (0, 0)) (by (with_reducible repeat (first | refine blk_drewN ?_ _ | refine blk_drew ?_ | refine blk_alloc ?_ _)); exact BK331.out) hb); have n7_ := Aside0.mk (blk_below (g := gb332) (o := .cells #[.string a2_0, .int .i64 a2_1] 46 (0, 0)) (by (with_reducible repeat (first | refine blk_drewN ?_ _ | refine blk_drew ?_ | refine blk_alloc ?_ _)); exact BK332.out) hb); have n8_ := Aside0.mk (blk_below (g := gb333) (o := .cells #[.string a3_0, .int .i64 a3_1] 46 (0, 0)) (by (with_reducible repeat (first | refine blk_drewN ?_ _ | refine blk_drew ?_ | refine blk_alloc ?_ _)); exact BK333.out) hb); have n9_ := Aside0.mk (blk_below (g := gb350) (o := .cells #[.slice Ao47 t343.length co47, .slice Ao52 t346.length co52] 28 (0, 0)) (by (with_reducible repeat (first | refine blk_drewN ?_ _ | refine blk_drew ?_ | refine blk_alloc ?_ _)); exact BK350.out) hb); have n10_ := Aside0.mk (below_step (by repeat (first | (with_reducible first | exact HB.out | apply below_alloc | apply pw_below_drewN | apply below_drew1 | refine below_set ?_ GE331.out | refine below_set ?_ GE332.out | refine below_set ?_ GE333.out | refine below_set ?_ GE350.out) | exact HB.out)) hb); have n11_ := Aside0.mk (hbox); have n12_ := Aside0.mk ((by rw [hg]; exact (below_size (by repeat (first | (with_reducible first | exact HB.out | apply below_alloc | apply pw_below_drewN | apply below_drew1 | refine below_set ?_ GE331.out | refine below_set ?_ GE332.out | refine below_set ?_ GE333.out | refine below_set ?_ GE350.out) | exact HB.out))) : w.heap.size ≤ gb361)); have n13_ := Aside0.mk ((by rw [hg]; exact (below_size (by repeat (first | (with_reducible first | exact HB.out | apply below_alloc | apply pw_below_drewN | apply below_drew1 | refine below_set ?_ GE331.out | refine below_set ?_ GE332.out | refine below_set ?_ GE333.out | refine below_set ?_ GE350.out) | exact HB.out))) : w.heap.size ≤ gb361)); have n14_ := Aside0.mk ((by rw [hg]; exact Nat.ne_of_lt (blk_lt (g := gb331) (o := .cells #[.slice A1_0 l1_0.length c1_0, .slice A1_1 l1_1.length c1_1] 28 (0, 0)) (by (with_reducible repeat (first | refine blk_drewN ?_ _ | refine blk_drew ?_ | refine blk_alloc ?_ _)); exact BK331.out)) : gb331 ≠ gb361)); have n15_ := Aside0.mk ((by rw [hg]; exact Nat.ne_of_gt (blk_lt (g := gb331) (o := .cells #[.slice A1_0 l1_0.length c1_0, .slice A1_1 l1_1.length c1_1] 28 (0, 0)) (by (with_reducible repeat (first | refine blk_drewN ?_ _ | refine blk_drew ?_ | refine blk_alloc ?_ _)); exact BK331.out)) : gb361 ≠ gb331)); have n16_ := Aside0.mk ((by rw [hg]; exact Nat.ne_of_lt (blk_lt (g := gb332) (o := .cells #[.string a2_0, .int .i64 a2_1] 46 (0, 0)) (by (with_reducible repeat (first | refine blk_drewN ?_ _ | refine blk_drew ?_ | refine blk_alloc ?_ _)); exact BK332.out)) : gb332 ≠ gb361)); have n17_ := Aside0.mk ((by rw [hg]; exact Nat.ne_of_gt (blk_lt (g := gb332) (o := .cells #[.string a2_0, .int .i64 a2_1] 46 (0, 0)) (by (with_reducible repeat (first | refine blk_drewN ?_ _ | refine blk_drew ?_ | refine blk_alloc ?_ _)); exact BK332.out)) : gb361 ≠ gb332)); have n18_ := Aside0.mk ((by rw [hg]; exact Nat.ne_of_lt (blk_lt (g := gb333) (o := .cells #[.string a3_0, .int .i64 a3_1] 46 (0, 0)) (by (with_reducible repeat (first | refine blk_drewN ?_ _ | refine blk_drew ?_ | refine blk_alloc ?_ _)); exact BK333.out)) : gb333 ≠ gb361)); have n19_ := Aside0.mk ((by rw [hg]; exact Nat.ne_of_gt (blk_lt (g := gb333) (o := .cells #[.string a3_0, .int .i64 a3_1] 46 (0, 0)) (by (with_reducible repeat (first | refine blk_drewN ?_ _ | refine blk_drew ?_ | refine blk_alloc ?_ _)); exact BK333.out)) : gb361 ≠ gb333)); have n20_ := Aside0.mk ((by rw [hg]; exact Nat.ne_of_lt (blk_lt (g := gb350) (o := .cells #[.slice Ao47 t343.length co47, .slice Ao52 t346.length co52] 28 (0, 0)) (by (with_reducible repeat (first | refine blk_drewN ?_ _ | refine blk_drew ?_ | refine blk_alloc ?_ _)); exact BK350.out)) : gb350 ≠ gb361)); have n21_ := Aside0.mk ((by rw [hg]; exact Nat.ne_of_gt (blk_lt (g := gb350) (o := .cells #[.slice Ao47 t343.length co47, .slice Ao52 t346.length co52] 28 (0, 0)) (by (with_reducible repeat (first | refine blk_drewN ?_ _ | refine blk_drew ?_ | refine blk_alloc ?_ _)); exact BK350.out)) : gb361 ≠ gb350)); clear HO342; clear HO345; clear HO348; clear HO353; clear HO356; clear HO359; clear BK331; clear BK332; clear BK333; clear BK350; clear HB; have HO342 := n0_; have HO345 := n1_; have HO348 := n2_; have HO353 := n3_; have HO356 := n4_; have HO359 := n5_; have BK331 := n6_; have BK332 := n7_; have BK333 := n8_; have BK350 := n9_; have HB := n10_; have BK361 := n11_; have GW361 := n12_; have GE361 := n13_; have NB331_361 := n14_; have NB361_331 := n15_; have NB332_361 := n16_; have NB361_332 := n17_; have NB333_361 := n18_; have NB361_333 := n19_; have NB350_361 := n20_; have NB361_350 := n21_; clear n0_ n1_ n2_ n3_ n4_ n5_ n6_ n7_ n8_ n9_ n10_ n11_ n12_ n13_ n14_ n15_ n16_ n17_ n18_ n19_ n20_ n21_; clear hb hbox hg; obtain ⟨Ao61, co61, eo61⟩ := Kd.R_slice HO356.out; subst eo61; have hnb62 := NB361_331.out; have hnc62 := NB331_361.out; have hnb63 := NB361_332.out; have hnc63 := NB332_361.out; have hnb64 := NB361_333.out; have hnc64 := NB333_361.out; have hnb65 := NB361_350.out; have hnc65 := NB350_361.out; have hcz66_0 : w60.cell? ⟨gb361, 0, none⟩ = some (.slice none 0 0) := (blk_cell BK361.out 0).trans rfl; have hcz66_1 : w60.cell? ⟨gb361, 1, none⟩ = some (.slice none 0 0) := (blk_cell BK361.out 1).trans rfl; have hfz66_0 := blk_frozen BK361.out 0; have hfz66_1 := blk_frozen BK361.out 1; obtain ⟨Ao67, co67, eo67⟩ := Kd.R_slice HO359.out; subst eo67; have hcz68_0 : w60.cell? ⟨gb350, 0, none⟩ = some (.slice Ao47 t343.length co47) := (blk_cell BK350.out 0).trans rfl; have hcz68_1 : w60.cell? ⟨gb350, 1, none⟩ = some (.slice Ao52 t346.length co52) := (blk_cell BK350.out 1).trans rfl; have hfz68_0 := blk_frozen BK350.out 0; have hfz68_1 := blk_frozen BK350.out 1) | (go_at_call 13; (with_reducible refine (malthouseref08_Same.calls kj7 _ _ t343 _ _ t346 _ _ t354 _ _ t357 t362 _ ?side1 ?side2 ?side3 ?side4 ?side5 ?side6 ?side7 ?side8 A34.out).mono ?_); (case side1 => refine (Kd.R_reads' (e := 3) (base := w.heap.size) (ok := fun k_ => (True ∧ some k_ ≠ (.slice Ao61 t354.length co61 : Value).ownBlock)) (n := t343.length) (c := co47) ?_).2.2; exact (by (with_reducible repeat (first | apply Kd.R_alloc | apply Kd.R_drewN | apply Kd.R_drew)); exact (Kd.R_mono (Kd.R_far (p := ⟨gb361, 1, none⟩) (Kd.R_far (p := ⟨gb361, 0, none⟩) (Kd.R_types HO345.out BK361.out (by decide)) (fun _ hk => hk.2) (.slice Ao61 t354.length co61)) (fun _ hk => hk.2) (.slice Ao67 t357.length co67)) (fun _ h_ => h_.1)))); (case side2 => exact (Kd.R_reads' HO345.out).2.1); (case side3 => refine (Kd.R_reads' (e := 4) (base := w.heap.size) (ok := fun k_ => (True ∧ some k_ ≠ (.slice Ao67 t357.length co67 : Value).ownBlock)) (n := t346.length) (c := co52) ?_).2.2; exact (by (with_reducible repeat (first | apply Kd.R_alloc | apply Kd.R_drewN | apply Kd.R_drew)); exact (Kd.R_mono (Kd.R_far (p := ⟨gb361, 1, none⟩) (Kd.R_far (p := ⟨gb361, 0, none⟩) (Kd.R_types HO348.out BK361.out (by decide)) (fun _ hk => hk.2) (.slice Ao61 t354.length co61)) (fun _ hk => hk.2) (.slice Ao67 t357.length co67)) (fun _ h_ => h_.1)))); (case side4 => exact (Kd.R_reads' HO348.out).2.1); (case side5 => refine (Kd.R_reads' (e := 3) (base := w.heap.size) (ok := fun k_ => (True ∧ some k_ ≠ (.slice Ao47 t343.length co47 : Value).ownBlock)) (n := t354.length) (c := co61) ?_).2.2; exact (by (with_reducible repeat (first | apply Kd.R_alloc | apply Kd.R_drewN | apply Kd.R_drew)); exact (Kd.R_mono (Kd.R_far (p := ⟨gb361, 1, none⟩) (Kd.R_far (p := ⟨gb361, 0, none⟩) (Kd.R_types HO356.out BK361.out (by decide)) (fun _ hk => hk.2) (.slice Ao61 t354.length co61)) (fun _ hk => hk.2) (.slice Ao67 t357.length co67)) (fun _ h_ => h_.1)))); (case side6 => exact (Kd.R_reads' HO356.out).2.1); (case side7 => refine (Kd.R_reads' (e := 4) (base := w.heap.size) (ok := fun k_ => (True ∧ some k_ ≠ (.slice Ao52 t346.length co52 : Value).ownBlock)) (n := t357.length) (c := co67) ?_).2.2; exact (by (with_reducible repeat (first | apply Kd.R_alloc | apply Kd.R_drewN | apply Kd.R_drew)); exact (Kd.R_mono (Kd.R_far (p := ⟨gb361, 1, none⟩) (Kd.R_far (p := ⟨gb361, 0, none⟩) (Kd.R_types HO359.out BK361.out (by decide)) (fun _ hk => hk.2) (.slice Ao61 t354.length co61)) (fun _ hk => hk.2) (.slice Ao67 t357.length co67)) (fun _ h_ => h_.1)))); (case side8 => exact (Kd.R_reads' HO359.out).2.1); rintro e w69 ⟨rfl, hb⟩; have n0_ := Aside0.mk (Kd.R_below (by (with_reducible repeat (first | apply Kd.R_alloc | apply Kd.R_drewN | apply Kd.R_drew)); exact (Kd.R_mono (Kd.R_far (p := ⟨gb361, 1, none⟩) (Kd.R_far (p := ⟨gb361, 0, none⟩) (Kd.R_types HO342.out BK361.out (by decide)) (fun _ hk => hk.2) (.slice Ao61 t354.length co61)) (fun _ hk => hk.2) (.slice Ao67 t357.length co67)) (fun _ h_ => h_.1))) hb); have n1_ := Aside0.mk (Kd.R_below (by (with_reducible repeat (first | apply Kd.R_alloc | apply Kd.R_drewN | apply Kd.R_drew)); exact (Kd.R_mono (Kd.R_far (p := ⟨gb361, 1, none⟩) (Kd.R_far (p := ⟨gb361, 0, none⟩) (Kd.R_types HO345.out BK361.out (by decide)) (fun _ hk => hk.2) (.slice Ao61 t354.length co61)) (fun _ hk => hk.2) (.slice Ao67 t357.length co67)) (fun _ h_ => h_.1))) hb); have n2_ := Aside0.mk (Kd.R_below (by (with_reducible repeat (first | apply Kd.R_alloc | apply Kd.R_drewN | apply Kd.R_drew)); exact (Kd.R_mono (Kd.R_far (p := ⟨gb361, 1, none⟩) (Kd.R_far (p := ⟨gb361, 0, none⟩) (Kd.R_types HO348.out BK361.out (by decide)) (fun _ hk => hk.2) (.slice Ao61 t354.length co61)) (fun _ hk => hk.2) (.slice Ao67 t357.length co67)) (fun _ h_ => h_.1))) hb); have n3_ := Aside0.mk (Kd.R_below (by (with_reducible repeat (first | apply Kd.R_alloc | apply Kd.R_drewN | apply Kd.R_drew)); exact (Kd.R_mono (Kd.R_far (p := ⟨gb361, 1, none⟩) (Kd.R_far (p := ⟨gb361, 0, none⟩) (Kd.R_types HO353.out BK361.out (by decide)) (fun _ hk => hk.2) (.slice Ao61 t354.length co61)) (fun _ hk => hk.2) (.slice Ao67 t357.length co67)) (fun _ h_ => h_.1))) hb); have n4_ := Aside0.mk (Kd.R_below (by (with_reducible repeat (first | apply Kd.R_alloc | apply Kd.R_drewN | apply Kd.R_drew)); exact (Kd.R_mono (Kd.R_far (p := ⟨gb361, 1, none⟩) (Kd.R_far (p := ⟨gb361, 0, none⟩) (Kd.R_types HO356.out BK361.out (by decide)) (fun _ hk => hk.2) (.slice Ao61 t354.length co61)) (fun _ hk => hk.2) (.slice Ao67 t357.length co67)) (fun _ h_ => h_.1))) hb); have n5_ := Aside0.mk (Kd.R_below (by (with_reducible repeat (first | apply Kd.R_alloc | apply Kd.R_drewN | apply Kd.R_drew)); exact (Kd.R_mono (Kd.R_far (p := ⟨gb361, 1, none⟩) (Kd.R_far (p := ⟨gb361, 0, none⟩) (Kd.R_types HO359.out BK361.out (by decide)) (fun _ hk => hk.2) (.slice Ao61 t354.length co61)) (fun _ hk => hk.2) (.slice Ao67 t357.length co67)) (fun _ h_ => h_.1))) hb); have n6_ := Aside0.mk (blk_below (g := gb331) (o := .cells #[.slice A1_0 l1_0.length c1_0, .slice A1_1 l1_1.length c1_1] 28 (0, 0)) (by (with_reducible repeat (first | refine blk_drewN ?_ _ | refine blk_drew ?_ | refine blk_alloc ?_ _)); refine blk_far ?_ NB331_361.out _; (with_reducible repeat (first | refine blk_drewN ?_ _ | refine blk_drew ?_ | refine blk_alloc ?_ _)); refine blk_far ?_ NB331_361.out _; (with_reducible repeat (first | refine blk_drewN ?_ _ | refine blk_drew ?_ | refine blk_alloc ?_ _)); exact BK331.out) hb); have n7_ := Aside0.mk (blk_below (g := gb332) (o := .cells #[.string a2_0, .int .i64 a2_1] 46 (0, 0)) (by (with_reducible repeat (first | refine blk_drewN ?_ _ | refine blk_drew ?_ | refine blk_alloc ?_ _)); refine blk_far ?_ NB332_361.out _; (with_reducible repeat (first | refine blk_drewN ?_ _ | refine blk_drew ?_ | refine blk_alloc ?_ _)); refine blk_far ?_ NB332_361.out _; (with_reducible repeat (first | refine blk_drewN ?_ _ | refine blk_drew ?_ | refine blk_alloc ?_ _)); exact BK332.out) hb); have n8_ := Aside0.mk (blk_below (g := gb333) (o := .cells #[.string a3_0, .int .i64 a3_1] 46 (0, 0)) (by (with_reducible repeat (first | refine blk_drewN ?_ _ | refine blk_drew ?_ | refine blk_alloc ?_ _)); refine blk_far ?_ NB333_361.out _; (with_reducible repeat (first | refine blk_drewN ?_ _ | refine blk_drew ?_ | refine blk_alloc ?_ _)); refine blk_far ?_ NB333_361.out _; (with_reducible repeat (first | refine blk_drewN ?_ _ | refine blk_drew ?_ | refine blk_alloc ?_ _)); exact BK333.out) hb); have n9_ := Aside0.mk (blk_below (g := gb350) (o := .cells #[.slice Ao47 t343.length co47, .slice Ao52 t346.length co52] 28 (0, 0)) (by (with_reducible repeat (first | refine blk_drewN ?_ _ | refine blk_drew ?_ | refine blk_alloc ?_ _)); refine blk_far ?_ NB350_361.out _; (with_reducible repeat (first | refine blk_drewN ?_ _ | refine blk_drew ?_ | refine blk_alloc ?_ _)); refine blk_far ?_ NB350_361.out _; (with_reducible repeat (first | refine blk_drewN ?_ _ | refine blk_drew ?_ | refine blk_alloc ?_ _)); exact BK350.out) hb); have n10_ := Aside0.mk (blk_below (g := gb361) (o := .cells #[.slice Ao61 t354.length co61, .slice Ao67 t357.length co67] 28 (0, 0)) (by (with_reducible repeat (first | refine blk_drewN ?_ _ | refine blk_drew ?_ | refine blk_alloc ?_ _)); refine blk_put (cs := #[.slice Ao61 t354.length co61, .slice none 0 0]) ?_ 1 _ rfl; (with_reducible repeat (first | refine blk_drewN ?_ _ | refine blk_drew ?_ | refine blk_alloc ?_ _)); refine blk_put (cs := #[.slice none 0 0, .slice none 0 0]) ?_ 0 _ rfl; (with_reducible repeat (first | refine blk_drewN ?_ _ | refine blk_drew ?_ | refine blk_alloc ?_ _)); exact BK361.out) hb); have n11_ := Aside0.mk (below_step (by repeat (first | (with_reducible first | exact HB.out | apply below_alloc | apply pw_below_drewN | apply below_drew1 | refine below_set ?_ GE331.out | refine below_set ?_ GE332.out | refine below_set ?_ GE333.out | refine below_set ?_ GE350.out | refine below_set ?_ GE361.out) | exact HB.out)) hb); clear HO342; clear HO345; clear HO348; clear HO353; clear HO356; clear HO359; clear BK331; clear BK332; clear BK333; clear BK350; clear BK361; clear HB; have HO342 := n0_; have HO345 := n1_; have HO348 := n2_; have HO353 := n3_; have HO356 := n4_; have HO359 := n5_; have BK331 := n6_; have BK332 := n7_; have BK333 := n8_; have BK350 := n9_; have BK361 := n10_; have HB := n11_; clear n0_ n1_ n2_ n3_ n4_ n5_ n6_ n7_ n8_ n9_ n10_ n11_; (try clear hb); (try clear hb2); (try clear hk); (try clear hi))))
        (try simp only [Act.put, List.setIfInBounds_toArray, List.set_cons_zero, List.set_cons_succ])
        go_cut [71] (fun v71 wc => ∃ (kq : Nat) (x71_34 : Bool), v71 = .bool x71_34 ∧ Aside0 (malthouselaw08_TagsApart.j1 kq l0 t349 x71_34 l1_0 l1_1 a2_0 a2_1 a3_0 a3_1 t343 t346 = some r) ∧ Aside0 (kq ≤ kj7) ∧ Aside0 (Kd.R (Kd.int .i64) 3 wc w.heap.size (fun k_ => some k_ ≠ ((.slice Ao61 t354.length co61) : Value).ownBlock) (.slice Ao47 t343.length co47) t343) ∧ Aside0 (Kd.R Kd.bool 4 wc w.heap.size (fun k_ => some k_ ≠ ((.slice Ao67 t357.length co67) : Value).ownBlock) (.slice Ao52 t346.length co52) t346) ∧ Aside0 (Kd.R (Kd.int .i64) 3 wc w.heap.size (fun k_ => some k_ ≠ ((.slice Ao47 t343.length co47) : Value).ownBlock) (.slice Ao61 t354.length co61) t354) ∧ Aside0 (Kd.R Kd.bool 4 wc w.heap.size (fun k_ => some k_ ≠ ((.slice Ao52 t346.length co52) : Value).ownBlock) (.slice Ao67 t357.length co67) t357) ∧ Aside0 (wc.heap[gb331]? = some (.cells #[(.slice A1_0 l1_0.length c1_0), (.slice A1_1 l1_1.length c1_1)] 28 (0, 0))) ∧ Aside0 (wc.heap[gb332]? = some (.cells #[.string a2_0, .int .i64 a2_1] 46 (0, 0))) ∧ Aside0 (wc.heap[gb333]? = some (.cells #[.string a3_0, .int .i64 a3_1] 46 (0, 0))) ∧ Aside0 (wc.heap[gb350]? = some (.cells #[(.slice Ao47 t343.length co47), (.slice Ao52 t346.length co52)] 28 (0, 0))) ∧ Aside0 (wc.heap[gb361]? = some (.cells #[(.slice Ao61 t354.length co61), (.slice Ao67 t357.length co67)] 28 (0, 0))) ∧ Aside0 (Below w.heap.size w wc))
        case first =>
          have H := HC35.out
          clear HC35
          by_cases c70 : t362 = true
          · subst c70
            have H1 : (malthouselaw08_TagsApart.j1 kj7 l0 t349 (t349 != t360) l1_0 l1_1 a2_0 a2_1 a3_0 a3_1 t343 t346) = some r := by rw [if_pos rfl] at H; exact H
            clear H
            have H := H1
            clear H1
            have H' := Aside0.mk H
            clear H
            go_wp2
            repeat (go_quiet (fail); try go_wp2)
            go_meet
            case rel => exact ⟨_, ((t349 != t360)), (by first | rfl | (simp; done) | (simp [*]; done)), H', ⟨by have := HJ7.out; first | omega | exact Nat.le_refl _⟩, ⟨by (with_reducible repeat (first | apply Kd.R_alloc | apply Kd.R_drewN | apply Kd.R_drew)); exact Kd.R_mono HO345.out (fun _ hk => hk.2)⟩, ⟨by (with_reducible repeat (first | apply Kd.R_alloc | apply Kd.R_drewN | apply Kd.R_drew)); exact Kd.R_mono HO348.out (fun _ hk => hk.2)⟩, ⟨by (with_reducible repeat (first | apply Kd.R_alloc | apply Kd.R_drewN | apply Kd.R_drew)); exact Kd.R_mono HO356.out (fun _ hk => hk.2)⟩, ⟨by (with_reducible repeat (first | apply Kd.R_alloc | apply Kd.R_drewN | apply Kd.R_drew)); exact Kd.R_mono HO359.out (fun _ hk => hk.2)⟩, ⟨by (with_reducible repeat (first | refine blk_drewN ?_ _ | refine blk_drew ?_ | refine blk_alloc ?_ _)); exact BK331.out⟩, ⟨by (with_reducible repeat (first | refine blk_drewN ?_ _ | refine blk_drew ?_ | refine blk_alloc ?_ _)); exact BK332.out⟩, ⟨by (with_reducible repeat (first | refine blk_drewN ?_ _ | refine blk_drew ?_ | refine blk_alloc ?_ _)); exact BK333.out⟩, ⟨by (with_reducible repeat (first | refine blk_drewN ?_ _ | refine blk_drew ?_ | refine blk_alloc ?_ _)); exact BK350.out⟩, ⟨by (with_reducible repeat (first | refine blk_drewN ?_ _ | refine blk_drew ?_ | refine blk_alloc ?_ _)); exact BK361.out⟩, ⟨by repeat (first | (with_reducible first | exact HB.out | apply below_alloc | apply pw_below_drewN | apply below_drew1 | refine below_set ?_ GE331.out | refine below_set ?_ GE332.out | refine below_set ?_ GE333.out | refine below_set ?_ GE350.out | refine below_set ?_ GE361.out) | exact HB.out)⟩⟩
          · replace c70 := Bool.eq_false_iff.mpr c70
            subst c70
            have H1 : (malthouselaw08_TagsApart.j1 kj7 l0 t349 true l1_0 l1_1 a2_0 a2_1 a3_0 a3_1 t343 t346) = some r := by rw [if_neg (show ¬ (false = true) by decide)] at H; exact H
            clear H
            have H := H1
            clear H1
            have H' := Aside0.mk H
            clear H
            go_wp2
            repeat (go_quiet (fail); try go_wp2)
            go_meet
            case rel => exact ⟨_, (true), (by first | rfl | (simp; done) | (simp [*]; done)), H', ⟨by have := HJ7.out; first | omega | exact Nat.le_refl _⟩, ⟨by (with_reducible repeat (first | apply Kd.R_alloc | apply Kd.R_drewN | apply Kd.R_drew)); exact Kd.R_mono HO345.out (fun _ hk => hk.2)⟩, ⟨by (with_reducible repeat (first | apply Kd.R_alloc | apply Kd.R_drewN | apply Kd.R_drew)); exact Kd.R_mono HO348.out (fun _ hk => hk.2)⟩, ⟨by (with_reducible repeat (first | apply Kd.R_alloc | apply Kd.R_drewN | apply Kd.R_drew)); exact Kd.R_mono HO356.out (fun _ hk => hk.2)⟩, ⟨by (with_reducible repeat (first | apply Kd.R_alloc | apply Kd.R_drewN | apply Kd.R_drew)); exact Kd.R_mono HO359.out (fun _ hk => hk.2)⟩, ⟨by (with_reducible repeat (first | refine blk_drewN ?_ _ | refine blk_drew ?_ | refine blk_alloc ?_ _)); exact BK331.out⟩, ⟨by (with_reducible repeat (first | refine blk_drewN ?_ _ | refine blk_drew ?_ | refine blk_alloc ?_ _)); exact BK332.out⟩, ⟨by (with_reducible repeat (first | refine blk_drewN ?_ _ | refine blk_drew ?_ | refine blk_alloc ?_ _)); exact BK333.out⟩, ⟨by (with_reducible repeat (first | refine blk_drewN ?_ _ | refine blk_drew ?_ | refine blk_alloc ?_ _)); exact BK350.out⟩, ⟨by (with_reducible repeat (first | refine blk_drewN ?_ _ | refine blk_drew ?_ | refine blk_alloc ?_ _)); exact BK361.out⟩, ⟨by repeat (first | (with_reducible first | exact HB.out | apply below_alloc | apply pw_below_drewN | apply below_drew1 | refine below_set ?_ GE331.out | refine below_set ?_ GE332.out | refine below_set ?_ GE333.out | refine below_set ?_ GE350.out | refine below_set ?_ GE361.out) | exact HB.out)⟩⟩
        case rest =>
          clear HC35
          try clear c1
          try clear c2
          try clear p2
          try clear c3
          try clear c4
          try clear c5
          try clear c6
          try clear c7
          try clear c13
          try clear c14
          try clear c16
          try clear c23
          try clear c24
          try clear c25
          try clear c26
          try clear c27
          try clear c29
          try clear c31
          try clear c36
          try clear c37
          try clear c39
          try clear c48
          try clear c49
          try clear c50
          try clear c62
          try clear c63
          try clear c64
          try clear c65
          try clear c70
          try clear hcz15_0
          try clear hcz15_1
          try clear hcz17_0
          try clear hcz17_1
          try clear hcz18_0
          try clear hcz18_1
          try clear hcz28_0
          try clear hcz28_1
          try clear hcz30_0
          try clear hcz30_1
          try clear hcz38_0
          try clear hcz38_1
          try clear hcz40_0
          try clear hcz40_1
          try clear hcz41_0
          try clear hcz41_1
          try clear hcz51_0
          try clear hcz51_1
          try clear hcz53_0
          try clear hcz53_1
          try clear hcz54_0
          try clear hcz54_1
          try clear hcz55_0
          try clear hcz55_1
          try clear hcz66_0
          try clear hcz66_1
          try clear hcz68_0
          try clear hcz68_1
          try clear hfz15_0
          try clear hfz15_1
          try clear hfz17_0
          try clear hfz17_1
          try clear hfz18_0
          try clear hfz18_1
          try clear hfz28_0
          try clear hfz28_1
          try clear hfz30_0
          try clear hfz30_1
          try clear hfz38_0
          try clear hfz38_1
          try clear hfz40_0
          try clear hfz40_1
          try clear hfz41_0
          try clear hfz41_1
          try clear hfz51_0
          try clear hfz51_1
          try clear hfz53_0
          try clear hfz53_1
          try clear hfz54_0
          try clear hfz54_1
          try clear hfz55_0
          try clear hfz55_1
          try clear hfz66_0
          try clear hfz66_1
          try clear hfz68_0
          try clear hfz68_1
          try clear p2
          obtain ⟨kq, x71_34, rfl, HA, HJ34, HO_351000, HO_351001, HO_362000, HO_362001, BK331, BK332, BK333, BK350, BK361, HB⟩ := hcut
          cases kq with
          | zero => exact absurd HA.out (by simp [malthouselaw08_TagsApart.j1])
          | succ kj34 =>
            have H := HA.out
            clear HA
            simp only [malthouselaw08_TagsApart.j1] at H
            by_cases c71 : x71_34 = true
            · subst c71
              have H1 : (some false) = some r := by rw [if_pos rfl] at H; exact H
              clear H
              have H := H1
              clear H1
              obtain rfl := Option.some.inj H
              go_wp2
              repeat (go_quiet (fail); try go_wp2)
              go_ret
              exact ⟨by first | rfl | (simp [errW_none, errW_some] <;> rfl) | (simp [*, errW_none, errW_some] <;> rfl), by repeat (first | (with_reducible first | exact HB.out | apply below_alloc | apply pw_below_drewN | apply below_drew1 | refine below_set ?_ GE331.out | refine below_set ?_ GE332.out | refine below_set ?_ GE333.out | refine below_set ?_ GE350.out | refine below_set ?_ GE361.out) | exact HB.out)⟩
            · replace c71 := Bool.eq_false_iff.mpr c71
              subst c71
              have H1 : (if t349 = 0 then (malthouselaw08_TagsApart.l0 kj34 l0 0 l1_0 l1_1 a2_0 a2_1 a3_0 a3_1 t343 t346) else (some ((t343.length : Int) == 0))) = some r := by rw [if_neg (show ¬ (false = true) by decide)] at H; exact H
              clear H
              have H := H1
              clear H1
              by_cases c72 : t349 = 0
              · rw [if_pos c72] at H
                have c72b0 : (t349 == 0) = true := beq_iff_eq.mpr c72
                have c72b1 : (t349 != 0) = false := bne_eq_false_iff_eq.mpr c72
                clear c72
                have H' := Aside0.mk H
                clear H
                go_wp2
                repeat (go_quiet (fail); try go_wp2)
                go_loopg [17] kj34 (fun kq v17 w' => ∃ (x17_3 : Int), v17 = .int .i64 x17_3 ∧ Aside0 (malthouselaw08_TagsApart.l0 kq l0 x17_3 l1_0 l1_1 a2_0 a2_1 a3_0 a3_1 t343 t346 = some r) ∧ Aside0 (kq ≤ kj34) ∧ Aside0 (Kd.R (Kd.int .i64) 3 w' w.heap.size (fun k_ => some k_ ≠ ((.slice Ao61 t354.length co61) : Value).ownBlock) (.slice Ao47 t343.length co47) t343) ∧ Aside0 (Kd.R Kd.bool 4 w' w.heap.size (fun k_ => some k_ ≠ ((.slice Ao67 t357.length co67) : Value).ownBlock) (.slice Ao52 t346.length co52) t346) ∧ Aside0 (Kd.R (Kd.int .i64) 3 w' w.heap.size (fun k_ => some k_ ≠ ((.slice Ao47 t343.length co47) : Value).ownBlock) (.slice Ao61 t354.length co61) t354) ∧ Aside0 (Kd.R Kd.bool 4 w' w.heap.size (fun k_ => some k_ ≠ ((.slice Ao52 t346.length co52) : Value).ownBlock) (.slice Ao67 t357.length co67) t357) ∧ Aside0 (w'.heap[gb331]? = some (.cells #[(.slice A1_0 l1_0.length c1_0), (.slice A1_1 l1_1.length c1_1)] 28 (0, 0))) ∧ Aside0 (w'.heap[gb332]? = some (.cells #[.string a2_0, .int .i64 a2_1] 46 (0, 0))) ∧ Aside0 (w'.heap[gb333]? = some (.cells #[.string a3_0, .int .i64 a3_1] 46 (0, 0))) ∧ Aside0 (w'.heap[gb350]? = some (.cells #[(.slice Ao47 t343.length co47), (.slice Ao52 t346.length co52)] 28 (0, 0))) ∧ Aside0 (w'.heap[gb361]? = some (.cells #[(.slice Ao61 t354.length co61), (.slice Ao67 t357.length co67)] 28 (0, 0))) ∧ Aside0 (Below w.heap.size w w'))
                case atStart => exact ⟨(0), (by first | rfl | (simp; done) | (simp [*]; done)), H', ⟨Nat.le_refl _⟩, ⟨by (with_reducible repeat (first | apply Kd.R_alloc | apply Kd.R_drewN | apply Kd.R_drew)); exact HO_351000.out⟩, ⟨by (with_reducible repeat (first | apply Kd.R_alloc | apply Kd.R_drewN | apply Kd.R_drew)); exact HO_351001.out⟩, ⟨by (with_reducible repeat (first | apply Kd.R_alloc | apply Kd.R_drewN | apply Kd.R_drew)); exact HO_362000.out⟩, ⟨by (with_reducible repeat (first | apply Kd.R_alloc | apply Kd.R_drewN | apply Kd.R_drew)); exact HO_362001.out⟩, ⟨by (with_reducible repeat (first | refine blk_drewN ?_ _ | refine blk_drew ?_ | refine blk_alloc ?_ _)); exact BK331.out⟩, ⟨by (with_reducible repeat (first | refine blk_drewN ?_ _ | refine blk_drew ?_ | refine blk_alloc ?_ _)); exact BK332.out⟩, ⟨by (with_reducible repeat (first | refine blk_drewN ?_ _ | refine blk_drew ?_ | refine blk_alloc ?_ _)); exact BK333.out⟩, ⟨by (with_reducible repeat (first | refine blk_drewN ?_ _ | refine blk_drew ?_ | refine blk_alloc ?_ _)); exact BK350.out⟩, ⟨by (with_reducible repeat (first | refine blk_drewN ?_ _ | refine blk_drew ?_ | refine blk_alloc ?_ _)); exact BK361.out⟩, ⟨by repeat (first | (with_reducible first | exact HB.out | apply below_alloc | apply pw_below_drewN | apply below_drew1 | refine below_set ?_ GE331.out | refine below_set ?_ GE332.out | refine below_set ?_ GE333.out | refine below_set ?_ GE350.out | refine below_set ?_ GE361.out) | exact HB.out)⟩⟩
                case round =>
                  clear H'
                  try clear c1
                  try clear c2
                  try clear p2
                  try clear c3
                  try clear c4
                  try clear c5
                  try clear c6
                  try clear c7
                  try clear c13
                  try clear c14
                  try clear c16
                  try clear c23
                  try clear c24
                  try clear c25
                  try clear c26
                  try clear c27
                  try clear c29
                  try clear c31
                  try clear c36
                  try clear c37
                  try clear c39
                  try clear c48
                  try clear c49
                  try clear c50
                  try clear c62
                  try clear c63
                  try clear c64
                  try clear c65
                  try clear c70
                  try clear c71
                  try clear c72
                  try clear c72b0
                  try clear c72b1
                  try clear hcz15_0
                  try clear hcz15_1
                  try clear hcz17_0
                  try clear hcz17_1
                  try clear hcz18_0
                  try clear hcz18_1
                  try clear hcz28_0
                  try clear hcz28_1
                  try clear hcz30_0
                  try clear hcz30_1
                  try clear hcz38_0
                  try clear hcz38_1
                  try clear hcz40_0
                  try clear hcz40_1
                  try clear hcz41_0
                  try clear hcz41_1
                  try clear hcz51_0
                  try clear hcz51_1
                  try clear hcz53_0
                  try clear hcz53_1
                  try clear hcz54_0
                  try clear hcz54_1
                  try clear hcz55_0
                  try clear hcz55_1
                  try clear hcz66_0
                  try clear hcz66_1
                  try clear hcz68_0
                  try clear hcz68_1
                  try clear hfz15_0
                  try clear hfz15_1
                  try clear hfz17_0
                  try clear hfz17_1
                  try clear hfz18_0
                  try clear hfz18_1
                  try clear hfz28_0
                  try clear hfz28_1
                  try clear hfz30_0
                  try clear hfz30_1
                  try clear hfz38_0
                  try clear hfz38_1
                  try clear hfz40_0
                  try clear hfz40_1
                  try clear hfz41_0
                  try clear hfz41_1
                  try clear hfz51_0
                  try clear hfz51_1
                  try clear hfz53_0
                  try clear hfz53_1
                  try clear hfz54_0
                  try clear hfz54_1
                  try clear hfz55_0
                  try clear hfz55_1
                  try clear hfz66_0
                  try clear hfz66_1
                  try clear hfz68_0
                  try clear hfz68_1
                  try clear p2
                  obtain ⟨x17_3, rfl, HA, HK3, HO_351000, HO_351001, HO_362000, HO_362001, BK331, BK332, BK333, BK350, BK361, HB⟩ := hrel
                  cases gk with
                  | zero => exact absurd HA.out (by simp [malthouselaw08_TagsApart.l0])
                  | succ k3 =>
                    have H := HA.out
                    clear HA
                    simp only [malthouselaw08_TagsApart.l0] at H
                    by_cases c73 : x17_3 < (l0.length : Int)
                    · rw [if_pos c73] at H
                      have c73b0 : decide (x17_3 < (l0.length : Int)) = true := decide_eq_true c73
                      clear c73
                      by_cases c74 : 0 ≤ x17_3
                      · rw [if_pos c74] at H
                        have c74b0 : decide (0 ≤ x17_3) = true := decide_eq_true c74
                        clear c74
                        by_cases c75 : ((rd_T48 l0 x17_3).f0).toList = a2_0.toList
                        · rw [if_pos c75] at H
                          have c75b0 : (((rd_T48 l0 x17_3).f0).toList == a2_0.toList) = true := beq_iff_eq.mpr c75
                          have c75b1 : (((rd_T48 l0 x17_3).f0).toList != a2_0.toList) = false := bne_eq_false_iff_eq.mpr c75
                          clear c75
                          have H' := Aside0.mk H
                          clear H
                          have p363 : 0 ≤ (x17_3 : Int) := of_decide_eq_true (by first | (with_reducible assumption) | assumption)
                          have q363 : x17_3 < (l0.length : Int) := of_decide_eq_true (by first | (with_reducible assumption) | assumption)
                          obtain ⟨ad363, e363, hx363_0, hx363_1, hx363_2, hx363_3⟩ := at_T48 HR0.out x17_3 p363 q363
                          cases e363
                          replace hx363_0 := (HB.out.cell (World.block_lt_of_cell? w _ hx363_0)).trans hx363_0
                          replace hx363_1 := (HB.out.cell (World.block_lt_of_cell? w _ hx363_1)).trans hx363_1
                          replace hx363_2 := (HB.out.cell (World.block_lt_of_cell? w _ hx363_2)).trans hx363_2
                          replace hx363_3 := (HB.out.cell (World.block_lt_of_cell? w _ hx363_3)).trans hx363_3
                          replace p363 := eq_true p363
                          replace q363 := eq_true q363
                          have hnb76 := NB332_331.out
                          have hnc76 := NB331_332.out
                          have hnb77 := NB332_333.out
                          have hnc77 := NB333_332.out
                          have hnb78 := NB332_350.out
                          have hnc78 := NB350_332.out
                          have hnb79 := NB332_361.out
                          have hnc79 := NB361_332.out
                          have hcz80_0 : wr.cell? ⟨gb332, 0, none⟩ = some (.string a2_0) := (blk_cell BK332.out 0).trans rfl
                          have hcz80_1 : wr.cell? ⟨gb332, 1, none⟩ = some (.int .i64 a2_1) := (blk_cell BK332.out 1).trans rfl
                          have hfz80_0 := blk_frozen BK332.out 0
                          have hfz80_1 := blk_frozen BK332.out 1
                          go_wp2
                          repeat (go_quiet (fail); try go_wp2)
                          go_roundg k3
                          case measure => have := HJ7.out; have := HJ34.out; have := HK3.out; omega
                          case rel => exact ⟨(wrap64 (x17_3 + 1)), (by first | rfl | (simp; done) | (simp [*]; done)), H', ⟨by have := HJ7.out; have := HJ34.out; have := HK3.out; omega⟩, ⟨by (with_reducible repeat (first | apply Kd.R_alloc | apply Kd.R_drewN | apply Kd.R_drew)); exact HO_351000.out⟩, ⟨by (with_reducible repeat (first | apply Kd.R_alloc | apply Kd.R_drewN | apply Kd.R_drew)); exact HO_351001.out⟩, ⟨by (with_reducible repeat (first | apply Kd.R_alloc | apply Kd.R_drewN | apply Kd.R_drew)); exact HO_362000.out⟩, ⟨by (with_reducible repeat (first | apply Kd.R_alloc | apply Kd.R_drewN | apply Kd.R_drew)); exact HO_362001.out⟩, ⟨by (with_reducible repeat (first | refine blk_drewN ?_ _ | refine blk_drew ?_ | refine blk_alloc ?_ _)); exact BK331.out⟩, ⟨by (with_reducible repeat (first | refine blk_drewN ?_ _ | refine blk_drew ?_ | refine blk_alloc ?_ _)); exact BK332.out⟩, ⟨by (with_reducible repeat (first | refine blk_drewN ?_ _ | refine blk_drew ?_ | refine blk_alloc ?_ _)); exact BK333.out⟩, ⟨by (with_reducible repeat (first | refine blk_drewN ?_ _ | refine blk_drew ?_ | refine blk_alloc ?_ _)); exact BK350.out⟩, ⟨by (with_reducible repeat (first | refine blk_drewN ?_ _ | refine blk_drew ?_ | refine blk_alloc ?_ _)); exact BK361.out⟩, ⟨by repeat (first | (with_reducible first | exact HB.out | apply below_alloc | apply pw_below_drewN | apply below_drew1 | refine below_set ?_ GE331.out | refine below_set ?_ GE332.out | refine below_set ?_ GE333.out | refine below_set ?_ GE350.out | refine below_set ?_ GE361.out) | exact HB.out)⟩⟩
                        · rw [if_neg c75] at H
                          have c75b0 : (((rd_T48 l0 x17_3).f0).toList == a2_0.toList) = false := beq_eq_false_iff_ne.mpr c75
                          have c75b1 : (((rd_T48 l0 x17_3).f0).toList != a2_0.toList) = true := bne_iff_ne.mpr c75
                          by_cases c81 : ((rd_T48 l0 x17_3).f0).toList = a3_0.toList
                          · rw [if_pos c81] at H
                            have c81b0 : (((rd_T48 l0 x17_3).f0).toList == a3_0.toList) = true := beq_iff_eq.mpr c81
                            have c81b1 : (((rd_T48 l0 x17_3).f0).toList != a3_0.toList) = false := bne_eq_false_iff_eq.mpr c81
                            clear c81
                            have H' := Aside0.mk H
                            clear H
                            have p363 : 0 ≤ (x17_3 : Int) := of_decide_eq_true (by first | (with_reducible assumption) | assumption)
                            have q363 : x17_3 < (l0.length : Int) := of_decide_eq_true (by first | (with_reducible assumption) | assumption)
                            obtain ⟨ad363, e363, hx363_0, hx363_1, hx363_2, hx363_3⟩ := at_T48 HR0.out x17_3 p363 q363
                            cases e363
                            replace hx363_0 := (HB.out.cell (World.block_lt_of_cell? w _ hx363_0)).trans hx363_0
                            replace hx363_1 := (HB.out.cell (World.block_lt_of_cell? w _ hx363_1)).trans hx363_1
                            replace hx363_2 := (HB.out.cell (World.block_lt_of_cell? w _ hx363_2)).trans hx363_2
                            replace hx363_3 := (HB.out.cell (World.block_lt_of_cell? w _ hx363_3)).trans hx363_3
                            replace p363 := eq_true p363
                            replace q363 := eq_true q363
                            have hnb82 := NB332_331.out
                            have hnc82 := NB331_332.out
                            have hnb83 := NB332_333.out
                            have hnc83 := NB333_332.out
                            have hnb84 := NB332_350.out
                            have hnc84 := NB350_332.out
                            have hnb85 := NB332_361.out
                            have hnc85 := NB361_332.out
                            have hcz86_0 : wr.cell? ⟨gb332, 0, none⟩ = some (.string a2_0) := (blk_cell BK332.out 0).trans rfl
                            have hcz86_1 : wr.cell? ⟨gb332, 1, none⟩ = some (.int .i64 a2_1) := (blk_cell BK332.out 1).trans rfl
                            have hfz86_0 := blk_frozen BK332.out 0
                            have hfz86_1 := blk_frozen BK332.out 1
                            have p364 : 0 ≤ (x17_3 : Int) := of_decide_eq_true (by first | (with_reducible assumption) | assumption)
                            have q364 : x17_3 < (l0.length : Int) := of_decide_eq_true (by first | (with_reducible assumption) | assumption)
                            obtain ⟨ad364, e364, hx364_0, hx364_1, hx364_2, hx364_3⟩ := at_T48 HR0.out x17_3 p364 q364
                            obtain rfl : ad363 = ad364 := (by injection e364)
                            replace hx364_0 := (HB.out.cell (World.block_lt_of_cell? w _ hx364_0)).trans hx364_0
                            replace hx364_1 := (HB.out.cell (World.block_lt_of_cell? w _ hx364_1)).trans hx364_1
                            replace hx364_2 := (HB.out.cell (World.block_lt_of_cell? w _ hx364_2)).trans hx364_2
                            replace hx364_3 := (HB.out.cell (World.block_lt_of_cell? w _ hx364_3)).trans hx364_3
                            replace p364 := eq_true p364
                            replace q364 := eq_true q364
                            have hnb87 := NB333_331.out
                            have hnc87 := NB331_333.out
                            have hnb88 := NB333_350.out
                            have hnc88 := NB350_333.out
                            have hnb89 := NB333_361.out
                            have hnc89 := NB361_333.out
                            have hcz90_0 : wr.cell? ⟨gb333, 0, none⟩ = some (.string a3_0) := (blk_cell BK333.out 0).trans rfl
                            have hcz90_1 : wr.cell? ⟨gb333, 1, none⟩ = some (.int .i64 a3_1) := (blk_cell BK333.out 1).trans rfl
                            have hfz90_0 := blk_frozen BK333.out 0
                            have hfz90_1 := blk_frozen BK333.out 1
                            go_wp2
                            repeat (go_quiet (fail); try go_wp2)
                            go_roundg k3
                            case measure => have := HJ7.out; have := HJ34.out; have := HK3.out; omega
                            case rel => exact ⟨(wrap64 (x17_3 + 1)), (by first | rfl | (simp; done) | (simp [*]; done)), H', ⟨by have := HJ7.out; have := HJ34.out; have := HK3.out; omega⟩, ⟨by (with_reducible repeat (first | apply Kd.R_alloc | apply Kd.R_drewN | apply Kd.R_drew)); exact HO_351000.out⟩, ⟨by (with_reducible repeat (first | apply Kd.R_alloc | apply Kd.R_drewN | apply Kd.R_drew)); exact HO_351001.out⟩, ⟨by (with_reducible repeat (first | apply Kd.R_alloc | apply Kd.R_drewN | apply Kd.R_drew)); exact HO_362000.out⟩, ⟨by (with_reducible repeat (first | apply Kd.R_alloc | apply Kd.R_drewN | apply Kd.R_drew)); exact HO_362001.out⟩, ⟨by (with_reducible repeat (first | refine blk_drewN ?_ _ | refine blk_drew ?_ | refine blk_alloc ?_ _)); exact BK331.out⟩, ⟨by (with_reducible repeat (first | refine blk_drewN ?_ _ | refine blk_drew ?_ | refine blk_alloc ?_ _)); exact BK332.out⟩, ⟨by (with_reducible repeat (first | refine blk_drewN ?_ _ | refine blk_drew ?_ | refine blk_alloc ?_ _)); exact BK333.out⟩, ⟨by (with_reducible repeat (first | refine blk_drewN ?_ _ | refine blk_drew ?_ | refine blk_alloc ?_ _)); exact BK350.out⟩, ⟨by (with_reducible repeat (first | refine blk_drewN ?_ _ | refine blk_drew ?_ | refine blk_alloc ?_ _)); exact BK361.out⟩, ⟨by repeat (first | (with_reducible first | exact HB.out | apply below_alloc | apply pw_below_drewN | apply below_drew1 | refine below_set ?_ GE331.out | refine below_set ?_ GE332.out | refine below_set ?_ GE333.out | refine below_set ?_ GE350.out | refine below_set ?_ GE361.out) | exact HB.out)⟩⟩
                          · rw [if_neg c81] at H
                            have c81b0 : (((rd_T48 l0 x17_3).f0).toList == a3_0.toList) = false := beq_eq_false_iff_ne.mpr c81
                            have c81b1 : (((rd_T48 l0 x17_3).f0).toList != a3_0.toList) = true := bne_iff_ne.mpr c81
                            by_cases c91 : x17_3 < (t343.length : Int)
                            · rw [if_pos c91] at H
                              have c91b0 : decide (x17_3 < (t343.length : Int)) = true := decide_eq_true c91
                              clear c91
                              by_cases c92 : x17_3 < (l1_0.length : Int)
                              · rw [if_pos c92] at H
                                have c92b0 : decide (x17_3 < (l1_0.length : Int)) = true := decide_eq_true c92
                                clear c92
                                by_cases c93 : (rd t343 x17_3) = (rd l1_0 x17_3)
                                · rw [if_pos c93] at H
                                  have c93b0 : ((rd t343 x17_3) == (rd l1_0 x17_3)) = true := beq_iff_eq.mpr c93
                                  have c93b1 : ((rd t343 x17_3) != (rd l1_0 x17_3)) = false := bne_eq_false_iff_eq.mpr c93
                                  clear c93
                                  by_cases c94 : x17_3 < (t346.length : Int)
                                  · rw [if_pos c94] at H
                                    have c94b0 : decide (x17_3 < (t346.length : Int)) = true := decide_eq_true c94
                                    clear c94
                                    by_cases c95 : x17_3 < (l1_1.length : Int)
                                    · rw [if_pos c95] at H
                                      have c95b0 : decide (x17_3 < (l1_1.length : Int)) = true := decide_eq_true c95
                                      clear c95
                                      by_cases c96 : ((rdOf false t346 x17_3) != (rdOf false l1_1 x17_3)) = true
                                      · rw [if_pos c96] at H
                                        have c96b0 : ((rdOf false t346 x17_3) != (rdOf false l1_1 x17_3)) = true := c96
                                        (try (have c96b1 : decide ((rdOf false t346 x17_3) = (rdOf false l1_1 x17_3)) = false := by simpa using c96))
                                        (try (have c96b2 : ((rdOf false t346 x17_3) == (rdOf false l1_1 x17_3)) = false := by simpa using c96))
                                        (try (have c96b3 : ¬ ((rdOf false t346 x17_3) = (rdOf false l1_1 x17_3)) := by simpa using c96))
                                        clear c96
                                        obtain rfl := Option.some.inj H
                                        have p363 : 0 ≤ (x17_3 : Int) := of_decide_eq_true (by first | (with_reducible assumption) | assumption)
                                        have q363 : x17_3 < (l0.length : Int) := of_decide_eq_true (by first | (with_reducible assumption) | assumption)
                                        obtain ⟨ad363, e363, hx363_0, hx363_1, hx363_2, hx363_3⟩ := at_T48 HR0.out x17_3 p363 q363
                                        cases e363
                                        replace hx363_0 := (HB.out.cell (World.block_lt_of_cell? w _ hx363_0)).trans hx363_0
                                        replace hx363_1 := (HB.out.cell (World.block_lt_of_cell? w _ hx363_1)).trans hx363_1
                                        replace hx363_2 := (HB.out.cell (World.block_lt_of_cell? w _ hx363_2)).trans hx363_2
                                        replace hx363_3 := (HB.out.cell (World.block_lt_of_cell? w _ hx363_3)).trans hx363_3
                                        replace p363 := eq_true p363
                                        replace q363 := eq_true q363
                                        have hnb97 := NB332_331.out
                                        have hnc97 := NB331_332.out
                                        have hnb98 := NB332_333.out
                                        have hnc98 := NB333_332.out
                                        have hnb99 := NB332_350.out
                                        have hnc99 := NB350_332.out
                                        have hnb100 := NB332_361.out
                                        have hnc100 := NB361_332.out
                                        have hcz101_0 : wr.cell? ⟨gb332, 0, none⟩ = some (.string a2_0) := (blk_cell BK332.out 0).trans rfl
                                        have hcz101_1 : wr.cell? ⟨gb332, 1, none⟩ = some (.int .i64 a2_1) := (blk_cell BK332.out 1).trans rfl
                                        have hfz101_0 := blk_frozen BK332.out 0
                                        have hfz101_1 := blk_frozen BK332.out 1
                                        have p364 : 0 ≤ (x17_3 : Int) := of_decide_eq_true (by first | (with_reducible assumption) | assumption)
                                        have q364 : x17_3 < (l0.length : Int) := of_decide_eq_true (by first | (with_reducible assumption) | assumption)
                                        obtain ⟨ad364, e364, hx364_0, hx364_1, hx364_2, hx364_3⟩ := at_T48 HR0.out x17_3 p364 q364
                                        obtain rfl : ad363 = ad364 := (by injection e364)
                                        replace hx364_0 := (HB.out.cell (World.block_lt_of_cell? w _ hx364_0)).trans hx364_0
                                        replace hx364_1 := (HB.out.cell (World.block_lt_of_cell? w _ hx364_1)).trans hx364_1
                                        replace hx364_2 := (HB.out.cell (World.block_lt_of_cell? w _ hx364_2)).trans hx364_2
                                        replace hx364_3 := (HB.out.cell (World.block_lt_of_cell? w _ hx364_3)).trans hx364_3
                                        replace p364 := eq_true p364
                                        replace q364 := eq_true q364
                                        have hnb102 := NB333_331.out
                                        have hnc102 := NB331_333.out
                                        have hnb103 := NB333_350.out
                                        have hnc103 := NB350_333.out
                                        have hnb104 := NB333_361.out
                                        have hnc104 := NB361_333.out
                                        have hcz105_0 : wr.cell? ⟨gb333, 0, none⟩ = some (.string a3_0) := (blk_cell BK333.out 0).trans rfl
                                        have hcz105_1 : wr.cell? ⟨gb333, 1, none⟩ = some (.int .i64 a3_1) := (blk_cell BK333.out 1).trans rfl
                                        have hfz105_0 := blk_frozen BK333.out 0
                                        have hfz105_1 := blk_frozen BK333.out 1
                                        have hnb106 := NB350_331.out
                                        have hnc106 := NB331_350.out
                                        have hnb107 := NB350_361.out
                                        have hnc107 := NB361_350.out
                                        have hcz108_0 : wr.cell? ⟨gb350, 0, none⟩ = some (.slice Ao47 t343.length co47) := (blk_cell BK350.out 0).trans rfl
                                        have hcz108_1 : wr.cell? ⟨gb350, 1, none⟩ = some (.slice Ao52 t346.length co52) := (blk_cell BK350.out 1).trans rfl
                                        have hfz108_0 := blk_frozen BK350.out 0
                                        have hfz108_1 := blk_frozen BK350.out 1
                                        have p365 : 0 ≤ (x17_3 : Int) := of_decide_eq_true (by first | (with_reducible assumption) | assumption)
                                        have q365 : x17_3 < (t343.length : Int) := of_decide_eq_true (by first | (with_reducible assumption) | assumption)
                                        obtain ⟨ad365, e365, hx365_0⟩ := Kd.at_int (Kd.R_reads' HO_351000.out).2.2 x17_3 p365 q365
                                        cases e365
                                        replace p365 := eq_true p365
                                        replace q365 := eq_true q365
                                        have hnb109 := NB331_361.out
                                        have hnc109 := NB361_331.out
                                        have hcz110_0 : wr.cell? ⟨gb331, 0, none⟩ = some (.slice A1_0 l1_0.length c1_0) := (blk_cell BK331.out 0).trans rfl
                                        have hcz110_1 : wr.cell? ⟨gb331, 1, none⟩ = some (.slice A1_1 l1_1.length c1_1) := (blk_cell BK331.out 1).trans rfl
                                        have hfz110_0 := blk_frozen BK331.out 0
                                        have hfz110_1 := blk_frozen BK331.out 1
                                        have p366 : 0 ≤ (x17_3 : Int) := of_decide_eq_true (by first | (with_reducible assumption) | assumption)
                                        have q366 : x17_3 < (l1_0.length : Int) := of_decide_eq_true (by first | (with_reducible assumption) | assumption)
                                        obtain ⟨ad366, e366, hx366_0⟩ := Kd.at_int HR1_0.out x17_3 p366 q366
                                        cases e366
                                        replace hx366_0 := (HB.out.cell (World.block_lt_of_cell? w _ hx366_0)).trans hx366_0
                                        replace p366 := eq_true p366
                                        replace q366 := eq_true q366
                                        have p367 : 0 ≤ (x17_3 : Int) := of_decide_eq_true (by first | (with_reducible assumption) | assumption)
                                        have q367 : x17_3 < (t346.length : Int) := of_decide_eq_true (by first | (with_reducible assumption) | assumption)
                                        obtain ⟨ad367, e367, hx367_0⟩ := Kd.at_bool (Kd.R_reads' HO_351001.out).2.2 x17_3 p367 q367
                                        cases e367
                                        replace p367 := eq_true p367
                                        replace q367 := eq_true q367
                                        have p368 : 0 ≤ (x17_3 : Int) := of_decide_eq_true (by first | (with_reducible assumption) | assumption)
                                        have q368 : x17_3 < (l1_1.length : Int) := of_decide_eq_true (by first | (with_reducible assumption) | assumption)
                                        obtain ⟨ad368, e368, hx368_0⟩ := Kd.at_bool HR1_1.out x17_3 p368 q368
                                        cases e368
                                        replace hx368_0 := (HB.out.cell (World.block_lt_of_cell? w _ hx368_0)).trans hx368_0
                                        replace p368 := eq_true p368
                                        replace q368 := eq_true q368
                                        go_wp2
                                        repeat (go_quiet (fail); try go_wp2)
                                        go_ret
                                        exact ⟨by first | rfl | (simp [errW_none, errW_some] <;> rfl) | (simp [*, errW_none, errW_some] <;> rfl), by repeat (first | (with_reducible first | exact HB.out | apply below_alloc | apply pw_below_drewN | apply below_drew1 | refine below_set ?_ GE331.out | refine below_set ?_ GE332.out | refine below_set ?_ GE333.out | refine below_set ?_ GE350.out | refine below_set ?_ GE361.out) | exact HB.out)⟩
                                      · rw [if_neg c96] at H
                                        have c96b0 : ((rdOf false t346 x17_3) != (rdOf false l1_1 x17_3)) = false := by simpa using c96
                                        (try (have c96b1 : decide ((rdOf false t346 x17_3) = (rdOf false l1_1 x17_3)) = true := by simpa using c96))
                                        (try (have c96b2 : ((rdOf false t346 x17_3) == (rdOf false l1_1 x17_3)) = true := by simpa using c96))
                                        clear c96
                                        have H' := Aside0.mk H
                                        clear H
                                        have p363 : 0 ≤ (x17_3 : Int) := of_decide_eq_true (by first | (with_reducible assumption) | assumption)
                                        have q363 : x17_3 < (l0.length : Int) := of_decide_eq_true (by first | (with_reducible assumption) | assumption)
                                        obtain ⟨ad363, e363, hx363_0, hx363_1, hx363_2, hx363_3⟩ := at_T48 HR0.out x17_3 p363 q363
                                        cases e363
                                        replace hx363_0 := (HB.out.cell (World.block_lt_of_cell? w _ hx363_0)).trans hx363_0
                                        replace hx363_1 := (HB.out.cell (World.block_lt_of_cell? w _ hx363_1)).trans hx363_1
                                        replace hx363_2 := (HB.out.cell (World.block_lt_of_cell? w _ hx363_2)).trans hx363_2
                                        replace hx363_3 := (HB.out.cell (World.block_lt_of_cell? w _ hx363_3)).trans hx363_3
                                        replace p363 := eq_true p363
                                        replace q363 := eq_true q363
                                        have hnb111 := NB332_331.out
                                        have hnc111 := NB331_332.out
                                        have hnb112 := NB332_333.out
                                        have hnc112 := NB333_332.out
                                        have hnb113 := NB332_350.out
                                        have hnc113 := NB350_332.out
                                        have hnb114 := NB332_361.out
                                        have hnc114 := NB361_332.out
                                        have hcz115_0 : wr.cell? ⟨gb332, 0, none⟩ = some (.string a2_0) := (blk_cell BK332.out 0).trans rfl
                                        have hcz115_1 : wr.cell? ⟨gb332, 1, none⟩ = some (.int .i64 a2_1) := (blk_cell BK332.out 1).trans rfl
                                        have hfz115_0 := blk_frozen BK332.out 0
                                        have hfz115_1 := blk_frozen BK332.out 1
                                        have p364 : 0 ≤ (x17_3 : Int) := of_decide_eq_true (by first | (with_reducible assumption) | assumption)
                                        have q364 : x17_3 < (l0.length : Int) := of_decide_eq_true (by first | (with_reducible assumption) | assumption)
                                        obtain ⟨ad364, e364, hx364_0, hx364_1, hx364_2, hx364_3⟩ := at_T48 HR0.out x17_3 p364 q364
                                        obtain rfl : ad363 = ad364 := (by injection e364)
                                        replace hx364_0 := (HB.out.cell (World.block_lt_of_cell? w _ hx364_0)).trans hx364_0
                                        replace hx364_1 := (HB.out.cell (World.block_lt_of_cell? w _ hx364_1)).trans hx364_1
                                        replace hx364_2 := (HB.out.cell (World.block_lt_of_cell? w _ hx364_2)).trans hx364_2
                                        replace hx364_3 := (HB.out.cell (World.block_lt_of_cell? w _ hx364_3)).trans hx364_3
                                        replace p364 := eq_true p364
                                        replace q364 := eq_true q364
                                        have hnb116 := NB333_331.out
                                        have hnc116 := NB331_333.out
                                        have hnb117 := NB333_350.out
                                        have hnc117 := NB350_333.out
                                        have hnb118 := NB333_361.out
                                        have hnc118 := NB361_333.out
                                        have hcz119_0 : wr.cell? ⟨gb333, 0, none⟩ = some (.string a3_0) := (blk_cell BK333.out 0).trans rfl
                                        have hcz119_1 : wr.cell? ⟨gb333, 1, none⟩ = some (.int .i64 a3_1) := (blk_cell BK333.out 1).trans rfl
                                        have hfz119_0 := blk_frozen BK333.out 0
                                        have hfz119_1 := blk_frozen BK333.out 1
                                        have hnb120 := NB350_331.out
                                        have hnc120 := NB331_350.out
                                        have hnb121 := NB350_361.out
                                        have hnc121 := NB361_350.out
                                        have hcz122_0 : wr.cell? ⟨gb350, 0, none⟩ = some (.slice Ao47 t343.length co47) := (blk_cell BK350.out 0).trans rfl
                                        have hcz122_1 : wr.cell? ⟨gb350, 1, none⟩ = some (.slice Ao52 t346.length co52) := (blk_cell BK350.out 1).trans rfl
                                        have hfz122_0 := blk_frozen BK350.out 0
                                        have hfz122_1 := blk_frozen BK350.out 1
                                        have p365 : 0 ≤ (x17_3 : Int) := of_decide_eq_true (by first | (with_reducible assumption) | assumption)
                                        have q365 : x17_3 < (t343.length : Int) := of_decide_eq_true (by first | (with_reducible assumption) | assumption)
                                        obtain ⟨ad365, e365, hx365_0⟩ := Kd.at_int (Kd.R_reads' HO_351000.out).2.2 x17_3 p365 q365
                                        cases e365
                                        replace p365 := eq_true p365
                                        replace q365 := eq_true q365
                                        have hnb123 := NB331_361.out
                                        have hnc123 := NB361_331.out
                                        have hcz124_0 : wr.cell? ⟨gb331, 0, none⟩ = some (.slice A1_0 l1_0.length c1_0) := (blk_cell BK331.out 0).trans rfl
                                        have hcz124_1 : wr.cell? ⟨gb331, 1, none⟩ = some (.slice A1_1 l1_1.length c1_1) := (blk_cell BK331.out 1).trans rfl
                                        have hfz124_0 := blk_frozen BK331.out 0
                                        have hfz124_1 := blk_frozen BK331.out 1
                                        have p366 : 0 ≤ (x17_3 : Int) := of_decide_eq_true (by first | (with_reducible assumption) | assumption)
                                        have q366 : x17_3 < (l1_0.length : Int) := of_decide_eq_true (by first | (with_reducible assumption) | assumption)
                                        obtain ⟨ad366, e366, hx366_0⟩ := Kd.at_int HR1_0.out x17_3 p366 q366
                                        cases e366
                                        replace hx366_0 := (HB.out.cell (World.block_lt_of_cell? w _ hx366_0)).trans hx366_0
                                        replace p366 := eq_true p366
                                        replace q366 := eq_true q366
                                        have p367 : 0 ≤ (x17_3 : Int) := of_decide_eq_true (by first | (with_reducible assumption) | assumption)
                                        have q367 : x17_3 < (t346.length : Int) := of_decide_eq_true (by first | (with_reducible assumption) | assumption)
                                        obtain ⟨ad367, e367, hx367_0⟩ := Kd.at_bool (Kd.R_reads' HO_351001.out).2.2 x17_3 p367 q367
                                        cases e367
                                        replace p367 := eq_true p367
                                        replace q367 := eq_true q367
                                        have p368 : 0 ≤ (x17_3 : Int) := of_decide_eq_true (by first | (with_reducible assumption) | assumption)
                                        have q368 : x17_3 < (l1_1.length : Int) := of_decide_eq_true (by first | (with_reducible assumption) | assumption)
                                        obtain ⟨ad368, e368, hx368_0⟩ := Kd.at_bool HR1_1.out x17_3 p368 q368
                                        cases e368
                                        replace hx368_0 := (HB.out.cell (World.block_lt_of_cell? w _ hx368_0)).trans hx368_0
                                        replace p368 := eq_true p368
                                        replace q368 := eq_true q368
                                        go_wp2
                                        repeat (go_quiet (fail); try go_wp2)
                                        go_roundg k3
                                        case measure => have := HJ7.out; have := HJ34.out; have := HK3.out; omega
                                        case rel => exact ⟨(wrap64 (x17_3 + 1)), (by first | rfl | (simp; done) | (simp [*]; done)), H', ⟨by have := HJ7.out; have := HJ34.out; have := HK3.out; omega⟩, ⟨by (with_reducible repeat (first | apply Kd.R_alloc | apply Kd.R_drewN | apply Kd.R_drew)); exact HO_351000.out⟩, ⟨by (with_reducible repeat (first | apply Kd.R_alloc | apply Kd.R_drewN | apply Kd.R_drew)); exact HO_351001.out⟩, ⟨by (with_reducible repeat (first | apply Kd.R_alloc | apply Kd.R_drewN | apply Kd.R_drew)); exact HO_362000.out⟩, ⟨by (with_reducible repeat (first | apply Kd.R_alloc | apply Kd.R_drewN | apply Kd.R_drew)); exact HO_362001.out⟩, ⟨by (with_reducible repeat (first | refine blk_drewN ?_ _ | refine blk_drew ?_ | refine blk_alloc ?_ _)); exact BK331.out⟩, ⟨by (with_reducible repeat (first | refine blk_drewN ?_ _ | refine blk_drew ?_ | refine blk_alloc ?_ _)); exact BK332.out⟩, ⟨by (with_reducible repeat (first | refine blk_drewN ?_ _ | refine blk_drew ?_ | refine blk_alloc ?_ _)); exact BK333.out⟩, ⟨by (with_reducible repeat (first | refine blk_drewN ?_ _ | refine blk_drew ?_ | refine blk_alloc ?_ _)); exact BK350.out⟩, ⟨by (with_reducible repeat (first | refine blk_drewN ?_ _ | refine blk_drew ?_ | refine blk_alloc ?_ _)); exact BK361.out⟩, ⟨by repeat (first | (with_reducible first | exact HB.out | apply below_alloc | apply pw_below_drewN | apply below_drew1 | refine below_set ?_ GE331.out | refine below_set ?_ GE332.out | refine below_set ?_ GE333.out | refine below_set ?_ GE350.out | refine below_set ?_ GE361.out) | exact HB.out)⟩⟩
                                    · rw [if_neg c95] at H
                                      exact absurd H (by simp)
                                  · rw [if_neg c94] at H
                                    exact absurd H (by simp)
                                · rw [if_neg c93] at H
                                  have c93b0 : ((rd t343 x17_3) == (rd l1_0 x17_3)) = false := beq_eq_false_iff_ne.mpr c93
                                  have c93b1 : ((rd t343 x17_3) != (rd l1_0 x17_3)) = true := bne_iff_ne.mpr c93
                                  obtain rfl := Option.some.inj H
                                  have p363 : 0 ≤ (x17_3 : Int) := of_decide_eq_true (by first | (with_reducible assumption) | assumption)
                                  have q363 : x17_3 < (l0.length : Int) := of_decide_eq_true (by first | (with_reducible assumption) | assumption)
                                  obtain ⟨ad363, e363, hx363_0, hx363_1, hx363_2, hx363_3⟩ := at_T48 HR0.out x17_3 p363 q363
                                  cases e363
                                  replace hx363_0 := (HB.out.cell (World.block_lt_of_cell? w _ hx363_0)).trans hx363_0
                                  replace hx363_1 := (HB.out.cell (World.block_lt_of_cell? w _ hx363_1)).trans hx363_1
                                  replace hx363_2 := (HB.out.cell (World.block_lt_of_cell? w _ hx363_2)).trans hx363_2
                                  replace hx363_3 := (HB.out.cell (World.block_lt_of_cell? w _ hx363_3)).trans hx363_3
                                  replace p363 := eq_true p363
                                  replace q363 := eq_true q363
                                  have hnb125 := NB332_331.out
                                  have hnc125 := NB331_332.out
                                  have hnb126 := NB332_333.out
                                  have hnc126 := NB333_332.out
                                  have hnb127 := NB332_350.out
                                  have hnc127 := NB350_332.out
                                  have hnb128 := NB332_361.out
                                  have hnc128 := NB361_332.out
                                  have hcz129_0 : wr.cell? ⟨gb332, 0, none⟩ = some (.string a2_0) := (blk_cell BK332.out 0).trans rfl
                                  have hcz129_1 : wr.cell? ⟨gb332, 1, none⟩ = some (.int .i64 a2_1) := (blk_cell BK332.out 1).trans rfl
                                  have hfz129_0 := blk_frozen BK332.out 0
                                  have hfz129_1 := blk_frozen BK332.out 1
                                  have p364 : 0 ≤ (x17_3 : Int) := of_decide_eq_true (by first | (with_reducible assumption) | assumption)
                                  have q364 : x17_3 < (l0.length : Int) := of_decide_eq_true (by first | (with_reducible assumption) | assumption)
                                  obtain ⟨ad364, e364, hx364_0, hx364_1, hx364_2, hx364_3⟩ := at_T48 HR0.out x17_3 p364 q364
                                  obtain rfl : ad363 = ad364 := (by injection e364)
                                  replace hx364_0 := (HB.out.cell (World.block_lt_of_cell? w _ hx364_0)).trans hx364_0
                                  replace hx364_1 := (HB.out.cell (World.block_lt_of_cell? w _ hx364_1)).trans hx364_1
                                  replace hx364_2 := (HB.out.cell (World.block_lt_of_cell? w _ hx364_2)).trans hx364_2
                                  replace hx364_3 := (HB.out.cell (World.block_lt_of_cell? w _ hx364_3)).trans hx364_3
                                  replace p364 := eq_true p364
                                  replace q364 := eq_true q364
                                  have hnb130 := NB333_331.out
                                  have hnc130 := NB331_333.out
                                  have hnb131 := NB333_350.out
                                  have hnc131 := NB350_333.out
                                  have hnb132 := NB333_361.out
                                  have hnc132 := NB361_333.out
                                  have hcz133_0 : wr.cell? ⟨gb333, 0, none⟩ = some (.string a3_0) := (blk_cell BK333.out 0).trans rfl
                                  have hcz133_1 : wr.cell? ⟨gb333, 1, none⟩ = some (.int .i64 a3_1) := (blk_cell BK333.out 1).trans rfl
                                  have hfz133_0 := blk_frozen BK333.out 0
                                  have hfz133_1 := blk_frozen BK333.out 1
                                  have hnb134 := NB350_331.out
                                  have hnc134 := NB331_350.out
                                  have hnb135 := NB350_361.out
                                  have hnc135 := NB361_350.out
                                  have hcz136_0 : wr.cell? ⟨gb350, 0, none⟩ = some (.slice Ao47 t343.length co47) := (blk_cell BK350.out 0).trans rfl
                                  have hcz136_1 : wr.cell? ⟨gb350, 1, none⟩ = some (.slice Ao52 t346.length co52) := (blk_cell BK350.out 1).trans rfl
                                  have hfz136_0 := blk_frozen BK350.out 0
                                  have hfz136_1 := blk_frozen BK350.out 1
                                  have p365 : 0 ≤ (x17_3 : Int) := of_decide_eq_true (by first | (with_reducible assumption) | assumption)
                                  have q365 : x17_3 < (t343.length : Int) := of_decide_eq_true (by first | (with_reducible assumption) | assumption)
                                  obtain ⟨ad365, e365, hx365_0⟩ := Kd.at_int (Kd.R_reads' HO_351000.out).2.2 x17_3 p365 q365
                                  cases e365
                                  replace p365 := eq_true p365
                                  replace q365 := eq_true q365
                                  have hnb137 := NB331_361.out
                                  have hnc137 := NB361_331.out
                                  have hcz138_0 : wr.cell? ⟨gb331, 0, none⟩ = some (.slice A1_0 l1_0.length c1_0) := (blk_cell BK331.out 0).trans rfl
                                  have hcz138_1 : wr.cell? ⟨gb331, 1, none⟩ = some (.slice A1_1 l1_1.length c1_1) := (blk_cell BK331.out 1).trans rfl
                                  have hfz138_0 := blk_frozen BK331.out 0
                                  have hfz138_1 := blk_frozen BK331.out 1
                                  have p366 : 0 ≤ (x17_3 : Int) := of_decide_eq_true (by first | (with_reducible assumption) | assumption)
                                  have q366 : x17_3 < (l1_0.length : Int) := of_decide_eq_true (by first | (with_reducible assumption) | assumption)
                                  obtain ⟨ad366, e366, hx366_0⟩ := Kd.at_int HR1_0.out x17_3 p366 q366
                                  cases e366
                                  replace hx366_0 := (HB.out.cell (World.block_lt_of_cell? w _ hx366_0)).trans hx366_0
                                  replace p366 := eq_true p366
                                  replace q366 := eq_true q366
                                  go_wp2
                                  repeat (go_quiet (fail); try go_wp2)
                                  go_ret
                                  exact ⟨by first | rfl | (simp [errW_none, errW_some] <;> rfl) | (simp [*, errW_none, errW_some] <;> rfl), by repeat (first | (with_reducible first | exact HB.out | apply below_alloc | apply pw_below_drewN | apply below_drew1 | refine below_set ?_ GE331.out | refine below_set ?_ GE332.out | refine below_set ?_ GE333.out | refine below_set ?_ GE350.out | refine below_set ?_ GE361.out) | exact HB.out)⟩
                              · rw [if_neg c92] at H
                                exact absurd H (by simp)
                            · rw [if_neg c91] at H
                              exact absurd H (by simp)
                      · rw [if_neg c74] at H
                        exact absurd H (by simp)
                    · rw [if_neg c73] at H
                      have c73b0 : decide (x17_3 < (l0.length : Int)) = false := decide_eq_false c73
                      clear c73
                      obtain rfl := Option.some.inj H
                      go_wp2
                      repeat (go_quiet (fail); try go_wp2)
                      go_ret
                      exact ⟨by first | rfl | (simp [errW_none, errW_some] <;> rfl) | (simp [*, errW_none, errW_some] <;> rfl), by repeat (first | (with_reducible first | exact HB.out | apply below_alloc | apply pw_below_drewN | apply below_drew1 | refine below_set ?_ GE331.out | refine below_set ?_ GE332.out | refine below_set ?_ GE333.out | refine below_set ?_ GE350.out | refine below_set ?_ GE361.out) | exact HB.out)⟩
              · rw [if_neg c72] at H
                have c72b0 : (t349 == 0) = false := beq_eq_false_iff_ne.mpr c72
                have c72b1 : (t349 != 0) = true := bne_iff_ne.mpr c72
                obtain rfl := Option.some.inj H
                have hnb139 := NB350_331.out
                have hnc139 := NB331_350.out
                have hnb140 := NB350_332.out
                have hnc140 := NB332_350.out
                have hnb141 := NB350_333.out
                have hnc141 := NB333_350.out
                have hnb142 := NB350_361.out
                have hnc142 := NB361_350.out
                have hcz143_0 : wc.cell? ⟨gb350, 0, none⟩ = some (.slice Ao47 t343.length co47) := (blk_cell BK350.out 0).trans rfl
                have hcz143_1 : wc.cell? ⟨gb350, 1, none⟩ = some (.slice Ao52 t346.length co52) := (blk_cell BK350.out 1).trans rfl
                have hfz143_0 := blk_frozen BK350.out 0
                have hfz143_1 := blk_frozen BK350.out 1
                go_wp2
                repeat (go_quiet (fail); try go_wp2)
                go_ret
                exact ⟨by first | rfl | (simp [errW_none, errW_some] <;> rfl) | (simp [*, errW_none, errW_some] <;> rfl), by repeat (first | (with_reducible first | exact HB.out | apply below_alloc | apply pw_below_drewN | apply below_drew1 | refine below_set ?_ GE331.out | refine below_set ?_ GE332.out | refine below_set ?_ GE333.out | refine below_set ?_ GE350.out | refine below_set ?_ GE361.out) | exact HB.out)⟩
end Go.Proofs.YtbmdhmmahmdccaaDoor.Print
/-! ### TgLaw -/
namespace Go.Proofs.YtbmdhmmahmdccaaDoor.Print
open Go.RowKit Go.Proofs.YtbmdhmmahmdccaaDoorW.PrintWords Go.Proofs.YtbmdhmmahmdccaaDoorW.PrintLast Go.Proofs.YtbmdhmmahmdccaaDoorW.PrintMore
set_option linter.unusedSimpArgs false
set_option linter.unusedVariables false
def shortT (t : S48) : Bool := decide (t.f0.size ≤ 200)
def smallB (l : List S48) : Bool := decide (l.length ≤ 100) && l.all shortT
theorem small_loop (l : List S48) (hl : l.length ≤ 1000000000) : ∀ (f i k : Nat), l.length ≤ i + f → i ≤ l.length → f < k → malthouselaw08_small.l0 k l (i : Int) = some ((l.drop i).all shortT) := by
  intro f
  induction f with
  | zero =>
    intro i k h1 h2 hk
    obtain ⟨k, rfl⟩ : ∃ m, k = m + 1 := ⟨k - 1, by omega⟩
    rw [malthouselaw08_small.l0, if_neg (by omega), List.drop_eq_nil_of_le (by omega)]
    rfl
  | succ f ih =>
    intro i k h1 h2 hk
    obtain ⟨k, rfl⟩ : ∃ m, k = m + 1 := ⟨k - 1, by omega⟩
    rw [malthouselaw08_small.l0]
    by_cases hi : i < l.length
    · rw [if_pos (by omega), if_pos (by omega), rd_at l i hi, wrap_small _ (by omega) (by omega), show (i : Int) + 1 = ((i + 1 : Nat) : Int) by omega, List.drop_eq_getElem_cons hi, List.all_cons]
      by_cases hs : l[i].f0.size ≤ 200
      · rw [if_neg (by omega), ih (i + 1) k (by omega) (by omega) (by omega), show shortT l[i] = true from by unfold shortT; simpa using hs, Bool.true_and]
      · rw [if_pos (by omega), show shortT l[i] = false from by unfold shortT; simpa using hs, Bool.false_and]
    · rw [if_neg (by omega), List.drop_eq_nil_of_le (by omega)]
      rfl
theorem small_is (l : List S48) (k : Nat) (hk : 100 < k) : malthouselaw08_small.f k l = some (smallB l) := by
  unfold malthouselaw08_small.f smallB
  by_cases h : l.length ≤ 100
  · have := small_loop l (by omega) l.length 0 k (by omega) (by omega) (by omega)
    rw [if_neg (by omega), show decide (l.length ≤ 100) = true by simpa using h]
    simpa using this
  · rw [if_pos (by omega), show decide (l.length ≤ 100) = false by simpa using h, Bool.false_and]
theorem longest_bound (n : Nat) : ∀ (l : List S48), (∀ t ∈ l, t.f0.size ≤ n) → longest l ≤ n
  | [], _ => by unfold longest; simp
  | x :: l, h => by
    have h1 := longest_bound n l (fun t ht => h t (List.mem_cons_of_mem _ ht))
    have h2 := h x List.mem_cons_self
    unfold longest at h1 ⊢
    rw [List.foldr_cons]
    omega
theorem smallB_ok {l : List S48} (h : smallB l = true) : l.length ≤ 100 ∧ okTags l ∧ longest l ≤ 200 := by
  unfold smallB at h
  simp only [Bool.and_eq_true, decide_eq_true_eq, List.all_eq_true] at h
  obtain ⟨h1, h2⟩ := h
  have h3 : ∀ t ∈ l, t.f0.size ≤ 200 := fun t ht => by have := h2 t ht; unfold shortT at this; simpa using this
  refine ⟨h1, ⟨by omega, fun t ht => by have := h3 t ht; omega⟩, ?_⟩
  exact longest_bound _ _ h3
theorem same_loop1 (V W : List Int) (B : List Bool) (hl : B.length ≤ 1000000000) : ∀ (f i k : Nat), B.length ≤ i + f → i ≤ B.length → f < k → malthouseref08_Same.l1 k (i : Int) V B W B = some true := by
  intro f
  induction f with
  | zero =>
    intro i k h1 h2 hk
    obtain ⟨k, rfl⟩ : ∃ m, k = m + 1 := ⟨k - 1, by omega⟩
    rw [malthouseref08_Same.l1, if_neg (by omega)]
  | succ f ih =>
    intro i k h1 h2 hk
    obtain ⟨k, rfl⟩ : ∃ m, k = m + 1 := ⟨k - 1, by omega⟩
    rw [malthouseref08_Same.l1]
    by_cases hi : i < B.length
    · rw [if_pos (by omega), if_pos (by omega), if_pos (by omega), if_neg (by simp), wrap_small _ (by omega) (by omega), show (i : Int) + 1 = ((i + 1 : Nat) : Int) by omega]
      exact ih (i + 1) k (by omega) (by omega) (by omega)
    · rw [if_neg (by omega)]
theorem same_loop0 (V : List Int) (B : List Bool) (hv : V.length ≤ 1000000000) (hl : B.length ≤ 1000000000) : ∀ (f i k : Nat), V.length ≤ i + f → i ≤ V.length → f + B.length + 1 < k → malthouseref08_Same.l0 k (i : Int) V B V B = some true := by
  intro f
  induction f with
  | zero =>
    intro i k h1 h2 hk
    obtain ⟨k, rfl⟩ : ∃ m, k = m + 1 := ⟨k - 1, by omega⟩
    rw [malthouseref08_Same.l0, if_neg (by omega)]
    exact same_loop1 V V B hl B.length 0 k (by omega) (by omega) (by omega)
  | succ f ih =>
    intro i k h1 h2 hk
    obtain ⟨k, rfl⟩ : ∃ m, k = m + 1 := ⟨k - 1, by omega⟩
    rw [malthouseref08_Same.l0]
    by_cases hi : i < V.length
    · rw [if_pos (by omega), if_pos (by omega), if_pos (by omega), if_pos rfl, wrap_small _ (by omega) (by omega), show (i : Int) + 1 = ((i + 1 : Nat) : Int) by omega]
      exact ih (i + 1) k (by omega) (by omega) (by omega)
    · rw [if_neg (by omega)]
      exact same_loop1 V V B hl B.length 0 k (by omega) (by omega) (by omega)
theorem same_refl (V : List Int) (B : List Bool) (hv : V.length ≤ 1000000000) (hl : B.length ≤ 1000000000) (k : Nat) (hk : V.length + B.length + 3 < k) : malthouseref08_Same.f k V B V B = some true := by
  obtain ⟨k, rfl⟩ : ∃ m, k = m + 1 := ⟨k - 1, by omega⟩
  unfold malthouseref08_Same.f
  rw [if_pos rfl, malthouseref08_Same.j0, if_neg (by simp)]
  exact same_loop0 V B hv hl V.length 0 k (by omega) (by omega) (by omega)
end Go.Proofs.YtbmdhmmahmdccaaDoor.Print
/-! ### TgLaw2 -/
namespace Go.Proofs.YtbmdhmmahmdccaaDoor.Print
open Go.RowKit Go.Proofs.YtbmdhmmahmdccaaDoorW.PrintWords Go.Proofs.YtbmdhmmahmdccaaDoorW.PrintLast Go.Proofs.YtbmdhmmahmdccaaDoorW.PrintMore
set_option linter.unusedSimpArgs false
set_option linter.unusedVariables false
theorem rdC_at (l : List S46) (i : Nat) (hi : i < l.length) : rd_T46 l (i : Int) = l[i] := getD_at l _ i hi
theorem rdI_at (l : List Int) (i : Nat) (hi : i < l.length) : rd l (i : Int) = l[i] := getD_at l _ i hi
theorem rdB_at (l : List Bool) (i : Nat) (hi : i < l.length) : rdOf false l (i : Int) = l[i] := getD_at l _ i hi
def shortC (c : S46) : Bool := decide (c.f0.size ≤ 200)
def fairB (V : List Int) (B : List Bool) (cs : List S46) : Bool := decide (V.length ≤ 1000) && decide (B.length ≤ 1000) && decide (cs.length ≤ 1000) && cs.all shortC
theorem fair_loop (l : List S46) (hl : l.length ≤ 1000000000) : ∀ (f i k : Nat), l.length ≤ i + f → i ≤ l.length → f < k → malthouselaw08_fair.l0 k l (i : Int) = some ((l.drop i).all shortC) := by
  intro f
  induction f with
  | zero =>
    intro i k h1 h2 hk
    obtain ⟨k, rfl⟩ : ∃ m, k = m + 1 := ⟨k - 1, by omega⟩
    rw [malthouselaw08_fair.l0, if_neg (by omega), List.drop_eq_nil_of_le (by omega)]
    rfl
  | succ f ih =>
    intro i k h1 h2 hk
    obtain ⟨k, rfl⟩ : ∃ m, k = m + 1 := ⟨k - 1, by omega⟩
    rw [malthouselaw08_fair.l0]
    by_cases hi : i < l.length
    · rw [if_pos (by omega), if_pos (by omega), rdC_at l i hi, wrap_small _ (by omega) (by omega), show (i : Int) + 1 = ((i + 1 : Nat) : Int) by omega, List.drop_eq_getElem_cons hi, List.all_cons]
      by_cases hs : l[i].f0.size ≤ 200
      · rw [if_neg (by omega), ih (i + 1) k (by omega) (by omega) (by omega), show shortC l[i] = true from by unfold shortC; simpa using hs, Bool.true_and]
      · rw [if_pos (by omega), show shortC l[i] = false from by unfold shortC; simpa using hs, Bool.false_and]
    · rw [if_neg (by omega), List.drop_eq_nil_of_le (by omega)]
      rfl
theorem fair_is (V : List Int) (B : List Bool) (l : List S46) (k : Nat) (hk : 1002 < k) : malthouselaw08_fair.f k V B l = some (fairB V B l) := by
  obtain ⟨k, rfl⟩ : ∃ m, k = m + 1 := ⟨k - 1, by omega⟩
  have hj : malthouselaw08_fair.j0 (k + 1) l true = some false := by rw [malthouselaw08_fair.j0, if_pos rfl]
  unfold malthouselaw08_fair.f fairB
  by_cases h1 : V.length ≤ 1000
  · by_cases h2 : B.length ≤ 1000
    · rw [if_neg (by omega), if_neg (by omega)]
      by_cases h3 : l.length ≤ 1000
      · have := fair_loop l (by omega) l.length 0 k (by omega) (by omega) (by omega)
        rw [malthouselaw08_fair.j0, if_neg (by simp; omega)]
        simp only [h1, h2, h3, decide_true, Bool.true_and]
        simpa using this
      · rw [show decide ((l.length : Int) > 1000) = true by simp; omega, hj]
        simp [h3]
    · rw [if_neg (by omega), if_pos (by omega), hj]
      simp [h2]
  · rw [if_pos (by omega), hj]
    simp [h1]
theorem fairB_ok {V : List Int} {B : List Bool} {l : List S46} (h : fairB V B l = true) : V.length ≤ 1000 ∧ B.length ≤ 1000 ∧ l.length ≤ 1000 := by
  unfold fairB at h
  simp only [Bool.and_eq_true, decide_eq_true_eq] at h
  exact ⟨h.1.1.1, h.1.1.2, h.1.2⟩
theorem rightB_ok {l : List S48} {V : List Int} {B : List Bool} (h : rightB l V B = true) : checkZ l = 0 ∧ V.length = l.length ∧ B.length = l.length := by
  unfold rightB at h
  simp only [Bool.and_eq_true, beq_iff_eq] at h
  exact ⟨h.1.1.1, h.1.1.2, h.1.2⟩
theorem told_is (l : List S48) (hl : okTags l) (V : List Int) (B : List Bool) (hv : V.length ≤ 1000) (hb : B.length ≤ 1000) (cs : List S46) (hcs : cs.length ≤ 1000000000) (out : Bool) : tags_told.f l V B cs out = some (toldZ l V B cs out) := by
  unfold tags_told.f
  rw [if_pos ⟨hl, by omega, by omega, hcs⟩]
theorem toldGo_len (l : List S48) (out : Bool) : ∀ (cs : List S46) (V : List Int) (B : List Bool), (toldGo l out cs V B).1.length ≤ V.length ∧ (toldGo l out cs V B).2.1.length ≤ B.length
  | [], V, B => by unfold toldGo; exact ⟨Nat.le_refl _, Nat.le_refl _⟩
  | c :: cs, V, B => by
    unfold toldGo
    split
    · exact ⟨by simp, by simp⟩
    · have := toldGo_len l out cs (V.set (firstFrom (tagIs c.f0) 0 l).toNat (nearT (l.getD (firstFrom (tagIs c.f0) 0 l).toNat z48) c.f1)) (B.set (firstFrom (tagIs c.f0) 0 l).toNat (!(l.getD (firstFrom (tagIs c.f0) 0 l).toNat z48).f1 && nearT (l.getD (firstFrom (tagIs c.f0) 0 l).toNat z48) c.f1 != c.f1))
      simpa using this
theorem toldZ_len (l : List S48) (V : List Int) (B : List Bool) (cs : List S46) (out : Bool) : (toldZ l V B cs out).1.length ≤ V.length ∧ (toldZ l V B cs out).2.1.length ≤ B.length := by
  unfold toldZ
  split
  · exact toldGo_len l out cs V B
  · exact ⟨by simp, by simp⟩
end Go.Proofs.YtbmdhmmahmdccaaDoor.Print
/-! ### TgLaw3 -/
namespace Go.Proofs.YtbmdhmmahmdccaaDoor.Print
open Go.RowKit Go.Proofs.YtbmdhmmahmdccaaDoorW.PrintWords Go.Proofs.YtbmdhmmahmdccaaDoorW.PrintLast Go.Proofs.YtbmdhmmahmdccaaDoorW.PrintMore
set_option linter.unusedSimpArgs false
set_option linter.unusedVariables false
theorem firstFrom_hit {α : Type} (p : α → Bool) : ∀ (l : List α) (k j : Nat), firstFrom p k l = (j : Int) → ∃ h : j - k < l.length, k ≤ j ∧ p l[j - k] = true := by
  intro l
  induction l with
  | nil => intro k j h; unfold firstFrom at h; omega
  | cons x l ih =>
    intro k j h
    unfold firstFrom at h
    split at h
    · rename_i hp
      obtain rfl : k = j := by omega
      exact ⟨by simp, Nat.le_refl _, by simpa using hp⟩
    · obtain ⟨h1, h2, h3⟩ := ih (k + 1) j h
      obtain ⟨d, hd⟩ : ∃ d, j - k = d + 1 := ⟨j - k - 1, by omega⟩
      have hd' : j - (k + 1) = d := by omega
      refine ⟨by simp; omega, by omega, ?_⟩
      simp only [hd, List.getElem_cons_succ]
      simpa only [hd'] using h3
/-- The tag that a name tells has that name. -/
theorem first_name (l : List S48) (a : ByteArray) (h : ¬ firstFrom (tagIs a) 0 l < 0) : ∃ hj : (firstFrom (tagIs a) 0 l).toNat < l.length, l[(firstFrom (tagIs a) 0 l).toNat].f0.toList = a.toList := by
  obtain ⟨j, hj⟩ : ∃ j : Nat, firstFrom (tagIs a) 0 l = j := ⟨(firstFrom (tagIs a) 0 l).toNat, by omega⟩
  obtain ⟨h1, _, h3⟩ := firstFrom_hit _ l 0 j hj
  rw [hj, Int.toNat_natCast]
  refine ⟨by omega, ?_⟩
  unfold tagIs at h3
  simpa using h3
theorem told_swap (l : List S48) (V : List Int) (B : List Bool) (c1 c2 : S46) (out : Bool) (hne : c1.f0.toList ≠ c2.f0.toList) : toldZ l V B [c1, c2] out = toldZ l V B [c2, c1] out := by
  unfold toldZ
  split
  · simp only [toldGo]
    by_cases p1 : firstFrom (tagIs c1.f0) 0 l < 0 ∨ (l.getD (firstFrom (tagIs c1.f0) 0 l).toNat z48).f1 ≠ out
    · by_cases p2 : firstFrom (tagIs c2.f0) 0 l < 0 ∨ (l.getD (firstFrom (tagIs c2.f0) 0 l).toNat z48).f1 ≠ out
      · rw [if_pos p1, if_pos p2]
      · rw [if_pos p1, if_neg p2, if_pos p1]
    · by_cases p2 : firstFrom (tagIs c2.f0) 0 l < 0 ∨ (l.getD (firstFrom (tagIs c2.f0) 0 l).toNat z48).f1 ≠ out
      · rw [if_neg p1, if_pos p2, if_pos p2]
      · rw [if_neg p1, if_neg p2, if_neg p1, if_neg p2]
        have q1 : ¬ firstFrom (tagIs c1.f0) 0 l < 0 := fun h => p1 (.inl h)
        have q2 : ¬ firstFrom (tagIs c2.f0) 0 l < 0 := fun h => p2 (.inl h)
        obtain ⟨h1, e1⟩ := first_name l c1.f0 q1
        obtain ⟨h2, e2⟩ := first_name l c2.f0 q2
        have hij : (firstFrom (tagIs c1.f0) 0 l).toNat ≠ (firstFrom (tagIs c2.f0) 0 l).toNat := by
          intro e
          apply hne
          rw [← e1, ← e2]
          simp only [e]
        rw [List.set_comm _ _ hij, List.set_comm _ _ hij]
  · rfl
theorem toldGo_keeps (l : List S48) (out : Bool) (i : Nat) (hi : i < l.length) : ∀ (cs : List S46) (V : List Int) (B : List Bool), (∀ c ∈ cs, l[i].f0.toList ≠ c.f0.toList) → (toldGo l out cs V B).2.2 = 0 →
    (toldGo l out cs V B).1[i]? = V[i]? ∧ (toldGo l out cs V B).2.1[i]? = B[i]?
  | [], V, B, _, _ => by unfold toldGo; exact ⟨rfl, rfl⟩
  | c :: cs, V, B, hc, h => by
    unfold toldGo at h ⊢
    by_cases p : firstFrom (tagIs c.f0) 0 l < 0 ∨ (l.getD (firstFrom (tagIs c.f0) 0 l).toNat z48).f1 ≠ out
    · rw [if_pos p] at h
      cases h
    · rw [if_neg p] at h ⊢
      obtain ⟨hj, e⟩ := first_name l c.f0 (fun h => p (.inl h))
      have hne : (firstFrom (tagIs c.f0) 0 l).toNat ≠ i := by
        intro e2
        apply hc c List.mem_cons_self
        rw [← e]
        simp only [e2]
      obtain ⟨h1, h2⟩ := toldGo_keeps l out i hi cs _ _ (fun c h => hc c (List.mem_cons_of_mem _ h)) h
      rw [h1, h2, List.getElem?_set_ne hne, List.getElem?_set_ne hne]
      exact ⟨rfl, rfl⟩
theorem toldGo_len0 (l : List S48) (out : Bool) : ∀ (cs : List S46) (V : List Int) (B : List Bool), (toldGo l out cs V B).2.2 = 0 → (toldGo l out cs V B).1.length = V.length ∧ (toldGo l out cs V B).2.1.length = B.length
  | [], V, B, _ => by unfold toldGo; exact ⟨rfl, rfl⟩
  | c :: cs, V, B, h => by
    unfold toldGo at h ⊢
    by_cases p : firstFrom (tagIs c.f0) 0 l < 0 ∨ (l.getD (firstFrom (tagIs c.f0) 0 l).toNat z48).f1 ≠ out
    · rw [if_pos p] at h
      cases h
    · rw [if_neg p] at h ⊢
      obtain ⟨h1, h2⟩ := toldGo_len0 l out cs _ _ h
      rw [h1, h2, List.length_set, List.length_set]
      exact ⟨rfl, rfl⟩
theorem toldGo_err (l : List S48) (out : Bool) : ∀ (cs : List S46) (V : List Int) (B : List Bool), (toldGo l out cs V B).2.2 ≠ 0 → (toldGo l out cs V B).1 = []
  | [], V, B, h => by unfold toldGo at h; exact absurd rfl h
  | c :: cs, V, B, h => by
    unfold toldGo at h ⊢
    by_cases p : firstFrom (tagIs c.f0) 0 l < 0 ∨ (l.getD (firstFrom (tagIs c.f0) 0 l).toNat z48).f1 ≠ out
    · rw [if_pos p]
    · rw [if_neg p] at h ⊢
      exact toldGo_err l out cs _ _ h
theorem apart_loop (l : List S48) (V V' : List Int) (B B' : List Bool) (n1 n2 : ByteArray) (x1 x2 : Int) (hl : l.length ≤ 1000000000) (hv : V.length = l.length) (hb : B.length = l.length) (hv' : V'.length = l.length) (hb' : B'.length = l.length)
    (hk : ∀ i (hi : i < l.length), l[i].f0.toList ≠ n1.toList → l[i].f0.toList ≠ n2.toList → V'[i]? = V[i]? ∧ B'[i]? = B[i]?) : ∀ (f i k : Nat), l.length ≤ i + f → i ≤ l.length → f < k → malthouselaw08_TagsApart.l0 k l (i : Int) V B n1 x1 n2 x2 V' B' = some true := by
  intro f
  induction f with
  | zero =>
    intro i k h1 h2 hk
    obtain ⟨k, rfl⟩ : ∃ m, k = m + 1 := ⟨k - 1, by omega⟩
    rw [malthouselaw08_TagsApart.l0, if_neg (by omega)]
  | succ f ih =>
    intro i k h1 h2 hk'
    obtain ⟨k, rfl⟩ : ∃ m, k = m + 1 := ⟨k - 1, by omega⟩
    rw [malthouselaw08_TagsApart.l0]
    by_cases hi : i < l.length
    · rw [if_pos (by omega), if_pos (by omega), rd_at l i hi, wrap_small _ (by omega) (by omega), show (i : Int) + 1 = ((i + 1 : Nat) : Int) by omega, ih (i + 1) k (by omega) (by omega) (by omega)]
      by_cases e1 : l[i].f0.toList = n1.toList
      · rw [if_pos e1]
      · rw [if_neg e1]
        by_cases e2 : l[i].f0.toList = n2.toList
        · rw [if_pos e2]
        · rw [if_neg e2, if_pos (by omega), if_pos (by omega)]
          obtain ⟨k1, k2⟩ := hk i hi e1 e2
          rw [List.getElem?_eq_getElem (by omega), List.getElem?_eq_getElem (by omega)] at k1 k2
          rw [rdI_at V' i (by omega), rdI_at V i (by omega), if_pos (Option.some.inj k1), if_pos (by omega), if_pos (by omega), rdB_at B' i (by omega), rdB_at B i (by omega), Option.some.inj k2, if_neg (by simp)]
    · rw [if_neg (by omega)]
theorem tagsApart_pure (l0 : List S48) (V : List Int) (B : List Bool) (n1 : ByteArray) (x1 : Int) (n2 : ByteArray) (x2 : Int) : malthouselaw08_TagsApart.f 10000 l0 V B n1 x1 n2 x2 = some true := by
  generalize hk : 10000 = k
  unfold malthouselaw08_TagsApart.f malthouselaw08_awake.f
  rw [small_is l0 k (by omega), fair_is V B _ k (by omega)]
  obtain ⟨k, rfl⟩ : ∃ m, k = m + 1 + 1 := ⟨k - 2, by omega⟩
  simp only [Option.bind_some, if_true]
  have h0 : malthouselaw08_TagsApart.j0 (k + 1 + 1) l0 true true V B n1 x1 n2 x2 = some true := by rw [malthouselaw08_TagsApart.j0, if_pos rfl]
  by_cases h : smallB l0 = true
  · obtain ⟨h1, h2, h3⟩ := smallB_ok h
    rw [if_pos h]
    by_cases hf : fairB V B [⟨n1, x1⟩, ⟨n2, x2⟩] = true
    · obtain ⟨g1, g2, g3⟩ := fairB_ok hf
      rw [if_pos hf]
      by_cases hn : n1.toList = n2.toList
      · rw [show (n1.toList == n2.toList) = true by simp [hn], h0]
      · rw [show (n1.toList == n2.toList) = false by simp [hn], malthouselaw08_TagsApart.j0, if_neg (by simp)]
        unfold tags_Latch.f
        rw [told_is l0 h2 V B g1 g2 _ (by simp), told_is l0 h2 V B g1 g2 _ (by simp), ← told_swap l0 V B ⟨n1, x1⟩ ⟨n2, x2⟩ false hn]
        simp only [Option.bind_some]
        have hlen := toldZ_len l0 V B [⟨n1, x1⟩, ⟨n2, x2⟩] false
        rw [same_refl _ _ (by omega) (by omega) _ (by omega)]
        simp only [Option.bind_some, if_true]
        rw [malthouselaw08_TagsApart.j1, if_neg (by simp)]
        by_cases he : (toldZ l0 V B [⟨n1, x1⟩, ⟨n2, x2⟩] false).2.2 = 0
        · rw [if_pos he]
          by_cases hr : rightB l0 V B = true
          · obtain ⟨r1, r2, r3⟩ := rightB_ok hr
            have ez : toldZ l0 V B [⟨n1, x1⟩, ⟨n2, x2⟩] false = toldGo l0 false [⟨n1, x1⟩, ⟨n2, x2⟩] V B := by unfold toldZ; rw [if_pos hr]
            rw [ez] at he ⊢
            obtain ⟨q1, q2⟩ := toldGo_len0 l0 false _ V B he
            refine apart_loop l0 V _ B _ n1 n2 x1 x2 h2.1 r2 r3 (by omega) (by omega) (fun i hi e1 e2 => ?_) l0.length 0 k (by omega) (by omega) (by omega)
            refine toldGo_keeps l0 false i hi _ V B (fun c hc => ?_) he
            simp only [List.mem_cons, List.not_mem_nil, or_false] at hc
            rcases hc with rfl | rfl
            · exact e1
            · exact e2
          · exfalso
            unfold toldZ at he
            rw [if_neg hr] at he
            cases he
        · rw [if_neg he]
          have hz : (toldZ l0 V B [⟨n1, x1⟩, ⟨n2, x2⟩] false).1 = [] := by
            unfold toldZ at he ⊢
            split
            · rename_i hr
              rw [if_pos hr] at he
              exact toldGo_err _ _ _ _ _ he
            · rfl
          rw [hz]
          rfl
    · rw [if_neg hf, h0]
  · rw [if_neg h, h0]
end Go.Proofs.YtbmdhmmahmdccaaDoor.Print
/-! ### RdKd -/
namespace Go.Proofs.YtbmdhmmahmdccaaDoor
open Go.RowKit Go.Proofs.YtbmdhmmahmdccaaDoorW.PrintWords
/-- A row that came in, its elements turned. -/
theorem C_of_row {α β : Type} {n : Nat} {R : Rd α} {d : Kd β} (g : α → β) {w : World} {A : Option Addr} {xs : List α} (hn : d.sz = n) (hm : xs.length ≤ 9223372036854775807) (hx : rdRow n R w A xs) (hc : ∀ es x, es.length = n → R w es x → d.K w (g x) es) :
    Kd.C d w A (xs.map g).length (xs.map g) := by
  subst hn
  refine ⟨rfl, by rw [List.length_map]; omega, fun h0 => ?_⟩
  rw [List.length_map] at h0
  obtain ⟨ad, es, hA, _, _, _⟩ := hx 0 _ (List.getElem?_eq_getElem h0)
  refine ⟨ad, hA, fun j p hj => ?_⟩
  rw [List.getElem?_map] at hj
  cases hx' : xs[j]? with
  | none => rw [hx'] at hj; simp at hj
  | some x =>
    rw [hx'] at hj
    obtain rfl := Option.some.inj hj
    obtain ⟨ad', es', hA', hl, hcs, hR⟩ := hx j x hx'
    obtain rfl := Option.some.inj (hA.symm.trans hA')
    refine ⟨es', hl, hc es' x hl hR, fun i u hu => ?_⟩
    have := hcs i u hu
    rwa [Go.Deep.add_add] at this
theorem C_ints {k : IntKind} {w : World} {A : Option Addr} {xs : List Int} (hm : xs.length ≤ 9223372036854775807) (hx : rdRow 1 (rdInt k) w A xs) : Kd.C (Kd.int k) w A xs.length xs := by
  have := C_of_row (d := Kd.int k) id rfl hm hx (fun es x _ h => h.1)
  rwa [List.map_id] at this
theorem C_bools {w : World} {A : Option Addr} {xs : List Bool} (hm : xs.length ≤ 9223372036854775807) (hx : rdRow 1 rdBool w A xs) : Kd.C Kd.bool w A xs.length xs := by
  have := C_of_row (d := Kd.bool) id rfl hm hx (fun es x _ h => h)
  rwa [List.map_id] at this
theorem len2 {es : List Value} (h : es.length = 2) : ∃ a b, es = [a, b] := by match es, h with | [a, b], _ => exact ⟨a, b, rfl⟩
theorem len4 {es : List Value} (h : es.length = 4) : ∃ a b c d, es = [a, b, c, d] := by match es, h with | [a, b, c, d], _ => exact ⟨a, b, c, d, rfl⟩
end Go.Proofs.YtbmdhmmahmdccaaDoor
/-! ### TgIn -/
namespace Go.Proofs.YtbmdhmmahmdccaaDoor.Print
open Go.RowKit Go.Proofs.YtbmdhmmahmdccaaDoorW.PrintWords Go.Proofs.YtbmdhmmahmdccaaDoorW.PrintLast Go.Proofs.YtbmdhmmahmdccaaDoorW.PrintMore
set_option linter.unusedSimpArgs false
set_option linter.unusedVariables false
abbrev TagR := ByteArray × Bool × Int × Int × Unit
def rTag : Rd TagR := rdPair 1 rdStr (rdPair 1 rdBool (rdPair 1 (rdInt .i64) (rdPair 1 (rdInt .i64) rdUnit)))
def gTag (x : TagR) : S48 := ⟨x.1, x.2.1, x.2.2.1, x.2.2.2.1⟩
abbrev CellR := ByteArray × Int × Unit
def rCell : Rd CellR := rdPair 1 rdStr (rdPair 1 (rdInt .i64) rdUnit)
abbrev ImR := List Int × List Bool × Unit
def rIm : Rd ImR := rdPair 1 (rdSl 1 8 (rdInt .i64)) (rdPair 1 (rdSl 1 1 rdBool) rdUnit)
section
variable {H : Type} (enc : TypeId × Value → H) (w : World)
theorem tag_opens : Opens enc Tryd.prog w 48 rTag := opens_struct Tryd.underlying48 (opens_cons rfl (by kernel_rfl) (opens_str Tryd.underlying9) (opens_cons rfl (by kernel_rfl) (opens_bool Tryd.underlying4) (opens_cons rfl (by kernel_rfl) (opens_int Tryd.underlying3) (opens_cons rfl (by kernel_rfl) (opens_int Tryd.underlying3) opens_nil))))
theorem tags_opens : Opens enc Tryd.prog w 22 (rdSl 4 40 rTag) := opens_sl Tryd.underlying22 (by kernel_rfl) (by kernel_rfl) (tag_opens enc w)
theorem cell_opens : Opens enc Tryd.prog w 46 rCell := opens_struct Tryd.underlying46 (opens_cons rfl (by kernel_rfl) (opens_str Tryd.underlying9) (opens_cons rfl (by kernel_rfl) (opens_int Tryd.underlying3) opens_nil))
theorem im_opens : Opens enc Tryd.prog w 28 rIm := opens_struct Tryd.underlying28 (opens_cons rfl (by kernel_rfl) (opens_sl Tryd.underlying25 (by kernel_rfl) (by kernel_rfl) (opens_int Tryd.underlying3)) (opens_cons rfl (by kernel_rfl) (opens_sl Tryd.underlying26 (by kernel_rfl) (by kernel_rfl) (opens_bool Tryd.underlying4)) opens_nil))
end
theorem tag_K {w : World} {es : List Value} {x : TagR} (hl : es.length = 4) (h : rTag w es x) : k48.K w (gTag x) es := by
  obtain ⟨a, b, c, d, rfl⟩ := len4 hl
  obtain ⟨⟨h1, _⟩, h2, ⟨h3, _⟩, ⟨h4, _⟩, _⟩ := h
  simp [rdBool] at h1 h2 h3 h4
  subst h1 h2 h3 h4
  exact k48_mk w (gTag x)
theorem C_tags {w : World} {A : Option Addr} {xs : List TagR} (hm : xs.length ≤ 9223372036854775807) (hx : rdRow 4 rTag w A xs) : Kd.C k48 w A (xs.map gTag).length (xs.map gTag) := C_of_row gTag rfl hm hx (fun _ _ hl h => tag_K hl h)
/-- An image that came in: its two rows. -/
theorem im_in {w : World} {cs : Array Value} {x : ImR} (hz : cs.size = 2) (h : rIm w cs.toList x) : ∃ Av cv Ab cb, cs = #[.slice Av x.1.length cv, .slice Ab x.2.1.length cb] ∧ x.1.length ≤ cv ∧ x.2.1.length ≤ cb ∧ Kd.C (Kd.int .i64) w Av x.1.length x.1 ∧ Kd.C Kd.bool w Ab x.2.1.length x.2.1 := by
  obtain ⟨⟨Av, cv, e1, hl1, _, hm1, hr1⟩, ⟨Ab, cb, e2, hl2, _, hm2, hr2⟩, _⟩ := h
  obtain ⟨a, b, e⟩ := len2 (es := cs.toList) (by simpa using hz)
  rw [e] at e1 e2
  simp at e1 e2
  subst e1 e2
  refine ⟨Av, cv, Ab, cb, Array.toList_inj.1 e, hl1, hl2, C_ints (by omega) hr1, C_bools (by omega) hr2⟩
/-- A cell that came in. -/
theorem cell_in {w : World} {cs : Array Value} {x : CellR} (hz : cs.size = 2) (h : rCell w cs.toList x) : cs = #[.string x.1, .int .i64 x.2.1] := by
  obtain ⟨⟨e1, _⟩, ⟨e2, _⟩, _⟩ := h
  obtain ⟨a, b, e⟩ := len2 (es := cs.toList) (by simpa using hz)
  rw [e] at e1 e2
  simp at e1 e2
  subst e1 e2
  exact Array.toList_inj.1 e
end Go.Proofs.YtbmdhmmahmdccaaDoor.Print
/-! ### TgWalk4 -/
namespace Go.Proofs.YtbmdhmmahmdccaaDoor.Print
open Go.RowKit Go.Proofs.YtbmdhmmahmdccaaDoorW.PrintWords Go.Proofs.YtbmdhmmahmdccaaDoorW.PrintLast Go.Proofs.YtbmdhmmahmdccaaDoorW.PrintMore
set_option linter.unusedVariables false
theorem tagsApart_walk (A0 : Option Addr) (cap0 : Nat) (y0 : List TagR) (cs1 : Array Value) (y1 : ImR) (cs2 : Array Value) (y2 : CellR) (cs3 : Array Value) (y3 : CellR) (w : World) (hl0 : y0.length ≤ cap0) (hb0 : cap0 * 40 ≤ 140737488351232) (hr0 : rdRow 4 rTag w A0 y0) (hz1 : cs1.size = Tryd.prog.cellsOf 28) (r1 : rIm w (Value.agg cs1).cells.toList y1) (hz2 : cs2.size = Tryd.prog.cellsOf 46) (r2 : rCell w (Value.agg cs2).cells.toList y2) (hz3 : cs3.size = Tryd.prog.cellsOf 46) (r3 : rCell w (Value.agg cs3).cells.toList y3) (hT : Tabs w) :
    Calls Tryd.prog 7 #[.slice A0 y0.length cap0, .agg cs1, .agg cs2, .agg cs3] w fun e w' => e = .returned (.bool true) ∧ Below w.heap.size w w' := by
  obtain ⟨Av, cv, Ab, cb, rfl, hcv, hcb, hV, hB⟩ := im_in (hz1.trans (by kernel_rfl)) r1
  obtain rfl := cell_in (hz2.trans (by kernel_rfl)) r2
  obtain rfl := cell_in (hz3.trans (by kernel_rfl)) r3
  have h := malthouselaw08_TagsApart.calls 10000 A0 cap0 (y0.map gTag) Av cv y1.1 Ab cb y1.2.1 y2.1 y2.2.1 y3.1 y3.2.1 true w (C_tags (by omega) hr0) (by simpa using hl0) hV hcv hB hcb hT (tagsApart_pure _ _ _ _ _ _ _)
  rw [List.length_map] at h
  exact h
end Go.Proofs.YtbmdhmmahmdccaaDoor.Print
/-! ### TagsApartRow -/
namespace Go.Proofs.YtbmdhmmahmdccaaDoor.tagsApart
open Go.ChangeShapes Go.WideShapes Go.ChangeAt Go.RowKit Go.Shelf Go.Lib Go.Proofs.YtbmdhmmahmdccaaDoor.Print
open Go.ChangeMaps (open_string shut_string)
set_option linter.unusedVariables false
set_option linter.unusedSimpArgs false
theorem own : ownKnob Tryd.prog.godebug = none := by kernel_rfl
theorem laidOut : laidOutB Tryd.prog = true := by kernel_rfl
set_option maxRecDepth 100000 in
theorem lifted (os : Os) (started : os.Started) (H : Type) (enc : TypeId × Value → H) :
    ReturnsInHanded {} Tryd.checked os 7 .any (fun w args => (Rows.tagsApartSpec.pre enc Tryd.prog Tryd.f7 [] false w args ∧ laidMetH Tryd.prog Rows.tagsApartRow.laid w) ∧ sizedMet enc Tryd.prog Tryd.f7 (OpenSpec.ofChange Rows.tagsApartSpec) false w args) (Rows.tagsApartSpec.post enc Tryd.prog Tryd.f7 false true false false) := by
  refine returnsInHanded_of_change_and (C := Tryd.checked) (X := fun w _ => laidMetH Tryd.prog Rows.tagsApartRow.laid w) (fun _ _ _ hh h => h.of_heap hh) own started (by kernel_rfl) Tryd.func7
    (ChangeSpec.witness_shaped (enc := enc) (C := Tryd.checked) (os := os) (X := fun w _ => laidMetH Tryd.prog Rows.tagsApartRow.laid w) false (World.laidAll Tryd.prog os Rows.tagsApartRow.laid) #[.slice none 0 0, .agg #[.slice none 0 0, .slice none 0 0], .agg #[.string ByteArray.empty, .int .i64 0], .agg #[.string ByteArray.empty, .int .i64 0]] 8 (World.laidAll_os _ _ _)
      (World.shaped_of_ZipB (by kernel_rfl) (by kernel_rfl)) (by kernel_rfl) (by kernel_rfl) (by kernel_rfl)
      (by rw [MakeChecks.laidMetH_plain _ _ _ (by kernel_rfl)]; exact laidMet_laidAll _ (by kernel_rfl) (by kernel_rfl))) ?_
  intro W base args ds gs before hval0 hW hcnd hsz0 hL0 _
  have hL : laidMet Tryd.prog Rows.tagsApartRow.laid W := by
    have h := hL0
    rw [MakeChecks.laidMetH_plain _ _ _ (by kernel_rfl)] at h
    exact h
  have hT : Tabs W := utf8Tabs_of_readsT (U8Types.of196 Tryd.laysValid) ⟨by kernel_rfl, by kernel_rfl, by kernel_rfl, by kernel_rfl, by kernel_rfl, by kernel_rfl, by kernel_rfl⟩ (Pinned.utf8First_eq ▸ Lib.laidMet.reads hL (.tail _ (.head _))) ((show Rows.laid_unicode_utf8_acceptRanges = acceptData from rfl) ▸ Lib.laidMet.reads hL (.head _))
  have hsz : (DataW.weightsEach Tryd.prog (Tryd.f7.params.toList ++ Rows.tagsApartSpec.plain.varTypes Tryd.prog) (ds ++ gs)).all (· ≤ reachBytes) = true := hsz0
  have hval : ∀ (j : Nat) t v, Tryd.f7.params[j]? = some t → args[j]? = some v → Value.okWide Tryd.prog W .any base t v := hval0
  have hW' := hW
  obtain ⟨p, q, hA0, hV, rfl, hfz, hnd⟩ := hW
  have hA : DataW.TrodAll enc Tryd.prog W 0 (fun _ => true) true Tryd.f7.params.toList args.toList ds p := hA0
  rw [Tryd.params7] at hA hval hsz
  obtain ⟨v0, vs0, d0, ds0, p0, q0, hargs, rfl, rfl, h0, r0⟩ := trodAll_cons hA
  obtain ⟨v1, vs1, d1, ds1, p1, q1, rfl, rfl, rfl, h1, r1⟩ := trodAll_cons r0
  obtain ⟨v2, vs2, d2, ds2, p2, q2, rfl, rfl, rfl, h2, r2⟩ := trodAll_cons r1
  obtain ⟨v3, vs3, d3, ds3, p3, q3, rfl, rfl, rfl, h3, r3⟩ := trodAll_cons r2
  obtain ⟨rfl, rfl, rfl⟩ := trodAll_nil r3
  obtain rfl : args = #[v0, v1, v2, v3] := by cases args; simp_all
  obtain ⟨rfl, rfl⟩ := trodVars_none hV
  have k0 := h0
  have lt0 : ∀ x ∈ p0, x.block < W.heap.size := by obtain ⟨m, hm⟩ := k0; exact DataW.trod_lt m _ _ _ hm
  obtain ⟨y0, r0_⟩ := opens_arg (tags_opens enc W) h0 (weights_each hsz (j := 0) (t := 22) rfl rfl)
  obtain ⟨A0, len0, cap0, rfl⟩ := okWide_slice Tryd.underlying22 (hval 0 22 v0 rfl rfl)
  obtain ⟨A0_, cap0_, e0, hl0, hb0, hm0, hr0⟩ := r0_
  simp only [Value.cells, List.cons.injEq, Value.slice.injEq, and_true] at e0
  obtain ⟨rfl, rfl, rfl⟩ := e0
  have k1 := h1
  have lt1 : ∀ x ∈ p1, x.block < W.heap.size := by obtain ⟨m, hm⟩ := k1; exact DataW.trod_lt m _ _ _ hm
  obtain ⟨y1, r1_⟩ := opens_arg (im_opens enc W) h1 (weights_each hsz (j := 1) (t := 28) rfl rfl)
  obtain ⟨cs1, rfl, hz1⟩ := okWide_struct Tryd.underlying28 (hval 1 28 v1 rfl rfl)
  have k2 := h2
  have lt2 : ∀ x ∈ p2, x.block < W.heap.size := by obtain ⟨m, hm⟩ := k2; exact DataW.trod_lt m _ _ _ hm
  obtain ⟨y2, r2_⟩ := opens_arg (cell_opens enc W) h2 (weights_each hsz (j := 2) (t := 46) rfl rfl)
  obtain ⟨cs2, rfl, hz2⟩ := okWide_struct Tryd.underlying46 (hval 2 46 v2 rfl rfl)
  have k3 := h3
  have lt3 : ∀ x ∈ p3, x.block < W.heap.size := by obtain ⟨m, hm⟩ := k3; exact DataW.trod_lt m _ _ _ hm
  obtain ⟨y3, r3_⟩ := opens_arg (cell_opens enc W) h3 (weights_each hsz (j := 3) (t := 46) rfl rfl)
  obtain ⟨cs3, rfl, hz3⟩ := okWide_struct Tryd.underlying46 (hval 3 46 v3 rfl rfl)
  clear hA0 hval0 hsz0 hsz
  refine (tagsApart_walk A0 cap0 y0 cs1 y1 cs2 y2 cs3 y3 W hl0 hb0 hr0 hz1 r1_ hz2 r2_ hz3 r3_ hT).mono fun e W' ⟨he, bel⟩ => ?_
  subst he
  exact ⟨_, rfl, _, _, _, [], _, [], hW', trodAll_mk1 (shut_bool Tryd.underlying4 _), (trodAll_cons_mk (Below.trod laidOut (by kernel_rfl) (of_decide_eq_true (by kernel_rfl)) k0 bel lt0) (trodAll_cons_mk (Below.trod laidOut (by kernel_rfl) (of_decide_eq_true (by kernel_rfl)) k1 bel lt1) (trodAll_cons_mk (Below.trod laidOut (by kernel_rfl) (of_decide_eq_true (by kernel_rfl)) k2 bel lt2) (trodAll_cons_mk (Below.trod laidOut (by kernel_rfl) (of_decide_eq_true (by kernel_rfl)) k3 bel lt3) trodAll_mk0)))), rfl, bel.frame _, fun h => by cases h⟩
theorem over : Rows.tagsApartRow.holds Tryd.pinned (OpenSpec.ofChange Rows.tagsApartSpec) :=
  OpenClaim.holds_of_wide 7 Tryd.f7 rfl rfl rfl rfl rfl rfl rfl ⟨rfl, rfl, rfl, rfl, rfl⟩ rfl rfl rfl rfl rfl (by kernel_rfl) Tryd.func7 (by kernel_rfl)
    (of_decide_eq_true (by kernel_rfl)) (by unfold Func.isWrapper; first | (rw [if_pos (by decide +kernel)]; kernel_rfl) | (rw [if_neg (by decide +kernel)]; exact ⟨rfl, rfl⟩))
    (fun os started H enc _ => lifted os started H enc)
theorem card_holds : Claim7.holds Tryd.pinned (.plain (OpenSpec.ofChange Rows.tagsApartSpec)) Rows.tagsApartCard :=
  Claim7.holds_tied_plain_at .later [] [.data, .pinned] true (true, "7d36d9853ee575ce272f199c3e5a4bf59fbbd4ba1e03fdccfdc5519af0a6589b") false over (fun _ h => by cases h) (by kernel_rfl) (fun _ h => by cases h) tagsApart_row_tie rfl ⟨rfl, rfl⟩ (by kernel_rfl) rfl
    (fun f fn hf hfn => by
      obtain rfl : f = 7 := Option.some.inj ((show Tryd.prog.funcNamed "malthouse/malthouselaw08.TagsApart" = some 7 by kernel_rfl).symm.trans hf) |>.symm
      obtain rfl : fn = Tryd.f7 := (Option.some.inj (Tryd.func7.symm.trans hfn)).symm
      exact ⟨by kernel_rfl, fun j t ht => by
        rw [Tryd.params7] at ht
        have hm : t ∈ [22, 28, 46, 46] := by simpa using Array.mem_of_getElem? ht
        have hall : ([22, 28, 46, 46].all fun u => !Tryd.prog.wantsStandIn u) = true := by kernel_rfl
        exact (show Tryd.prog.wantsStandIn t = false by simpa using List.all_eq_true.1 hall t hm)⟩)
    (by kernel_rfl)
theorem proved : Rows.TagsApartCardSaid := card_holds
#print axioms proved
end Go.Proofs.YtbmdhmmahmdccaaDoor.tagsApart
namespace Go.Proofs.YtbmdhmmahmdccaaDoor
/-- The card, under a short name, for the claim. -/
theorem tagsApart_holds : Rows.TagsApartCardSaid := tagsApart.proved
end Go.Proofs.YtbmdhmmahmdccaaDoor
