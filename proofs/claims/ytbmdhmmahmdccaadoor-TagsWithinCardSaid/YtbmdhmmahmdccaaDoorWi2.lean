import Derived.Test.YtbmdhmmahmdccaaDoorWi1
import Derived.Below
import Derived.ChangeOld
import Derived.LaidLaws
import Derived.LaidOnce
import Derived.Lay
import Derived.Lib.LaidU8T
import Derived.OpenShut
import Derived.PinnedBridge
import Derived.ProofKit
import Derived.SevenTiedAt
import Derived.Shelf.Lay
import Derived.ShutString
import Derived.SizedLaws
import Derived.Test.YtbmdhmmahmdccaaDoorCards
import Derived.Test.YtbmdhmmahmdccaaDoorProg
import Derived.Test.YtbmdhmmahmdccaaDoorRows
import Derived.Test.YtbmdhmmahmdccaaDoorTie
import Derived.WalkKit
set_option linter.unusedVariables false
set_option linter.unusedSimpArgs false
namespace Go.Proofs.YtbmdhmmahmdccaaDoorW.PrintWords
end Go.Proofs.YtbmdhmmahmdccaaDoorW.PrintWords
namespace Go.Proofs.YtbmdhmmahmdccaaDoorW.PrintLast
end Go.Proofs.YtbmdhmmahmdccaaDoorW.PrintLast
namespace Go.Proofs.YtbmdhmmahmdccaaDoorW.PrintMore
end Go.Proofs.YtbmdhmmahmdccaaDoorW.PrintMore
/-! ### ETold -/
namespace Go.Proofs.YtbmdhmmahmdccaaDoor.Print
open Go.RowKit Go.Proofs.YtbmdhmmahmdccaaDoorW.PrintWords Go.Proofs.YtbmdhmmahmdccaaDoorW.PrintLast Go.Proofs.YtbmdhmmahmdccaaDoorW.PrintMore
set_option linter.unusedSimpArgs false
set_option linter.unusedVariables false
def toldGo (l : List S48) (out : Bool) : List S46 → List Int → List Bool → List Int × List Bool × Int
  | [], V, B => (V, B, 0)
  | c :: cs, V, B =>
    if firstFrom (tagIs c.f0) 0 l < 0 ∨ (l.getD (firstFrom (tagIs c.f0) 0 l).toNat z48).f1 ≠ out then ([], [], 21)
    else toldGo l out cs (V.set (firstFrom (tagIs c.f0) 0 l).toNat (nearT (l.getD (firstFrom (tagIs c.f0) 0 l).toNat z48) c.f1))
      (B.set (firstFrom (tagIs c.f0) 0 l).toNat (!(l.getD (firstFrom (tagIs c.f0) 0 l).toNat z48).f1 && nearT (l.getD (firstFrom (tagIs c.f0) 0 l).toNat z48) c.f1 != c.f1))
def toldZ (l : List S48) (V : List Int) (B : List Bool) (cs : List S46) (out : Bool) : List Int × List Bool × Int := if rightB l V B = true then toldGo l out cs V B else ([], [], 1)
def tags_told.f (l0 : List S48) (l1_0 : List Int) (l1_1 : List Bool) (l2 : List S46) (a3 : Bool) : Option (List Int × List Bool × Int) :=
  if okTags l0 ∧ l1_0.length ≤ 1000000000 ∧ l1_1.length ≤ 1000000000 ∧ l2.length ≤ 1000000000 then some (toldZ l0 l1_0 l1_1 l2 a3) else none
set_option maxHeartbeats 8000000 in
set_option maxRecDepth 100000 in
theorem tags_told.calls (A0 : Option Addr) (c0 : Nat) (l0 : List S48) (A1_0 : Option Addr) (c1_0 : Nat) (l1_0 : List Int) (A1_1 : Option Addr) (c1_1 : Nat) (l1_1 : List Bool) (A2 : Option Addr) (c2 : Nat) (l2 : List S46) (a3 : Bool) (r1 : List Int) (r2 : List Bool) (r3 : Int) (w : World)
    (hr0 : Kd.C k48 w A0 l0.length l0) (hc0 : l0.length ≤ c0) (hr1_0 : Kd.C (Kd.int .i64) w A1_0 l1_0.length l1_0) (hc1_0 : l1_0.length ≤ c1_0) (hr1_1 : Kd.C Kd.bool w A1_1 l1_1.length l1_1) (hc1_1 : l1_1.length ≤ c1_1) (hr2 : Kd.C k46 w A2 l2.length l2) (hc2 : l2.length ≤ c2) (hT : Tabs w) (h : tags_told.f l0 l1_0 l1_1 l2 a3 = some (r1, r2, r3)) :
    Calls Tryd.prog 36 #[.slice A0 l0.length c0, .agg #[.slice A1_0 l1_0.length c1_0, .slice A1_1 l1_1.length c1_1], .slice A2 l2.length c2, .bool a3] w fun e w' => ∃ v0_ v1_ : Value, e = .returned (.tuple #[.agg #[v0_, v1_], .int .i64 r3]) ∧ Kd.R (Kd.int .i64) 3 w' w.heap.size (fun _ => True) v0_ r1 ∧ Kd.R Kd.bool 4 w' w.heap.size (fun _ => True) v1_ r2 ∧ Below w.heap.size w w' := by
  unfold tags_told.f at h
  split at h
  case isFalse => cases h
  rename_i hok
  obtain ⟨hok, hl0, hl1, hl2⟩ := hok
  have hv := Option.some.inj h
  clear h
  have HV := Lib.hid hv
  have HR := Lib.hid hr0
  have HR0 := Lib.hid hr1_0
  have HR1 := Lib.hid hr1_1
  have HR2 := Lib.hid hr2
  have HOK := Lib.hid hok
  have HTB := Lib.hid hT
  have hll := hok.1
  have hu := Tryd.underlying48
  have hu2 := Tryd.underlying28
  have hu3 := Tryd.underlying71
  have hu4 := Tryd.underlying46
  clear hv hr0 hr1_0 hr1_1 hr2 hok hT
  obtain ⟨rt, hrt⟩ : ∃ rt, rt = rightB l0 l1_0 l1_1 := ⟨_, rfl⟩
  have HRT := Lib.hid hrt
  clear hrt
  have HCR := Lib.hid (show ∀ W, Below w.heap.size w W → Calls Tryd.prog 24 #[.slice A0 l0.length c0, .agg #[.slice A1_0 l1_0.length c1_0, .slice A1_1 l1_1.length c1_1]] W fun e w' => e = .returned (.bool rt) ∧ Below W.heap.size W w' from fun W hb =>
    tags_Right.calls A0 c0 l0 A1_0 c1_0 l1_0 A1_1 c1_1 l1_1 rt W (Kd.C_below HR.out hb) hc0 (Kd.C_below HR0.out hb) hc1_0 (Kd.C_below HR1.out hb) hc1_1 (HTB.out.below hb) (by unfold tags_Right.f; rw [if_pos ⟨HOK.out, hl0, hl1⟩, HRT.out]))
  have HB0 := Lib.hid (show Below w.heap.size w ((w.alloc (.cells #[.slice A1_0 l1_0.length c1_0, .slice A1_1 l1_1.length c1_1] 28)).alloc (.cells #[.slice none 0 0, .slice none 0 0] 28)) from ((Below.refl _ _).alloc (Nat.le_refl _) _).alloc (by simp) _)
  have HX0 := Lib.hid (show ((w.alloc (.cells #[.slice A1_0 l1_0.length c1_0, .slice A1_1 l1_1.length c1_1] 28)).alloc (.cells #[.slice none 0 0, .slice none 0 0] 28)).heap[w.heap.size]? = some (.cells #[.slice A1_0 l1_0.length c1_0, .slice A1_1 l1_1.length c1_1] 28 (0, 0)) from (Below.heap_alloc _ _ _ (by simp)).trans (heap_alloc_new w _))
  have HY0 := Lib.hid (show ((w.alloc (.cells #[.slice A1_0 l1_0.length c1_0, .slice A1_1 l1_1.length c1_1] 28)).alloc (.cells #[.slice none 0 0, .slice none 0 0] 28)).heap[w.heap.size + 1]? = some (.cells #[.slice none 0 0, .slice none 0 0] 28 (0, 0)) from by
    have := heap_alloc_new (w.alloc (.cells #[.slice A1_0 l1_0.length c1_0, .slice A1_1 l1_1.length c1_1] 28)) (.cells #[.slice none 0 0, .slice none 0 0] 28)
    simpa using this)
  cases rt with
  | false =>
    have hv := HV.out
    unfold toldZ at hv
    rw [← HRT.out, if_neg (by simp)] at hv
    simp only [Prod.mk.injEq] at hv
    obtain ⟨rfl, rfl, rfl⟩ := hv
    clear HV
    go_enter Tryd.func36, Tryd.ntmps36
    go_wp2_with (first
      | (go_at_call 24; refine (HCR.out _ HB0.out).mono ?_; rintro e w1 ⟨rfl, hb1⟩; have HY1 := Lib.hid ((hb1.block _ (by simp)).trans HY0.out); have HB1 := Lib.hid (below_then HB0.out HB0.out.size hb1); clear hb1; refine (fun (h : Hid _) => h.out) ?_))
    refine Lib.hid ?_
    have y0 : w1.cell? ⟨w.heap.size + 1, 0, none⟩ = some (.slice none 0 0) := (cell_of_row w1 _ 0 _ _ _ HY1.out).trans rfl
    have y1 : w1.cell? ⟨w.heap.size + 1, 1, none⟩ = some (.slice none 0 0) := (cell_of_row w1 _ 1 _ _ _ HY1.out).trans rfl
    have z0 : w1.frozen? ⟨w.heap.size + 1, 0, none⟩ = false := frozen_of_row w1 _ 0 _ _ HY1.out
    have z1 : w1.frozen? ⟨w.heap.size + 1, 1, none⟩ = false := frozen_of_row w1 _ 1 _ _ HY1.out
    go_wp2
    refine bodyPost_ret (v := .tuple #[.agg #[.slice none 0 0, .slice none 0 0], .int .i64 1]) (by simp [results, Tryd.results36, go_sem, y0, y1]) rfl ⟨_, _, rfl, Kd.R_nil _ _ _ _ _, Kd.R_nil _ _ _ _ _, ?_⟩
    exact (HB1.out.setCell (by simp) _).setCell (by simp) _
  | true =>
    have hv := HV.out
    unfold toldZ at hv
    rw [← HRT.out, if_pos rfl] at hv
    have HV1 := Lib.hid hv
    clear HV hv
    have hlen : l1_0.length = l0.length ∧ l1_1.length = l0.length ∧ l0.length ≤ 12 := by
      have := HRT.out
      unfold rightB at this
      simp only [Bool.true_eq, Bool.and_eq_true, beq_iff_eq] at this
      exact ⟨this.1.1.2, this.1.2, (check_ok this.1.1.1).1⟩
    have HLEN := Lib.hid hlen
    clear hlen
    go_enter Tryd.func36, Tryd.ntmps36
    go_wp2_with (first
      | (go_at_call 24; refine (HCR.out _ HB0.out).mono ?_; rintro e w1 ⟨rfl, hb1⟩; have HX1 := Lib.hid ((hb1.block _ (by simp; omega)).trans HX0.out); have HY1 := Lib.hid ((hb1.block _ (by simp)).trans HY0.out); have HB1 := Lib.hid (below_then HB0.out HB0.out.size hb1); clear hb1; refine (fun (h : Hid _) => h.out) ?_))
    refine Lib.hid ?_
    go_wp2
    refine L.grow_start [] 11 ((0, true, false) :: (1, true, false) :: (3, true, false) :: (4, true, false) :: (7, true, false) :: (2, false, true) :: (5, false, true) :: (6, true, true) :: (8, true, true) :: (9, false, true) :: (10, true, true) :: []) (by kernel_rfl) (([], [5], some 19) :: ([0], [19], some 20) :: ([1], [20], some 21) :: ([], [5], some 22) :: ([3], [22], some 23) :: ([4, 2], [23], some 24) :: ([2, 5], [21, 24], some 25) :: ([], [0], some 26) :: ([6, 7], [25, 26], some 27) :: ([8], [27], some 28) :: ([9, 5, 0, 1, 2, 3, 4, 5, 6, 7, 8, 9], [28], some 10) :: []) (by kernel_rfl) (by kernel_rfl) (n := 11) rfl (by kernel_rfl) (fun _ _ _ _ _ h => h) (fun wg hog => ?_)
    refine L.growe_start (N := 61) (by rfl) ?_
    have e0 : ∀ w', Only [] wg w' → w'.cell? ⟨w.heap.size, 0, none⟩ = some (.slice A1_0 l1_0.length c1_0) := fun w' q => (cell_of_row w' w.heap.size 0 _ _ _ ((hog.trans q).heap HX1.out (by simp))).trans rfl
    have e1 : ∀ w', Only [] wg w' → w'.cell? ⟨w.heap.size, 1, none⟩ = some (.slice A1_1 l1_1.length c1_1) := fun w' q => (cell_of_row w' w.heap.size 1 _ _ _ ((hog.trans q).heap HX1.out (by simp))).trans rfl
    have HOG := Lib.hid hog
    clear hog
    have HBG := Lib.hid (below_then HB1.out HB1.out.size HOG.out.nil_below)
    iterate 5 (first | (refine L.ge_off rfl rfl rfl (by rfl) ?_) | (refine L.ge_move rfl rfl rfl (by rfl) rfl (by simp [L.evE, L.lk, Act.eval]; rfl) ?_) | (refine L.ge_pick rfl rfl rfl (by rfl) rfl (by simp [L.evE, L.lk, Act.eval]; rfl) (by simp [L.evE, L.lk, Act.eval]; rfl) ?_) | (refine L.ge_val rfl rfl rfl (by rfl) (by intro w' hw'; simp [execOp, L.evE, L.lk, Act.eval]; go_simp; rfl) ?_))
    refine L.ge_call rfl rfl rfl (by rfl) rfl (by simp [L.evE, L.lk, Act.eval]; rfl) (by go_simp) ?_
    refine (clone_ints A1_0 c1_0 l1_0 wg (Kd.C_below HR0.out HBG.out) hl0).mono ?_
    rintro e w2 ⟨v0, rfl, hR2, hb2⟩
    obtain ⟨Av, cv, rfl⟩ := Kd.R_slice hR2
    refine ⟨_, rfl, Only.of_below hb2, ?_⟩
    have HR2' := Lib.hid (Kd.R_lower hR2 HBG.out.size)
    have HO2 := Lib.hid (Only.of_below hb2)
    have HB2 := Lib.hid (below_then HBG.out HBG.out.size hb2)
    clear hR2 hb2 e0 e1
    refine L.ge_call rfl rfl rfl (by rfl) rfl (by simp [L.evE, L.lk, Act.eval]; rfl) (by go_simp) ?_
    refine (clone_bools A1_1 c1_1 l1_1 w2 (Kd.C_below HR1.out HB2.out) hl1).mono ?_
    rintro e w3 ⟨v1, rfl, hR3, hb3⟩
    obtain ⟨Ab, cb, rfl⟩ := Kd.R_slice hR3
    refine ⟨_, rfl, Only.of_below hb3, ?_⟩
    have HR3' := Lib.hid (Kd.R_lower hR3 HB2.out.size)
    have HR2'' := Lib.hid (Kd.R_below HR2'.out hb3)
    have HO3 := Lib.hid (Only.of_below hb3)
    have HB3 := Lib.hid (below_then HB2.out HB2.out.size hb3)
    have HY3 := Lib.hid ((HOG.out.trans (HO2.out.trans HO3.out)).heap HY1.out (by simp))
    clear hR3 hb3 HR2'
    iterate 2 (first | (refine L.ge_off rfl rfl rfl (by rfl) ?_) | (refine L.ge_move rfl rfl rfl (by rfl) rfl (by simp [L.evE, L.lk, Act.eval]; rfl) ?_) | (refine L.ge_pick rfl rfl rfl (by rfl) rfl (by simp [L.evE, L.lk, Act.eval]; rfl) (by simp [L.evE, L.lk, Act.eval]; rfl) ?_) | (refine L.ge_val rfl rfl rfl (by rfl) (by intro w' hw'; simp [execOp, L.evE, L.lk, Act.eval]; go_simp; rfl) ?_))
    refine L.ge_mem rfl rfl rfl (by rfl) (v := .pointer (some ⟨w3.heap.size, 0, none⟩)) (w' := w3.alloc (.cells #[.slice Av l1_0.length cv, .slice Ab l1_1.length cb, .slice A0 l0.length c0] 71)) (by simp [execOp, L.evE, L.lk, Act.eval]; go_simp) ((Only.refl _ _).alloc _) ?_
    iterate 1 (first | (refine L.ge_off rfl rfl rfl (by rfl) ?_) | (refine L.ge_move rfl rfl rfl (by rfl) rfl (by simp [L.evE, L.lk, Act.eval]; rfl) ?_) | (refine L.ge_pick rfl rfl rfl (by rfl) rfl (by simp [L.evE, L.lk, Act.eval]; rfl) (by simp [L.evE, L.lk, Act.eval]; rfl) ?_) | (refine L.ge_val rfl rfl rfl (by rfl) (by intro w' hw'; simp [execOp, L.evE, L.lk, Act.eval]; go_simp; rfl) ?_))
    refine L.ge_done ?_
    simp only [L.puts, Act.put, goInt, List.setIfInBounds_toArray, List.set_cons_zero, List.set_cons_succ]
    have HT4 := Lib.hid (heap_alloc_new w3 (.cells #[.slice Av l1_0.length cv, .slice Ab l1_1.length cb, .slice A0 l0.length c0] 71))
    have HB4 := Lib.hid (HB3.out.alloc HB3.out.size (.cells #[.slice Av l1_0.length cv, .slice Ab l1_1.length cb, .slice A0 l0.length c0] 71))
    have HY4 := Lib.hid ((Below.heap_alloc w3 (.cells #[.slice Av l1_0.length cv, .slice Ab l1_1.length cb, .slice A0 l0.length c0] 71) (w.heap.size + 1) (heap_lt HY3.out)).trans HY3.out)
    have HVV := Lib.hid (own_of_R (Kd.R_below HR2''.out ((Below.refl _ _).alloc (Nat.le_refl _) (.cells #[.slice Av l1_0.length cv, .slice Ab l1_1.length cb, .slice A0 l0.length c0] 71))))
    have HBV := Lib.hid (own_of_R (Kd.R_below HR3'.out ((Below.refl _ _).alloc (Nat.le_refl _) (.cells #[.slice Av l1_0.length cv, .slice Ab l1_1.length cb, .slice A0 l0.length c0] 71))))
    have HG := Lib.hid (show w.heap.size + 1 < w3.heap.size from heap_lt HY3.out)
    generalize w3.alloc (.cells #[.slice Av l1_0.length cv, .slice Ab l1_1.length cb, .slice A0 l0.length c0] 71) = w4 at *
    generalize w3.heap.size = gt at *
    clear HR2'' HR3' HO2 HO3 HB2 HB3 HY3 HBG HOG HX1 HY1 HB1 HX0 HY0 HB0 HCR
    go_wp2
    go_loopw [12, 13, 31] (fun _ _ i wr => ∃ (k : Nat) (xs : List Int) (ys : List Bool), k ≤ l2.length ∧ i = .int .i64 k ∧ Hid (xs.length = l1_0.length) ∧ Hid (ys.length = l1_1.length) ∧ Hid (toldGo l0 a3 (l2.drop k) xs ys = (r1, r2, r3)) ∧
      Hid (wr.ownsRow w.heap.size 3 1 (.slice Av l1_0.length cv) l1_0.length (xs.map (Value.int .i64))) ∧ Hid (wr.ownsRow w.heap.size 4 1 (.slice Ab l1_1.length cb) l1_1.length (ys.map Value.bool)) ∧
      Hid (wr.heap[gt]? = some (.cells #[.slice Av l1_0.length cv, .slice Ab l1_1.length cb, .slice A0 l0.length c0] 71 (0, 0))) ∧ Hid (wr.heap[w.heap.size + 1]? = some (.cells #[.slice none 0 0, .slice none 0 0] 28 (0, 0))) ∧ Hid (Below w.heap.size w wr)) (fun _ _ i _ => l2.length - (intOf i).toNat)
    case atStart => exact ⟨0, l1_0, l1_1, by omega, rfl, rfl, rfl, HV1, HVV, HBV, HT4, HY4, HB4⟩
    case round =>
      obtain ⟨k, xs, ys, hk, rfl, hxl, hyl, hgo, hvv, hbv, ht, hy, hbw⟩ := hrel
      clear HVV HBV HT4 HY4 HB4 HV1
      by_cases hlt : k < l2.length
      · have hlt' : (k : Int) < l2.length := by omega
        have hk0 : (0 : Int) ≤ k := by omega
        obtain ⟨ad, cs, rfl, _, hK, hcs⟩ := Kd.C_cells (Kd.C_below HR2.out hbw.out) k hlt
        obtain rfl := k46_open hK
        have HCS := Lib.hid (show CellsAt wr (ad.add (k * 2)) _ from hcs)
        have hgo' := hgo.out
        rw [List.drop_eq_getElem_cons hlt] at hgo'
        unfold toldGo at hgo'
        have HGO := Lib.hid hgo'
        clear hcs hK hgo hgo'
        generalize l2[k] = c at *
        obtain ⟨fi, hfi⟩ : ∃ fi, fi = firstFrom (tagIs c.f0) 0 l0 := ⟨_, rfl⟩
        rw [← hfi] at HGO
        have hrange := firstFrom_range (tagIs c.f0) l0 0
        rw [← hfi] at hrange
        have HFI := Lib.hid hfi
        clear hfi
        go_wp2_with (first
          | (with_reducible refine wpList_load_at rfl 46 (.tmp 33) rfl (ad.add (k * 2)) rfl _ _ HCS.out Tryd.underlying46 rfl (by kernel_rfl) ?_)
          | (go_at_call 16; refine (tags_Find.calls A0 c0 l0 c.f0 fi _ ?hr hc0 ?hf).mono ?_; (case hr => exact Kd.C_alloc (Kd.C_below HR.out hbw.out) _); (case hf => rw [HFI.out]; exact find_is l0 _ hll); rintro e w5 ⟨rfl, hb5⟩; have HB5 := Lib.hid hb5; clear hb5; refine (fun (h : Hid _) => h.out) ?_))
        refine Lib.hid ?_
        have HO5 := Lib.hid (show Only [] wr w5 from ((Only.refl _ _).alloc _).trans (Only.of_below HB5.out))
        have HC5 := Lib.hid ((HB5.out.block wr.heap.size (by simp)).trans (heap_alloc_new wr (.cells #[.string c.f0, .int .i64 c.f1] 46)))
        have HB6 := Lib.hid (below_then hbw.out hbw.out.size HO5.out.nil_below)
        have HVV5 := Lib.hid (ownsRow_only hvv.out HO5.out (by simp))
        have HBV5 := Lib.hid (ownsRow_only hbv.out HO5.out (by simp))
        have HT5 := Lib.hid (HO5.out.heap ht.out (by simp))
        have HY5 := Lib.hid (HO5.out.heap hy.out (by simp))
        clear HB5 HCS
        have y0 : w5.cell? ⟨w.heap.size + 1, 0, none⟩ = some (.slice none 0 0) := (cell_of_row w5 _ 0 _ _ _ HY5.out).trans rfl
        have y1 : w5.cell? ⟨w.heap.size + 1, 1, none⟩ = some (.slice none 0 0) := (cell_of_row w5 _ 1 _ _ _ HY5.out).trans rfl
        have z0 : w5.frozen? ⟨w.heap.size + 1, 0, none⟩ = false := frozen_of_row w5 _ 0 _ _ HY5.out
        have z1 : w5.frozen? ⟨w.heap.size + 1, 1, none⟩ = false := frozen_of_row w5 _ 1 _ _ HY5.out
        have kc : w5.cell? ⟨wr.heap.size, 1, none⟩ = some (.int .i64 c.f1) := (cell_of_row w5 _ 1 _ _ _ HC5.out).trans rfl
        by_cases hneg : fi < 0
        · have hgo' := HGO.out
          rw [if_pos (.inl hneg)] at hgo'
          simp only [Prod.mk.injEq] at hgo'
          obtain ⟨rfl, rfl, rfl⟩ := hgo'
          clear HGO hrange
          go_wp2
          refine bodyPost_ret (v := .tuple #[.agg #[.slice none 0 0, .slice none 0 0], .int .i64 21]) (by simp [results, Tryd.results36, go_sem, y0, y1]) rfl ⟨_, _, rfl, Kd.R_nil _ _ _ _ _, Kd.R_nil _ _ _ _ _, ?_⟩
          exact (HB6.out.setCell (by simp) _).setCell (by simp) _
        · obtain ⟨j, rfl⟩ : ∃ j : Nat, fi = j := ⟨fi.toNat, by omega⟩
          have hjl : j < l0.length := by omega
          have hjl' : (j : Int) < l0.length := by omega
          have hj0 : (0 : Int) ≤ j := by omega
          obtain ⟨ad0, cs0, rfl, _, hK0, hcs0⟩ := Kd.C_cells (Kd.C_below HR.out HB6.out) j hjl
          obtain rfl := k48_open hK0
          have kt : w5.cell? ⟨(ad0.add (j * 4)).block, (ad0.add (j * 4)).off + 1, none⟩ = some (.bool l0[j].f1) := cellsAt_field (show CellsAt w5 (ad0.add (j * 4)) _ from hcs0) 1 (by omega) rfl
          clear hcs0 hK0
          have hgo' := HGO.out
          have egd : l0.getD ((j : Int)).toNat z48 = l0[j] := getD_at l0 _ j hjl
          rw [egd, Int.toNat_natCast] at hgo'
          by_cases hout : l0[j].f1 = a3
          · rw [if_neg (by simp [hout])] at hgo'
            have HGO2 := Lib.hid hgo'
            have hob : (l0[j].f1 == a3) = true := by rw [hout]; simp
            clear HGO hgo' hrange egd hneg hout
            obtain ⟨gv, capv, curv, ev, hgb, hgv, hgn⟩ := ownsRow_block HVV5.out (by have := HLEN.out; omega)
            obtain ⟨gb, capb, curb, eb, hbb, hgbv, hbn⟩ := ownsRow_block HBV5.out (by have := HLEN.out; omega)
            injection ev with ev1 ev2 ev3
            injection eb with eb1 eb2 eb3
            subst ev1
            subst ev3
            subst eb1
            subst eb3
            have HGV := Lib.hid hgv
            have HGB := Lib.hid hgbv
            have n1 : gt ≠ gv := by
              rintro rfl
              have := HT5.out.symm.trans hgv
              simp at this
            have n2 : gt ≠ gb := by
              rintro rfl
              have := HT5.out.symm.trans hgbv
              simp at this
            have n3 : gv ≠ gb := by
              rintro rfl
              have := hgv.symm.trans hgbv
              simp at this
            have n4 : w.heap.size + 1 ≠ gv := by
              intro e9
              have := hy.out
              have h9 := HY5.out
              rw [e9] at h9
              have := h9.symm.trans hgv
              simp at this
            have n5 : w.heap.size + 1 ≠ gb := by
              intro e9
              have h9 := HY5.out
              rw [e9] at h9
              have := h9.symm.trans hgbv
              simp at this
            have NN := Lib.hid (And.intro n1 (And.intro n2 (And.intro n3 (And.intro n4 n5))))
            have had : ∀ ad, some ad0 = some ad → ad.block ≠ gv ∧ ad.block ≠ gb := by
              intro ad e9
              injection e9 with e9
              subst e9
              obtain ⟨ad1, cs1, e1, hl1', _, hc1⟩ := Kd.C_cells HR.out j hjl
              injection e1 with e1
              subst e1
              have hpos : 0 < cs1.length := by rw [hl1']; exact Nat.succ_pos _
              have := block_lt_of_cell (hc1 0 _ (List.getElem?_eq_getElem hpos))
              rw [add_block, add_block] at this
              omega
            have HAD := Lib.hid had
            have HJV := Lib.hid (show curv[j]? ≠ none by rw [Array.getElem?_eq_getElem (by have := HLEN.out; omega)]; simp)
            have HJB := Lib.hid (show curb[j]? ≠ none by rw [Array.getElem?_eq_getElem (by have := HLEN.out; omega)]; simp)
            have HRL := Lib.hid (Kd.C_below HR.out HB6.out)
            clear hgv hgbv n1 n2 n3 n4 n5 had
            go_wp2_with (go_at_call 46; refine (tell_any gt gv gb l1_0.length l1_1.length cv cb (some ad0) c0 l0 j c.f1 curv curb w5 HT5.out HGV.out HGB.out HJV.out HJB.out HRL.out HAD.out (by have := HLEN.out; omega) (by have := HLEN.out; omega) hjl NN.out.1 NN.out.2.1 NN.out.2.2.1).mono ?_; rintro e w6 ⟨rfl, hv6, hb6, ho6⟩; have HV6 := Lib.hid hv6; have HBV6 := Lib.hid hb6; have HO6 := Lib.hid ho6; clear hv6 hb6 ho6)
            go_roundw
            case rel =>
              refine ⟨k + 1, xs.set j (nearT l0[j] c.f1), ys.set j (!l0[j].f1 && nearT l0[j] c.f1 != c.f1), by omega, by go_num, ?_, ?_, HGO2, ?_, ?_, ?_, ?_, ?_⟩
              · exact Lib.hid (by rw [List.length_set]; exact hxl.out)
              · exact Lib.hid (by rw [List.length_set]; exact hyl.out)
              · refine Lib.hid ?_
                rw [List.map_set]
                exact ownsRow_poke HVV5.out HGV.out HV6.out (by have := HLEN.out; omega)
              · refine Lib.hid ?_
                rw [List.map_set]
                exact ownsRow_poke HBV5.out HGB.out HBV6.out (by have := HLEN.out; omega)
              · exact Lib.hid (HO6.out.heap HT5.out (by have := NN.out; simp [this.1, this.2.1]))
              · exact Lib.hid (HO6.out.heap HY5.out (by have := NN.out; simp [this.2.2.2.1, this.2.2.2.2]))
              · refine Lib.hid ⟨?_, ?_, ?_, ?_, ?_⟩
                · rw [HO6.out.os]; exact HB6.out.os
                · rw [HO6.out.tape]; exact HB6.out.tape
                · rw [HO6.out.output]; exact HB6.out.output
                · exact Nat.le_trans HB6.out.size HO6.out.size
                · intro q hq
                  rw [HO6.out.block q (Nat.lt_of_lt_of_le hq HB6.out.size) (by simp; omega)]
                  exact HB6.out.block q hq
            case measure => simp [intOf]; omega
          · rw [if_pos (.inr hout)] at hgo'
            simp only [Prod.mk.injEq] at hgo'
            obtain ⟨rfl, rfl, rfl⟩ := hgo'
            have hob : (l0[j].f1 == a3) = false := by simpa using hout
            clear HGO hrange egd hneg hout
            go_wp2
            refine bodyPost_ret (v := .tuple #[.agg #[.slice none 0 0, .slice none 0 0], .int .i64 21]) (by simp [results, Tryd.results36, go_sem, y0, y1]) rfl ⟨_, _, rfl, Kd.R_nil _ _ _ _ _, Kd.R_nil _ _ _ _ _, ?_⟩
            exact (HB6.out.setCell (by simp) _).setCell (by simp) _
      · obtain rfl : k = l2.length := by omega
        have hgo' := hgo.out
        rw [List.drop_length] at hgo'
        unfold toldGo at hgo'
        simp only [Prod.mk.injEq] at hgo'
        obtain ⟨rfl, rfl, rfl⟩ := hgo'
        clear hgo
        have y0 : wr.cell? ⟨w.heap.size + 1, 0, none⟩ = some (.slice none 0 0) := (cell_of_row wr _ 0 _ _ _ hy.out).trans rfl
        have y1 : wr.cell? ⟨w.heap.size + 1, 1, none⟩ = some (.slice none 0 0) := (cell_of_row wr _ 1 _ _ _ hy.out).trans rfl
        have z0 : wr.frozen? ⟨w.heap.size + 1, 0, none⟩ = false := frozen_of_row wr _ 0 _ _ hy.out
        have z1 : wr.frozen? ⟨w.heap.size + 1, 1, none⟩ = false := frozen_of_row wr _ 1 _ _ hy.out
        have t0 : wr.cell? ⟨gt, 0, none⟩ = some (.slice Av l1_0.length cv) := (cell_of_row wr _ 0 _ _ _ ht.out).trans rfl
        have t1 : wr.cell? ⟨gt, 1, none⟩ = some (.slice Ab l1_1.length cb) := (cell_of_row wr _ 1 _ _ _ ht.out).trans rfl
        have na : ∀ k, (Value.slice Av l1_0.length cv).ownBlock = some k → k ≠ w.heap.size + 1 := by
          intro q hq e9
          subst e9
          rcases hvv.out.2 with ⟨h9, _⟩ | ⟨g, cap, cur, e1, _, hh, _⟩
          · rw [h9] at hq; simp [Value.ownBlock] at hq
          · rw [e1] at hq
            have : g = w.heap.size + 1 := by simpa [Value.ownBlock] using hq
            subst this
            have := hh.symm.trans hy.out
            simp at this
        have nb : ∀ k, (Value.slice Ab l1_1.length cb).ownBlock = some k → k ≠ w.heap.size + 1 := by
          intro q hq e9
          subst e9
          rcases hbv.out.2 with ⟨h9, _⟩ | ⟨g, cap, cur, e1, _, hh, _⟩
          · rw [h9] at hq; simp [Value.ownBlock] at hq
          · rw [e1] at hq
            have : g = w.heap.size + 1 := by simpa [Value.ownBlock] using hq
            subst this
            have := hh.symm.trans hy.out
            simp at this
        have HNA := Lib.hid na
        have HNB := Lib.hid nb
        clear na nb
        go_wp2
        have f0 := ownsRow_only hvv.out ((Only.refl [w.heap.size + 1] wr).setCell (p := ⟨w.heap.size + 1, 0, none⟩) (by simp) (.slice Av l1_0.length cv) |>.setCell (p := ⟨w.heap.size + 1, 1, none⟩) (by simp) (.slice Ab l1_1.length cb)) (fun q hq => by simpa using HNA.out q hq)
        have f1 := ownsRow_only hbv.out ((Only.refl [w.heap.size + 1] wr).setCell (p := ⟨w.heap.size + 1, 0, none⟩) (by simp) (.slice Av l1_0.length cv) |>.setCell (p := ⟨w.heap.size + 1, 1, none⟩) (by simp) (.slice Ab l1_1.length cb)) (fun q hq => by simpa using HNB.out q hq)
        rw [← hxl.out, ← hyl.out] at f0 f1
        refine bodyPost_ret (v := .tuple #[.agg #[.slice Av l1_0.length cv, .slice Ab l1_1.length cb], .int .i64 0]) (by simp [results, Tryd.results36, go_sem, y0, y1]) rfl ⟨_, _, rfl, ?_, ?_, ?_⟩
        · rw [← hxl.out, ← hyl.out]
          exact R_of_ownsRow f0
        · rw [← hxl.out, ← hyl.out]
          exact R_of_ownsRow f1
        · exact (hbw.out.setCell (by simp) _).setCell (by simp) _
end Go.Proofs.YtbmdhmmahmdccaaDoor.Print
/-! ### Print10 -/
namespace Go.Proofs.YtbmdhmmahmdccaaDoor.Print
open Go.RowKit Go.Proofs.YtbmdhmmahmdccaaDoorW.PrintWords Go.Proofs.YtbmdhmmahmdccaaDoorW.PrintLast Go.Proofs.YtbmdhmmahmdccaaDoorW.PrintMore
attribute [local go_sem] max2_int min2_int max_two min_two
set_option linter.unusedVariables false
set_option linter.unusedSimpArgs false
def tags_Latch.f (l0 : List (S48)) (l1_0 : List Int) (l1_1 : List Bool) (l2 : List (S46)) : Option (List Int × List Bool × Int) := (tags_told.f l0 l1_0 l1_1 l2 false).bind fun bt206 => (some (bt206.1, bt206.2.1, bt206.2.2))
set_option maxHeartbeats 8000000 in
set_option maxRecDepth 100000 in
theorem tags_Latch.calls (A0 : Option Addr) (c0 : Nat) (l0 : List (S48)) (A1_0 : Option Addr) (c1_0 : Nat) (l1_0 : List Int) (A1_1 : Option Addr) (c1_1 : Nat) (l1_1 : List Bool) (A2 : Option Addr) (c2 : Nat) (l2 : List (S46)) (r1 : List Int) (r2 : List Bool) (r3 : Int) (w : World) (hr0 : Kd.C k48 w A0 l0.length l0) (hc0 : l0.length ≤ c0) (hr1_0 : Kd.C (Kd.int .i64) w A1_0 l1_0.length l1_0) (hc1_0 : l1_0.length ≤ c1_0) (hr1_1 : Kd.C Kd.bool w A1_1 l1_1.length l1_1) (hc1_1 : l1_1.length ≤ c1_1) (hr2 : Kd.C k46 w A2 l2.length l2) (hc2 : l2.length ≤ c2) (hT : Tabs w) (h : tags_Latch.f l0 l1_0 l1_1 l2 = some (r1, r2, r3)) :
    Calls Tryd.prog 20 #[.slice A0 l0.length c0, .agg #[.slice A1_0 l1_0.length c1_0, .slice A1_1 l1_1.length c1_1], .slice A2 l2.length c2] w fun e w' => ∃ v0_ v1_ : Value, e = .returned (.tuple #[.agg #[v0_, v1_], .int .i64 r3]) ∧ Kd.R (Kd.int .i64) 3 w' w.heap.size (fun _ => True) v0_ r1 ∧ Kd.R Kd.bool 4 w' w.heap.size (fun _ => True) v1_ r2 ∧ Below w.heap.size w w' := by
  have hu28 := Tryd.underlying28
  have HR0 := Aside0.mk hr0
  have HC0 := Aside0.mk hc0
  clear hr0 hc0
  have HR1_0 := Aside0.mk hr1_0
  have HC1_0 := Aside0.mk hc1_0
  clear hr1_0 hc1_0
  have HR1_1 := Aside0.mk hr1_1
  have HC1_1 := Aside0.mk hc1_1
  clear hr1_1 hc1_1
  have HR2 := Aside0.mk hr2
  have HC2 := Aside0.mk hc2
  clear hr2 hc2
  have HB := Aside0.mk (Below.refl w.heap.size w)
  have H : ((tags_told.f l0 l1_0 l1_1 l2 false).bind fun bt206 => (some (bt206.1, bt206.2.1, bt206.2.2))) = some (r1, r2, r3) := h
  clear h
  replace H := Option.bind_eq_some_iff.mp H
  obtain ⟨⟨t206, t209, t212⟩, A40, H⟩ := H
  replace H : (some (t206, t209, t212)) = some (r1, r2, r3) := H
  have A4 := Aside0.mk A40
  clear A40
  simp only [Option.some.injEq, Prod.mk.injEq] at H
  obtain ⟨rfl, rfl, rfl⟩ := H
  go_enter Tryd.func20, Tryd.ntmps20
  go_wp2_with (first | ((with_reducible refine gate_dst (N := 4) rfl ?_); refine box_event ?hg (N := 4) ?hd (cs := #[.slice A1_0 l1_0.length c1_0, .slice A1_1 l1_1.length c1_1]) (t := 28) ?hr ?_; (case hd => rfl); (case hg => rfl); (case hr => first | (go_simp; done) | (go_simp; rfl)); intro gb204 hg w5 hbox hb; have n0_ := Aside0.mk (below_step (by repeat (first | (with_reducible first | exact HB.out | apply below_alloc | apply pw_below_drewN | apply below_drew1) | exact HB.out)) hb); have n1_ := Aside0.mk (hbox); have n2_ := Aside0.mk ((by rw [hg]; exact (below_size (by repeat (first | (with_reducible first | exact HB.out | apply below_alloc | apply pw_below_drewN | apply below_drew1) | exact HB.out))) : w.heap.size ≤ gb204)); have n3_ := Aside0.mk ((by rw [hg]; exact (below_size (by repeat (first | (with_reducible first | exact HB.out | apply below_alloc | apply pw_below_drewN | apply below_drew1) | exact HB.out))) : w.heap.size ≤ gb204)); clear HB; have HB := n0_; have BK204 := n1_; have GW204 := n2_; have GE204 := n3_; clear n0_ n1_ n2_ n3_; clear hb hbox hg) | ((with_reducible refine gate_dst (N := 6) rfl ?_); refine box_event ?hg (N := 6) ?hd (cs := #[.slice none 0 0, .slice none 0 0]) (t := 28) ?hr ?_; (case hd => rfl); (case hg => rfl); (case hr => first | (go_simp; done) | (go_simp; rfl)); intro gb205 hg w6 hbox hb; have n0_ := Aside0.mk (blk_below (g := gb204) (o := .cells #[.slice A1_0 l1_0.length c1_0, .slice A1_1 l1_1.length c1_1] 28 (0, 0)) (by (with_reducible repeat (first | refine blk_drewN ?_ _ | refine blk_drew ?_ | refine blk_alloc ?_ _)); exact BK204.out) hb); have n1_ := Aside0.mk (below_step (by repeat (first | (with_reducible first | exact HB.out | apply below_alloc | apply pw_below_drewN | apply below_drew1 | refine below_set ?_ GE204.out) | exact HB.out)) hb); have n2_ := Aside0.mk (hbox); have n3_ := Aside0.mk ((by rw [hg]; exact (below_size (by repeat (first | (with_reducible first | exact HB.out | apply below_alloc | apply pw_below_drewN | apply below_drew1 | refine below_set ?_ GE204.out) | exact HB.out))) : w.heap.size ≤ gb205)); have n4_ := Aside0.mk ((by rw [hg]; exact (below_size (by repeat (first | (with_reducible first | exact HB.out | apply below_alloc | apply pw_below_drewN | apply below_drew1 | refine below_set ?_ GE204.out) | exact HB.out))) : w.heap.size ≤ gb205)); have n5_ := Aside0.mk ((by rw [hg]; exact Nat.ne_of_lt (blk_lt (g := gb204) (o := .cells #[.slice A1_0 l1_0.length c1_0, .slice A1_1 l1_1.length c1_1] 28 (0, 0)) (by (with_reducible repeat (first | refine blk_drewN ?_ _ | refine blk_drew ?_ | refine blk_alloc ?_ _)); exact BK204.out)) : gb204 ≠ gb205)); have n6_ := Aside0.mk ((by rw [hg]; exact Nat.ne_of_gt (blk_lt (g := gb204) (o := .cells #[.slice A1_0 l1_0.length c1_0, .slice A1_1 l1_1.length c1_1] 28 (0, 0)) (by (with_reducible repeat (first | refine blk_drewN ?_ _ | refine blk_drew ?_ | refine blk_alloc ?_ _)); exact BK204.out)) : gb205 ≠ gb204)); clear BK204; clear HB; have BK204 := n0_; have HB := n1_; have BK205 := n2_; have GW205 := n3_; have GE205 := n4_; have NB204_205 := n5_; have NB205_204 := n6_; clear n0_ n1_ n2_ n3_ n4_ n5_ n6_; clear hb hbox hg; have hnb7 := NB204_205.out; have hnc7 := NB205_204.out; have hcz8_0 : w6.cell? ⟨gb204, 0, none⟩ = some (.slice A1_0 l1_0.length c1_0) := (blk_cell BK204.out 0).trans rfl; have hcz8_1 : w6.cell? ⟨gb204, 1, none⟩ = some (.slice A1_1 l1_1.length c1_1) := (blk_cell BK204.out 1).trans rfl; have hfz8_0 := blk_frozen BK204.out 0; have hfz8_1 := blk_frozen BK204.out 1) | ((with_reducible refine gate_callee (f := 36) rfl ?_); refine goesL_ (some 11) rfl rfl Tryd.func36 (by kernel_rfl) rfl #[.slice A0 l0.length c0, .agg #[.slice A1_0 l1_0.length c1_0, .slice A1_1 l1_1.length c1_1], .slice A2 l2.length c2, .bool false] rfl (by (try simp only [List.map_toArray, List.map_cons, List.map_nil]); first | done | rfl | (simp only [List.length_drop, List.length_take]; rfl)) ?_; (with_reducible refine (tags_told.calls _ _ l0 _ _ l1_0 _ _ l1_1 _ _ l2 false t206 t209 t212 _ ?side1 ?side2 ?side3 ?side4 ?side5 ?side6 ?side7 ?side8 ?side9 A4.out).mono ?_); (case side1 => repeat (first | exact (Kd.C_below HR0.out HB.out) | (with_reducible refine Kd.C_alloc ?_ _) | (with_reducible refine Kd.C_drewN ?_ _) | (with_reducible refine Kd.C_drew ?_))); (case side2 => exact HC0.out); (case side3 => repeat (first | exact (Kd.C_below HR1_0.out HB.out) | (with_reducible refine Kd.C_alloc ?_ _) | (with_reducible refine Kd.C_drewN ?_ _) | (with_reducible refine Kd.C_drew ?_))); (case side4 => exact HC1_0.out); (case side5 => repeat (first | exact (Kd.C_below HR1_1.out HB.out) | (with_reducible refine Kd.C_alloc ?_ _) | (with_reducible refine Kd.C_drewN ?_ _) | (with_reducible refine Kd.C_drew ?_))); (case side6 => exact HC1_1.out); (case side7 => repeat (first | exact (Kd.C_below HR2.out HB.out) | (with_reducible refine Kd.C_alloc ?_ _) | (with_reducible refine Kd.C_drewN ?_ _) | (with_reducible refine Kd.C_drew ?_))); (case side8 => exact HC2.out); (case side9 => exact Tabs.below hT (by repeat (first | (with_reducible first | exact HB.out | apply below_alloc | apply pw_below_drewN | apply below_drew1 | refine below_set ?_ GE204.out | refine below_set ?_ GE205.out) | exact HB.out))); rintro e w9 ⟨v207, v210, rfl, ho0, ho1, hb⟩; refine ⟨_, rfl, ?_⟩; have n0_ := Aside0.mk (Kd.R_lower ho0 (below_size (by repeat (first | (with_reducible first | exact HB.out | apply below_alloc | apply pw_below_drewN | apply below_drew1 | refine below_set ?_ GE204.out | refine below_set ?_ GE205.out) | exact HB.out)))); have n1_ := Aside0.mk (Kd.R_lower ho1 (below_size (by repeat (first | (with_reducible first | exact HB.out | apply below_alloc | apply pw_below_drewN | apply below_drew1 | refine below_set ?_ GE204.out | refine below_set ?_ GE205.out) | exact HB.out)))); have n2_ := Aside0.mk (blk_below (g := gb204) (o := .cells #[.slice A1_0 l1_0.length c1_0, .slice A1_1 l1_1.length c1_1] 28 (0, 0)) (by (with_reducible repeat (first | refine blk_drewN ?_ _ | refine blk_drew ?_ | refine blk_alloc ?_ _)); exact BK204.out) hb); have n3_ := Aside0.mk (blk_below (g := gb205) (o := .cells #[.slice none 0 0, .slice none 0 0] 28 (0, 0)) (by (with_reducible repeat (first | refine blk_drewN ?_ _ | refine blk_drew ?_ | refine blk_alloc ?_ _)); exact BK205.out) hb); have n4_ := Aside0.mk (below_step (by repeat (first | (with_reducible first | exact HB.out | apply below_alloc | apply pw_below_drewN | apply below_drew1 | refine below_set ?_ GE204.out | refine below_set ?_ GE205.out) | exact HB.out)) hb); clear BK204; clear BK205; clear HB; have HO208 := n0_; have HO211 := n1_; have BK204 := n2_; have BK205 := n3_; have HB := n4_; clear n0_ n1_ n2_ n3_ n4_; (try clear hb); (try clear hb2); (try clear hk); (try clear hi); (try clear ho0); (try clear ho1); obtain ⟨Ao10, co10, eo10⟩ := Kd.R_slice HO208.out; subst eo10; have hcz11_0 : w9.cell? ⟨gb205, 0, none⟩ = some (.slice none 0 0) := (blk_cell BK205.out 0).trans rfl; have hcz11_1 : w9.cell? ⟨gb205, 1, none⟩ = some (.slice none 0 0) := (blk_cell BK205.out 1).trans rfl; have hfz11_0 := blk_frozen BK205.out 0; have hfz11_1 := blk_frozen BK205.out 1; obtain ⟨Ao12, co12, eo12⟩ := Kd.R_slice HO211.out; subst eo12))
  refine bodyPost_ret (results_ct rfl _ _ gb205 28 #[.slice Ao10 t206.length co10, .slice Ao12 t209.length co12] (0, 0) _ rfl (by (with_reducible repeat (first | refine blk_drewN ?_ _ | refine blk_drew ?_ | refine blk_alloc ?_ _)); refine blk_put (cs := #[.slice Ao10 t206.length co10, .slice none 0 0]) ?_ 1 _ rfl; (with_reducible repeat (first | refine blk_drewN ?_ _ | refine blk_drew ?_ | refine blk_alloc ?_ _)); refine blk_put (cs := #[.slice none 0 0, .slice none 0 0]) ?_ 0 _ rfl; (with_reducible repeat (first | refine blk_drewN ?_ _ | refine blk_drew ?_ | refine blk_alloc ?_ _)); exact BK205.out) Tryd.underlying28 rfl (by kernel_rfl)) rfl ?_
  exact ⟨_, _, by first | rfl | (simp [errW_none, errW_some] <;> rfl) | (simp [*, errW_none, errW_some] <;> rfl), by (with_reducible repeat (first | apply Kd.R_alloc | apply Kd.R_drewN | apply Kd.R_drew)); exact Kd.R_mono (Kd.R_far (p := ⟨gb205, 1, none⟩) (Kd.R_far (p := ⟨gb205, 0, none⟩) (Kd.R_types HO208.out BK205.out (by decide)) (fun _ hk => hk.2) (.slice Ao10 t206.length co10)) (fun _ hk => hk.2) (.slice Ao12 t209.length co12)) (fun _ hk => trivial), by (with_reducible repeat (first | apply Kd.R_alloc | apply Kd.R_drewN | apply Kd.R_drew)); exact Kd.R_mono (Kd.R_far (p := ⟨gb205, 1, none⟩) (Kd.R_far (p := ⟨gb205, 0, none⟩) (Kd.R_types HO211.out BK205.out (by decide)) (fun _ hk => hk.2) (.slice Ao10 t206.length co10)) (fun _ hk => hk.2) (.slice Ao12 t209.length co12)) (fun _ hk => trivial), by repeat (first | (with_reducible first | exact HB.out | apply below_alloc | apply pw_below_drewN | apply below_drew1 | refine below_set ?_ GE204.out | refine below_set ?_ GE205.out) | exact HB.out)⟩
end Go.Proofs.YtbmdhmmahmdccaaDoor.Print
/-! ### Print13 -/
namespace Go.Proofs.YtbmdhmmahmdccaaDoor.Print
open Go.RowKit Go.Proofs.YtbmdhmmahmdccaaDoorW.PrintWords Go.Proofs.YtbmdhmmahmdccaaDoorW.PrintLast Go.Proofs.YtbmdhmmahmdccaaDoorW.PrintMore
attribute [local go_sem] max2_int min2_int max_two min_two
set_option linter.unusedVariables false
set_option linter.unusedSimpArgs false
def tags_Drive.f (l0 : List (S48)) (l1_0 : List Int) (l1_1 : List Bool) (l2 : List (S46)) : Option (List Int × List Bool × Int) := (tags_told.f l0 l1_0 l1_1 l2 true).bind fun bt274 => (some (bt274.1, bt274.2.1, bt274.2.2))
set_option maxHeartbeats 8000000 in
set_option maxRecDepth 100000 in
theorem tags_Drive.calls (A0 : Option Addr) (c0 : Nat) (l0 : List (S48)) (A1_0 : Option Addr) (c1_0 : Nat) (l1_0 : List Int) (A1_1 : Option Addr) (c1_1 : Nat) (l1_1 : List Bool) (A2 : Option Addr) (c2 : Nat) (l2 : List (S46)) (r1 : List Int) (r2 : List Bool) (r3 : Int) (w : World) (hr0 : Kd.C k48 w A0 l0.length l0) (hc0 : l0.length ≤ c0) (hr1_0 : Kd.C (Kd.int .i64) w A1_0 l1_0.length l1_0) (hc1_0 : l1_0.length ≤ c1_0) (hr1_1 : Kd.C Kd.bool w A1_1 l1_1.length l1_1) (hc1_1 : l1_1.length ≤ c1_1) (hr2 : Kd.C k46 w A2 l2.length l2) (hc2 : l2.length ≤ c2) (hT : Tabs w) (h : tags_Drive.f l0 l1_0 l1_1 l2 = some (r1, r2, r3)) :
    Calls Tryd.prog 22 #[.slice A0 l0.length c0, .agg #[.slice A1_0 l1_0.length c1_0, .slice A1_1 l1_1.length c1_1], .slice A2 l2.length c2] w fun e w' => ∃ v0_ v1_ : Value, e = .returned (.tuple #[.agg #[v0_, v1_], .int .i64 r3]) ∧ Kd.R (Kd.int .i64) 3 w' w.heap.size (fun _ => True) v0_ r1 ∧ Kd.R Kd.bool 4 w' w.heap.size (fun _ => True) v1_ r2 ∧ Below w.heap.size w w' := by
  have hu28 := Tryd.underlying28
  have HR0 := Aside0.mk hr0
  have HC0 := Aside0.mk hc0
  clear hr0 hc0
  have HR1_0 := Aside0.mk hr1_0
  have HC1_0 := Aside0.mk hc1_0
  clear hr1_0 hc1_0
  have HR1_1 := Aside0.mk hr1_1
  have HC1_1 := Aside0.mk hc1_1
  clear hr1_1 hc1_1
  have HR2 := Aside0.mk hr2
  have HC2 := Aside0.mk hc2
  clear hr2 hc2
  have HB := Aside0.mk (Below.refl w.heap.size w)
  have H : ((tags_told.f l0 l1_0 l1_1 l2 true).bind fun bt274 => (some (bt274.1, bt274.2.1, bt274.2.2))) = some (r1, r2, r3) := h
  clear h
  replace H := Option.bind_eq_some_iff.mp H
  obtain ⟨⟨t274, t277, t280⟩, A40, H⟩ := H
  replace H : (some (t274, t277, t280)) = some (r1, r2, r3) := H
  have A4 := Aside0.mk A40
  clear A40
  simp only [Option.some.injEq, Prod.mk.injEq] at H
  obtain ⟨rfl, rfl, rfl⟩ := H
  go_enter Tryd.func22, Tryd.ntmps22
  go_wp2_with (first | ((with_reducible refine gate_dst (N := 4) rfl ?_); refine box_event ?hg (N := 4) ?hd (cs := #[.slice A1_0 l1_0.length c1_0, .slice A1_1 l1_1.length c1_1]) (t := 28) ?hr ?_; (case hd => rfl); (case hg => rfl); (case hr => first | (go_simp; done) | (go_simp; rfl)); intro gb272 hg w5 hbox hb; have n0_ := Aside0.mk (below_step (by repeat (first | (with_reducible first | exact HB.out | apply below_alloc | apply pw_below_drewN | apply below_drew1) | exact HB.out)) hb); have n1_ := Aside0.mk (hbox); have n2_ := Aside0.mk ((by rw [hg]; exact (below_size (by repeat (first | (with_reducible first | exact HB.out | apply below_alloc | apply pw_below_drewN | apply below_drew1) | exact HB.out))) : w.heap.size ≤ gb272)); have n3_ := Aside0.mk ((by rw [hg]; exact (below_size (by repeat (first | (with_reducible first | exact HB.out | apply below_alloc | apply pw_below_drewN | apply below_drew1) | exact HB.out))) : w.heap.size ≤ gb272)); clear HB; have HB := n0_; have BK272 := n1_; have GW272 := n2_; have GE272 := n3_; clear n0_ n1_ n2_ n3_; clear hb hbox hg) | ((with_reducible refine gate_dst (N := 6) rfl ?_); refine box_event ?hg (N := 6) ?hd (cs := #[.slice none 0 0, .slice none 0 0]) (t := 28) ?hr ?_; (case hd => rfl); (case hg => rfl); (case hr => first | (go_simp; done) | (go_simp; rfl)); intro gb273 hg w6 hbox hb; have n0_ := Aside0.mk (blk_below (g := gb272) (o := .cells #[.slice A1_0 l1_0.length c1_0, .slice A1_1 l1_1.length c1_1] 28 (0, 0)) (by (with_reducible repeat (first | refine blk_drewN ?_ _ | refine blk_drew ?_ | refine blk_alloc ?_ _)); exact BK272.out) hb); have n1_ := Aside0.mk (below_step (by repeat (first | (with_reducible first | exact HB.out | apply below_alloc | apply pw_below_drewN | apply below_drew1 | refine below_set ?_ GE272.out) | exact HB.out)) hb); have n2_ := Aside0.mk (hbox); have n3_ := Aside0.mk ((by rw [hg]; exact (below_size (by repeat (first | (with_reducible first | exact HB.out | apply below_alloc | apply pw_below_drewN | apply below_drew1 | refine below_set ?_ GE272.out) | exact HB.out))) : w.heap.size ≤ gb273)); have n4_ := Aside0.mk ((by rw [hg]; exact (below_size (by repeat (first | (with_reducible first | exact HB.out | apply below_alloc | apply pw_below_drewN | apply below_drew1 | refine below_set ?_ GE272.out) | exact HB.out))) : w.heap.size ≤ gb273)); have n5_ := Aside0.mk ((by rw [hg]; exact Nat.ne_of_lt (blk_lt (g := gb272) (o := .cells #[.slice A1_0 l1_0.length c1_0, .slice A1_1 l1_1.length c1_1] 28 (0, 0)) (by (with_reducible repeat (first | refine blk_drewN ?_ _ | refine blk_drew ?_ | refine blk_alloc ?_ _)); exact BK272.out)) : gb272 ≠ gb273)); have n6_ := Aside0.mk ((by rw [hg]; exact Nat.ne_of_gt (blk_lt (g := gb272) (o := .cells #[.slice A1_0 l1_0.length c1_0, .slice A1_1 l1_1.length c1_1] 28 (0, 0)) (by (with_reducible repeat (first | refine blk_drewN ?_ _ | refine blk_drew ?_ | refine blk_alloc ?_ _)); exact BK272.out)) : gb273 ≠ gb272)); clear BK272; clear HB; have BK272 := n0_; have HB := n1_; have BK273 := n2_; have GW273 := n3_; have GE273 := n4_; have NB272_273 := n5_; have NB273_272 := n6_; clear n0_ n1_ n2_ n3_ n4_ n5_ n6_; clear hb hbox hg; have hnb7 := NB272_273.out; have hnc7 := NB273_272.out; have hcz8_0 : w6.cell? ⟨gb272, 0, none⟩ = some (.slice A1_0 l1_0.length c1_0) := (blk_cell BK272.out 0).trans rfl; have hcz8_1 : w6.cell? ⟨gb272, 1, none⟩ = some (.slice A1_1 l1_1.length c1_1) := (blk_cell BK272.out 1).trans rfl; have hfz8_0 := blk_frozen BK272.out 0; have hfz8_1 := blk_frozen BK272.out 1) | ((with_reducible refine gate_callee (f := 36) rfl ?_); refine goesL_ (some 11) rfl rfl Tryd.func36 (by kernel_rfl) rfl #[.slice A0 l0.length c0, .agg #[.slice A1_0 l1_0.length c1_0, .slice A1_1 l1_1.length c1_1], .slice A2 l2.length c2, .bool true] rfl (by (try simp only [List.map_toArray, List.map_cons, List.map_nil]); first | done | rfl | (simp only [List.length_drop, List.length_take]; rfl)) ?_; (with_reducible refine (tags_told.calls _ _ l0 _ _ l1_0 _ _ l1_1 _ _ l2 true t274 t277 t280 _ ?side1 ?side2 ?side3 ?side4 ?side5 ?side6 ?side7 ?side8 ?side9 A4.out).mono ?_); (case side1 => repeat (first | exact (Kd.C_below HR0.out HB.out) | (with_reducible refine Kd.C_alloc ?_ _) | (with_reducible refine Kd.C_drewN ?_ _) | (with_reducible refine Kd.C_drew ?_))); (case side2 => exact HC0.out); (case side3 => repeat (first | exact (Kd.C_below HR1_0.out HB.out) | (with_reducible refine Kd.C_alloc ?_ _) | (with_reducible refine Kd.C_drewN ?_ _) | (with_reducible refine Kd.C_drew ?_))); (case side4 => exact HC1_0.out); (case side5 => repeat (first | exact (Kd.C_below HR1_1.out HB.out) | (with_reducible refine Kd.C_alloc ?_ _) | (with_reducible refine Kd.C_drewN ?_ _) | (with_reducible refine Kd.C_drew ?_))); (case side6 => exact HC1_1.out); (case side7 => repeat (first | exact (Kd.C_below HR2.out HB.out) | (with_reducible refine Kd.C_alloc ?_ _) | (with_reducible refine Kd.C_drewN ?_ _) | (with_reducible refine Kd.C_drew ?_))); (case side8 => exact HC2.out); (case side9 => exact Tabs.below hT (by repeat (first | (with_reducible first | exact HB.out | apply below_alloc | apply pw_below_drewN | apply below_drew1 | refine below_set ?_ GE272.out | refine below_set ?_ GE273.out) | exact HB.out))); rintro e w9 ⟨v275, v278, rfl, ho0, ho1, hb⟩; refine ⟨_, rfl, ?_⟩; have n0_ := Aside0.mk (Kd.R_lower ho0 (below_size (by repeat (first | (with_reducible first | exact HB.out | apply below_alloc | apply pw_below_drewN | apply below_drew1 | refine below_set ?_ GE272.out | refine below_set ?_ GE273.out) | exact HB.out)))); have n1_ := Aside0.mk (Kd.R_lower ho1 (below_size (by repeat (first | (with_reducible first | exact HB.out | apply below_alloc | apply pw_below_drewN | apply below_drew1 | refine below_set ?_ GE272.out | refine below_set ?_ GE273.out) | exact HB.out)))); have n2_ := Aside0.mk (blk_below (g := gb272) (o := .cells #[.slice A1_0 l1_0.length c1_0, .slice A1_1 l1_1.length c1_1] 28 (0, 0)) (by (with_reducible repeat (first | refine blk_drewN ?_ _ | refine blk_drew ?_ | refine blk_alloc ?_ _)); exact BK272.out) hb); have n3_ := Aside0.mk (blk_below (g := gb273) (o := .cells #[.slice none 0 0, .slice none 0 0] 28 (0, 0)) (by (with_reducible repeat (first | refine blk_drewN ?_ _ | refine blk_drew ?_ | refine blk_alloc ?_ _)); exact BK273.out) hb); have n4_ := Aside0.mk (below_step (by repeat (first | (with_reducible first | exact HB.out | apply below_alloc | apply pw_below_drewN | apply below_drew1 | refine below_set ?_ GE272.out | refine below_set ?_ GE273.out) | exact HB.out)) hb); clear BK272; clear BK273; clear HB; have HO276 := n0_; have HO279 := n1_; have BK272 := n2_; have BK273 := n3_; have HB := n4_; clear n0_ n1_ n2_ n3_ n4_; (try clear hb); (try clear hb2); (try clear hk); (try clear hi); (try clear ho0); (try clear ho1); obtain ⟨Ao10, co10, eo10⟩ := Kd.R_slice HO276.out; subst eo10; have hcz11_0 : w9.cell? ⟨gb273, 0, none⟩ = some (.slice none 0 0) := (blk_cell BK273.out 0).trans rfl; have hcz11_1 : w9.cell? ⟨gb273, 1, none⟩ = some (.slice none 0 0) := (blk_cell BK273.out 1).trans rfl; have hfz11_0 := blk_frozen BK273.out 0; have hfz11_1 := blk_frozen BK273.out 1; obtain ⟨Ao12, co12, eo12⟩ := Kd.R_slice HO279.out; subst eo12))
  refine bodyPost_ret (results_ct rfl _ _ gb273 28 #[.slice Ao10 t274.length co10, .slice Ao12 t277.length co12] (0, 0) _ rfl (by (with_reducible repeat (first | refine blk_drewN ?_ _ | refine blk_drew ?_ | refine blk_alloc ?_ _)); refine blk_put (cs := #[.slice Ao10 t274.length co10, .slice none 0 0]) ?_ 1 _ rfl; (with_reducible repeat (first | refine blk_drewN ?_ _ | refine blk_drew ?_ | refine blk_alloc ?_ _)); refine blk_put (cs := #[.slice none 0 0, .slice none 0 0]) ?_ 0 _ rfl; (with_reducible repeat (first | refine blk_drewN ?_ _ | refine blk_drew ?_ | refine blk_alloc ?_ _)); exact BK273.out) Tryd.underlying28 rfl (by kernel_rfl)) rfl ?_
  exact ⟨_, _, by first | rfl | (simp [errW_none, errW_some] <;> rfl) | (simp [*, errW_none, errW_some] <;> rfl), by (with_reducible repeat (first | apply Kd.R_alloc | apply Kd.R_drewN | apply Kd.R_drew)); exact Kd.R_mono (Kd.R_far (p := ⟨gb273, 1, none⟩) (Kd.R_far (p := ⟨gb273, 0, none⟩) (Kd.R_types HO276.out BK273.out (by decide)) (fun _ hk => hk.2) (.slice Ao10 t274.length co10)) (fun _ hk => hk.2) (.slice Ao12 t277.length co12)) (fun _ hk => trivial), by (with_reducible repeat (first | apply Kd.R_alloc | apply Kd.R_drewN | apply Kd.R_drew)); exact Kd.R_mono (Kd.R_far (p := ⟨gb273, 1, none⟩) (Kd.R_far (p := ⟨gb273, 0, none⟩) (Kd.R_types HO279.out BK273.out (by decide)) (fun _ hk => hk.2) (.slice Ao10 t274.length co10)) (fun _ hk => hk.2) (.slice Ao12 t277.length co12)) (fun _ hk => trivial), by repeat (first | (with_reducible first | exact HB.out | apply below_alloc | apply pw_below_drewN | apply below_drew1 | refine below_set ?_ GE272.out | refine below_set ?_ GE273.out) | exact HB.out)⟩
end Go.Proofs.YtbmdhmmahmdccaaDoor.Print
/-! ### EAwake -/
namespace Go.Proofs.YtbmdhmmahmdccaaDoor.Print
open Go.RowKit Go.Proofs.YtbmdhmmahmdccaaDoorW.PrintWords Go.Proofs.YtbmdhmmahmdccaaDoorW.PrintLast Go.Proofs.YtbmdhmmahmdccaaDoorW.PrintMore
set_option linter.unusedSimpArgs false
set_option linter.unusedVariables false
def pairL : List S48 := [⟨⟨#[116]⟩, false, 0, 100⟩, ⟨⟨#[118]⟩, true, 1, 5⟩]
def cellT : List S46 := [⟨⟨#[116]⟩, 120⟩]
def cellV : List S46 := [⟨⟨#[118]⟩, 9⟩]
theorem pair_ok : okTags pairL := by unfold okTags pairL; decide
theorem pair_new : tags_New.f 5 pairL = some ([0, 1], [false, false], 0) := by
  rw [new_is pairL pair_ok 5 (by decide)]
  decide +kernel
theorem pair_latch : tags_Latch.f pairL [0, 1] [false, false] cellT = some ([100, 1], [true, false], 0) := by
  have h : tags_told.f pairL [0, 1] [false, false] cellT false = some ([100, 1], [true, false], 0) := by
    unfold tags_told.f
    rw [if_pos ⟨pair_ok, by decide, by decide, by decide⟩]
    decide +kernel
  unfold tags_Latch.f
  rw [h]
  rfl
theorem pair_drive : tags_Drive.f pairL [100, 1] [true, false] cellV = some ([100, 5], [true, false], 0) := by
  have h : tags_told.f pairL [100, 1] [true, false] cellV true = some ([100, 5], [true, false], 0) := by
    unfold tags_told.f
    rw [if_pos ⟨pair_ok, by decide, by decide, by decide⟩]
    decide +kernel
  unfold tags_Drive.f
  rw [h]
  rfl
theorem reps_one_C (b : ByteArray) (n : Int) (w : World) : Reps (k46.K w) k46.sz [⟨b, n⟩] [.string b, .int .i64 n] := by
  refine ⟨rfl, fun j p hj => ?_⟩
  cases j with
  | zero => obtain rfl := Option.some.inj hj; exact k46_mk w _
  | succ j => simp at hj
def malthouselaw08_awake.f : Option Bool := some true
set_option maxHeartbeats 8000000 in
set_option maxRecDepth 100000 in
theorem malthouselaw08_awake.calls (r : Bool) (w : World) (hT : Tabs w) (h : malthouselaw08_awake.f = some r) :
    Calls Tryd.prog 9 #[] w fun e w' => e = .returned (.bool r) ∧ Below w.heap.size w w' := by
  obtain rfl := Option.some.inj h
  clear h
  have HTB := Lib.hid hT
  have hu2 := Tryd.underlying28
  have hu4 := Tryd.underlying46
  clear hT
  go_enter Tryd.func9, Tryd.ntmps9
  go_wp2_with (first
    | (go_at_call 29; refine (malthouselaw08_pair.calls pairL w rfl).mono ?_; rintro e w1 ⟨v0, rfl, hR, hb⟩; obtain ⟨Ap, cp, rfl, hcp, hC⟩ := Kd.R_reads hR; have HP1 := Lib.hid hC; have HB1 := Lib.hid hb; clear hR hC hb; refine (fun (h : Hid _) => h.out) ?_))
  refine Lib.hid ?_
  go_wp2_with (first
    | (go_at_call 11; refine (tags_New.calls 5 Ap cp pairL _ _ _ w1 HP1.out hcp (HTB.out.below HB1.out) pair_new).mono ?_; rintro e w2 ⟨v0, v1, rfl, hR, hR', hb⟩; obtain ⟨Av, cv, rfl, hcv, hC⟩ := Kd.R_reads hR; obtain ⟨Ab, cb, rfl, hcb, hC'⟩ := Kd.R_reads hR'; have HV2 := Lib.hid hC; have HW2 := Lib.hid hC'; have HB2 := Lib.hid (below_then HB1.out HB1.out.size hb); have HP2 := Lib.hid (Kd.C_below HP1.out hb); clear hR hR' hC hC' hb HP1 HB1; refine (fun (h : Hid _) => h.out) ?_))
  refine Lib.hid ?_
  have hb3 : Below w.heap.size w ((w2.alloc (.cells #[.slice Av [0, 1].length cv, .slice Ab [false, false].length cb] 28)).alloc (.cells #[.string ⟨#[116]⟩, .int .i64 120] 46)) := (HB2.out.alloc HB2.out.size _).alloc (Nat.le_trans HB2.out.size (by simp)) _
  have hb23 : Below w2.heap.size w2 ((w2.alloc (.cells #[.slice Av [0, 1].length cv, .slice Ab [false, false].length cb] 28)).alloc (.cells #[.string ⟨#[116]⟩, .int .i64 120] 46)) := ((Below.refl _ _).alloc (Nat.le_refl _) _).alloc (by simp) _
  have hl : Kd.C k46 ((w2.alloc (.cells #[.slice Av [0, 1].length cv, .slice Ab [false, false].length cb] 28)).alloc (.cells #[.string ⟨#[116]⟩, .int .i64 120] 46)) (some ⟨w2.heap.size + 1, 0, none⟩) cellT.length cellT := by
    refine Kd.C_lit (e := 46) (inner := [.string ⟨#[116]⟩, .int .i64 120]) ?_ ?_ (by decide)
    · have := heap_alloc_new (w2.alloc (.cells #[.slice Av [0, 1].length cv, .slice Ab [false, false].length cb] 28)) (.cells #[.string ⟨#[116]⟩, .int .i64 120] 46)
      simpa using this
    · exact reps_one_C _ _ _
  have HB3 := Lib.hid hb3
  have HB23 := Lib.hid hb23
  have HL := Lib.hid hl
  clear hb3 hb23 hl
  go_wp2_with (first
    | (go_at_call 20; refine (tags_Latch.calls Ap cp pairL Av cv [0, 1] Ab cb [false, false] (some ⟨w2.heap.size + 1, 0, none⟩) 1 cellT _ _ _ _ (Kd.C_below HP2.out HB23.out) hcp (Kd.C_below HV2.out HB23.out) hcv (Kd.C_below HW2.out HB23.out) hcb HL.out (by decide) (HTB.out.below HB3.out) pair_latch).mono ?_; rintro e w3 ⟨v0, v1, rfl, hR, hR', hb⟩; obtain ⟨Av3, cv3, rfl, hcv3, hC⟩ := Kd.R_reads hR; obtain ⟨Ab3, cb3, rfl, hcb3, hC'⟩ := Kd.R_reads hR'; have HV3 := Lib.hid hC; have HW3 := Lib.hid hC'; have HP3 := Lib.hid (Kd.C_below HP2.out (below_then HB23.out HB23.out.size hb)); have HB4 := Lib.hid (below_then HB3.out HB3.out.size hb); clear hR hR' hC hC' hb HP2 HB2 HB3 HB23 HL HV2 HW2; refine (fun (h : Hid _) => h.out) ?_))
  refine Lib.hid ?_
  have hb3 : Below w.heap.size w ((w3.alloc (.cells #[.slice Av3 [100, 1].length cv3, .slice Ab3 [true, false].length cb3] 28)).alloc (.cells #[.string ⟨#[118]⟩, .int .i64 9] 46)) := (HB4.out.alloc HB4.out.size _).alloc (Nat.le_trans HB4.out.size (by simp)) _
  have hb23 : Below w3.heap.size w3 ((w3.alloc (.cells #[.slice Av3 [100, 1].length cv3, .slice Ab3 [true, false].length cb3] 28)).alloc (.cells #[.string ⟨#[118]⟩, .int .i64 9] 46)) := ((Below.refl _ _).alloc (Nat.le_refl _) _).alloc (by simp) _
  have hl : Kd.C k46 ((w3.alloc (.cells #[.slice Av3 [100, 1].length cv3, .slice Ab3 [true, false].length cb3] 28)).alloc (.cells #[.string ⟨#[118]⟩, .int .i64 9] 46)) (some ⟨w3.heap.size + 1, 0, none⟩) cellV.length cellV := by
    refine Kd.C_lit (e := 46) (inner := [.string ⟨#[118]⟩, .int .i64 9]) ?_ ?_ (by decide)
    · have := heap_alloc_new (w3.alloc (.cells #[.slice Av3 [100, 1].length cv3, .slice Ab3 [true, false].length cb3] 28)) (.cells #[.string ⟨#[118]⟩, .int .i64 9] 46)
      simpa using this
    · exact reps_one_C _ _ _
  have HB5 := Lib.hid hb3
  have HB23 := Lib.hid hb23
  have HL := Lib.hid hl
  clear hb3 hb23 hl
  go_wp2_with (first
    | (go_at_call 22; refine (tags_Drive.calls Ap cp pairL Av3 cv3 [100, 1] Ab3 cb3 [true, false] (some ⟨w3.heap.size + 1, 0, none⟩) 1 cellV _ _ _ _ (Kd.C_below HP3.out HB23.out) hcp (Kd.C_below HV3.out HB23.out) hcv3 (Kd.C_below HW3.out HB23.out) hcb3 HL.out (by decide) (HTB.out.below HB5.out) pair_drive).mono ?_; rintro e w4 ⟨v0, v1, rfl, hR, hR', hb⟩; obtain ⟨Av4, cv4, rfl, hcv4, hC⟩ := Kd.R_reads hR; obtain ⟨Ab4, cb4, rfl, hcb4, hC'⟩ := Kd.R_reads hR'; have HV4 := Lib.hid hC; have HW4 := Lib.hid hC'; have HB6 := Lib.hid (below_then HB5.out HB5.out.size hb); clear hR hR' hC hC' hb HP3 HB4 HB5 HB23 HL HV3 HW3; refine (fun (h : Hid _) => h.out) ?_))
  refine Lib.hid ?_
  obtain ⟨av, rfl, n0⟩ := Kd.int_at (Kd.C_alloc HV4.out (.cells #[.slice Av4 [100, 5].length cv4, .slice Ab4 [true, false].length cb4] 28)) 0 (by decide)
  obtain ⟨av', e1, n1⟩ := Kd.int_at (Kd.C_alloc HV4.out (.cells #[.slice (some av) [100, 5].length cv4, .slice Ab4 [true, false].length cb4] 28)) 1 (by decide)
  obtain rfl := Option.some.inj e1
  obtain ⟨ab, rfl, b0⟩ := Kd.bool_at (Kd.C_alloc HW4.out (.cells #[.slice (some av) [100, 5].length cv4, .slice Ab4 [true, false].length cb4] 28)) 0 (by decide)
  obtain ⟨ab', e1, b1⟩ := Kd.bool_at (Kd.C_alloc HW4.out (.cells #[.slice (some av) [100, 5].length cv4, .slice (some ab) [true, false].length cb4] 28)) 1 (by decide)
  obtain rfl := Option.some.inj e1
  replace n0 : (w4.alloc (.cells #[.slice (some av) 2 cv4, .slice (some ab) 2 cb4] 28)).cell? (av.add 0) = some (.int .i64 100) := n0
  replace n1 : (w4.alloc (.cells #[.slice (some av) 2 cv4, .slice (some ab) 2 cb4] 28)).cell? ⟨av.block, av.off + 1, none⟩ = some (.int .i64 5) := n1
  replace b0 : (w4.alloc (.cells #[.slice (some av) 2 cv4, .slice (some ab) 2 cb4] 28)).cell? (ab.add 0) = some (.bool true) := b0
  replace b1 : (w4.alloc (.cells #[.slice (some av) 2 cv4, .slice (some ab) 2 cb4] 28)).cell? ⟨ab.block, ab.off + 1, none⟩ = some (.bool false) := b1
  rw [show ∀ a : Addr, a.add 0 = a from fun a => by simp [Addr.add]] at n0 b0
  go_wp2
  go_ret
  exact ⟨rfl, HB6.out.alloc HB6.out.size _⟩
end Go.Proofs.YtbmdhmmahmdccaaDoor.Print
/-! ### Print9 -/
namespace Go.Proofs.YtbmdhmmahmdccaaDoor.Print
open Go.RowKit Go.Proofs.YtbmdhmmahmdccaaDoorW.PrintWords Go.Proofs.YtbmdhmmahmdccaaDoorW.PrintLast Go.Proofs.YtbmdhmmahmdccaaDoorW.PrintMore
attribute [local go_sem] max2_int min2_int max_two min_two
set_option linter.unusedVariables false
set_option linter.unusedSimpArgs false
mutual
def malthouselaw08_fair.j0 : Nat → List (S46) → Bool → Option (Bool)
  | 0, _, _ => none
  | k + 1, x1, x20 => if x20 = true then (some false) else (malthouselaw08_fair.l0 k x1 0)
def malthouselaw08_fair.l0 : Nat → List (S46) → Int → Option (Bool)
  | 0, _, _ => none
  | k + 1, x1, x5 => if x5 < (x1.length : Int) then (if 0 ≤ x5 then (if (((rd_T46 x1 x5).f0).size : Int) > 200 then (some false) else (malthouselaw08_fair.l0 k x1 (wrap64 (x5 + 1)))) else (none)) else (some true)
end
def malthouselaw08_fair.f (k : Nat) (l0_0 : List Int) (l0_1 : List Bool) (l1 : List (S46)) : Option (Bool) := if (l0_0.length : Int) > 1000 then (malthouselaw08_fair.j0 k l1 true) else (if (l0_1.length : Int) > 1000 then (malthouselaw08_fair.j0 k l1 true) else (malthouselaw08_fair.j0 k l1 (decide ((l1.length : Int) > 1000))))
set_option maxHeartbeats 8000000 in
set_option maxRecDepth 100000 in
theorem malthouselaw08_fair.calls (k : Nat) (A0_0 : Option Addr) (c0_0 : Nat) (l0_0 : List Int) (A0_1 : Option Addr) (c0_1 : Nat) (l0_1 : List Bool) (A1 : Option Addr) (c1 : Nat) (l1 : List (S46)) (r : Bool) (w : World) (hr0_0 : Kd.C (Kd.int .i64) w A0_0 l0_0.length l0_0) (hc0_0 : l0_0.length ≤ c0_0) (hr0_1 : Kd.C Kd.bool w A0_1 l0_1.length l0_1) (hc0_1 : l0_1.length ≤ c0_1) (hr1 : Kd.C k46 w A1 l1.length l1) (hc1 : l1.length ≤ c1) (h : malthouselaw08_fair.f k l0_0 l0_1 l1 = some r) :
    Calls Tryd.prog 18 #[.agg #[.slice A0_0 l0_0.length c0_0, .slice A0_1 l0_1.length c0_1], .slice A1 l1.length c1] w fun e w' => e = .returned (.bool r) ∧ Below w.heap.size w w' := by
  have hu28 := Tryd.underlying28
  have HR0_0 := Aside0.mk hr0_0
  have HC0_0 := Aside0.mk hc0_0
  clear hr0_0 hc0_0
  have HR0_1 := Aside0.mk hr0_1
  have HC0_1 := Aside0.mk hc0_1
  clear hr0_1 hc0_1
  have HR1 := Aside0.mk hr1
  have HC1 := Aside0.mk hc1
  clear hr1 hc1
  have HB := Aside0.mk (Below.refl w.heap.size w)
  have H : (if (l0_0.length : Int) > 1000 then (malthouselaw08_fair.j0 k l1 true) else (if (l0_1.length : Int) > 1000 then (malthouselaw08_fair.j0 k l1 true) else (malthouselaw08_fair.j0 k l1 (decide ((l1.length : Int) > 1000))))) = some r := h
  clear h
  have HC3 := Aside0.mk H
  clear H
  go_enter Tryd.func18, Tryd.ntmps18
  go_upto_region 1 with (first | ((with_reducible refine gate_dst (N := 2) rfl ?_); (try (refine gate_guard (by rfl) ?_; dsimp only)); refine box_event ?hg (N := 2) ?hd (cs := #[.slice A0_0 l0_0.length c0_0, .slice A0_1 l0_1.length c0_1]) (t := 28) ?hr ?_; (case hd => rfl); (case hg => rfl); (case hr => first | (go_simp; done) | (go_simp; rfl)); intro gb202 hg w4 hbox hb; have n0_ := Aside0.mk (below_step (by repeat (first | (with_reducible first | exact HB.out | apply below_alloc | apply pw_below_drewN | apply below_drew1) | exact HB.out)) hb); have n1_ := Aside0.mk (hbox); have n2_ := Aside0.mk ((by rw [hg]; exact (below_size (by repeat (first | (with_reducible first | exact HB.out | apply below_alloc | apply pw_below_drewN | apply below_drew1) | exact HB.out))) : w.heap.size ≤ gb202)); have n3_ := Aside0.mk ((by rw [hg]; exact (below_size (by repeat (first | (with_reducible first | exact HB.out | apply below_alloc | apply pw_below_drewN | apply below_drew1) | exact HB.out))) : w.heap.size ≤ gb202)); clear HB; have HB := n0_; have BK202 := n1_; have GW202 := n2_; have GE202 := n3_; clear n0_ n1_ n2_ n3_; clear hb hbox hg))
  (try simp only [Act.put, List.setIfInBounds_toArray, List.set_cons_zero, List.set_cons_succ])
  go_cut [20] (fun v20 wc => ∃ (kq : Nat) (x20_2 : Bool), v20 = .bool x20_2 ∧ Aside0 (malthouselaw08_fair.j0 kq l1 x20_2 = some r) ∧ Aside0 (kq ≤ k) ∧ Aside0 (wc.heap[gb202]? = some (.cells #[(.slice A0_0 l0_0.length c0_0), (.slice A0_1 l0_1.length c0_1)] 28 (0, 0))) ∧ Aside0 (Below w.heap.size w wc))
  case first =>
    have H := HC3.out
    clear HC3
    by_cases c5 : (l0_0.length : Int) > 1000
    · rw [if_pos c5] at H
      have c5b0 : decide (1000 < (l0_0.length : Int)) = true := decide_eq_true c5
      have c5b1 : decide (1000 < l0_0.length) = true := decide_eq_true (by omega)
      clear c5
      (first | rw [c5b0] | (simp only [i64_w, i32_w]; rw [c5b0]) | skip)
      have H' := Aside0.mk H
      clear H
      have hcz6_0 : w4.cell? ⟨gb202, 0, none⟩ = some (.slice A0_0 l0_0.length c0_0) := (blk_cell BK202.out 0).trans rfl
      have hcz6_1 : w4.cell? ⟨gb202, 1, none⟩ = some (.slice A0_1 l0_1.length c0_1) := (blk_cell BK202.out 1).trans rfl
      have hfz6_0 := blk_frozen BK202.out 0
      have hfz6_1 := blk_frozen BK202.out 1
      go_wp2
      go_meet
      case rel => exact ⟨_, (true), (by first | rfl | (simp; done) | (simp [*]; done)), H', ⟨by first | omega | exact Nat.le_refl _⟩, ⟨by (with_reducible repeat (first | refine blk_drewN ?_ _ | refine blk_drew ?_ | refine blk_alloc ?_ _)); exact BK202.out⟩, ⟨by repeat (first | (with_reducible first | exact HB.out | apply below_alloc | apply pw_below_drewN | apply below_drew1 | refine below_set ?_ GE202.out) | exact HB.out)⟩⟩
    · rw [if_neg c5] at H
      have c5b0 : decide (1000 < (l0_0.length : Int)) = false := decide_eq_false c5
      have c5b1 : decide (1000 < l0_0.length) = false := decide_eq_false (by omega)
      clear c5
      (first | rw [c5b0] | (simp only [i64_w, i32_w]; rw [c5b0]) | skip)
      by_cases c7 : (l0_1.length : Int) > 1000
      · rw [if_pos c7] at H
        have c7b0 : decide (1000 < (l0_1.length : Int)) = true := decide_eq_true c7
        have c7b1 : decide (1000 < l0_1.length) = true := decide_eq_true (by omega)
        clear c7
        have H' := Aside0.mk H
        clear H
        have hcz8_0 : w4.cell? ⟨gb202, 0, none⟩ = some (.slice A0_0 l0_0.length c0_0) := (blk_cell BK202.out 0).trans rfl
        have hcz8_1 : w4.cell? ⟨gb202, 1, none⟩ = some (.slice A0_1 l0_1.length c0_1) := (blk_cell BK202.out 1).trans rfl
        have hfz8_0 := blk_frozen BK202.out 0
        have hfz8_1 := blk_frozen BK202.out 1
        go_wp2
        go_meet
        case rel => exact ⟨_, (true), (by first | rfl | (simp; done) | (simp [*]; done)), H', ⟨by first | omega | exact Nat.le_refl _⟩, ⟨by (with_reducible repeat (first | refine blk_drewN ?_ _ | refine blk_drew ?_ | refine blk_alloc ?_ _)); exact BK202.out⟩, ⟨by repeat (first | (with_reducible first | exact HB.out | apply below_alloc | apply pw_below_drewN | apply below_drew1 | refine below_set ?_ GE202.out) | exact HB.out)⟩⟩
      · rw [if_neg c7] at H
        have c7b0 : decide (1000 < (l0_1.length : Int)) = false := decide_eq_false c7
        have c7b1 : decide (1000 < l0_1.length) = false := decide_eq_false (by omega)
        clear c7
        have H' := Aside0.mk H
        clear H
        have hcz9_0 : w4.cell? ⟨gb202, 0, none⟩ = some (.slice A0_0 l0_0.length c0_0) := (blk_cell BK202.out 0).trans rfl
        have hcz9_1 : w4.cell? ⟨gb202, 1, none⟩ = some (.slice A0_1 l0_1.length c0_1) := (blk_cell BK202.out 1).trans rfl
        have hfz9_0 := blk_frozen BK202.out 0
        have hfz9_1 := blk_frozen BK202.out 1
        go_wp2
        go_meet
        case rel => exact ⟨_, (decide ((l1.length : Int) > 1000)), (by first | rfl | (simp; done) | (simp [*]; done)), H', ⟨by first | omega | exact Nat.le_refl _⟩, ⟨by (with_reducible repeat (first | refine blk_drewN ?_ _ | refine blk_drew ?_ | refine blk_alloc ?_ _)); exact BK202.out⟩, ⟨by repeat (first | (with_reducible first | exact HB.out | apply below_alloc | apply pw_below_drewN | apply below_drew1 | refine below_set ?_ GE202.out) | exact HB.out)⟩⟩
  case rest =>
    clear HC3
    try clear c1
    try clear p2
    try clear c5
    try clear c5b0
    try clear c5b1
    try clear c7
    try clear c7b0
    try clear c7b1
    try clear hcz6_0
    try clear hcz6_1
    try clear hcz8_0
    try clear hcz8_1
    try clear hcz9_0
    try clear hcz9_1
    try clear hfz6_0
    try clear hfz6_1
    try clear hfz8_0
    try clear hfz8_1
    try clear hfz9_0
    try clear hfz9_1
    obtain ⟨kq, x20_2, rfl, HA, HJ2, BK202, HB⟩ := hcut
    cases kq with
    | zero => exact absurd HA.out (by simp [malthouselaw08_fair.j0])
    | succ kj2 =>
      have H := HA.out
      clear HA
      simp only [malthouselaw08_fair.j0] at H
      by_cases c10 : x20_2 = true
      · subst c10
        have H1 : (some false) = some r := by rw [if_pos rfl] at H; exact H
        clear H
        have H := H1
        clear H1
        obtain rfl := Option.some.inj H
        go_wp2
        go_ret
        exact ⟨by first | rfl | (simp [errW_none, errW_some] <;> rfl) | (simp [*, errW_none, errW_some] <;> rfl), by repeat (first | (with_reducible first | exact HB.out | apply below_alloc | apply pw_below_drewN | apply below_drew1 | refine below_set ?_ GE202.out) | exact HB.out)⟩
      · replace c10 := Bool.eq_false_iff.mpr c10
        subst c10
        have H1 : (malthouselaw08_fair.l0 kj2 l1 0) = some r := by rw [if_neg (show ¬ (false = true) by decide)] at H; exact H
        clear H
        have H := H1
        clear H1
        have H' := Aside0.mk H
        clear H
        go_wp2
        go_loopg [5] kj2 (fun kq v5 w' => ∃ (x5_2 : Int), v5 = .int .i64 x5_2 ∧ Aside0 (malthouselaw08_fair.l0 kq l1 x5_2 = some r) ∧ Aside0 (kq ≤ kj2) ∧ Aside0 (w'.heap[gb202]? = some (.cells #[(.slice A0_0 l0_0.length c0_0), (.slice A0_1 l0_1.length c0_1)] 28 (0, 0))) ∧ Aside0 (Below w.heap.size w w'))
        case atStart => exact ⟨(0), (by first | rfl | (simp; done) | (simp [*]; done)), H', ⟨Nat.le_refl _⟩, ⟨by (with_reducible repeat (first | refine blk_drewN ?_ _ | refine blk_drew ?_ | refine blk_alloc ?_ _)); exact BK202.out⟩, ⟨by repeat (first | (with_reducible first | exact HB.out | apply below_alloc | apply pw_below_drewN | apply below_drew1 | refine below_set ?_ GE202.out) | exact HB.out)⟩⟩
        case round =>
          clear H'
          try clear c1
          try clear p2
          try clear c5
          try clear c5b0
          try clear c5b1
          try clear c7
          try clear c7b0
          try clear c7b1
          try clear c10
          try clear hcz6_0
          try clear hcz6_1
          try clear hcz8_0
          try clear hcz8_1
          try clear hcz9_0
          try clear hcz9_1
          try clear hfz6_0
          try clear hfz6_1
          try clear hfz8_0
          try clear hfz8_1
          try clear hfz9_0
          try clear hfz9_1
          try clear p2
          obtain ⟨x5_2, rfl, HA, HK2, BK202, HB⟩ := hrel
          cases gk with
          | zero => exact absurd HA.out (by simp [malthouselaw08_fair.l0])
          | succ k2 =>
            have H := HA.out
            clear HA
            simp only [malthouselaw08_fair.l0] at H
            by_cases c11 : x5_2 < (l1.length : Int)
            · rw [if_pos c11] at H
              have c11b0 : decide (x5_2 < (l1.length : Int)) = true := decide_eq_true c11
              clear c11
              by_cases c12 : 0 ≤ x5_2
              · rw [if_pos c12] at H
                have c12b0 : decide (0 ≤ x5_2) = true := decide_eq_true c12
                clear c12
                by_cases c13 : (((rd_T46 l1 x5_2).f0).size : Int) > 200
                · rw [if_pos c13] at H
                  have c13b0 : decide (200 < (((rd_T46 l1 x5_2).f0).size : Int)) = true := decide_eq_true c13
                  have c13b1 : decide (200 < ((rd_T46 l1 x5_2).f0).size) = true := decide_eq_true (by omega)
                  clear c13
                  obtain rfl := Option.some.inj H
                  have p203 : 0 ≤ (x5_2 : Int) := of_decide_eq_true (by first | (with_reducible assumption) | assumption)
                  have q203 : x5_2 < (l1.length : Int) := of_decide_eq_true (by first | (with_reducible assumption) | assumption)
                  obtain ⟨ad203, e203, hx203_0, hx203_1⟩ := at_T46 HR1.out x5_2 p203 q203
                  cases e203
                  replace hx203_0 := (HB.out.cell (World.block_lt_of_cell? w _ hx203_0)).trans hx203_0
                  replace hx203_1 := (HB.out.cell (World.block_lt_of_cell? w _ hx203_1)).trans hx203_1
                  replace p203 := eq_true p203
                  replace q203 := eq_true q203
                  go_wp2
                  go_ret
                  exact ⟨by first | rfl | (simp [errW_none, errW_some] <;> rfl) | (simp [*, errW_none, errW_some] <;> rfl), by repeat (first | (with_reducible first | exact HB.out | apply below_alloc | apply pw_below_drewN | apply below_drew1 | refine below_set ?_ GE202.out) | exact HB.out)⟩
                · rw [if_neg c13] at H
                  have c13b0 : decide (200 < (((rd_T46 l1 x5_2).f0).size : Int)) = false := decide_eq_false c13
                  have c13b1 : decide (200 < ((rd_T46 l1 x5_2).f0).size) = false := decide_eq_false (by omega)
                  clear c13
                  have H' := Aside0.mk H
                  clear H
                  have p203 : 0 ≤ (x5_2 : Int) := of_decide_eq_true (by first | (with_reducible assumption) | assumption)
                  have q203 : x5_2 < (l1.length : Int) := of_decide_eq_true (by first | (with_reducible assumption) | assumption)
                  obtain ⟨ad203, e203, hx203_0, hx203_1⟩ := at_T46 HR1.out x5_2 p203 q203
                  cases e203
                  replace hx203_0 := (HB.out.cell (World.block_lt_of_cell? w _ hx203_0)).trans hx203_0
                  replace hx203_1 := (HB.out.cell (World.block_lt_of_cell? w _ hx203_1)).trans hx203_1
                  replace p203 := eq_true p203
                  replace q203 := eq_true q203
                  go_wp2
                  go_roundg k2
                  case measure => have := HJ2.out; have := HK2.out; omega
                  case rel => exact ⟨(wrap64 (x5_2 + 1)), (by first | rfl | (simp; done) | (simp [*]; done)), H', ⟨by have := HJ2.out; have := HK2.out; omega⟩, ⟨by (with_reducible repeat (first | refine blk_drewN ?_ _ | refine blk_drew ?_ | refine blk_alloc ?_ _)); exact BK202.out⟩, ⟨by repeat (first | (with_reducible first | exact HB.out | apply below_alloc | apply pw_below_drewN | apply below_drew1 | refine below_set ?_ GE202.out) | exact HB.out)⟩⟩
              · rw [if_neg c12] at H
                exact absurd H (by simp)
            · rw [if_neg c11] at H
              have c11b0 : decide (x5_2 < (l1.length : Int)) = false := decide_eq_false c11
              clear c11
              obtain rfl := Option.some.inj H
              go_wp2
              go_ret
              exact ⟨by first | rfl | (simp [errW_none, errW_some] <;> rfl) | (simp [*, errW_none, errW_some] <;> rfl), by repeat (first | (with_reducible first | exact HB.out | apply below_alloc | apply pw_below_drewN | apply below_drew1 | refine below_set ?_ GE202.out) | exact HB.out)⟩
end Go.Proofs.YtbmdhmmahmdccaaDoor.Print
/-! ### TgLaw -/
namespace Go.Proofs.YtbmdhmmahmdccaaDoor.Print
open Go.RowKit Go.Proofs.YtbmdhmmahmdccaaDoorW.PrintWords Go.Proofs.YtbmdhmmahmdccaaDoorW.PrintLast Go.Proofs.YtbmdhmmahmdccaaDoorW.PrintMore
set_option linter.unusedSimpArgs false
set_option linter.unusedVariables false
def shortT (t : S48) : Bool := decide (t.f0.size ≤ 200)
def smallB (l : List S48) : Bool := decide (l.length ≤ 100) && l.all shortT
theorem small_loop (l : List S48) (hl : l.length ≤ 1000000000) : ∀ (f i k : Nat), l.length ≤ i + f → i ≤ l.length → f < k → malthouselaw08_small.l0 k l (i : Int) = some ((l.drop i).all shortT) := by
  intro f
  induction f with
  | zero =>
    intro i k h1 h2 hk
    obtain ⟨k, rfl⟩ : ∃ m, k = m + 1 := ⟨k - 1, by omega⟩
    rw [malthouselaw08_small.l0, if_neg (by omega), List.drop_eq_nil_of_le (by omega)]
    rfl
  | succ f ih =>
    intro i k h1 h2 hk
    obtain ⟨k, rfl⟩ : ∃ m, k = m + 1 := ⟨k - 1, by omega⟩
    rw [malthouselaw08_small.l0]
    by_cases hi : i < l.length
    · rw [if_pos (by omega), if_pos (by omega), rd_at l i hi, wrap_small _ (by omega) (by omega), show (i : Int) + 1 = ((i + 1 : Nat) : Int) by omega, List.drop_eq_getElem_cons hi, List.all_cons]
      by_cases hs : l[i].f0.size ≤ 200
      · rw [if_neg (by omega), ih (i + 1) k (by omega) (by omega) (by omega), show shortT l[i] = true from by unfold shortT; simpa using hs, Bool.true_and]
      · rw [if_pos (by omega), show shortT l[i] = false from by unfold shortT; simpa using hs, Bool.false_and]
    · rw [if_neg (by omega), List.drop_eq_nil_of_le (by omega)]
      rfl
theorem small_is (l : List S48) (k : Nat) (hk : 100 < k) : malthouselaw08_small.f k l = some (smallB l) := by
  unfold malthouselaw08_small.f smallB
  by_cases h : l.length ≤ 100
  · have := small_loop l (by omega) l.length 0 k (by omega) (by omega) (by omega)
    rw [if_neg (by omega), show decide (l.length ≤ 100) = true by simpa using h]
    simpa using this
  · rw [if_pos (by omega), show decide (l.length ≤ 100) = false by simpa using h, Bool.false_and]
theorem longest_bound (n : Nat) : ∀ (l : List S48), (∀ t ∈ l, t.f0.size ≤ n) → longest l ≤ n
  | [], _ => by unfold longest; simp
  | x :: l, h => by
    have h1 := longest_bound n l (fun t ht => h t (List.mem_cons_of_mem _ ht))
    have h2 := h x List.mem_cons_self
    unfold longest at h1 ⊢
    rw [List.foldr_cons]
    omega
theorem smallB_ok {l : List S48} (h : smallB l = true) : l.length ≤ 100 ∧ okTags l ∧ longest l ≤ 200 := by
  unfold smallB at h
  simp only [Bool.and_eq_true, decide_eq_true_eq, List.all_eq_true] at h
  obtain ⟨h1, h2⟩ := h
  have h3 : ∀ t ∈ l, t.f0.size ≤ 200 := fun t ht => by have := h2 t ht; unfold shortT at this; simpa using this
  refine ⟨h1, ⟨by omega, fun t ht => by have := h3 t ht; omega⟩, ?_⟩
  exact longest_bound _ _ h3
end Go.Proofs.YtbmdhmmahmdccaaDoor.Print
/-! ### TgLaw2 -/
namespace Go.Proofs.YtbmdhmmahmdccaaDoor.Print
open Go.RowKit Go.Proofs.YtbmdhmmahmdccaaDoorW.PrintWords Go.Proofs.YtbmdhmmahmdccaaDoorW.PrintLast Go.Proofs.YtbmdhmmahmdccaaDoorW.PrintMore
set_option linter.unusedSimpArgs false
set_option linter.unusedVariables false
theorem rdC_at (l : List S46) (i : Nat) (hi : i < l.length) : rd_T46 l (i : Int) = l[i] := getD_at l _ i hi
def shortC (c : S46) : Bool := decide (c.f0.size ≤ 200)
def fairB (V : List Int) (B : List Bool) (cs : List S46) : Bool := decide (V.length ≤ 1000) && decide (B.length ≤ 1000) && decide (cs.length ≤ 1000) && cs.all shortC
theorem fair_loop (l : List S46) (hl : l.length ≤ 1000000000) : ∀ (f i k : Nat), l.length ≤ i + f → i ≤ l.length → f < k → malthouselaw08_fair.l0 k l (i : Int) = some ((l.drop i).all shortC) := by
  intro f
  induction f with
  | zero =>
    intro i k h1 h2 hk
    obtain ⟨k, rfl⟩ : ∃ m, k = m + 1 := ⟨k - 1, by omega⟩
    rw [malthouselaw08_fair.l0, if_neg (by omega), List.drop_eq_nil_of_le (by omega)]
    rfl
  | succ f ih =>
    intro i k h1 h2 hk
    obtain ⟨k, rfl⟩ : ∃ m, k = m + 1 := ⟨k - 1, by omega⟩
    rw [malthouselaw08_fair.l0]
    by_cases hi : i < l.length
    · rw [if_pos (by omega), if_pos (by omega), rdC_at l i hi, wrap_small _ (by omega) (by omega), show (i : Int) + 1 = ((i + 1 : Nat) : Int) by omega, List.drop_eq_getElem_cons hi, List.all_cons]
      by_cases hs : l[i].f0.size ≤ 200
      · rw [if_neg (by omega), ih (i + 1) k (by omega) (by omega) (by omega), show shortC l[i] = true from by unfold shortC; simpa using hs, Bool.true_and]
      · rw [if_pos (by omega), show shortC l[i] = false from by unfold shortC; simpa using hs, Bool.false_and]
    · rw [if_neg (by omega), List.drop_eq_nil_of_le (by omega)]
      rfl
theorem fair_is (V : List Int) (B : List Bool) (l : List S46) (k : Nat) (hk : 1002 < k) : malthouselaw08_fair.f k V B l = some (fairB V B l) := by
  obtain ⟨k, rfl⟩ : ∃ m, k = m + 1 := ⟨k - 1, by omega⟩
  have hj : malthouselaw08_fair.j0 (k + 1) l true = some false := by rw [malthouselaw08_fair.j0, if_pos rfl]
  unfold malthouselaw08_fair.f fairB
  by_cases h1 : V.length ≤ 1000
  · by_cases h2 : B.length ≤ 1000
    · rw [if_neg (by omega), if_neg (by omega)]
      by_cases h3 : l.length ≤ 1000
      · have := fair_loop l (by omega) l.length 0 k (by omega) (by omega) (by omega)
        rw [malthouselaw08_fair.j0, if_neg (by simp; omega)]
        simp only [h1, h2, h3, decide_true, Bool.true_and]
        simpa using this
      · rw [show decide ((l.length : Int) > 1000) = true by simp; omega, hj]
        simp [h3]
    · rw [if_neg (by omega), if_pos (by omega), hj]
      simp [h2]
  · rw [if_pos (by omega), hj]
    simp [h1]
theorem fairB_ok {V : List Int} {B : List Bool} {l : List S46} (h : fairB V B l = true) : V.length ≤ 1000 ∧ B.length ≤ 1000 ∧ l.length ≤ 1000 := by
  unfold fairB at h
  simp only [Bool.and_eq_true, decide_eq_true_eq] at h
  exact ⟨h.1.1.1, h.1.1.2, h.1.2⟩
theorem told_is (l : List S48) (hl : okTags l) (V : List Int) (B : List Bool) (hv : V.length ≤ 1000) (hb : B.length ≤ 1000) (cs : List S46) (hcs : cs.length ≤ 1000000000) (out : Bool) : tags_told.f l V B cs out = some (toldZ l V B cs out) := by
  unfold tags_told.f
  rw [if_pos ⟨hl, by omega, by omega, hcs⟩]
theorem toldGo_len (l : List S48) (out : Bool) : ∀ (cs : List S46) (V : List Int) (B : List Bool), (toldGo l out cs V B).1.length ≤ V.length ∧ (toldGo l out cs V B).2.1.length ≤ B.length
  | [], V, B => by unfold toldGo; exact ⟨Nat.le_refl _, Nat.le_refl _⟩
  | c :: cs, V, B => by
    unfold toldGo
    split
    · exact ⟨by simp, by simp⟩
    · have := toldGo_len l out cs (V.set (firstFrom (tagIs c.f0) 0 l).toNat (nearT (l.getD (firstFrom (tagIs c.f0) 0 l).toNat z48) c.f1)) (B.set (firstFrom (tagIs c.f0) 0 l).toNat (!(l.getD (firstFrom (tagIs c.f0) 0 l).toNat z48).f1 && nearT (l.getD (firstFrom (tagIs c.f0) 0 l).toNat z48) c.f1 != c.f1))
      simpa using this
theorem toldZ_len (l : List S48) (V : List Int) (B : List Bool) (cs : List S46) (out : Bool) : (toldZ l V B cs out).1.length ≤ V.length ∧ (toldZ l V B cs out).2.1.length ≤ B.length := by
  unfold toldZ
  split
  · exact toldGo_len l out cs V B
  · exact ⟨by simp, by simp⟩
end Go.Proofs.YtbmdhmmahmdccaaDoor.Print
/-! ### TgLaw5 -/
namespace Go.Proofs.YtbmdhmmahmdccaaDoor.Print
open Go.RowKit Go.Proofs.YtbmdhmmahmdccaaDoorW.PrintWords Go.Proofs.YtbmdhmmahmdccaaDoorW.PrintLast Go.Proofs.YtbmdhmmahmdccaaDoorW.PrintMore
set_option linter.unusedSimpArgs false
set_option linter.unusedVariables false
theorem lex_name_big (s : ByteArray) (hs : s.size ≤ 140737488351232) : lex_Name.f s = some (nameB s) := by
  have hcount : utf8_RuneCountInString.f s = some (Lib.runeCount s : Int) := if_pos (by omega)
  have hvalid : utf8_ValidString.f s = some (Lib.validD s.data.toList) := if_pos (by omega)
  unfold lex_Name.f nameB lex_wordy.f
  rw [hvalid, hcount]
  simp only [Option.bind_some]
  by_cases h1 : Lib.validD s.data.toList = true
  · rw [if_pos h1, h1]
    by_cases h2 : wordyB s = true
    · rw [if_pos h2, h2]
      have hpos : 0 < s.size := by
        have := h2
        unfold wordyB at this
        simp at this
        exact this.2
      rw [if_pos (by omega), show (0 : Int) = ((0 : Nat) : Int) from rfl, bt_byteAt s 0 hpos]
      simp only [Bool.true_and]
      by_cases h3 : byteAt s 0 < 48
      · rw [if_pos (by omega)]
        simp [h3]
        norm_cast
      · rw [if_neg (by omega)]
        by_cases h4 : 57 < byteAt s 0
        · rw [if_pos (by omega)]
          simp [h3, h4]
          norm_cast
        · rw [if_neg (by omega)]
          simp [h3, h4]
    · rw [if_neg h2]
      simp [h2]
  · rw [if_neg h1]
    simp [h1]
/-- Names as long as they come. -/
def bigTags (l : List S48) : Prop := l.length ≤ 1000000000 ∧ ∀ t ∈ l, t.f0.size ≤ 140737488351232
theorem check_loop_big (l : List S48) (hl : bigTags l) : ∀ (f i k : Nat), l.length ≤ i + f → i ≤ l.length → 2 * f < k → tags_Check.l0 k l l (l.length : Int) (i : Int) = some (checkFrom l f i) := by
  obtain ⟨hl, hsz⟩ := hl
  intro f
  induction f with
  | zero =>
    intro i k h1 h2 hk
    obtain ⟨k, rfl⟩ : ∃ m, k = m + 1 := ⟨k - 1, by omega⟩
    simp only [tags_Check.l0, checkFrom]
    rw [if_neg (by omega)]
  | succ f ih =>
    intro i k h1 h2 hk
    obtain ⟨k, rfl⟩ : ∃ m, k = m + 1 + 1 := ⟨k - 2, by omega⟩
    rw [tags_Check.l0, checkFrom]
    by_cases hi : i < l.length
    · rw [if_pos (by omega), if_pos (by omega), if_pos (by omega), dif_pos hi, rd_at l i hi, lex_name_big _ (hsz _ (List.getElem_mem hi))]
      simp only [Option.bind_some]
      have hj : ∀ b : Bool, tags_Check.j1 (k + 1) l (i : Int) l (l.length : Int) (i : Int) b l[i].f0 l[i].f1 l[i].f2 l[i].f3 = if b = true then some 1 else if firstFrom (tagIs l[i].f0) 0 l < i then some 5 else some (checkFrom l f (i + 1)) := by
        intro b
        rw [tags_Check.j1]
        rw [find_is l _ hl]
        simp only [Option.bind_some]
        rw [wrap_small _ (by omega) (by omega)]
        have := ih (i + 1) k (by omega) (by omega) (by omega)
        rw [show (i : Int) + 1 = ((i + 1 : Nat) : Int) by omega, this]
      by_cases hn : nameB l[i].f0 = true
      · rw [if_pos hn, hj]
        by_cases hlo : l[i].f2 > l[i].f3
        · rw [if_pos (by simpa using hlo), if_pos (.inr hlo)]
        · have hno : ¬ (nameB l[i].f0 = false ∨ l[i].f2 > l[i].f3) := by rw [hn]; simp; omega
          rw [if_neg (by simpa using hlo)]
          by_cases hff : firstFrom (tagIs l[i].f0) 0 l < i
          · rw [if_pos hff, if_neg hno, if_pos hff]
          · rw [if_neg hff, if_neg hno, if_neg hff]
      · rw [if_neg hn, hj, if_pos rfl, if_pos (.inl (by simpa using hn))]
    · rw [if_neg (by omega), dif_neg hi]
theorem check_big (l : List S48) (hl : bigTags l) (k : Nat) (hk : 2 * l.length < k) : tags_Check.f k l = some (checkZ l) := by
  unfold tags_Check.f checkZ
  by_cases h : 12 < l.length
  · rw [if_pos (by omega), if_pos h]
  · rw [if_neg (by omega), if_neg h]
    exact check_loop_big l hl l.length 0 k (by omega) (by omega) hk
/-- What was told last of each tag. -/
def lastGo (l : List S48) : List S46 → List Int → List Int
  | [], L => L
  | c :: cs, L => lastGo l cs (L.set (firstFrom (tagIs c.f0) 0 l).toNat c.f1)
theorem lastGo_len (l : List S48) : ∀ (cs : List S46) (L : List Int), (lastGo l cs L).length = L.length
  | [], L => rfl
  | c :: cs, L => by unfold lastGo; rw [lastGo_len l cs]; simp
def Within (l : List S48) (V : List Int) (B : List Bool) (L : List Int) : Prop :=
  V.length = l.length ∧ B.length = l.length ∧ l.length ≤ L.length ∧ ∀ i (h : i < l.length), V.getD i 0 = nearT l[i] (L.getD i 0) ∧ B.getD i false = (!l[i].f1 && nearT l[i] (L.getD i 0) != L.getD i 0)
theorem near_near {t : S48} (h : t.f2 ≤ t.f3) (n : Int) : nearT t (nearT t n) = nearT t n := by
  unfold nearT mn mx
  repeat' split
  all_goals omega
theorem within_set {l : List S48} {V : List Int} {B : List Bool} {L : List Int} (h : Within l V B L) (j : Nat) (hj : j < l.length) (n : Int) :
    Within l (V.set j (nearT l[j] n)) (B.set j (!l[j].f1 && nearT l[j] n != n)) (L.set j n) := by
  obtain ⟨h1, h2, h3, h4⟩ := h
  refine ⟨by simpa using h1, by simpa using h2, by simpa using h3, fun i hi => ?_⟩
  by_cases e : i = j
  · subst e
    simp only [List.getD_eq_getElem?_getD, List.getElem?_set_self' , List.getElem?_eq_getElem (show i < V.length by omega), List.getElem?_eq_getElem (show i < B.length by omega), List.getElem?_eq_getElem (show i < L.length by omega)]
    simp
  · have := h4 i hi
    simp only [List.getD_eq_getElem?_getD, List.getElem?_set_ne (Ne.symm e)] at this ⊢
    exact this
theorem told_within (l : List S48) (out : Bool) : ∀ (cs : List S46) (V : List Int) (B : List Bool) (L V' : List Int) (B' : List Bool), toldGo l out cs V B = (V', B', 0) → Within l V B L →
    Within l V' B' (lastGo l cs L) ∧ ∀ c ∈ cs, 0 ≤ firstFrom (tagIs c.f0) 0 l ∧ (l.getD (firstFrom (tagIs c.f0) 0 l).toNat z48).f1 = out := by
  intro cs
  induction cs with
  | nil =>
    intro V B L V' B' h hw
    unfold toldGo at h
    simp only [Prod.mk.injEq] at h
    obtain ⟨rfl, rfl, _⟩ := h
    exact ⟨hw, fun c hc => by simp at hc⟩
  | cons c cs ih =>
    intro V B L V' B' h hw
    unfold toldGo at h
    split at h
    · simp at h
    · rename_i hn
      have h0 : ¬ firstFrom (tagIs c.f0) 0 l < 0 := fun h => hn (.inl h)
      have ho : (l.getD (firstFrom (tagIs c.f0) 0 l).toNat z48).f1 = out := Classical.byContradiction fun h => hn (.inr h)
      have hr := firstFrom_range (tagIs c.f0) l 0
      obtain ⟨j, hj⟩ : ∃ j : Nat, firstFrom (tagIs c.f0) 0 l = j := ⟨(firstFrom (tagIs c.f0) 0 l).toNat, by omega⟩
      have hjl : j < l.length := by omega
      have hg : l.getD (firstFrom (tagIs c.f0) 0 l).toNat z48 = l[j] := by rw [hj]; exact getD_at l _ j hjl
      rw [hg, hj, Int.toNat_natCast] at h
      obtain ⟨q1, q2⟩ := ih _ _ (L.set j c.f1) V' B' h (within_set hw j hjl c.f1)
      refine ⟨?_, fun d hd => ?_⟩
      · unfold lastGo
        rw [hj, Int.toNat_natCast]
        exact q1
      · rcases List.mem_cons.1 hd with rfl | hd
        · exact ⟨by omega, ho⟩
        · exact q2 d hd
theorem within_rightFrom (l : List S48) (hle : ∀ j (hj : j < l.length), l[j].f2 ≤ l[j].f3) {V : List Int} {B : List Bool} {L : List Int} (h : Within l V B L) : ∀ (f i : Nat), rightFrom l V B f i = true := by
  intro f
  induction f with
  | zero => intro i; rfl
  | succ f ih =>
    intro i
    unfold rightFrom
    split
    · rename_i hi
      obtain ⟨h1, h2⟩ := h.2.2.2 i hi
      rw [ih, Bool.and_true]
      unfold rightAt
      rw [h1, h2, near_near (hle i hi)]
      cases l[i].f1 <;> simp
    · rfl
theorem within_right {l : List S48} (hc : checkZ l = 0) {V : List Int} {B : List Bool} {L : List Int} (h : Within l V B L) : rightB l V B = true := by
  unfold rightB
  rw [hc, h.1, h.2.1, within_rightFrom l (fun j hj => ((check_ok hc).2 j hj).1) h]
  simp
theorem within_new {l : List S48} (hc : checkZ l = 0) (L : List Int) (hL : l.length ≤ L.length) (hv : ∀ i, i < l.length → L.getD i 0 = (l.map (nearT · 0)).getD i 0) : Within l (l.map (nearT · 0)) (List.replicate l.length false) L := by
  refine ⟨by simp, by simp, hL, fun i hi => ?_⟩
  have e : (l.map (nearT · 0)).getD i 0 = nearT l[i] 0 := by simp [List.getD_eq_getElem?_getD, hi]
  have hle := ((check_ok hc).2 i hi).1
  rw [hv i hi, e, near_near hle]
  refine ⟨rfl, ?_⟩
  simp [List.getD_eq_getElem?_getD, hi]
/-- What the law asks of a tag at the end. -/
theorem within_end {t : S48} (h : t.f2 ≤ t.f3) (n : Int) : (n < t.f2 → nearT t n = t.f2) ∧ (t.f3 < n → nearT t n = t.f3) ∧ (t.f2 ≤ n → n ≤ t.f3 → nearT t n = n) := by
  unfold nearT mn mx
  refine ⟨fun h => ?_, fun h => ?_, fun h h' => ?_⟩
  all_goals (repeat' split) <;> omega
/-- One call: what it answers. -/
structure TurnOk (l : List S48) (V : List Int) (B : List Bool) (L : List Int) (cs : List S46) (out : Bool) (r : List Int × List Bool × Int) : Prop where
  lens : r.1.length ≤ V.length ∧ r.2.1.length ≤ B.length
  good : r.2.2 = 0 → Within l r.1 r.2.1 (lastGo l cs L) ∧ ∀ c ∈ cs, 0 ≤ firstFrom (tagIs c.f0) 0 l ∧ (l.getD (firstFrom (tagIs c.f0) 0 l).toNat z48).f1 = out
theorem turn_ok {l : List S48} (hc : checkZ l = 0) {V : List Int} {B : List Bool} {L : List Int} (h : Within l V B L) (cs : List S46) (out : Bool) : TurnOk l V B L cs out (toldZ l V B cs out) := by
  refine ⟨toldZ_len l V B cs out, fun h0 => ?_⟩
  unfold toldZ at h0 ⊢
  rw [if_pos (within_right hc h)] at h0 ⊢
  exact told_within l out cs V B L _ _ (by rw [← h0]) h
theorem latch_is (l : List S48) (hl : okTags l) (V : List Int) (B : List Bool) (hv : V.length ≤ 1000) (hb : B.length ≤ 1000) (cs : List S46) (hcs : cs.length ≤ 1000000000) : tags_Latch.f l V B cs = some (toldZ l V B cs false) := by
  unfold tags_Latch.f
  rw [told_is l hl V B hv hb cs hcs false]
  rfl
theorem drive_is (l : List S48) (hl : okTags l) (V : List Int) (B : List Bool) (hv : V.length ≤ 1000) (hb : B.length ≤ 1000) (cs : List S46) (hcs : cs.length ≤ 1000000000) : tags_Drive.f l V B cs = some (toldZ l V B cs true) := by
  unfold tags_Drive.f
  rw [told_is l hl V B hv hb cs hcs true]
  rfl
theorem new_any (l : List S48) (hl : l.length ≤ 140737488351232) (hs : ∀ t ∈ l, t.f0.size ≤ 140737488351232) : tags_New.f 10000 l = some (newZ l) := by
  by_cases h12 : 12 < l.length
  · have hc : checkZ l = 2 := by unfold checkZ; rw [if_pos h12]
    have hc' : tags_Check.f 10000 l = some 2 := by unfold tags_Check.f; rw [if_pos (by omega)]
    unfold tags_New.f newZ
    rw [hc', hc]
    rfl
  · generalize hk : 10000 = k
    unfold tags_New.f newZ
    rw [check_big l ⟨by omega, hs⟩ k (by omega)]
    simp only [Option.bind_some]
    by_cases h : checkZ l = 0
    · have := (check_ok h).1
      rw [if_pos h, if_pos h, if_pos (by omega), if_pos (by omega)]
      have := new_loop l (by omega) l.length 0 k [] (List.replicate l.length false) (by omega) (by omega) rfl (by omega)
      simpa using this
    · rw [if_neg h, if_neg h]
theorem small_any (l : List S48) : malthouselaw08_small.f 10000 l = some (smallB l) := small_is l 10000 (by omega)
end Go.Proofs.YtbmdhmmahmdccaaDoor.Print
/-! ### RdKd -/
namespace Go.Proofs.YtbmdhmmahmdccaaDoor
open Go.RowKit Go.Proofs.YtbmdhmmahmdccaaDoorW.PrintWords
/-- A row that came in, its elements turned. -/
theorem C_of_row {α β : Type} {n : Nat} {R : Rd α} {d : Kd β} (g : α → β) {w : World} {A : Option Addr} {xs : List α} (hn : d.sz = n) (hm : xs.length ≤ 9223372036854775807) (hx : rdRow n R w A xs) (hc : ∀ es x, es.length = n → R w es x → d.K w (g x) es) :
    Kd.C d w A (xs.map g).length (xs.map g) := by
  subst hn
  refine ⟨rfl, by rw [List.length_map]; omega, fun h0 => ?_⟩
  rw [List.length_map] at h0
  obtain ⟨ad, es, hA, _, _, _⟩ := hx 0 _ (List.getElem?_eq_getElem h0)
  refine ⟨ad, hA, fun j p hj => ?_⟩
  rw [List.getElem?_map] at hj
  cases hx' : xs[j]? with
  | none => rw [hx'] at hj; simp at hj
  | some x =>
    rw [hx'] at hj
    obtain rfl := Option.some.inj hj
    obtain ⟨ad', es', hA', hl, hcs, hR⟩ := hx j x hx'
    obtain rfl := Option.some.inj (hA.symm.trans hA')
    refine ⟨es', hl, hc es' x hl hR, fun i u hu => ?_⟩
    have := hcs i u hu
    rwa [Go.Deep.add_add] at this
/-- What holds of every element's reading. -/
theorem row_all {α : Type} {n : Nat} {R : Rd α} {w : World} {A : Option Addr} {xs : List α} (P : α → Prop) (hx : rdRow n R w A xs) (hc : ∀ es x, R w es x → P x) : ∀ x ∈ xs, P x := by
  intro x h
  obtain ⟨j, hj⟩ := List.getElem?_of_mem h
  obtain ⟨_, es, _, _, _, hR⟩ := hx j x hj
  exact hc es x hR
theorem len2 {es : List Value} (h : es.length = 2) : ∃ a b, es = [a, b] := by match es, h with | [a, b], _ => exact ⟨a, b, rfl⟩
theorem len4 {es : List Value} (h : es.length = 4) : ∃ a b c d, es = [a, b, c, d] := by match es, h with | [a, b, c, d], _ => exact ⟨a, b, c, d, rfl⟩
end Go.Proofs.YtbmdhmmahmdccaaDoor
/-! ### TgIn -/
namespace Go.Proofs.YtbmdhmmahmdccaaDoor.Print
open Go.RowKit Go.Proofs.YtbmdhmmahmdccaaDoorW.PrintWords Go.Proofs.YtbmdhmmahmdccaaDoorW.PrintLast Go.Proofs.YtbmdhmmahmdccaaDoorW.PrintMore
set_option linter.unusedSimpArgs false
set_option linter.unusedVariables false
abbrev TagR := ByteArray × Bool × Int × Int × Unit
def rTag : Rd TagR := rdPair 1 rdStr (rdPair 1 rdBool (rdPair 1 (rdInt .i64) (rdPair 1 (rdInt .i64) rdUnit)))
def gTag (x : TagR) : S48 := ⟨x.1, x.2.1, x.2.2.1, x.2.2.2.1⟩
abbrev CellR := ByteArray × Int × Unit
def rCell : Rd CellR := rdPair 1 rdStr (rdPair 1 (rdInt .i64) rdUnit)
def gCell (x : CellR) : S46 := ⟨x.1, x.2.1⟩
section
variable {H : Type} (enc : TypeId × Value → H) (w : World)
theorem tag_opens : Opens enc Tryd.prog w 48 rTag := opens_struct Tryd.underlying48 (opens_cons rfl (by kernel_rfl) (opens_str Tryd.underlying9) (opens_cons rfl (by kernel_rfl) (opens_bool Tryd.underlying4) (opens_cons rfl (by kernel_rfl) (opens_int Tryd.underlying3) (opens_cons rfl (by kernel_rfl) (opens_int Tryd.underlying3) opens_nil))))
theorem tags_opens : Opens enc Tryd.prog w 22 (rdSl 4 40 rTag) := opens_sl Tryd.underlying22 (by kernel_rfl) (by kernel_rfl) (tag_opens enc w)
theorem cell_opens : Opens enc Tryd.prog w 46 rCell := opens_struct Tryd.underlying46 (opens_cons rfl (by kernel_rfl) (opens_str Tryd.underlying9) (opens_cons rfl (by kernel_rfl) (opens_int Tryd.underlying3) opens_nil))
theorem cells_opens : Opens enc Tryd.prog w 36 (rdSl 2 24 rCell) := opens_sl Tryd.underlying36 (by kernel_rfl) (by kernel_rfl) (cell_opens enc w)
end
theorem tag_K {w : World} {es : List Value} {x : TagR} (hl : es.length = 4) (h : rTag w es x) : k48.K w (gTag x) es := by
  obtain ⟨a, b, c, d, rfl⟩ := len4 hl
  obtain ⟨⟨h1, _⟩, h2, ⟨h3, _⟩, ⟨h4, _⟩, _⟩ := h
  simp [rdBool] at h1 h2 h3 h4
  subst h1 h2 h3 h4
  exact k48_mk w (gTag x)
theorem cell_K {w : World} {es : List Value} {x : CellR} (hl : es.length = 2) (h : rCell w es x) : k46.K w (gCell x) es := by
  obtain ⟨a, b, rfl⟩ := len2 hl
  obtain ⟨⟨h1, _⟩, ⟨h2, _⟩, _⟩ := h
  simp at h1 h2
  subst h1 h2
  exact k46_mk w (gCell x)
theorem C_tags {w : World} {A : Option Addr} {xs : List TagR} (hm : xs.length ≤ 9223372036854775807) (hx : rdRow 4 rTag w A xs) : Kd.C k48 w A (xs.map gTag).length (xs.map gTag) := C_of_row gTag rfl hm hx (fun _ _ hl h => tag_K hl h)
theorem C_cells {w : World} {A : Option Addr} {xs : List CellR} (hm : xs.length ≤ 9223372036854775807) (hx : rdRow 2 rCell w A xs) : Kd.C k46 w A (xs.map gCell).length (xs.map gCell) := C_of_row gCell rfl hm hx (fun _ _ hl h => cell_K hl h)
end Go.Proofs.YtbmdhmmahmdccaaDoor.Print
/-! ### Sr -/
namespace Go.Proofs.YtbmdhmmahmdccaaDoor
open Go.RowKit
section
variable {P : Program} {ops : Array Oper} {a : Act} {w : World} {Q : Exit → Act → World → Prop}
theorem ge_store_row {S : List Nat} {z9 : Nat} {i : Nat} {f : Bool} {oi : Oper} {T : List (Nat × Bool × Bool)} {N : Nat} {env : List (Nat × Value)}
    (hi : ops[i]? = some oi) (hdst : oi.dst = none) (hw : L.wantE ops env oi = some true) (ty : TypeId) (x y : Operand) (ho : oi.op = .store ty x y)
    (g : Nat) (cells : Array Value) (hx : L.evE a env x = .pointer (some ⟨g, 0, none⟩)) (hy : L.evE a env y = .agg cells)
    (t : TypeId) (old : Array Value) (hg : w.heap[g]? = some (.cells old t (0, 0))) (hsz : (P.info? ty).map (·.size) = some cells.size) (hold : old.size = cells.size) (h1 : ∀ v ∈ cells.toList, v.oneCell' = true) (hS : g ∈ S)
    (h : ∀ w', Hid (w'.heap[g]? = some (.cells cells t (0, 0))) → Only [g] w w' → L.GrowE P ops Q S z9 T a N env w') : L.GrowE P ops Q S z9 ((i, f, true) :: T) a N env w := by
  have ho' : Only [g] w (w.setRow g cells) := (Only.refl _ _).setRow (by simp) _
  refine ge_store (w' := w.setRow g cells) hi hdst hw ?_ (ho'.mono (by simpa using hS)) (h _ (setRow_heap w g old cells t _ hg) ho')
  unfold execOp
  simp only [ho, hx, hy, Instr.storeAt, Instr.sureAddr, Sem.run_bind, Sem.run_pure, Result.andThen_ok, run_storeVar_row w g t ty old cells hg hsz hold (Array.all_eq_true_iff_forall_mem.2 (fun v hv => h1 v (by simpa using hv)))]
/-- What is known so far, by a letter. -/
theorem ge_freeze {S : List Nat} {z9 : Nat} {T : List (Nat × Bool × Bool)} {N : Nat} {env : List (Nat × Value)} (h : ∀ E, E = env → L.GrowE P ops Q S z9 T a N E w) : L.GrowE P ops Q S z9 T a N env w := h env rfl
theorem ge_act {S : List Nat} {z9 : Nat} {T : List (Nat × Bool × Bool)} {N : Nat} {env : List (Nat × Value)} (h : ∀ b, b = a → L.GrowE P ops Q S z9 T b N env w) : L.GrowE P ops Q S z9 T a N env w := h a rfl
end
end Go.Proofs.YtbmdhmmahmdccaaDoor
/-! ### TgWalk6 -/
namespace Go.Proofs.YtbmdhmmahmdccaaDoor.Print
open Go.RowKit Go.Proofs.YtbmdhmmahmdccaaDoorW.PrintWords Go.Proofs.YtbmdhmmahmdccaaDoorW.PrintLast Go.Proofs.YtbmdhmmahmdccaaDoorW.PrintMore Go.Lib
set_option linter.unusedSimpArgs false
set_option linter.unusedVariables false
abbrev TurnR := Bool × List CellR × Unit
def rTurn : Rd TurnR := rdPair 1 rdBool (rdPair 1 (rdSl 2 24 rCell) rdUnit)
theorem turns_opens {H : Type} (enc : TypeId × Value → H) (w : World) : Opens enc Tryd.prog w 41 (rdSl 2 32 rTurn) :=
  opens_sl Tryd.underlying41 (by kernel_rfl) (by kernel_rfl) (opens_struct Tryd.underlying44 (opens_cons rfl (by kernel_rfl) (opens_bool Tryd.underlying4) (opens_cons rfl (by kernel_rfl) (cells_opens enc w) opens_nil)))
theorem turn_in {w : World} {A : Option Addr} {xs : List TurnR} (h : rdRow 2 rTurn w A xs) (k : Nat) (hk : k < xs.length) :
    ∃ ad Ac cc, A = some ad ∧ CellsAt w (ad.add (k * 2)) [.bool xs[k].1, .slice Ac (xs[k].2.1.map gCell).length cc] ∧ (xs[k].2.1.map gCell).length ≤ cc ∧ cc * 24 ≤ 140737488351232 ∧ Kd.C k46 w Ac (xs[k].2.1.map gCell).length (xs[k].2.1.map gCell) := by
  obtain ⟨ad, es, h1, h2, h3, h4⟩ := h k _ (List.getElem?_eq_getElem hk)
  obtain ⟨a, b, rfl⟩ := len2 h2
  obtain ⟨e1, ⟨Ac, cc, e2, hl, hb, hm, hr⟩, _⟩ := h4
  simp [rdBool] at e1 e2
  subst e1 e2
  refine ⟨ad, Ac, cc, h1, ?_, by rw [List.length_map]; exact hl, hb, C_cells (by omega) hr⟩
  rw [List.length_map]
  exact h3
theorem last_set {w : World} {g : Nat} {M : List Int} (h : w.heap[g]? = some (.cells (M.map (Value.int .i64)).toArray 42 (0, 0))) (k : Nat) (v : Int) :
    (w.setCell ⟨g, k, none⟩ (.int .i64 v)).heap[g]? = some (.cells ((M.set k v).map (Value.int .i64)).toArray 42 (0, 0)) := by
  rw [heap_setCell_same w g k _ _ _ h, List.map_set]
  simp
theorem last_at {w : World} {g : Nat} {M : List Int} (h : w.heap[g]? = some (.cells (M.map (Value.int .i64)).toArray 42 (0, 0))) (k : Nat) (hk : k < M.length) : w.cell? ⟨g, k, none⟩ = some (.int .i64 (M.getD k 0)) :=
  (cell_of_row w _ k _ _ _ h).trans (by rw [List.getElem?_toArray, List.getElem?_map, List.getElem?_eq_getElem hk, List.getD_eq_getElem?_getD, List.getElem?_eq_getElem hk]; rfl)
theorem ints_keep {w w' : World} {base : Nat} {v : Value} {xs : List Int} {S : List Nat} (h : Kd.R (Kd.int .i64) 3 w base (fun _ => True) v xs) (ho : Only S w w') (hS : ∀ k ∈ S, k < base) : Kd.R (Kd.int .i64) 3 w' base (fun _ => True) v xs :=
  R_of_ownsRow (ownsRow_only (own_of_R h) ho (fun k hk hm => by have := (ownsRow_lt (own_of_R h) hk).1; have := hS k hm; omega))
theorem bools_keep {w w' : World} {base : Nat} {v : Value} {xs : List Bool} {S : List Nat} (h : Kd.R Kd.bool 4 w base (fun _ => True) v xs) (ho : Only S w w') (hS : ∀ k ∈ S, k < base) : Kd.R Kd.bool 4 w' base (fun _ => True) v xs :=
  R_of_ownsRow (ownsRow_only (own_of_R h) ho (fun k hk hm => by have := (ownsRow_lt (own_of_R h) hk).1; have := hS k hm; omega))
def zArr : Value := .agg (Array.replicate 12 (.int .i64 0))
theorem infoArr : (Tryd.prog.info? 42).map (fun i => (i.zero, i.size, i.bytes)) = some (some zArr, 12, 96) := by kernel_rfl
set_option maxHeartbeats 8000000 in
set_option maxRecDepth 100000 in
theorem tagsWithin_walk (A0 : Option Addr) (cap0 : Nat) (y0 : List TagR) (A1 : Option Addr) (cap1 : Nat) (y1 : List TurnR) (w : World) (hl0 : y0.length ≤ cap0) (hb0 : cap0 * 40 ≤ 140737488351232) (hr0 : rdRow 4 rTag w A0 y0) (hl1 : y1.length ≤ cap1) (hb1 : cap1 * 32 ≤ 140737488351232) (hr1 : rdRow 2 rTurn w A1 y1) (hT : Tabs w) :
    Calls Tryd.prog 6 #[.slice A0 y0.length cap0, .slice A1 y1.length cap1] w fun e w' => e = .returned (.bool true) ∧ Below w.heap.size w w' := by
  have hnm : ∀ t ∈ y0.map gTag, t.f0.size ≤ 140737488351232 := by
    intro t ht
    obtain ⟨x, hx, rfl⟩ := List.mem_map.1 ht
    exact row_all (fun x => x.1.size ≤ 140737488351232) hr0 (fun es x h => h.1.2) x hx
  have hc0 := C_tags (by omega) hr0
  have hln : (y0.map gTag).length = y0.length := List.length_map ..
  rw [← hln] at hl0 ⊢
  generalize y0.map gTag = l at *
  have hll : l.length ≤ 140737488351232 := by omega
  have HC := Lib.hid hc0
  have HTB := Lib.hid hT
  have HNM := Lib.hid hnm
  have HIN := Lib.hid hr1
  have HAW := Lib.hid (fun (W : World) (hW : Tabs W) => malthouselaw08_awake.calls true W hW rfl)
  have hu := Tryd.underlying48
  have hu2 := Tryd.underlying28
  have hu3 := Tryd.underlying44
  have hu4 := Tryd.underlying46
  clear hT hc0 hr0 hnm hr1 hln
  obtain ⟨sm, hsm⟩ : ∃ b, b = smallB l := ⟨_, rfl⟩
  have HSM := Lib.hid hsm
  have hnew := new_any l hll HNM.out
  obtain ⟨Z, hZ⟩ : ∃ Z, Z = newZ l := ⟨_, rfl⟩
  rw [← hZ] at hnew
  have HZ := Lib.hid hZ
  obtain ⟨V0, B0, E0⟩ := Z
  have HNEW := Lib.hid hnew
  clear hsm hnew hZ
  go_enter Tryd.func6, Tryd.ntmps6
  go_wp2_with (go_at_call 9; refine (HAW.out _ HTB.out).mono ?_; rintro e wa ⟨rfl, hba⟩; have HBA := Lib.hid hba; clear hba; refine (fun (h : Hid _) => h.out) ?_)
  refine Lib.hid ?_
  go_wp2_with (go_at_call 10; refine (malthouselaw08_small.calls 10000 A0 cap0 l sm _ (Kd.C_below HC.out HBA.out) hl0 (by rw [small_any, HSM.out])).mono ?_; rintro e wb ⟨rfl, hbb⟩; have HBB := Lib.hid (below_then HBA.out HBA.out.size hbb.below); clear hbb; refine (fun (h : Hid _) => h.out) ?_)
  refine Lib.hid ?_
  go_wp2_with (go_at_call 11; refine (tags_New.calls 10000 A0 cap0 l V0 B0 E0 _ (Kd.C_below HC.out HBB.out) hl0 (HTB.out.below HBB.out) HNEW.out).mono ?_; rintro e wc ⟨v0, v1, rfl, hR, hR', hb⟩; obtain ⟨Av, cv, rfl, hcv, hC⟩ := Kd.R_reads hR; obtain ⟨Ab, cb, rfl, hcb, hC'⟩ := Kd.R_reads hR'; have HV := Lib.hid hC; have HB := Lib.hid hC'; have HBC := Lib.hid (below_then HBB.out HBB.out.size hb); clear hR hR' hC hC' hb; refine (fun (h : Hid _) => h.out) ?_)
  refine Lib.hid ?_
  have hz := HZ.out
  unfold newZ at hz
  by_cases hch : checkZ l = 0
  case neg =>
    rw [if_neg hch] at hz
    simp only [Prod.mk.injEq] at hz
    obtain ⟨rfl, rfl, rfl⟩ := hz
    cases sm
    · go_wp2
      go_ret
      exact ⟨rfl, HBC.out.alloc HBC.out.size _⟩
    · go_wp2
      go_ret
      exact ⟨rfl, HBC.out.alloc HBC.out.size _⟩
  rw [if_pos hch] at hz
  simp only [Prod.mk.injEq] at hz
  obtain ⟨ev, eb, rfl⟩ := hz
  have hl12 := (check_ok hch).1
  have hl12' : (l.length : Int) ≤ 12 := by omega
  have hvl : V0.length = l.length := by rw [ev]; simp
  have hbl : B0.length = l.length := by rw [eb]; simp
  have HCH := Lib.hid hch
  have HEV := Lib.hid ev
  have HEB := Lib.hid eb
  have HVL := Lib.hid hvl
  have HBL := Lib.hid hbl
  clear hch ev eb hvl hbl HZ HNEW
  cases sm with
  | false =>
    go_wp2
    go_ret
    exact ⟨rfl, HBC.out.alloc HBC.out.size _⟩
  | true =>
  by_cases hbig : 100 < y1.length
  · have hbig' : (100 : Int) < y1.length := by omega
    go_wp2
    go_ret
    exact ⟨rfl, HBC.out.alloc HBC.out.size _⟩
  have hbig' : (y1.length : Int) ≤ 100 := by omega
  go_wp2_with (first
    | (with_reducible refine wpList_alloc_new rfl 42 rfl zArr 12 96 infoArr ?_; intro w5 hh hs ho; have HH := Lib.hid hh; have HS := Lib.hid hs; have HO := Lib.hid ho; clear hh hs ho; refine (fun (h : Hid _) => h.out) ?_))
  refine Lib.hid ?_
  have HX5 := Lib.hid (HO.out.heap (heap_alloc_new wc (.cells #[.slice Av V0.length cv, .slice Ab B0.length cb] 28)) (by simp))
  have HL5 := Lib.hid (show w5.heap[wc.heap.size + 1]? = some (.cells (Array.replicate 12 (.int .i64 0)) 42 (0, 0)) from by
    have := HH.out.out
    simpa [zArr, Value.cells] using this)
  have HO5 := Lib.hid (show Only [] wc w5 from ((Only.refl _ _).alloc _).trans HO.out)
  have HB5 := Lib.hid (below_then HBC.out HBC.out.size HO5.out.nil_below)
  have HBW := Lib.hid (show Below wc.heap.size wc w5 from HO5.out.nil_below)
  have HGI := Lib.hid (show w.heap.size ≤ wc.heap.size from HBC.out.size)
  clear HH HS HO HO5 HBB HBA
  generalize hgi : wc.heap.size = gi at *
  have HGE := Lib.hid hgi
  have HN5 := Lib.hid (show gi + 1 < w5.heap.size from heap_lt HL5.out)
  clear hgi
  go_wp2
  go_loopw [10] (fun i wr => ∃ (k : Nat) (M : List Int), k ≤ l.length ∧ i = .int .i64 k ∧ Hid (M.length = 12) ∧ Hid (∀ j, j < k → M.getD j 0 = V0.getD j 0) ∧ Hid (wr.heap[gi + 1]? = some (.cells (M.map (Value.int .i64)).toArray 42 (0, 0))) ∧ Hid (Only [gi + 1] w5 wr)) (fun i _ => l.length - (Go.RowKit.intOf i).toNat)
  case atStart => exact ⟨0, List.replicate 12 0, by omega, rfl, Lib.hid (by simp), Lib.hid (fun j hj => by omega), Lib.hid (by rw [HL5.out]; rfl), Lib.hid (Only.refl _ _)⟩
  case round =>
    obtain ⟨k, M, hk, rfl, HLL, HLV, HL, HO⟩ := hrel
    have HB6 := Lib.hid (show Below gi wc wr from HBW.out.trans (HO.out.below (by have := HN5.out; omega) (by simp)))
    have HV6 := Lib.hid (Kd.C_below HV.out (by rw [HGE.out]; exact HB6.out))
    by_cases hlt : k < l.length
    · have hlt' : (k : Int) < l.length := by omega
      have hk0 : (0 : Int) ≤ k := by omega
      have hk12 : (k : Int) < 12 := by omega
      obtain ⟨a0, rfl, hi0⟩ := Kd.int_at HV6.out k (by have := HVL.out; omega)
      have hkv : (k : Int) < V0.length := by have := HVL.out; omega
      obtain ⟨v0, hv0⟩ : ∃ v, v = V0.getD k 0 := ⟨_, rfl⟩
      rw [← hv0] at hi0
      have HV0 := Lib.hid hv0
      have d0 : wr.cell? ⟨gi, 0, none⟩ = some (.slice (some a0) V0.length cv) := (cell_of_row wr gi 0 _ _ _ (HO.out.heap HX5.out (by simp))).trans rfl
      have z0 : wr.frozen? ⟨gi + 1, k, none⟩ = false := frozen_of_row wr _ k _ _ HL.out
      have y0 : ∃ u, wr.cell? ⟨gi + 1, k, none⟩ = some u := ⟨_, (cell_of_row wr _ k _ _ _ HL.out).trans (by rw [List.getElem?_toArray, List.getElem?_map, List.getElem?_eq_getElem (by have := HLL.out; omega)]; rfl)⟩
      obtain ⟨u0, y0⟩ := y0
      clear hv0
      go_wp2
      go_roundw
      case rel =>
        refine ⟨k + 1, M.set k v0, by omega, by go_num, Lib.hid (by simpa using HLL.out), ?_, ?_, ?_⟩
        · refine Lib.hid fun j hj => ?_
          by_cases e : j = k
          · subst e
            rw [← HV0.out, List.getD_eq_getElem?_getD, List.getElem?_set_self (by have := HLL.out; omega)]
            rfl
          · rw [List.getD_eq_getElem?_getD, List.getElem?_set_ne (Ne.symm e), ← List.getD_eq_getElem?_getD]
            exact HLV.out j (by omega)
        · exact Lib.hid (last_set HL.out k v0)
        · exact Lib.hid (HO.out.setCell (by simp) _)
      case measure => simp [Go.RowKit.intOf]; omega
    · obtain rfl : k = l.length := by omega
      have hW := within_new HCH.out M (by have := HLL.out; omega) (fun i hi => by rw [← HEV.out]; exact HLV.out i hi)
      rw [← HEV.out, ← HEB.out] at hW
      have HWN := Lib.hid hW
      have HX6 := Lib.hid (HO.out.heap HX5.out (by simp))
      have HW6 := Lib.hid (Kd.C_below HB.out (by rw [HGE.out]; exact HB6.out))
      have HB7 := Lib.hid (show Below w.heap.size w wr from HB5.out.trans (HO.out.below HB5.out.size (by have := HGI.out; simp; omega)))
      have HAV := Lib.hid hcv
      have HAB := Lib.hid hcb
      clear hcv hcb hW HLV HO HX5 HL5 HBW HGE HN5 HV HB HB5 HBC HB6 HEV HEB HVL HBL hlt hk
      go_wp2
      go_loopw [11] (fun i wr => ∃ (k : Nat) (V : List Int) (B : List Bool) (Av : Option Addr) (cv : Nat) (Ab : Option Addr) (cb : Nat) (M : List Int), k ≤ y1.length ∧ i = .int .i64 k ∧ Hid (V.length ≤ cv) ∧ Hid (B.length ≤ cb) ∧ Hid (Within l V B M) ∧ Hid (M.length = 12) ∧ Hid (Kd.C (Kd.int .i64) wr Av V.length V) ∧ Hid (Kd.C Kd.bool wr Ab B.length B) ∧
        Hid (wr.heap[gi]? = some (.cells #[.slice Av V.length cv, .slice Ab B.length cb] 28 (0, 0))) ∧ Hid (wr.heap[gi + 1]? = some (.cells (M.map (Value.int .i64)).toArray 42 (0, 0))) ∧ Hid (Below w.heap.size w wr)) (fun i _ => y1.length - (Go.RowKit.intOf i).toNat)
      case atStart => exact ⟨0, V0, B0, Av, cv, Ab, cb, M, by omega, rfl, HAV, HAB, HWN, HLL, HV6, HW6, HX6, HL, HB7⟩
      clear HWN HLL HV6 HW6 HX6 HL HB7 HAV HAB
      case round =>
        obtain ⟨k, V, B, Av, cv, Ab, cb, M, hk, rfl, HAV, HAB, HWN, HLL, HV, HW, HX, HL, HBW⟩ := hrel
        have hVl : V.length ≤ 12 := by have := HWN.out.1; omega
        have hBl : B.length ≤ 12 := by have := HWN.out.2.1; omega
        by_cases hlt : k < y1.length
        · have hlt' : (k : Int) < y1.length := by omega
          have hk0 : (0 : Int) ≤ k := by omega
          obtain ⟨ad, Ac, cc, rfl, hcs, hcl, hcb24, hCC⟩ := turn_in HIN.out k hlt
          have HCSW := Lib.hid hcs
          have HCCW := Lib.hid hCC
          have HCS := Lib.hid (hcs.only (Only.of_below HBW.out) (by simp))
          have HCC := Lib.hid (Kd.C_below hCC HBW.out)
          have HCL := Lib.hid hcl
          have hcsl : (y1[k].2.1.map gCell).length ≤ 140737488351232 := by omega
          clear hcs hCC hcl hcb24
          generalize y1[k].2.1.map gCell = cs at *
          generalize y1[k].1 = ot at *
          obtain ⟨fr, hfr⟩ : ∃ b, b = fairB V B cs := ⟨_, rfl⟩
          have HFR := Lib.hid hfr
          have HCF := Lib.hid (show ∀ W, Below wr.heap.size wr W → Calls Tryd.prog 18 #[.agg #[.slice Av V.length cv, .slice Ab B.length cb], .slice Ac cs.length cc] W fun e w' => e = .returned (.bool fr) ∧ Below W.heap.size W w' from fun W hb =>
            malthouselaw08_fair.calls 2000 Av cv V Ab cb B Ac cc cs fr W (Kd.C_below HV.out hb) HAV.out (Kd.C_below HW.out hb) HAB.out (Kd.C_below HCC.out hb) HCL.out (by rw [fair_is _ _ _ _ (by omega), HFR.out]))
          clear hfr
          go_wp2
          refine L.grow_start [] 8 ((0, true, false) :: (1, true, false) :: (2, true, true) :: (3, true, true) :: (4, true, true) :: (5, true, true) :: (6, false, true) :: (7, true, true) :: []) (by kernel_rfl) (([], [7], some 67) :: ([], [1], some 68) :: ([], [11], some 69) :: ([1, 2], [68, 69], some 70) :: ([3], [70], some 71) :: ([4], [71], some 72) :: ([0, 5], [67, 72], some 73) :: ([6, 6, 0, 1, 2, 3, 4, 5, 6], [73], some 12) :: []) (by kernel_rfl) (by kernel_rfl) (n := 8) rfl (by kernel_rfl) (fun _ _ _ _ _ h => h) (fun wg hog => ?_)
          refine L.growe_start (N := 319) (by rfl) ?_
          have e0 : ∀ w', Only [] wg w' → w'.cell? ⟨gi, 0, none⟩ = some (.slice Av V.length cv) := fun w' q => (cell_of_row w' gi 0 _ _ _ ((hog.trans q).heap HX.out (by simp))).trans rfl
          have e1 : ∀ w', Only [] wg w' → w'.cell? ⟨gi, 1, none⟩ = some (.slice Ab B.length cb) := fun w' q => (cell_of_row w' gi 1 _ _ _ ((hog.trans q).heap HX.out (by simp))).trans rfl
          have f1 : ∀ w', Only [] wg w' → w'.cell? ⟨(ad.add (k * 2)).block, (ad.add (k * 2)).off + 1, none⟩ = some (.slice Ac cs.length cc) := fun w' q => cellsAt_field (HCS.out.only (hog.trans q) (by simp)) 1 (by omega) rfl
          have HOG := Lib.hid hog
          clear hog
          iterate 6 (first | (refine L.ge_off rfl rfl rfl (by rfl) ?_) | (refine L.ge_move rfl rfl rfl (by rfl) rfl (by simp [L.evE, L.lk, Act.eval]; rfl) ?_) | (refine L.ge_pick rfl rfl rfl (by rfl) rfl (by simp [L.evE, L.lk, Act.eval]; rfl) (by simp [L.evE, L.lk, Act.eval]; rfl) ?_) | (refine L.ge_val rfl rfl rfl (by rfl) (by intro w' hw'; simp [execOp, L.evE, L.lk, Act.eval]; go_simp; rfl) ?_))
          refine L.ge_call rfl rfl rfl (by rfl) rfl (by simp [L.evE, L.lk, Act.eval]; rfl) (by go_simp) ?_
          refine (HCF.out wg HOG.out.nil_below).mono ?_
          rintro e w3 ⟨rfl, hb3⟩
          refine ⟨_, rfl, Only.of_below hb3, ?_⟩
          have HO3 := Lib.hid (HOG.out.trans (Only.of_below hb3))
          clear hb3 e0 e1 f1 HOG
          iterate 1 (first | (refine L.ge_off rfl rfl rfl (by rfl) ?_) | (refine L.ge_move rfl rfl rfl (by rfl) rfl (by simp [L.evE, L.lk, Act.eval]; rfl) ?_) | (refine L.ge_pick rfl rfl rfl (by rfl) rfl (by simp [L.evE, L.lk, Act.eval]; rfl) (by simp [L.evE, L.lk, Act.eval]; rfl) ?_) | (refine L.ge_val rfl rfl rfl (by rfl) (by intro w' hw'; simp [execOp, L.evE, L.lk, Act.eval]; go_simp; rfl) ?_))
          refine L.ge_done ?_
          simp only [L.puts, Act.put, goInt, List.setIfInBounds_toArray, List.set_cons_zero, List.set_cons_succ]
          have HOX := Lib.hid HO3.out
          have HBX := Lib.hid (below_then HBW.out HBW.out.size HO3.out.nil_below)
          cases fr with
          | false =>
            go_wp2
            go_ret
            exact ⟨rfl, HBX.out⟩
          | true =>
          have HFB := Lib.hid (fairB_ok HFR.out.symm)
          have q1 : w3.cell? ⟨(ad.add (k * 2)).block, (ad.add (k * 2)).off + 1, none⟩ = some (.slice Ac cs.length cc) := cellsAt_field (HCS.out.only HO3.out (by simp)) 1 (by omega) rfl
          by_cases h50 : 50 < cs.length
          · have h50' : (50 : Int) < cs.length := by omega
            go_wp2
            go_ret
            exact ⟨rfl, HBX.out⟩
          have h50' : (cs.length : Int) ≤ 50 := by omega
          have HSB := Lib.hid (smallB_ok HSM.out.symm)
          obtain ⟨Z, hZ⟩ : ∃ Z, Z = toldZ l V B cs ot := ⟨_, rfl⟩
          have hok := turn_ok HCH.out HWN.out cs ot
          rw [← hZ] at hok
          have HCD := Lib.hid (show ∀ W, Below wr.heap.size wr W → Calls Tryd.prog (if ot then 22 else 20) #[.slice A0 l.length cap0, .agg #[.slice Av V.length cv, .slice Ab B.length cb], .slice Ac cs.length cc] W fun e w' => ∃ v0_ v1_ : Value, e = .returned (.tuple #[.agg #[v0_, v1_], .int .i64 Z.2.2]) ∧ Kd.R (Kd.int .i64) 3 w' W.heap.size (fun _ => True) v0_ Z.1 ∧ Kd.R Kd.bool 4 w' W.heap.size (fun _ => True) v1_ Z.2.1 ∧ Below W.heap.size W w' from fun W hb => by
            have hcl := Kd.C_below (Kd.C_below HC.out HBW.out) hb
            cases ot with
            | true => exact tags_Drive.calls A0 cap0 l Av cv V Ab cb B Ac cc cs Z.1 Z.2.1 Z.2.2 W hcl hl0 (Kd.C_below HV.out hb) HAV.out (Kd.C_below HW.out hb) HAB.out (Kd.C_below HCC.out hb) HCL.out (HTB.out.below (below_then HBW.out HBW.out.size hb)) (by rw [drive_is l HSB.out.2.1 V B (by omega) (by omega) cs (by omega), ← hZ])
            | false => exact tags_Latch.calls A0 cap0 l Av cv V Ab cb B Ac cc cs Z.1 Z.2.1 Z.2.2 W hcl hl0 (Kd.C_below HV.out hb) HAV.out (Kd.C_below HW.out hb) HAB.out (Kd.C_below HCC.out hb) HCL.out (HTB.out.below (below_then HBW.out HBW.out.size hb)) (by rw [latch_is l HSB.out.2.1 V B (by omega) (by omega) cs (by omega), ← hZ]))
          have HTK := Lib.hid hok
          clear hok hZ
          obtain ⟨V', B', ff⟩ := Z
          have HGW := Lib.hid (show wr.heap.size ≤ w3.heap.size from HO3.out.size)
          have HGX := Lib.hid (show gi + 1 < w3.heap.size from heap_lt (HO3.out.heap HL.out (by simp)))
          have HO4 := Lib.hid (show Only [] wr (w3.alloc (.cells #[.slice Av V.length cv, .slice Ab B.length cb] 28)) from HO3.out.alloc _)
          have HX4 := Lib.hid (HO4.out.heap HX.out (by simp))
          have HL4 := Lib.hid (HO4.out.heap HL.out (by simp))
          have HG4 := Lib.hid (heap_alloc_new w3 (.cells #[.slice Av V.length cv, .slice Ab B.length cb] 28))
          have HGD := Lib.hid (show (ad.add (k * 2)).block < w3.heap.size from Nat.lt_of_lt_of_le (block_lt_of_cell (HCS.out 0 _ rfl)) HO3.out.size)
          have HCS4 := Lib.hid (HCS.out.only HO4.out (by simp))
          have p0 : (w3.alloc (.cells #[.slice Av V.length cv, .slice Ab B.length cb] 28)).cell? (ad.add (k * 2)) = some (.bool ot) := cellsAt_head HCS4.out rfl
          have r0 : w3.cell? ⟨gi, 0, none⟩ = some (.slice Av V.length cv) := (cell_of_row w3 gi 0 _ _ _ (HO3.out.heap HX.out (by simp))).trans rfl
          have r1 : w3.cell? ⟨gi, 1, none⟩ = some (.slice Ab B.length cb) := (cell_of_row w3 gi 1 _ _ _ (HO3.out.heap HX.out (by simp))).trans rfl
          cases ot with
            | true =>
              as_aux_lemma =>
              go_wp2
              generalize w3.alloc (.cells #[.slice Av V.length cv, .slice Ab B.length cb] 28) = w4 at *
              generalize w3.heap.size = gx at *
              refine L.grow_start [gx] 13 ((0, true, false) :: (1, true, false) :: (2, true, false) :: (3, true, true) :: (4, true, true) :: (5, true, true) :: (6, true, true) :: (7, false, true) :: (8, true, true) :: (9, true, false) :: (10, true, false) :: (11, false, true) :: (12, true, true) :: []) (by kernel_rfl) (([], [0], some 92) :: ([], [7], some 93) :: ([], [1], some 94) :: ([], [11], some 95) :: ([2, 3], [94, 95], some 96) :: ([4], [96], some 97) :: ([5], [97], some 98) :: ([0, 1, 6], [92, 93, 98], some 99) :: ([7], [99], some 91) :: ([8], [91], some 100) :: ([8], [91], some 101) :: ([9, 7, 0, 1, 2, 3, 4, 5, 6, 7, 8, 9], [14, 100], none) :: ([10, 11, 0, 1, 2, 3, 4, 5, 6, 7, 8, 9, 10, 11], [101], some 13) :: []) (by kernel_rfl) (by kernel_rfl) (n := 13) rfl (by kernel_rfl) (fun _ _ _ _ _ h => h) (fun wg hog => ?_)
              refine L.growe_start (N := 319) (by rfl) ?_
              have HOG := Lib.hid (show Only [gx] w4 wg from hog.mono (by simp))
              have HOA := Lib.hid (show Only [] wr wg from HO4.out.trans hog)
              have e0 : ∀ w', Only [gx] wg w' → w'.cell? ⟨gi, 0, none⟩ = some (.slice Av V.length cv) := fun w' q => (cell_of_row w' gi 0 _ _ _ ((HOG.out.trans q).heap HX4.out (by have := HGX.out; simp; omega))).trans rfl
              have e1 : ∀ w', Only [gx] wg w' → w'.cell? ⟨gi, 1, none⟩ = some (.slice Ab B.length cb) := fun w' q => (cell_of_row w' gi 1 _ _ _ ((HOG.out.trans q).heap HX4.out (by have := HGX.out; simp; omega))).trans rfl
              have f1 : ∀ w', Only [gx] wg w' → w'.cell? ⟨(ad.add (k * 2)).block, (ad.add (k * 2)).off + 1, none⟩ = some (.slice Ac cs.length cc) := fun w' q => cellsAt_field (CellsAt.only (HCS4.out.only hog (by simp)) q (by have := HGD.out; simp; omega)) 1 (by omega) rfl
              have HGG := Lib.hid (hog.heap HG4.out (by simp))
              have HLG := Lib.hid (hog.heap HL4.out (by simp))
              have HXG := Lib.hid (hog.heap HX4.out (by simp))
              clear hog
              iterate 7 (first | (refine L.ge_off rfl rfl rfl (by rfl) ?_) | (refine L.ge_move rfl rfl rfl (by rfl) rfl (by simp [L.evE, L.lk, Act.eval]; rfl) ?_) | (refine L.ge_pick rfl rfl rfl (by rfl) rfl (by simp [L.evE, L.lk, Act.eval]; rfl) (by simp [L.evE, L.lk, Act.eval]; rfl) ?_) | (refine L.ge_val rfl rfl rfl (by rfl) (by intro w' hw'; simp [execOp, L.evE, L.lk, Act.eval]; go_simp; rfl) ?_))
              refine L.ge_call rfl rfl rfl (by rfl) rfl (by simp [L.evE, L.lk, Act.eval]; rfl) (by go_simp) ?_
              refine (HCD.out wg HOA.out.nil_below).mono ?_
              rintro e w5 ⟨v0, v1, rfl, hR, hR', hb5⟩
              refine ⟨_, rfl, (Only.of_below hb5).mono (by simp), ?_⟩
              have HG5 := Lib.hid (show w5.heap[gx]? = some (.cells #[.slice Av V.length cv, .slice Ab B.length cb] 28 (0, 0)) from (Only.of_below hb5).heap HGG.out (by simp))
              have HO5 := Lib.hid (show Only [] wr w5 from HOA.out.trans (Only.of_below hb5))
              have HLT := Lib.hid (show gx < wg.heap.size from heap_lt HGG.out)
              obtain ⟨A9, c9, rfl⟩ := Kd.R_slice hR
              obtain ⟨B9, d9, rfl⟩ := Kd.R_slice hR'
              have HR5 := Lib.hid hR
              have HS5 := Lib.hid hR'
              clear hR hR' hb5 e0 e1 f1
              iterate 3 (first | (refine L.ge_off rfl rfl rfl (by rfl) ?_) | (refine L.ge_move rfl rfl rfl (by rfl) rfl (by simp [L.evE, L.lk, Act.eval]; rfl) ?_) | (refine L.ge_pick rfl rfl rfl (by rfl) rfl (by simp [L.evE, L.lk, Act.eval]; rfl) (by simp [L.evE, L.lk, Act.eval]; rfl) ?_) | (refine L.ge_val rfl rfl rfl (by rfl) (by intro w' hw'; simp [execOp, L.evE, L.lk, Act.eval]; go_simp; rfl) ?_))
              refine ge_store_row rfl rfl (by rfl) 28 (.tmp 14) (.tmp 100) rfl gx #[.slice A9 V'.length c9, .slice B9 B'.length d9] (by simp [L.evE, L.lk, Act.eval]) (by simp [L.evE, L.lk, Act.eval]) 28 _ HG5.out (by kernel_rfl) rfl (by simp [Value.oneCell']) (by simp) ?_
              intro w6 hh6 ho6
              have HG6 := Lib.hid hh6
              have HO6 := Lib.hid (show Only [gx] wr w6 from (HO5.out.mono (by simp)).trans ho6)
              have HR6 := Lib.hid (ints_keep HR5.out ho6 (by have := HLT.out; intro q hq; simp at hq; omega))
              have HS6 := Lib.hid (bools_keep HS5.out ho6 (by have := HLT.out; intro q hq; simp at hq; omega))
              obtain ⟨hcv6, hC6⟩ := Kd.R_reads' (ints_keep HR5.out ho6 (by have := HLT.out; intro q hq; simp at hq; omega)) |>.2
              obtain ⟨hcb6, hD6⟩ := Kd.R_reads' (bools_keep HS5.out ho6 (by have := HLT.out; intro q hq; simp at hq; omega)) |>.2
              clear hh6 ho6
              iterate 1 (first | (refine L.ge_off rfl rfl rfl (by rfl) ?_) | (refine L.ge_move rfl rfl rfl (by rfl) rfl (by simp [L.evE, L.lk, Act.eval]; rfl) ?_) | (refine L.ge_pick rfl rfl rfl (by rfl) rfl (by simp [L.evE, L.lk, Act.eval]; rfl) (by simp [L.evE, L.lk, Act.eval]; rfl) ?_) | (refine L.ge_val rfl rfl rfl (by rfl) (by intro w' hw'; simp [execOp, L.evE, L.lk, Act.eval]; go_simp; rfl) ?_))
              refine L.ge_done ?_
              simp only [L.puts, Act.put, goInt, List.setIfInBounds_toArray, List.set_cons_zero, List.set_cons_succ]
              have HO7 := Lib.hid (show Only [] wr w6 from HO6.out.pop HGW.out)
              have HX6 := Lib.hid (HO7.out.heap HX.out (by simp))
              have HL6 := Lib.hid (HO7.out.heap HL.out (by simp))
              have HB6 := Lib.hid (show Below w.heap.size w w6 from below_then HBW.out HBW.out.size HO7.out.nil_below)
              have HV6 := Lib.hid hC6
              have HW6 := Lib.hid hD6
              have HCV6 := Lib.hid hcv6
              have HCB6 := Lib.hid hcb6
              have HN6 := Lib.hid (show gx < w6.heap.size from heap_lt HG6.out)
              clear HV6 HW6 hC6 hD6 hcv6 hcb6 HR5 HS5 HG5 HO5 HXG HLG HGG HOA HOG HX4 HL4 HG4 HO4 HCS4 HOX HO3 HBX HCD HCF HFR HCS HCC q1 r0 r1 p0 HGD HGW
              by_cases hff : ff = 0
              · subst hff
                obtain ⟨hwn, hall⟩ := HTK.out.good rfl
                obtain ⟨MF, hMF⟩ : ∃ MF, MF = lastGo l cs M := ⟨_, rfl⟩
                rw [← hMF] at hwn
                have HWN6 := Lib.hid hwn
                have HALL := Lib.hid hall
                have HMF := Lib.hid hMF
                have HFL := Lib.hid (show MF.length = 12 from by rw [hMF, lastGo_len]; exact HLL.out)
                clear hwn hall HTK hMF
                go_wp2
                go_loopw [15] (fun i wq => ∃ (j : Nat) (N : List Int), j ≤ cs.length ∧ i = .int .i64 j ∧ Hid (N.length = 12) ∧ Hid (lastGo l (cs.drop j) N = MF) ∧ Hid (wq.heap[gi + 1]? = some (.cells (N.map (Value.int .i64)).toArray 42 (0, 0))) ∧ Hid (Only [gi + 1] w6 wq)) (fun i _ => cs.length - (Go.RowKit.intOf i).toNat)
                case atStart => exact ⟨0, M, by omega, rfl, HLL, Lib.hid HMF.out.symm, HL6, Lib.hid (Only.refl _ _)⟩
                case round =>
                  obtain ⟨j, N, hj, rfl, HNL, HLG, HN, HOQ⟩ := hrel
                  have HBQ := Lib.hid (show Below w.heap.size w wr from HB6.out.trans (HOQ.out.below HB6.out.size (by have := HGI.out; simp; omega)))
                  have b1 : wr.cell? ⟨(ad.add (k * 2)).block, (ad.add (k * 2)).off + 1, none⟩ = some (.slice Ac cs.length cc) := cellsAt_field (HCSW.out.below HBQ.out) 1 (by omega) rfl
                  by_cases hj2 : j < cs.length
                  · have hj2' : (j : Int) < cs.length := by omega
                    have hj0 : (0 : Int) ≤ j := by omega
                    obtain ⟨a2, c2, hA2, _, hK2, hcs2⟩ := Kd.C_cells (Kd.C_below HCCW.out HBQ.out) j hj2
                    obtain rfl := k46_open hK2
                    have HC2 := Lib.hid (show CellsAt wr (a2.add (j * 2)) _ from hcs2)
                    obtain ⟨hf0, hfo⟩ := HALL.out cs[j] (List.getElem_mem _)
                    have hlg := HLG.out
                    rw [List.drop_eq_getElem_cons hj2] at hlg
                    unfold lastGo at hlg
                    have hfr := firstFrom_range (tagIs cs[j].f0) l 0
                    have HFF := Lib.hid (find_is l cs[j].f0 (by omega))
                    generalize cs[j] = c at *
                    obtain ⟨j2, hj2e⟩ : ∃ j2 : Nat, firstFrom (tagIs c.f0) 0 l = j2 := ⟨(firstFrom (tagIs c.f0) 0 l).toNat, by omega⟩
                    rw [hj2e] at HFF hlg hfo hfr
                    have hjl : j2 < l.length := by omega
                    have hjl' : (j2 : Int) < l.length := by omega
                    have hj20 : (0 : Int) ≤ j2 := by omega
                    have hj12 : (j2 : Int) < 12 := by omega
                    rw [Int.toNat_natCast] at hlg hfo
                    rw [show l.getD j2 z48 = l[j2] from by have := getD_at l z48 j2 hjl; rwa [Int.toNat_natCast] at this] at hfo
                    have HLG2 := Lib.hid hlg
                    have HFO := Lib.hid hfo
                    obtain ⟨a3, c3, hA3, _, hK3, hcs3⟩ := Kd.C_cells (Kd.C_below HC.out HBQ.out) j2 hjl
                    obtain rfl := k48_open hK3
                    rw [hfo] at hcs3
                    have HC3 := Lib.hid (show CellsAt wr (a3.add (j2 * 4)) _ from hcs3)
                    have q0 : wr.cell? (a2.add (j * 2)) = some (.string c.f0) := cellsAt_head HC2.out rfl
                    subst hA2 hA3
                    clear HLG hlg hfo hfr hj2e hf0 hK2 hK3 hcs2 hcs3
                    go_wp2_with (go_at_call 16; refine (tags_Find.calls (some a3) cap0 l c.f0 j2 _ ?hr hl0 HFF.out).mono ?_; (case hr => exact Kd.C_below HC.out HBQ.out); rintro e w7 ⟨rfl, hb7⟩; have HB7 := Lib.hid hb7; clear hb7; refine (fun (h : Hid _) => h.out) ?_)
                    refine Lib.hid ?_
                    have HBR := Lib.hid (below_then HBQ.out HBQ.out.size HB7.out)
                    have HN7 := Lib.hid ((Only.of_below HB7.out).heap HN.out (by simp))
                    have HOR := Lib.hid (show Only [gi + 1] w6 w7 from HOQ.out.trans ((Only.of_below HB7.out).mono (by simp)))
                    go_wp2
                    refine L.grow_start [] 19 ((0, true, true) :: (1, true, true) :: (2, true, true) :: (3, true, true) :: (4, true, true) :: (5, true, true) :: (6, true, false) :: (7, true, false) :: (8, true, false) :: (9, true, false) :: (10, true, false) :: (11, true, false) :: (12, true, true) :: (13, true, true) :: (14, true, true) :: (15, true, true) :: (16, true, true) :: (17, true, true) :: (18, true, true) :: []) (by kernel_rfl) (([], [13], some 134) :: ([0], [134], some 135) :: ([1], [135], some 136) :: ([2], [16, 136], some 137) :: ([3, 2], [137, 136], some 138) :: ([4, 2, 2], [138, 136], some 139) :: ([5], [0, 139], some 140) :: ([5], [16, 139], some 141) :: ([6, 7, 5], [140, 141, 139], some 142) :: ([8, 5], [142, 139], some 143) :: ([9, 5], [143, 139], some 144) :: ([5], [1, 139], some 145) :: ([5], [11, 139], some 146) :: ([11, 12, 5], [145, 146, 139], some 147) :: ([13, 5], [147, 139], some 148) :: ([14, 5], [148, 139], some 149) :: ([10, 15, 5], [144, 149, 139], some 150) :: ([5, 16, 2], [139, 150, 136], some 151) :: ([2, 17], [136, 151], some 152) :: []) (by kernel_rfl) (by kernel_rfl) (n := 19) rfl (by kernel_rfl) (fun _ _ _ _ _ h => h) (fun wg hog => ?_)
                    refine L.growe_start (N := 319) (by rfl) ?_
                    have b0 : ∀ w', Only [] wg w' → w'.cell? (ad.add (k * 2)) = some (.bool true) := fun w' q => cellsAt_head ((HCSW.out.below HBR.out).only (hog.trans q) (by simp)) rfl
                    have t1 : ∀ w', Only [] wg w' → w'.cell? ⟨(a3.add (j2 * 4)).block, (a3.add (j2 * 4)).off + 1, none⟩ = some (.bool true) := fun w' q => cellsAt_field ((HC3.out.below HB7.out).only (hog.trans q) (by simp)) 1 (by omega) rfl
                    have b1 : wg.cell? ⟨(ad.add (k * 2)).block, (ad.add (k * 2)).off + 1, none⟩ = some (.slice (some a2) cs.length cc) := cellsAt_field ((HCSW.out.below HBR.out).only hog (by simp)) 1 (by omega) rfl
                    have q1 : wg.cell? ⟨(a2.add (j * 2)).block, (a2.add (j * 2)).off + 1, none⟩ = some (.int .i64 c.f1) := cellsAt_field ((HC2.out.below HB7.out).only hog (by simp)) 1 (by omega) rfl
                    have HNG := Lib.hid (hog.heap HN7.out (by simp))
                    have HOG := Lib.hid (show Only [gi + 1] w6 wg from HOR.out.trans (hog.mono (by simp)))
                    clear hog
                    iterate 19 (first | (refine L.ge_off rfl rfl rfl (by rfl) ?_) | (refine L.ge_move rfl rfl rfl (by rfl) rfl (by simp [L.evE, L.lk, Act.eval]; rfl) ?_) | (refine L.ge_pick rfl rfl rfl (by rfl) rfl (by simp [L.evE, L.lk, Act.eval]; rfl) (by simp [L.evE, L.lk, Act.eval]; rfl) ?_) | (refine L.ge_val rfl rfl rfl (by rfl) (by intro w' hw'; simp [execOp, L.evE, L.lk, Act.eval]; go_simp; rfl) ?_))
                    refine L.ge_done ?_
                    simp only [L.puts, Act.put, goInt, List.setIfInBounds_toArray, List.set_cons_zero, List.set_cons_succ]
                    have y0 := last_at HNG.out j2 (by have := HNL.out; omega)
                    have z0 : wg.frozen? ⟨gi + 1, j2, none⟩ = false := frozen_of_row wg _ j2 _ _ HNG.out
                    go_wp2
                    go_roundw
                    case rel => exact ⟨j + 1, N.set j2 c.f1, by omega, by go_num, Lib.hid (by simpa using HNL.out), HLG2, Lib.hid (last_set HNG.out j2 c.f1), Lib.hid (HOG.out.setCell (by simp) _)⟩
                    case measure => simp [Go.RowKit.intOf]; omega
                  · obtain rfl : j = cs.length := by omega
                    have hlg := HLG.out
                    rw [List.drop_length] at hlg
                    unfold lastGo at hlg
                    subst hlg
                    have HX7 := Lib.hid (HOQ.out.heap HX6.out (by simp))
                    have HG7 := Lib.hid (HOQ.out.heap HG6.out (by have := HGX.out; simp; omega))
                    have x0 : wr.cell? ⟨gx, 0, none⟩ = some (.slice A9 V'.length c9) := (cell_of_row wr gx 0 _ _ _ HG7.out).trans rfl
                    have x1 : wr.cell? ⟨gx, 1, none⟩ = some (.slice B9 B'.length d9) := (cell_of_row wr gx 1 _ _ _ HG7.out).trans rfl
                    clear HLG HLL
                    go_wp2_with (first
                      | (with_reducible refine wpList_store_new rfl 28 (.tmp 7) (.tmp 168) rfl gi #[.slice A9 V'.length c9, .slice B9 B'.length d9] rfl rfl 28 _ HX7.out (by kernel_rfl) rfl (by simp [Value.oneCell']) ?_; intro w8 hh8 ho8; have HX8 := Lib.hid hh8; have HO8 := Lib.hid (show Only [gi] wr w8 from ho8); clear hh8 ho8))
                    go_roundw
                    case rel =>
                      have hall8 : Only [gi + 1, gi] w6 w8 := (HOQ.out.mono (by simp)).trans (HO8.out.mono (by simp))
                      refine ⟨k + 1, V', B', A9, c9, B9, d9, N, by omega, by go_num, HCV6, HCB6, HWN6, HNL, ?_, ?_, HX8.out, Lib.hid (HO8.out.heap HN.out (by simp)), Lib.hid (HB6.out.trans (hall8.below HB6.out.size (by have := HGI.out; simp; omega)))⟩
                      · exact Lib.hid (Kd.R_reads' (ints_keep HR6.out hall8 (by have := HLT.out; have := HGX.out; intro q hq; simp at hq; omega))).2.2
                      · exact Lib.hid (Kd.R_reads' (bools_keep HS6.out hall8 (by have := HLT.out; have := HGX.out; intro q hq; simp at hq; omega))).2.2
                    case measure => simp [Go.RowKit.intOf]; omega
              · have HFF := Lib.hid hff
                have hffb : (ff == 0) = false := by rw [beq_eq_false_iff_ne]; exact hff
                clear hff HTK
                go_wp2
                go_loopw [15] (fun i wq => ∃ (j : Nat), j ≤ cs.length ∧ i = .int .i64 j ∧ Hid (Only [] w6 wq)) (fun i _ => cs.length - (Go.RowKit.intOf i).toNat)
                case atStart => exact ⟨0, by omega, rfl, Lib.hid (Only.refl _ _)⟩
                case round =>
                  obtain ⟨j, hj, rfl, HOQ⟩ := hrel
                  have HBQ := Lib.hid (show Below w.heap.size w wr from below_then HB6.out HB6.out.size HOQ.out.nil_below)
                  have b1 : wr.cell? ⟨(ad.add (k * 2)).block, (ad.add (k * 2)).off + 1, none⟩ = some (.slice Ac cs.length cc) := cellsAt_field (HCSW.out.below HBQ.out) 1 (by omega) rfl
                  by_cases hj2 : j < cs.length
                  · have hj2' : (j : Int) < cs.length := by omega
                    have hj0 : (0 : Int) ≤ j := by omega
                    obtain ⟨a2, c2, hA2, _, hK2, hcs2⟩ := Kd.C_cells (Kd.C_below HCCW.out HBQ.out) j hj2
                    obtain rfl := k46_open hK2
                    have HC2 := Lib.hid (show CellsAt wr (a2.add (j * 2)) _ from hcs2)
                    have q0 : wr.cell? (a2.add (j * 2)) = some (.string cs[j].f0) := cellsAt_head HC2.out rfl
                    have HFI := Lib.hid (find_is l cs[j].f0 (by omega))
                    generalize cs[j] = c at *
                    generalize firstFrom (tagIs c.f0) 0 l = fi at *
                    subst hA2
                    clear hK2 hcs2
                    go_wp2_with (go_at_call 16; refine (tags_Find.calls A0 cap0 l c.f0 fi _ ?hr hl0 HFI.out).mono ?_; (case hr => exact Kd.C_below HC.out HBQ.out); rintro e w7 ⟨rfl, hb7⟩; have HB7 := Lib.hid hb7; clear hb7; refine (fun (h : Hid _) => h.out) ?_)
                    refine Lib.hid ?_
                    go_wp2
                    refine L.grow_start [] 19 ((0, true, true) :: (1, true, true) :: (2, true, true) :: (3, true, true) :: (4, true, true) :: (5, true, true) :: (6, true, false) :: (7, true, false) :: (8, true, false) :: (9, true, false) :: (10, true, false) :: (11, true, false) :: (12, true, true) :: (13, true, true) :: (14, true, true) :: (15, true, true) :: (16, true, true) :: (17, true, true) :: (18, true, true) :: []) (by kernel_rfl) (([], [13], some 134) :: ([0], [134], some 135) :: ([1], [135], some 136) :: ([2], [16, 136], some 137) :: ([3, 2], [137, 136], some 138) :: ([4, 2, 2], [138, 136], some 139) :: ([5], [0, 139], some 140) :: ([5], [16, 139], some 141) :: ([6, 7, 5], [140, 141, 139], some 142) :: ([8, 5], [142, 139], some 143) :: ([9, 5], [143, 139], some 144) :: ([5], [1, 139], some 145) :: ([5], [11, 139], some 146) :: ([11, 12, 5], [145, 146, 139], some 147) :: ([13, 5], [147, 139], some 148) :: ([14, 5], [148, 139], some 149) :: ([10, 15, 5], [144, 149, 139], some 150) :: ([5, 16, 2], [139, 150, 136], some 151) :: ([2, 17], [136, 151], some 152) :: []) (by kernel_rfl) (by kernel_rfl) (n := 19) rfl (by kernel_rfl) (fun _ _ _ _ _ h => h) (fun wg hog => ?_)
                    refine L.growe_start (N := 319) (by rfl) ?_
                    have HOG := Lib.hid (show Only [] w6 wg from (HOQ.out.trans (Only.of_below HB7.out)).trans hog)
                    clear hog
                    iterate 19 (first | (refine L.ge_off rfl rfl rfl (by rfl) ?_) | (refine L.ge_move rfl rfl rfl (by rfl) rfl (by simp [L.evE, L.lk, Act.eval]; rfl) ?_) | (refine L.ge_pick rfl rfl rfl (by rfl) rfl (by simp [L.evE, L.lk, Act.eval]; rfl) (by simp [L.evE, L.lk, Act.eval]; rfl) ?_) | (refine L.ge_val rfl rfl rfl (by rfl) (by intro w' hw'; simp [execOp, L.evE, L.lk, Act.eval]; go_simp; rfl) ?_))
                    refine L.ge_done ?_
                    simp only [L.puts, Act.put, goInt, List.setIfInBounds_toArray, List.set_cons_zero, List.set_cons_succ]
                    go_wp2
                    go_roundw
                    case rel => exact ⟨j + 1, by omega, by go_num, HOG⟩
                    case measure => simp [Go.RowKit.intOf]; omega
                  · obtain rfl : j = cs.length := by omega
                    go_wp2
                    go_roundw
                    case rel => exact ⟨k + 1, V, B, Av, cv, Ab, cb, M, by omega, by go_num, HAV, HAB, HWN, HLL, Lib.hid (Kd.C_below HV.out (HO7.out.trans HOQ.out).nil_below), Lib.hid (Kd.C_below HW.out (HO7.out.trans HOQ.out).nil_below), Lib.hid (HOQ.out.heap HX6.out (by simp)), Lib.hid (HOQ.out.heap HL6.out (by simp)), HBQ⟩
                    case measure => simp [Go.RowKit.intOf]; omega
            | false =>
              as_aux_lemma =>
              go_wp2
              generalize w3.alloc (.cells #[.slice Av V.length cv, .slice Ab B.length cb] 28) = w4 at *
              generalize w3.heap.size = gx at *
              refine L.grow_start [gx] 13 ((0, true, false) :: (1, true, false) :: (2, true, false) :: (3, true, true) :: (4, true, true) :: (5, true, true) :: (6, true, true) :: (7, false, true) :: (8, true, true) :: (9, true, false) :: (10, true, false) :: (11, false, true) :: (12, true, true) :: []) (by kernel_rfl) (([], [0], some 103) :: ([], [7], some 104) :: ([], [1], some 105) :: ([], [11], some 106) :: ([2, 3], [105, 106], some 107) :: ([4], [107], some 108) :: ([5], [108], some 109) :: ([0, 1, 6], [103, 104, 109], some 110) :: ([7], [110], some 102) :: ([8], [102], some 111) :: ([8], [102], some 112) :: ([9, 7, 0, 1, 2, 3, 4, 5, 6, 7, 8, 9], [14, 111], none) :: ([10, 11, 0, 1, 2, 3, 4, 5, 6, 7, 8, 9, 10, 11], [112], some 13) :: []) (by kernel_rfl) (by kernel_rfl) (n := 13) rfl (by kernel_rfl) (fun _ _ _ _ _ h => h) (fun wg hog => ?_)
              refine L.growe_start (N := 319) (by rfl) ?_
              have HOG := Lib.hid (show Only [gx] w4 wg from hog.mono (by simp))
              have HOA := Lib.hid (show Only [] wr wg from HO4.out.trans hog)
              have e0 : ∀ w', Only [gx] wg w' → w'.cell? ⟨gi, 0, none⟩ = some (.slice Av V.length cv) := fun w' q => (cell_of_row w' gi 0 _ _ _ ((HOG.out.trans q).heap HX4.out (by have := HGX.out; simp; omega))).trans rfl
              have e1 : ∀ w', Only [gx] wg w' → w'.cell? ⟨gi, 1, none⟩ = some (.slice Ab B.length cb) := fun w' q => (cell_of_row w' gi 1 _ _ _ ((HOG.out.trans q).heap HX4.out (by have := HGX.out; simp; omega))).trans rfl
              have f1 : ∀ w', Only [gx] wg w' → w'.cell? ⟨(ad.add (k * 2)).block, (ad.add (k * 2)).off + 1, none⟩ = some (.slice Ac cs.length cc) := fun w' q => cellsAt_field (CellsAt.only (HCS4.out.only hog (by simp)) q (by have := HGD.out; simp; omega)) 1 (by omega) rfl
              have HGG := Lib.hid (hog.heap HG4.out (by simp))
              have HLG := Lib.hid (hog.heap HL4.out (by simp))
              have HXG := Lib.hid (hog.heap HX4.out (by simp))
              clear hog
              iterate 7 (first | (refine L.ge_off rfl rfl rfl (by rfl) ?_) | (refine L.ge_move rfl rfl rfl (by rfl) rfl (by simp [L.evE, L.lk, Act.eval]; rfl) ?_) | (refine L.ge_pick rfl rfl rfl (by rfl) rfl (by simp [L.evE, L.lk, Act.eval]; rfl) (by simp [L.evE, L.lk, Act.eval]; rfl) ?_) | (refine L.ge_val rfl rfl rfl (by rfl) (by intro w' hw'; simp [execOp, L.evE, L.lk, Act.eval]; go_simp; rfl) ?_))
              refine L.ge_call rfl rfl rfl (by rfl) rfl (by simp [L.evE, L.lk, Act.eval]; rfl) (by go_simp) ?_
              refine (HCD.out wg HOA.out.nil_below).mono ?_
              rintro e w5 ⟨v0, v1, rfl, hR, hR', hb5⟩
              refine ⟨_, rfl, (Only.of_below hb5).mono (by simp), ?_⟩
              have HG5 := Lib.hid (show w5.heap[gx]? = some (.cells #[.slice Av V.length cv, .slice Ab B.length cb] 28 (0, 0)) from (Only.of_below hb5).heap HGG.out (by simp))
              have HO5 := Lib.hid (show Only [] wr w5 from HOA.out.trans (Only.of_below hb5))
              have HLT := Lib.hid (show gx < wg.heap.size from heap_lt HGG.out)
              obtain ⟨A9, c9, rfl⟩ := Kd.R_slice hR
              obtain ⟨B9, d9, rfl⟩ := Kd.R_slice hR'
              have HR5 := Lib.hid hR
              have HS5 := Lib.hid hR'
              clear hR hR' hb5 e0 e1 f1
              iterate 3 (first | (refine L.ge_off rfl rfl rfl (by rfl) ?_) | (refine L.ge_move rfl rfl rfl (by rfl) rfl (by simp [L.evE, L.lk, Act.eval]; rfl) ?_) | (refine L.ge_pick rfl rfl rfl (by rfl) rfl (by simp [L.evE, L.lk, Act.eval]; rfl) (by simp [L.evE, L.lk, Act.eval]; rfl) ?_) | (refine L.ge_val rfl rfl rfl (by rfl) (by intro w' hw'; simp [execOp, L.evE, L.lk, Act.eval]; go_simp; rfl) ?_))
              refine ge_store_row rfl rfl (by rfl) 28 (.tmp 14) (.tmp 111) rfl gx #[.slice A9 V'.length c9, .slice B9 B'.length d9] (by simp [L.evE, L.lk, Act.eval]) (by simp [L.evE, L.lk, Act.eval]) 28 _ HG5.out (by kernel_rfl) rfl (by simp [Value.oneCell']) (by simp) ?_
              intro w6 hh6 ho6
              have HG6 := Lib.hid hh6
              have HO6 := Lib.hid (show Only [gx] wr w6 from (HO5.out.mono (by simp)).trans ho6)
              have HR6 := Lib.hid (ints_keep HR5.out ho6 (by have := HLT.out; intro q hq; simp at hq; omega))
              have HS6 := Lib.hid (bools_keep HS5.out ho6 (by have := HLT.out; intro q hq; simp at hq; omega))
              obtain ⟨hcv6, hC6⟩ := Kd.R_reads' (ints_keep HR5.out ho6 (by have := HLT.out; intro q hq; simp at hq; omega)) |>.2
              obtain ⟨hcb6, hD6⟩ := Kd.R_reads' (bools_keep HS5.out ho6 (by have := HLT.out; intro q hq; simp at hq; omega)) |>.2
              clear hh6 ho6
              iterate 1 (first | (refine L.ge_off rfl rfl rfl (by rfl) ?_) | (refine L.ge_move rfl rfl rfl (by rfl) rfl (by simp [L.evE, L.lk, Act.eval]; rfl) ?_) | (refine L.ge_pick rfl rfl rfl (by rfl) rfl (by simp [L.evE, L.lk, Act.eval]; rfl) (by simp [L.evE, L.lk, Act.eval]; rfl) ?_) | (refine L.ge_val rfl rfl rfl (by rfl) (by intro w' hw'; simp [execOp, L.evE, L.lk, Act.eval]; go_simp; rfl) ?_))
              refine L.ge_done ?_
              simp only [L.puts, Act.put, goInt, List.setIfInBounds_toArray, List.set_cons_zero, List.set_cons_succ]
              have HO7 := Lib.hid (show Only [] wr w6 from HO6.out.pop HGW.out)
              have HX6 := Lib.hid (HO7.out.heap HX.out (by simp))
              have HL6 := Lib.hid (HO7.out.heap HL.out (by simp))
              have HB6 := Lib.hid (show Below w.heap.size w w6 from below_then HBW.out HBW.out.size HO7.out.nil_below)
              have HV6 := Lib.hid hC6
              have HW6 := Lib.hid hD6
              have HCV6 := Lib.hid hcv6
              have HCB6 := Lib.hid hcb6
              have HN6 := Lib.hid (show gx < w6.heap.size from heap_lt HG6.out)
              clear HV6 HW6 hC6 hD6 hcv6 hcb6 HR5 HS5 HG5 HO5 HXG HLG HGG HOA HOG HX4 HL4 HG4 HO4 HCS4 HOX HO3 HBX HCD HCF HFR HCS HCC q1 r0 r1 p0 HGD HGW
              by_cases hff : ff = 0
              · subst hff
                obtain ⟨hwn, hall⟩ := HTK.out.good rfl
                obtain ⟨MF, hMF⟩ : ∃ MF, MF = lastGo l cs M := ⟨_, rfl⟩
                rw [← hMF] at hwn
                have HWN6 := Lib.hid hwn
                have HALL := Lib.hid hall
                have HMF := Lib.hid hMF
                have HFL := Lib.hid (show MF.length = 12 from by rw [hMF, lastGo_len]; exact HLL.out)
                clear hwn hall HTK hMF
                go_wp2
                go_loopw [15] (fun i wq => ∃ (j : Nat) (N : List Int), j ≤ cs.length ∧ i = .int .i64 j ∧ Hid (N.length = 12) ∧ Hid (lastGo l (cs.drop j) N = MF) ∧ Hid (wq.heap[gi + 1]? = some (.cells (N.map (Value.int .i64)).toArray 42 (0, 0))) ∧ Hid (Only [gi + 1] w6 wq)) (fun i _ => cs.length - (Go.RowKit.intOf i).toNat)
                case atStart => exact ⟨0, M, by omega, rfl, HLL, Lib.hid HMF.out.symm, HL6, Lib.hid (Only.refl _ _)⟩
                case round =>
                  obtain ⟨j, N, hj, rfl, HNL, HLG, HN, HOQ⟩ := hrel
                  have HBQ := Lib.hid (show Below w.heap.size w wr from HB6.out.trans (HOQ.out.below HB6.out.size (by have := HGI.out; simp; omega)))
                  have b1 : wr.cell? ⟨(ad.add (k * 2)).block, (ad.add (k * 2)).off + 1, none⟩ = some (.slice Ac cs.length cc) := cellsAt_field (HCSW.out.below HBQ.out) 1 (by omega) rfl
                  by_cases hj2 : j < cs.length
                  · have hj2' : (j : Int) < cs.length := by omega
                    have hj0 : (0 : Int) ≤ j := by omega
                    obtain ⟨a2, c2, hA2, _, hK2, hcs2⟩ := Kd.C_cells (Kd.C_below HCCW.out HBQ.out) j hj2
                    obtain rfl := k46_open hK2
                    have HC2 := Lib.hid (show CellsAt wr (a2.add (j * 2)) _ from hcs2)
                    obtain ⟨hf0, hfo⟩ := HALL.out cs[j] (List.getElem_mem _)
                    have hlg := HLG.out
                    rw [List.drop_eq_getElem_cons hj2] at hlg
                    unfold lastGo at hlg
                    have hfr := firstFrom_range (tagIs cs[j].f0) l 0
                    have HFF := Lib.hid (find_is l cs[j].f0 (by omega))
                    generalize cs[j] = c at *
                    obtain ⟨j2, hj2e⟩ : ∃ j2 : Nat, firstFrom (tagIs c.f0) 0 l = j2 := ⟨(firstFrom (tagIs c.f0) 0 l).toNat, by omega⟩
                    rw [hj2e] at HFF hlg hfo hfr
                    have hjl : j2 < l.length := by omega
                    have hjl' : (j2 : Int) < l.length := by omega
                    have hj20 : (0 : Int) ≤ j2 := by omega
                    have hj12 : (j2 : Int) < 12 := by omega
                    rw [Int.toNat_natCast] at hlg hfo
                    rw [show l.getD j2 z48 = l[j2] from by have := getD_at l z48 j2 hjl; rwa [Int.toNat_natCast] at this] at hfo
                    have HLG2 := Lib.hid hlg
                    have HFO := Lib.hid hfo
                    obtain ⟨a3, c3, hA3, _, hK3, hcs3⟩ := Kd.C_cells (Kd.C_below HC.out HBQ.out) j2 hjl
                    obtain rfl := k48_open hK3
                    rw [hfo] at hcs3
                    have HC3 := Lib.hid (show CellsAt wr (a3.add (j2 * 4)) _ from hcs3)
                    have q0 : wr.cell? (a2.add (j * 2)) = some (.string c.f0) := cellsAt_head HC2.out rfl
                    subst hA2 hA3
                    clear HLG hlg hfo hfr hj2e hf0 hK2 hK3 hcs2 hcs3
                    go_wp2_with (go_at_call 16; refine (tags_Find.calls (some a3) cap0 l c.f0 j2 _ ?hr hl0 HFF.out).mono ?_; (case hr => exact Kd.C_below HC.out HBQ.out); rintro e w7 ⟨rfl, hb7⟩; have HB7 := Lib.hid hb7; clear hb7; refine (fun (h : Hid _) => h.out) ?_)
                    refine Lib.hid ?_
                    have HBR := Lib.hid (below_then HBQ.out HBQ.out.size HB7.out)
                    have HN7 := Lib.hid ((Only.of_below HB7.out).heap HN.out (by simp))
                    have HOR := Lib.hid (show Only [gi + 1] w6 w7 from HOQ.out.trans ((Only.of_below HB7.out).mono (by simp)))
                    go_wp2
                    refine L.grow_start [] 19 ((0, true, true) :: (1, true, true) :: (2, true, true) :: (3, true, true) :: (4, true, true) :: (5, true, true) :: (6, true, false) :: (7, true, false) :: (8, true, false) :: (9, true, false) :: (10, true, false) :: (11, true, false) :: (12, true, true) :: (13, true, true) :: (14, true, true) :: (15, true, true) :: (16, true, true) :: (17, true, true) :: (18, true, true) :: []) (by kernel_rfl) (([], [13], some 134) :: ([0], [134], some 135) :: ([1], [135], some 136) :: ([2], [16, 136], some 137) :: ([3, 2], [137, 136], some 138) :: ([4, 2, 2], [138, 136], some 139) :: ([5], [0, 139], some 140) :: ([5], [16, 139], some 141) :: ([6, 7, 5], [140, 141, 139], some 142) :: ([8, 5], [142, 139], some 143) :: ([9, 5], [143, 139], some 144) :: ([5], [1, 139], some 145) :: ([5], [11, 139], some 146) :: ([11, 12, 5], [145, 146, 139], some 147) :: ([13, 5], [147, 139], some 148) :: ([14, 5], [148, 139], some 149) :: ([10, 15, 5], [144, 149, 139], some 150) :: ([5, 16, 2], [139, 150, 136], some 151) :: ([2, 17], [136, 151], some 152) :: []) (by kernel_rfl) (by kernel_rfl) (n := 19) rfl (by kernel_rfl) (fun _ _ _ _ _ h => h) (fun wg hog => ?_)
                    refine L.growe_start (N := 319) (by rfl) ?_
                    have b0 : ∀ w', Only [] wg w' → w'.cell? (ad.add (k * 2)) = some (.bool false) := fun w' q => cellsAt_head ((HCSW.out.below HBR.out).only (hog.trans q) (by simp)) rfl
                    have t1 : ∀ w', Only [] wg w' → w'.cell? ⟨(a3.add (j2 * 4)).block, (a3.add (j2 * 4)).off + 1, none⟩ = some (.bool false) := fun w' q => cellsAt_field ((HC3.out.below HB7.out).only (hog.trans q) (by simp)) 1 (by omega) rfl
                    have b1 : wg.cell? ⟨(ad.add (k * 2)).block, (ad.add (k * 2)).off + 1, none⟩ = some (.slice (some a2) cs.length cc) := cellsAt_field ((HCSW.out.below HBR.out).only hog (by simp)) 1 (by omega) rfl
                    have q1 : wg.cell? ⟨(a2.add (j * 2)).block, (a2.add (j * 2)).off + 1, none⟩ = some (.int .i64 c.f1) := cellsAt_field ((HC2.out.below HB7.out).only hog (by simp)) 1 (by omega) rfl
                    have HNG := Lib.hid (hog.heap HN7.out (by simp))
                    have HOG := Lib.hid (show Only [gi + 1] w6 wg from HOR.out.trans (hog.mono (by simp)))
                    clear hog
                    iterate 19 (first | (refine L.ge_off rfl rfl rfl (by rfl) ?_) | (refine L.ge_move rfl rfl rfl (by rfl) rfl (by simp [L.evE, L.lk, Act.eval]; rfl) ?_) | (refine L.ge_pick rfl rfl rfl (by rfl) rfl (by simp [L.evE, L.lk, Act.eval]; rfl) (by simp [L.evE, L.lk, Act.eval]; rfl) ?_) | (refine L.ge_val rfl rfl rfl (by rfl) (by intro w' hw'; simp [execOp, L.evE, L.lk, Act.eval]; go_simp; rfl) ?_))
                    refine L.ge_done ?_
                    simp only [L.puts, Act.put, goInt, List.setIfInBounds_toArray, List.set_cons_zero, List.set_cons_succ]
                    have y0 := last_at HNG.out j2 (by have := HNL.out; omega)
                    have z0 : wg.frozen? ⟨gi + 1, j2, none⟩ = false := frozen_of_row wg _ j2 _ _ HNG.out
                    go_wp2
                    go_roundw
                    case rel => exact ⟨j + 1, N.set j2 c.f1, by omega, by go_num, Lib.hid (by simpa using HNL.out), HLG2, Lib.hid (last_set HNG.out j2 c.f1), Lib.hid (HOG.out.setCell (by simp) _)⟩
                    case measure => simp [Go.RowKit.intOf]; omega
                  · obtain rfl : j = cs.length := by omega
                    have hlg := HLG.out
                    rw [List.drop_length] at hlg
                    unfold lastGo at hlg
                    subst hlg
                    have HX7 := Lib.hid (HOQ.out.heap HX6.out (by simp))
                    have HG7 := Lib.hid (HOQ.out.heap HG6.out (by have := HGX.out; simp; omega))
                    have x0 : wr.cell? ⟨gx, 0, none⟩ = some (.slice A9 V'.length c9) := (cell_of_row wr gx 0 _ _ _ HG7.out).trans rfl
                    have x1 : wr.cell? ⟨gx, 1, none⟩ = some (.slice B9 B'.length d9) := (cell_of_row wr gx 1 _ _ _ HG7.out).trans rfl
                    clear HLG HLL
                    go_wp2_with (first
                      | (with_reducible refine wpList_store_new rfl 28 (.tmp 7) (.tmp 168) rfl gi #[.slice A9 V'.length c9, .slice B9 B'.length d9] rfl rfl 28 _ HX7.out (by kernel_rfl) rfl (by simp [Value.oneCell']) ?_; intro w8 hh8 ho8; have HX8 := Lib.hid hh8; have HO8 := Lib.hid (show Only [gi] wr w8 from ho8); clear hh8 ho8))
                    go_roundw
                    case rel =>
                      have hall8 : Only [gi + 1, gi] w6 w8 := (HOQ.out.mono (by simp)).trans (HO8.out.mono (by simp))
                      refine ⟨k + 1, V', B', A9, c9, B9, d9, N, by omega, by go_num, HCV6, HCB6, HWN6, HNL, ?_, ?_, HX8.out, Lib.hid (HO8.out.heap HN.out (by simp)), Lib.hid (HB6.out.trans (hall8.below HB6.out.size (by have := HGI.out; simp; omega)))⟩
                      · exact Lib.hid (Kd.R_reads' (ints_keep HR6.out hall8 (by have := HLT.out; have := HGX.out; intro q hq; simp at hq; omega))).2.2
                      · exact Lib.hid (Kd.R_reads' (bools_keep HS6.out hall8 (by have := HLT.out; have := HGX.out; intro q hq; simp at hq; omega))).2.2
                    case measure => simp [Go.RowKit.intOf]; omega
              · have HFF := Lib.hid hff
                have hffb : (ff == 0) = false := by rw [beq_eq_false_iff_ne]; exact hff
                clear hff HTK
                go_wp2
                go_loopw [15] (fun i wq => ∃ (j : Nat), j ≤ cs.length ∧ i = .int .i64 j ∧ Hid (Only [] w6 wq)) (fun i _ => cs.length - (Go.RowKit.intOf i).toNat)
                case atStart => exact ⟨0, by omega, rfl, Lib.hid (Only.refl _ _)⟩
                case round =>
                  obtain ⟨j, hj, rfl, HOQ⟩ := hrel
                  have HBQ := Lib.hid (show Below w.heap.size w wr from below_then HB6.out HB6.out.size HOQ.out.nil_below)
                  have b1 : wr.cell? ⟨(ad.add (k * 2)).block, (ad.add (k * 2)).off + 1, none⟩ = some (.slice Ac cs.length cc) := cellsAt_field (HCSW.out.below HBQ.out) 1 (by omega) rfl
                  by_cases hj2 : j < cs.length
                  · have hj2' : (j : Int) < cs.length := by omega
                    have hj0 : (0 : Int) ≤ j := by omega
                    obtain ⟨a2, c2, hA2, _, hK2, hcs2⟩ := Kd.C_cells (Kd.C_below HCCW.out HBQ.out) j hj2
                    obtain rfl := k46_open hK2
                    have HC2 := Lib.hid (show CellsAt wr (a2.add (j * 2)) _ from hcs2)
                    have q0 : wr.cell? (a2.add (j * 2)) = some (.string cs[j].f0) := cellsAt_head HC2.out rfl
                    have HFI := Lib.hid (find_is l cs[j].f0 (by omega))
                    generalize cs[j] = c at *
                    generalize firstFrom (tagIs c.f0) 0 l = fi at *
                    subst hA2
                    clear hK2 hcs2
                    go_wp2_with (go_at_call 16; refine (tags_Find.calls A0 cap0 l c.f0 fi _ ?hr hl0 HFI.out).mono ?_; (case hr => exact Kd.C_below HC.out HBQ.out); rintro e w7 ⟨rfl, hb7⟩; have HB7 := Lib.hid hb7; clear hb7; refine (fun (h : Hid _) => h.out) ?_)
                    refine Lib.hid ?_
                    go_wp2
                    refine L.grow_start [] 19 ((0, true, true) :: (1, true, true) :: (2, true, true) :: (3, true, true) :: (4, true, true) :: (5, true, true) :: (6, true, false) :: (7, true, false) :: (8, true, false) :: (9, true, false) :: (10, true, false) :: (11, true, false) :: (12, true, true) :: (13, true, true) :: (14, true, true) :: (15, true, true) :: (16, true, true) :: (17, true, true) :: (18, true, true) :: []) (by kernel_rfl) (([], [13], some 134) :: ([0], [134], some 135) :: ([1], [135], some 136) :: ([2], [16, 136], some 137) :: ([3, 2], [137, 136], some 138) :: ([4, 2, 2], [138, 136], some 139) :: ([5], [0, 139], some 140) :: ([5], [16, 139], some 141) :: ([6, 7, 5], [140, 141, 139], some 142) :: ([8, 5], [142, 139], some 143) :: ([9, 5], [143, 139], some 144) :: ([5], [1, 139], some 145) :: ([5], [11, 139], some 146) :: ([11, 12, 5], [145, 146, 139], some 147) :: ([13, 5], [147, 139], some 148) :: ([14, 5], [148, 139], some 149) :: ([10, 15, 5], [144, 149, 139], some 150) :: ([5, 16, 2], [139, 150, 136], some 151) :: ([2, 17], [136, 151], some 152) :: []) (by kernel_rfl) (by kernel_rfl) (n := 19) rfl (by kernel_rfl) (fun _ _ _ _ _ h => h) (fun wg hog => ?_)
                    refine L.growe_start (N := 319) (by rfl) ?_
                    have HOG := Lib.hid (show Only [] w6 wg from (HOQ.out.trans (Only.of_below HB7.out)).trans hog)
                    clear hog
                    iterate 19 (first | (refine L.ge_off rfl rfl rfl (by rfl) ?_) | (refine L.ge_move rfl rfl rfl (by rfl) rfl (by simp [L.evE, L.lk, Act.eval]; rfl) ?_) | (refine L.ge_pick rfl rfl rfl (by rfl) rfl (by simp [L.evE, L.lk, Act.eval]; rfl) (by simp [L.evE, L.lk, Act.eval]; rfl) ?_) | (refine L.ge_val rfl rfl rfl (by rfl) (by intro w' hw'; simp [execOp, L.evE, L.lk, Act.eval]; go_simp; rfl) ?_))
                    refine L.ge_done ?_
                    simp only [L.puts, Act.put, goInt, List.setIfInBounds_toArray, List.set_cons_zero, List.set_cons_succ]
                    go_wp2
                    go_roundw
                    case rel => exact ⟨j + 1, by omega, by go_num, HOG⟩
                    case measure => simp [Go.RowKit.intOf]; omega
                  · obtain rfl : j = cs.length := by omega
                    go_wp2
                    go_roundw
                    case rel => exact ⟨k + 1, V, B, Av, cv, Ab, cb, M, by omega, by go_num, HAV, HAB, HWN, HLL, Lib.hid (Kd.C_below HV.out (HO7.out.trans HOQ.out).nil_below), Lib.hid (Kd.C_below HW.out (HO7.out.trans HOQ.out).nil_below), Lib.hid (HOQ.out.heap HX6.out (by simp)), Lib.hid (HOQ.out.heap HL6.out (by simp)), HBQ⟩
                    case measure => simp [Go.RowKit.intOf]; omega
        · skip
          as_aux_lemma =>
          obtain rfl : k = y1.length := by omega
          have HVE := Lib.hid (show V.length = l.length from HWN.out.1)
          have HBE := Lib.hid (show B.length = l.length from HWN.out.2.1)
          have hve : ((V.length : Int) != l.length) = false := by rw [bne_eq_false_iff_eq, HVE.out]
          have hbe : ((B.length : Int) != l.length) = false := by rw [bne_eq_false_iff_eq, HBE.out]
          have x0 : wr.cell? ⟨gi, 0, none⟩ = some (.slice Av V.length cv) := (cell_of_row wr gi 0 _ _ _ HX.out).trans rfl
          have x1 : wr.cell? ⟨gi, 1, none⟩ = some (.slice Ab B.length cb) := (cell_of_row wr gi 1 _ _ _ HX.out).trans rfl
          have HSB := Lib.hid (smallB_ok HSM.out.symm)
          have HCR := Lib.hid (show ∀ W, Below wr.heap.size wr W → Calls Tryd.prog 24 #[.slice A0 l.length cap0, .agg #[.slice Av V.length cv, .slice Ab B.length cb]] W fun e w' => e = .returned (.bool true) ∧ Below W.heap.size W w' from fun W hb =>
            tags_Right.calls A0 cap0 l Av cv V Ab cb B true W (Kd.C_below (Kd.C_below HC.out HBW.out) hb) hl0 (Kd.C_below HV.out hb) HAV.out (Kd.C_below HW.out hb) HAB.out (HTB.out.below (below_then HBW.out HBW.out.size hb)) (by unfold tags_Right.f; rw [if_pos ⟨HSB.out.2.1, by omega, by omega⟩, within_right HCH.out HWN.out]))
          clear hk hlt
          go_wp2_with (go_at_call 24; refine (HCR.out _ (Below.refl _ _)).mono ?_; rintro e w7 ⟨rfl, hb7⟩; have HB7 := Lib.hid hb7; clear hb7)
          have HBZ := Lib.hid (below_then HBW.out HBW.out.size HB7.out)
          have HXZ := Lib.hid ((Only.of_below HB7.out).heap HX.out (by simp))
          have HLZ := Lib.hid ((Only.of_below HB7.out).heap HL.out (by simp))
          have HVZ := Lib.hid (Kd.C_below HV.out HB7.out)
          have HWZ := Lib.hid (Kd.C_below HW.out HB7.out)
          clear HX HL HV HW HB7 HBW hve hbe x0 x1 HCR
          go_loopw [17] (fun i wq => ∃ (j : Nat), j ≤ l.length ∧ i = .int .i64 j ∧ Hid (Only [] w7 wq)) (fun i _ => l.length - (Go.RowKit.intOf i).toNat)
          case atStart => exact ⟨0, by omega, rfl, Lib.hid (Only.refl _ _)⟩
          case round =>
            obtain ⟨j, hj, rfl, HOQ⟩ := hrel
            have HBQ := Lib.hid (show Below w.heap.size w wr from below_then HBZ.out HBZ.out.size HOQ.out.nil_below)
            by_cases hjl : j < l.length
            · have hjl' : (j : Int) < l.length := by omega
              have hj0 : (0 : Int) ≤ j := by omega
              have hj12 : (j : Int) < 12 := by omega
              have hjv : (j : Int) < V.length := by have := HVE.out; omega
              have hjb : (j : Int) < B.length := by have := HBE.out; omega
              obtain ⟨ad, cs, hA, _, hK, hcs⟩ := Kd.C_cells (Kd.C_below HC.out HBQ.out) j hjl
              obtain rfl := k48_open hK
              obtain ⟨a0, rfl, hi0⟩ := Kd.int_at (Kd.C_below HVZ.out HOQ.out.nil_below) j (by have := HVE.out; omega)
              obtain ⟨a1, rfl, hi1⟩ := Kd.bool_at (Kd.C_below HWZ.out HOQ.out.nil_below) j (by have := HBE.out; omega)
              obtain ⟨hn1, hn2⟩ := HWN.out.2.2.2 j hjl
              have hlh := ((check_ok HCH.out).2 j hjl).1
              have hm := last_at (HOQ.out.heap HLZ.out (by simp)) j (by have := HLL.out; omega)
              rw [hn1] at hi0
              rw [hn2] at hi1
              have HCS := Lib.hid (show CellsAt wr (ad.add (j * 4)) _ from hcs)
              have HI0 := Lib.hid hi0
              have HI1 := Lib.hid hi1
              have HM := Lib.hid hm
              have HXQ := Lib.hid (HOQ.out.heap HXZ.out (by simp))
              have HEND := Lib.hid (within_end hlh (M.getD j 0))
              subst hA
              clear hi0 hi1 hm hcs hK hn1 hn2
              generalize l[j] = t at *
              generalize M.getD j 0 = n at *
              generalize nearT t n = v at *
              obtain ⟨tn, o, lo, hi⟩ := t
              have hlh : lo ≤ hi := hlh
              have hlh2 : ¬ hi < lo := by omega
              go_wp2
              have HEND' : (n < lo → v = lo) ∧ (hi < n → v = hi) ∧ (lo ≤ n → n ≤ hi → v = n) := HEND.out
              obtain ⟨k1, k2, k3⟩ := HEND'
              have hcase : (n < lo ∧ lo = v) ∨ (hi < n ∧ hi = v) ∨ ((lo ≤ n ∧ n ≤ hi) ∧ n = v) := by
                rcases Int.lt_or_le n lo with h | h
                · exact .inl ⟨h, (k1 h).symm⟩
                · rcases Int.lt_or_le hi n with h' | h'
                  · exact .inr (.inl ⟨h', (k2 h').symm⟩)
                  · exact .inr (.inr ⟨⟨h, h'⟩, (k3 h h').symm⟩)
              clear k1 k2 k3 HEND
              rcases hcase with ⟨h1, h9⟩ | ⟨h1, h9⟩ | ⟨⟨h1, h2⟩, h9⟩
              · subst h9
                have h2 : ¬ hi < n := by omega
                have hne : (lo != n) = true := by rw [bne_iff_ne]; omega
                rw [hne] at HI1
                clear hne
                as_aux_lemma =>
                refine L.grow_start [] 21 ((0, true, false) :: (1, true, false) :: (2, true, false) :: (3, true, false) :: (4, true, true) :: (5, true, true) :: (6, true, true) :: (7, true, true) :: (8, true, true) :: (9, true, true) :: (10, true, false) :: (11, true, false) :: (12, true, false) :: (13, true, false) :: (14, true, true) :: (15, true, true) :: (16, true, true) :: (17, true, true) :: (18, true, true) :: (19, true, true) :: (20, true, true) :: []) (by kernel_rfl) (([], [17], some 195) :: ([0], [9, 195], some 196) :: ([1], [196], some 197) :: ([], [0], some 198) :: ([], [17], some 199) :: ([3, 4], [198, 199], some 200) :: ([5], [200], some 201) :: ([6], [201], some 202) :: ([2, 7], [197, 202], some 203) :: ([8], [203], some 204) :: ([9], [17, 204], some 205) :: ([10, 9], [9, 205, 204], some 206) :: ([11, 9], [206, 204], some 207) :: ([9], [0, 204], some 208) :: ([9], [17, 204], some 209) :: ([13, 14, 9], [208, 209, 204], some 210) :: ([15, 9], [210, 204], some 211) :: ([16, 9], [211, 204], some 212) :: ([12, 17, 9], [207, 212, 204], some 213) :: ([9, 18], [204, 213], some 214) :: ([19, 9, 0, 1, 2, 3, 4, 5, 6, 7, 8, 9, 10, 11, 12, 13, 14, 15, 16, 17, 18, 19], [214], some 18) :: []) (by kernel_rfl) (by kernel_rfl) (n := 21) rfl (by kernel_rfl) (fun _ _ _ _ _ h => h) (fun wg hog => ?_)
                refine L.growe_start (N := 319) (by rfl) ?_
                have f1 : ∀ w', Only [] wg w' → w'.cell? ⟨(ad.add (j * 4)).block, (ad.add (j * 4)).off + 1, none⟩ = some (.bool o) := fun w' q => cellsAt_field (HCS.out.only (hog.trans q) (by simp)) 1 (by omega) rfl
                have f2 : ∀ w', Only [] wg w' → w'.cell? ⟨(ad.add (j * 4)).block, (ad.add (j * 4)).off + 2, none⟩ = some (.int .i64 lo) := fun w' q => cellsAt_field (HCS.out.only (hog.trans q) (by simp)) 2 (by omega) rfl
                have f3 : ∀ w', Only [] wg w' → w'.cell? ⟨(ad.add (j * 4)).block, (ad.add (j * 4)).off + 3, none⟩ = some (.int .i64 hi) := fun w' q => cellsAt_field (HCS.out.only (hog.trans q) (by simp)) 3 (by omega) rfl
                have m0 : ∀ w', Only [] wg w' → w'.cell? ⟨gi + 1, j, none⟩ = some (.int .i64 n) := fun w' q => (hog.trans q).cell HM.out (by simp)
                have HOG := Lib.hid hog
                clear hog
                iterate 21 (first | (refine L.ge_off rfl rfl rfl (by rfl) ?_) | (refine L.ge_move rfl rfl rfl (by rfl) rfl (by simp [L.evE, L.lk, Act.eval]; rfl) ?_) | (refine L.ge_pick rfl rfl rfl (by rfl) rfl (by simp [L.evE, L.lk, Act.eval]; rfl) (by simp [L.evE, L.lk, Act.eval]; rfl) ?_) | (refine L.ge_val rfl rfl rfl (by rfl) (by intro w' hw'; simp [execOp, L.evE, L.lk, Act.eval]; go_simp; rfl) ?_))
                refine L.ge_done ?_
                simp only [L.puts, Act.put, goInt, List.setIfInBounds_toArray, List.set_cons_zero, List.set_cons_succ]
                clear f1 f2 f3 m0
                go_wp2
                refine L.grow_start [] 104 ((0, true, false) :: (1, true, false) :: (2, true, false) :: (3, true, false) :: (4, true, false) :: (5, true, false) :: (6, true, true) :: (7, true, true) :: (8, true, true) :: (9, true, true) :: (10, true, true) :: (11, true, true) :: (12, true, false) :: (13, true, false) :: (14, true, false) :: (15, true, false) :: (16, true, false) :: (17, true, false) :: (18, true, true) :: (19, true, true) :: (20, true, true) :: (21, true, true) :: (22, true, true) :: (23, true, true) :: (24, true, true) :: (25, true, true) :: (26, true, true) :: (27, true, true) :: (28, true, false) :: (29, true, false) :: (30, true, false) :: (31, true, false) :: (32, true, false) :: (33, true, true) :: (34, true, true) :: (35, true, true) :: (36, true, true) :: (37, true, true) :: (38, true, true) :: (39, true, true) :: (40, true, false) :: (41, true, false) :: (42, true, false) :: (43, true, false) :: (44, true, true) :: (45, true, true) :: (46, true, true) :: (47, true, true) :: (48, true, true) :: (49, true, true) :: (50, true, false) :: (51, true, false) :: (52, true, false) :: (53, true, false) :: (54, true, false) :: (55, true, false) :: (56, true, true) :: (57, true, true) :: (58, true, true) :: (59, true, true) :: (60, true, true) :: (61, true, true) :: (62, true, true) :: (63, true, true) :: (64, true, false) :: (65, true, false) :: (66, true, false) :: (67, true, false) :: (68, true, true) :: (69, true, true) :: (70, true, true) :: (71, true, true) :: (72, true, true) :: (73, true, true) :: (74, true, false) :: (75, true, false) :: (76, true, false) :: (77, true, false) :: (78, true, false) :: (79, true, false) :: (80, true, true) :: (81, true, true) :: (82, true, true) :: (83, true, true) :: (84, true, true) :: (85, true, true) :: (86, true, true) :: (87, true, true) :: (88, true, false) :: (89, true, false) :: (90, true, false) :: (91, true, false) :: (92, true, false) :: (93, true, true) :: (94, true, true) :: (95, true, false) :: (96, true, true) :: (97, true, true) :: (98, true, true) :: (99, true, true) :: (100, true, true) :: (101, true, true) :: (102, true, true) :: (103, true, true) :: []) (by kernel_rfl) (([], [7], some 215) :: ([0], [215], some 216) :: ([], [17], some 217) :: ([1, 2], [216, 217], some 218) :: ([3], [218], some 219) :: ([], [0], some 220) :: ([], [17], some 221) :: ([5, 6], [220, 221], some 222) :: ([7], [222], some 223) :: ([8], [223], some 224) :: ([4, 9], [219, 224], some 225) :: ([10], [225], some 226) :: ([11], [7, 226], some 227) :: ([12, 11], [227, 226], some 228) :: ([11], [17, 226], some 229) :: ([13, 14, 11], [228, 229, 226], some 230) :: ([15, 11], [230, 226], some 231) :: ([11], [0, 226], some 232) :: ([11], [17, 226], some 233) :: ([17, 18, 11], [232, 233, 226], some 234) :: ([19, 11], [234, 226], some 235) :: ([20, 11], [235, 226], some 236) :: ([16, 21, 11], [231, 236, 226], some 237) :: ([11, 22], [226, 237], some 238) :: ([23, 11], [238], some 239) :: ([24], [18, 239], some 240) :: ([25, 24], [240, 239], some 241) :: ([26, 24, 24], [241, 239], some 242) :: ([27], [7, 242], some 243) :: ([28, 27], [243, 242], some 244) :: ([27], [17, 242], some 245) :: ([29, 30, 27], [244, 245, 242], some 246) :: ([31, 27], [246, 242], some 247) :: ([27], [17, 242], some 248) :: ([33, 27], [9, 248, 242], some 249) :: ([34, 27], [249, 242], some 250) :: ([32, 35, 27], [247, 250, 242], some 251) :: ([27, 36, 24], [242, 251, 239], some 252) :: ([24, 37], [239, 252], some 253) :: ([38, 27], [253], some 254) :: ([39], [17, 254], some 255) :: ([40, 39], [9, 255, 254], some 256) :: ([41, 39], [256, 254], some 257) :: ([39], [0, 254], some 258) :: ([39], [17, 254], some 259) :: ([43, 44, 39], [258, 259, 254], some 260) :: ([45, 39], [260, 254], some 261) :: ([46, 39], [261, 254], some 262) :: ([42, 47, 39], [257, 262, 254], some 263) :: ([48, 39, 39], [263, 254], some 264) :: ([49], [7, 264], some 265) :: ([50, 49], [265, 264], some 266) :: ([49], [17, 264], some 267) :: ([51, 52, 49], [266, 267, 264], some 268) :: ([53, 49], [268, 264], some 269) :: ([49], [0, 264], some 270) :: ([49], [17, 264], some 271) :: ([55, 56, 49], [270, 271, 264], some 272) :: ([57, 49], [272, 264], some 273) :: ([58, 49], [273, 264], some 274) :: ([54, 59, 49], [269, 274, 264], some 275) :: ([49, 60, 39], [264, 275, 254], some 276) :: ([39, 61], [254, 276], some 277) :: ([62, 49], [277], some 278) :: ([63], [17, 278], some 279) :: ([64, 63], [9, 279, 278], some 280) :: ([65, 63], [280, 278], some 281) :: ([63], [0, 278], some 282) :: ([63], [17, 278], some 283) :: ([67, 68, 63], [282, 283, 278], some 284) :: ([69, 63], [284, 278], some 285) :: ([70, 63], [285, 278], some 286) :: ([66, 71, 63], [281, 286, 278], some 287) :: ([72, 63, 63], [287, 278], some 288) :: ([73], [7, 288], some 289) :: ([74, 73], [289, 288], some 290) :: ([73], [17, 288], some 291) :: ([75, 76, 73], [290, 291, 288], some 292) :: ([77, 73], [292, 288], some 293) :: ([73], [0, 288], some 294) :: ([73], [17, 288], some 295) :: ([79, 80, 73], [294, 295, 288], some 296) :: ([81, 73], [296, 288], some 297) :: ([82, 73], [297, 288], some 298) :: ([78, 83, 73], [293, 298, 288], some 299) :: ([73, 84, 63], [288, 299, 278], some 300) :: ([63, 85], [278, 300], some 301) :: ([86, 73], [301], some 302) :: ([87], [7, 302], some 303) :: ([88, 87], [303, 302], some 304) :: ([87], [17, 302], some 305) :: ([89, 90, 87], [304, 305, 302], some 306) :: ([91, 87], [306, 302], some 307) :: ([87], [18, 302], some 308) :: ([93, 87, 87], [308, 302], some 309) :: ([94], [0, 309], some 310) :: ([94], [17, 309], some 311) :: ([95, 96, 94], [310, 311, 309], some 312) :: ([97, 94], [312, 309], some 313) :: ([98, 94], [313, 309], some 314) :: ([99, 94], [314, 309], some 315) :: ([94, 100, 87], [309, 315, 302], some 316) :: ([92, 101, 87], [307, 316, 302], some 317) :: ([87, 102], [302, 317], some 318) :: []) (by kernel_rfl) (by kernel_rfl) (n := 104) rfl (by kernel_rfl) (fun _ _ _ _ _ h => h) (fun wg2 hog2 => ?_)
                refine L.growe_start (N := 319) (by rfl) ?_
                have hog3 := HOG.out.trans hog2
                clear hog2
                have f1 : ∀ w', Only [] wg2 w' → w'.cell? ⟨(ad.add (j * 4)).block, (ad.add (j * 4)).off + 1, none⟩ = some (.bool o) := fun w' q => cellsAt_field (HCS.out.only (hog3.trans q) (by simp)) 1 (by omega) rfl
                have f2 : ∀ w', Only [] wg2 w' → w'.cell? ⟨(ad.add (j * 4)).block, (ad.add (j * 4)).off + 2, none⟩ = some (.int .i64 lo) := fun w' q => cellsAt_field (HCS.out.only (hog3.trans q) (by simp)) 2 (by omega) rfl
                have f3 : ∀ w', Only [] wg2 w' → w'.cell? ⟨(ad.add (j * 4)).block, (ad.add (j * 4)).off + 3, none⟩ = some (.int .i64 hi) := fun w' q => cellsAt_field (HCS.out.only (hog3.trans q) (by simp)) 3 (by omega) rfl
                have m0 : ∀ w', Only [] wg2 w' → w'.cell? ⟨gi + 1, j, none⟩ = some (.int .i64 n) := fun w' q => (hog3.trans q).cell HM.out (by simp)
                have e0 : ∀ w', Only [] wg2 w' → w'.cell? ⟨gi, 0, none⟩ = some (.slice (some a0) V.length cv) := fun w' q => (cell_of_row w' gi 0 _ _ _ ((hog3.trans q).heap HXQ.out (by simp))).trans rfl
                have e1 : ∀ w', Only [] wg2 w' → w'.cell? ⟨gi, 1, none⟩ = some (.slice (some a1) B.length cb) := fun w' q => (cell_of_row w' gi 1 _ _ _ ((hog3.trans q).heap HXQ.out (by simp))).trans rfl
                have g0 : ∀ w', Only [] wg2 w' → w'.cell? (a0.add j) = some (.int .i64 lo) := fun w' q => (hog3.trans q).cell HI0.out (by simp)
                have g1 : ∀ w', Only [] wg2 w' → w'.cell? (a1.add j) = some (.bool (!o && true)) := fun w' q => (hog3.trans q).cell HI1.out (by simp)
                have HOZ := Lib.hid (show Only [] w7 wg2 from HOQ.out.trans hog3)
                clear hog3
                have hq1 : ¬ hi < lo := by omega
                have hq2 : ¬ hi < n := by omega
                refine ge_act (fun b hb => ?_)
                have ha0 : b.tmps[0]? = some (.slice (some ad) l.length cap0) := by rw [hb]; rfl
                have ha7 : b.tmps[7]? = some (.pointer (some ⟨gi, 0, none⟩)) := by rw [hb]; rfl
                have ha9 : b.tmps[9]? = some (.pointer (some ⟨gi + 1, 0, none⟩)) := by rw [hb]; rfl
                have ha17 : b.tmps[17]? = some (.int .i64 j) := by rw [hb]; rfl
                have ha18 : b.tmps[18]? = some (.bool true) := by rw [hb]; rfl
                have HACT := Lib.hid hb
                clear hb
                iterate 24 (first | (refine L.ge_off rfl rfl rfl (by rfl) ?_) | (refine L.ge_move rfl rfl rfl (by rfl) rfl (by simp [L.evE, L.lk, Act.eval, ha0, ha7, ha9, ha17, ha18]; rfl) ?_) | (refine L.ge_pick rfl rfl rfl (by rfl) rfl (by simp [L.evE, L.lk, Act.eval, ha0, ha7, ha9, ha17, ha18]; rfl) (by simp [L.evE, L.lk, Act.eval, ha0, ha7, ha9, ha17, ha18]; rfl) ?_) | (refine L.ge_val rfl rfl rfl (by rfl) (by intro w' hw'; simp [execOp, L.evE, L.lk, Act.eval, ha0, ha7, ha9, ha17, ha18]; go_simp; rfl) ?_))
                refine ge_freeze (fun E1 hE1 => ?_)
                have l238 : L.lk E1 238 = some (.bool false) := by rw [hE1]; simp [L.lk]
                have n10 : L.lk E1 0 = none := by rw [hE1]; simp [L.lk]
                have n17 : L.lk E1 7 = none := by rw [hE1]; simp [L.lk]
                have n19 : L.lk E1 9 = none := by rw [hE1]; simp [L.lk]
                have n117 : L.lk E1 17 = none := by rw [hE1]; simp [L.lk]
                have n118 : L.lk E1 18 = none := by rw [hE1]; simp [L.lk]
                have HE1 := Lib.hid hE1
                clear hE1
                iterate 15 (first | (refine L.ge_off rfl rfl rfl (by rfl) ?_) | (refine L.ge_move rfl rfl rfl (by rfl) rfl (by simp [L.evE, L.lk, Act.eval, ha0, ha7, ha9, ha17, ha18, l238, n10, n17, n19, n117, n118]; rfl) ?_) | (refine L.ge_pick rfl rfl rfl (by rfl) rfl (by simp [L.evE, L.lk, Act.eval, ha0, ha7, ha9, ha17, ha18, l238, n10, n17, n19, n117, n118]; rfl) (by simp [L.evE, L.lk, Act.eval, ha0, ha7, ha9, ha17, ha18, l238, n10, n17, n19, n117, n118]; rfl) ?_) | (refine L.ge_val rfl rfl rfl (by rfl) (by intro w' hw'; simp [execOp, L.evE, L.lk, Act.eval, ha0, ha7, ha9, ha17, ha18, l238, n10, n17, n19, n117, n118]; go_simp; rfl) ?_))
                refine ge_freeze (fun E2 hE2 => ?_)
                have l253 : L.lk E2 253 = some (.bool false) := by rw [hE2]; simp [L.lk]
                have n20 : L.lk E2 0 = none := by rw [hE2]; simp [L.lk, n10]
                have n27 : L.lk E2 7 = none := by rw [hE2]; simp [L.lk, n17]
                have n29 : L.lk E2 9 = none := by rw [hE2]; simp [L.lk, n19]
                have n217 : L.lk E2 17 = none := by rw [hE2]; simp [L.lk, n117]
                have n218 : L.lk E2 18 = none := by rw [hE2]; simp [L.lk, n118]
                have HE2 := Lib.hid hE2
                clear hE2 l238 n10 n17 n19 n117 n118
                iterate 24 (first | (refine L.ge_off rfl rfl rfl (by rfl) ?_) | (refine L.ge_move rfl rfl rfl (by rfl) rfl (by simp [L.evE, L.lk, Act.eval, ha0, ha7, ha9, ha17, ha18, l253, n20, n27, n29, n217, n218]; rfl) ?_) | (refine L.ge_pick rfl rfl rfl (by rfl) rfl (by simp [L.evE, L.lk, Act.eval, ha0, ha7, ha9, ha17, ha18, l253, n20, n27, n29, n217, n218]; rfl) (by simp [L.evE, L.lk, Act.eval, ha0, ha7, ha9, ha17, ha18, l253, n20, n27, n29, n217, n218]; rfl) ?_) | (refine L.ge_val rfl rfl rfl (by rfl) (by intro w' hw'; simp [execOp, L.evE, L.lk, Act.eval, ha0, ha7, ha9, ha17, ha18, l253, n20, n27, n29, n217, n218]; go_simp; rfl) ?_))
                refine ge_freeze (fun E3 hE3 => ?_)
                have l277 : L.lk E3 277 = some (.bool false) := by rw [hE3]; simp [L.lk]
                have n30 : L.lk E3 0 = none := by rw [hE3]; simp [L.lk, n20]
                have n37 : L.lk E3 7 = none := by rw [hE3]; simp [L.lk, n27]
                have n39 : L.lk E3 9 = none := by rw [hE3]; simp [L.lk, n29]
                have n317 : L.lk E3 17 = none := by rw [hE3]; simp [L.lk, n217]
                have n318 : L.lk E3 18 = none := by rw [hE3]; simp [L.lk, n218]
                have HE3 := Lib.hid hE3
                clear hE3 l253 n20 n27 n29 n217 n218
                iterate 24 (first | (refine L.ge_off rfl rfl rfl (by rfl) ?_) | (refine L.ge_move rfl rfl rfl (by rfl) rfl (by simp [L.evE, L.lk, Act.eval, ha0, ha7, ha9, ha17, ha18, l277, n30, n37, n39, n317, n318]; rfl) ?_) | (refine L.ge_pick rfl rfl rfl (by rfl) rfl (by simp [L.evE, L.lk, Act.eval, ha0, ha7, ha9, ha17, ha18, l277, n30, n37, n39, n317, n318]; rfl) (by simp [L.evE, L.lk, Act.eval, ha0, ha7, ha9, ha17, ha18, l277, n30, n37, n39, n317, n318]; rfl) ?_) | (refine L.ge_val rfl rfl rfl (by rfl) (by intro w' hw'; simp [execOp, L.evE, L.lk, Act.eval, ha0, ha7, ha9, ha17, ha18, l277, n30, n37, n39, n317, n318]; go_simp; rfl) ?_))
                refine ge_freeze (fun E4 hE4 => ?_)
                have l301 : L.lk E4 301 = some (.bool false) := by rw [hE4]; simp [L.lk]
                have n40 : L.lk E4 0 = none := by rw [hE4]; simp [L.lk, n30]
                have n47 : L.lk E4 7 = none := by rw [hE4]; simp [L.lk, n37]
                have n49 : L.lk E4 9 = none := by rw [hE4]; simp [L.lk, n39]
                have n417 : L.lk E4 17 = none := by rw [hE4]; simp [L.lk, n317]
                have n418 : L.lk E4 18 = none := by rw [hE4]; simp [L.lk, n318]
                have HE4 := Lib.hid hE4
                clear hE4 l277 n30 n37 n39 n317 n318
                cases o
                · simp only [Bool.not_false, Bool.not_true, Bool.true_and, Bool.false_and] at g1
                  iterate 17 (first | (refine L.ge_off rfl rfl rfl (by rfl) ?_) | (refine L.ge_move rfl rfl rfl (by rfl) rfl (by simp [L.evE, L.lk, Act.eval, ha0, ha7, ha9, ha17, ha18, l301, n40, n47, n49, n417, n418]; rfl) ?_) | (refine L.ge_pick rfl rfl rfl (by rfl) rfl (by simp [L.evE, L.lk, Act.eval, ha0, ha7, ha9, ha17, ha18, l301, n40, n47, n49, n417, n418]; rfl) (by simp [L.evE, L.lk, Act.eval, ha0, ha7, ha9, ha17, ha18, l301, n40, n47, n49, n417, n418]; rfl) ?_) | (refine L.ge_val rfl rfl rfl (by rfl) (by intro w' hw'; simp [execOp, L.evE, L.lk, Act.eval, ha0, ha7, ha9, ha17, ha18, l301, n40, n47, n49, n417, n418]; go_simp; rfl) ?_))
                  refine L.ge_done ?_
                  rw [HE4.out, HE3.out, HE2.out, HE1.out, HACT.out]
                  clear ha0 ha7 ha9 ha17 ha18 l301 n40 n47 n49 n417 n418
                  simp only [L.puts, Act.put, goInt, List.setIfInBounds_toArray, List.set_cons_zero, List.set_cons_succ]
                  go_wp2
                  go_roundw
                  case rel => exact ⟨j + 1, by omega, by go_num, HOZ⟩
                  case measure => simp [Go.RowKit.intOf]; omega
                · simp only [Bool.not_false, Bool.not_true, Bool.true_and, Bool.false_and] at g1
                  iterate 17 (first | (refine L.ge_off rfl rfl rfl (by rfl) ?_) | (refine L.ge_move rfl rfl rfl (by rfl) rfl (by simp [L.evE, L.lk, Act.eval, ha0, ha7, ha9, ha17, ha18, l301, n40, n47, n49, n417, n418]; rfl) ?_) | (refine L.ge_pick rfl rfl rfl (by rfl) rfl (by simp [L.evE, L.lk, Act.eval, ha0, ha7, ha9, ha17, ha18, l301, n40, n47, n49, n417, n418]; rfl) (by simp [L.evE, L.lk, Act.eval, ha0, ha7, ha9, ha17, ha18, l301, n40, n47, n49, n417, n418]; rfl) ?_) | (refine L.ge_val rfl rfl rfl (by rfl) (by intro w' hw'; simp [execOp, L.evE, L.lk, Act.eval, ha0, ha7, ha9, ha17, ha18, l301, n40, n47, n49, n417, n418]; go_simp; rfl) ?_))
                  refine L.ge_done ?_
                  rw [HE4.out, HE3.out, HE2.out, HE1.out, HACT.out]
                  clear ha0 ha7 ha9 ha17 ha18 l301 n40 n47 n49 n417 n418
                  simp only [L.puts, Act.put, goInt, List.setIfInBounds_toArray, List.set_cons_zero, List.set_cons_succ]
                  go_wp2
                  go_roundw
                  case rel => exact ⟨j + 1, by omega, by go_num, HOZ⟩
                  case measure => simp [Go.RowKit.intOf]; omega
              · subst h9
                have h2 : ¬ n < lo := by omega
                have hne : (hi != n) = true := by rw [bne_iff_ne]; omega
                rw [hne] at HI1
                clear hne
                as_aux_lemma =>
                refine L.grow_start [] 21 ((0, true, false) :: (1, true, false) :: (2, true, false) :: (3, true, false) :: (4, true, true) :: (5, true, true) :: (6, true, true) :: (7, true, true) :: (8, true, true) :: (9, true, true) :: (10, true, false) :: (11, true, false) :: (12, true, false) :: (13, true, false) :: (14, true, true) :: (15, true, true) :: (16, true, true) :: (17, true, true) :: (18, true, true) :: (19, true, true) :: (20, true, true) :: []) (by kernel_rfl) (([], [17], some 195) :: ([0], [9, 195], some 196) :: ([1], [196], some 197) :: ([], [0], some 198) :: ([], [17], some 199) :: ([3, 4], [198, 199], some 200) :: ([5], [200], some 201) :: ([6], [201], some 202) :: ([2, 7], [197, 202], some 203) :: ([8], [203], some 204) :: ([9], [17, 204], some 205) :: ([10, 9], [9, 205, 204], some 206) :: ([11, 9], [206, 204], some 207) :: ([9], [0, 204], some 208) :: ([9], [17, 204], some 209) :: ([13, 14, 9], [208, 209, 204], some 210) :: ([15, 9], [210, 204], some 211) :: ([16, 9], [211, 204], some 212) :: ([12, 17, 9], [207, 212, 204], some 213) :: ([9, 18], [204, 213], some 214) :: ([19, 9, 0, 1, 2, 3, 4, 5, 6, 7, 8, 9, 10, 11, 12, 13, 14, 15, 16, 17, 18, 19], [214], some 18) :: []) (by kernel_rfl) (by kernel_rfl) (n := 21) rfl (by kernel_rfl) (fun _ _ _ _ _ h => h) (fun wg hog => ?_)
                refine L.growe_start (N := 319) (by rfl) ?_
                have f1 : ∀ w', Only [] wg w' → w'.cell? ⟨(ad.add (j * 4)).block, (ad.add (j * 4)).off + 1, none⟩ = some (.bool o) := fun w' q => cellsAt_field (HCS.out.only (hog.trans q) (by simp)) 1 (by omega) rfl
                have f2 : ∀ w', Only [] wg w' → w'.cell? ⟨(ad.add (j * 4)).block, (ad.add (j * 4)).off + 2, none⟩ = some (.int .i64 lo) := fun w' q => cellsAt_field (HCS.out.only (hog.trans q) (by simp)) 2 (by omega) rfl
                have f3 : ∀ w', Only [] wg w' → w'.cell? ⟨(ad.add (j * 4)).block, (ad.add (j * 4)).off + 3, none⟩ = some (.int .i64 hi) := fun w' q => cellsAt_field (HCS.out.only (hog.trans q) (by simp)) 3 (by omega) rfl
                have m0 : ∀ w', Only [] wg w' → w'.cell? ⟨gi + 1, j, none⟩ = some (.int .i64 n) := fun w' q => (hog.trans q).cell HM.out (by simp)
                have HOG := Lib.hid hog
                clear hog
                iterate 21 (first | (refine L.ge_off rfl rfl rfl (by rfl) ?_) | (refine L.ge_move rfl rfl rfl (by rfl) rfl (by simp [L.evE, L.lk, Act.eval]; rfl) ?_) | (refine L.ge_pick rfl rfl rfl (by rfl) rfl (by simp [L.evE, L.lk, Act.eval]; rfl) (by simp [L.evE, L.lk, Act.eval]; rfl) ?_) | (refine L.ge_val rfl rfl rfl (by rfl) (by intro w' hw'; simp [execOp, L.evE, L.lk, Act.eval]; go_simp; rfl) ?_))
                refine L.ge_done ?_
                simp only [L.puts, Act.put, goInt, List.setIfInBounds_toArray, List.set_cons_zero, List.set_cons_succ]
                clear f1 f2 f3 m0
                go_wp2
                refine L.grow_start [] 104 ((0, true, false) :: (1, true, false) :: (2, true, false) :: (3, true, false) :: (4, true, false) :: (5, true, false) :: (6, true, true) :: (7, true, true) :: (8, true, true) :: (9, true, true) :: (10, true, true) :: (11, true, true) :: (12, true, false) :: (13, true, false) :: (14, true, false) :: (15, true, false) :: (16, true, false) :: (17, true, false) :: (18, true, true) :: (19, true, true) :: (20, true, true) :: (21, true, true) :: (22, true, true) :: (23, true, true) :: (24, true, true) :: (25, true, true) :: (26, true, true) :: (27, true, true) :: (28, true, false) :: (29, true, false) :: (30, true, false) :: (31, true, false) :: (32, true, false) :: (33, true, true) :: (34, true, true) :: (35, true, true) :: (36, true, true) :: (37, true, true) :: (38, true, true) :: (39, true, true) :: (40, true, false) :: (41, true, false) :: (42, true, false) :: (43, true, false) :: (44, true, true) :: (45, true, true) :: (46, true, true) :: (47, true, true) :: (48, true, true) :: (49, true, true) :: (50, true, false) :: (51, true, false) :: (52, true, false) :: (53, true, false) :: (54, true, false) :: (55, true, false) :: (56, true, true) :: (57, true, true) :: (58, true, true) :: (59, true, true) :: (60, true, true) :: (61, true, true) :: (62, true, true) :: (63, true, true) :: (64, true, false) :: (65, true, false) :: (66, true, false) :: (67, true, false) :: (68, true, true) :: (69, true, true) :: (70, true, true) :: (71, true, true) :: (72, true, true) :: (73, true, true) :: (74, true, false) :: (75, true, false) :: (76, true, false) :: (77, true, false) :: (78, true, false) :: (79, true, false) :: (80, true, true) :: (81, true, true) :: (82, true, true) :: (83, true, true) :: (84, true, true) :: (85, true, true) :: (86, true, true) :: (87, true, true) :: (88, true, false) :: (89, true, false) :: (90, true, false) :: (91, true, false) :: (92, true, false) :: (93, true, true) :: (94, true, true) :: (95, true, false) :: (96, true, true) :: (97, true, true) :: (98, true, true) :: (99, true, true) :: (100, true, true) :: (101, true, true) :: (102, true, true) :: (103, true, true) :: []) (by kernel_rfl) (([], [7], some 215) :: ([0], [215], some 216) :: ([], [17], some 217) :: ([1, 2], [216, 217], some 218) :: ([3], [218], some 219) :: ([], [0], some 220) :: ([], [17], some 221) :: ([5, 6], [220, 221], some 222) :: ([7], [222], some 223) :: ([8], [223], some 224) :: ([4, 9], [219, 224], some 225) :: ([10], [225], some 226) :: ([11], [7, 226], some 227) :: ([12, 11], [227, 226], some 228) :: ([11], [17, 226], some 229) :: ([13, 14, 11], [228, 229, 226], some 230) :: ([15, 11], [230, 226], some 231) :: ([11], [0, 226], some 232) :: ([11], [17, 226], some 233) :: ([17, 18, 11], [232, 233, 226], some 234) :: ([19, 11], [234, 226], some 235) :: ([20, 11], [235, 226], some 236) :: ([16, 21, 11], [231, 236, 226], some 237) :: ([11, 22], [226, 237], some 238) :: ([23, 11], [238], some 239) :: ([24], [18, 239], some 240) :: ([25, 24], [240, 239], some 241) :: ([26, 24, 24], [241, 239], some 242) :: ([27], [7, 242], some 243) :: ([28, 27], [243, 242], some 244) :: ([27], [17, 242], some 245) :: ([29, 30, 27], [244, 245, 242], some 246) :: ([31, 27], [246, 242], some 247) :: ([27], [17, 242], some 248) :: ([33, 27], [9, 248, 242], some 249) :: ([34, 27], [249, 242], some 250) :: ([32, 35, 27], [247, 250, 242], some 251) :: ([27, 36, 24], [242, 251, 239], some 252) :: ([24, 37], [239, 252], some 253) :: ([38, 27], [253], some 254) :: ([39], [17, 254], some 255) :: ([40, 39], [9, 255, 254], some 256) :: ([41, 39], [256, 254], some 257) :: ([39], [0, 254], some 258) :: ([39], [17, 254], some 259) :: ([43, 44, 39], [258, 259, 254], some 260) :: ([45, 39], [260, 254], some 261) :: ([46, 39], [261, 254], some 262) :: ([42, 47, 39], [257, 262, 254], some 263) :: ([48, 39, 39], [263, 254], some 264) :: ([49], [7, 264], some 265) :: ([50, 49], [265, 264], some 266) :: ([49], [17, 264], some 267) :: ([51, 52, 49], [266, 267, 264], some 268) :: ([53, 49], [268, 264], some 269) :: ([49], [0, 264], some 270) :: ([49], [17, 264], some 271) :: ([55, 56, 49], [270, 271, 264], some 272) :: ([57, 49], [272, 264], some 273) :: ([58, 49], [273, 264], some 274) :: ([54, 59, 49], [269, 274, 264], some 275) :: ([49, 60, 39], [264, 275, 254], some 276) :: ([39, 61], [254, 276], some 277) :: ([62, 49], [277], some 278) :: ([63], [17, 278], some 279) :: ([64, 63], [9, 279, 278], some 280) :: ([65, 63], [280, 278], some 281) :: ([63], [0, 278], some 282) :: ([63], [17, 278], some 283) :: ([67, 68, 63], [282, 283, 278], some 284) :: ([69, 63], [284, 278], some 285) :: ([70, 63], [285, 278], some 286) :: ([66, 71, 63], [281, 286, 278], some 287) :: ([72, 63, 63], [287, 278], some 288) :: ([73], [7, 288], some 289) :: ([74, 73], [289, 288], some 290) :: ([73], [17, 288], some 291) :: ([75, 76, 73], [290, 291, 288], some 292) :: ([77, 73], [292, 288], some 293) :: ([73], [0, 288], some 294) :: ([73], [17, 288], some 295) :: ([79, 80, 73], [294, 295, 288], some 296) :: ([81, 73], [296, 288], some 297) :: ([82, 73], [297, 288], some 298) :: ([78, 83, 73], [293, 298, 288], some 299) :: ([73, 84, 63], [288, 299, 278], some 300) :: ([63, 85], [278, 300], some 301) :: ([86, 73], [301], some 302) :: ([87], [7, 302], some 303) :: ([88, 87], [303, 302], some 304) :: ([87], [17, 302], some 305) :: ([89, 90, 87], [304, 305, 302], some 306) :: ([91, 87], [306, 302], some 307) :: ([87], [18, 302], some 308) :: ([93, 87, 87], [308, 302], some 309) :: ([94], [0, 309], some 310) :: ([94], [17, 309], some 311) :: ([95, 96, 94], [310, 311, 309], some 312) :: ([97, 94], [312, 309], some 313) :: ([98, 94], [313, 309], some 314) :: ([99, 94], [314, 309], some 315) :: ([94, 100, 87], [309, 315, 302], some 316) :: ([92, 101, 87], [307, 316, 302], some 317) :: ([87, 102], [302, 317], some 318) :: []) (by kernel_rfl) (by kernel_rfl) (n := 104) rfl (by kernel_rfl) (fun _ _ _ _ _ h => h) (fun wg2 hog2 => ?_)
                refine L.growe_start (N := 319) (by rfl) ?_
                have hog3 := HOG.out.trans hog2
                clear hog2
                have f1 : ∀ w', Only [] wg2 w' → w'.cell? ⟨(ad.add (j * 4)).block, (ad.add (j * 4)).off + 1, none⟩ = some (.bool o) := fun w' q => cellsAt_field (HCS.out.only (hog3.trans q) (by simp)) 1 (by omega) rfl
                have f2 : ∀ w', Only [] wg2 w' → w'.cell? ⟨(ad.add (j * 4)).block, (ad.add (j * 4)).off + 2, none⟩ = some (.int .i64 lo) := fun w' q => cellsAt_field (HCS.out.only (hog3.trans q) (by simp)) 2 (by omega) rfl
                have f3 : ∀ w', Only [] wg2 w' → w'.cell? ⟨(ad.add (j * 4)).block, (ad.add (j * 4)).off + 3, none⟩ = some (.int .i64 hi) := fun w' q => cellsAt_field (HCS.out.only (hog3.trans q) (by simp)) 3 (by omega) rfl
                have m0 : ∀ w', Only [] wg2 w' → w'.cell? ⟨gi + 1, j, none⟩ = some (.int .i64 n) := fun w' q => (hog3.trans q).cell HM.out (by simp)
                have e0 : ∀ w', Only [] wg2 w' → w'.cell? ⟨gi, 0, none⟩ = some (.slice (some a0) V.length cv) := fun w' q => (cell_of_row w' gi 0 _ _ _ ((hog3.trans q).heap HXQ.out (by simp))).trans rfl
                have e1 : ∀ w', Only [] wg2 w' → w'.cell? ⟨gi, 1, none⟩ = some (.slice (some a1) B.length cb) := fun w' q => (cell_of_row w' gi 1 _ _ _ ((hog3.trans q).heap HXQ.out (by simp))).trans rfl
                have g0 : ∀ w', Only [] wg2 w' → w'.cell? (a0.add j) = some (.int .i64 hi) := fun w' q => (hog3.trans q).cell HI0.out (by simp)
                have g1 : ∀ w', Only [] wg2 w' → w'.cell? (a1.add j) = some (.bool (!o && true)) := fun w' q => (hog3.trans q).cell HI1.out (by simp)
                have HOZ := Lib.hid (show Only [] w7 wg2 from HOQ.out.trans hog3)
                clear hog3
                have hq1 : ¬ hi < lo := by omega
                have hq2 : ¬ n < lo := by omega
                refine ge_act (fun b hb => ?_)
                have ha0 : b.tmps[0]? = some (.slice (some ad) l.length cap0) := by rw [hb]; rfl
                have ha7 : b.tmps[7]? = some (.pointer (some ⟨gi, 0, none⟩)) := by rw [hb]; rfl
                have ha9 : b.tmps[9]? = some (.pointer (some ⟨gi + 1, 0, none⟩)) := by rw [hb]; rfl
                have ha17 : b.tmps[17]? = some (.int .i64 j) := by rw [hb]; rfl
                have ha18 : b.tmps[18]? = some (.bool true) := by rw [hb]; rfl
                have HACT := Lib.hid hb
                clear hb
                iterate 24 (first | (refine L.ge_off rfl rfl rfl (by rfl) ?_) | (refine L.ge_move rfl rfl rfl (by rfl) rfl (by simp [L.evE, L.lk, Act.eval, ha0, ha7, ha9, ha17, ha18]; rfl) ?_) | (refine L.ge_pick rfl rfl rfl (by rfl) rfl (by simp [L.evE, L.lk, Act.eval, ha0, ha7, ha9, ha17, ha18]; rfl) (by simp [L.evE, L.lk, Act.eval, ha0, ha7, ha9, ha17, ha18]; rfl) ?_) | (refine L.ge_val rfl rfl rfl (by rfl) (by intro w' hw'; simp [execOp, L.evE, L.lk, Act.eval, ha0, ha7, ha9, ha17, ha18]; go_simp; rfl) ?_))
                refine ge_freeze (fun E1 hE1 => ?_)
                have l238 : L.lk E1 238 = some (.bool false) := by rw [hE1]; simp [L.lk]
                have n10 : L.lk E1 0 = none := by rw [hE1]; simp [L.lk]
                have n17 : L.lk E1 7 = none := by rw [hE1]; simp [L.lk]
                have n19 : L.lk E1 9 = none := by rw [hE1]; simp [L.lk]
                have n117 : L.lk E1 17 = none := by rw [hE1]; simp [L.lk]
                have n118 : L.lk E1 18 = none := by rw [hE1]; simp [L.lk]
                have HE1 := Lib.hid hE1
                clear hE1
                iterate 15 (first | (refine L.ge_off rfl rfl rfl (by rfl) ?_) | (refine L.ge_move rfl rfl rfl (by rfl) rfl (by simp [L.evE, L.lk, Act.eval, ha0, ha7, ha9, ha17, ha18, l238, n10, n17, n19, n117, n118]; rfl) ?_) | (refine L.ge_pick rfl rfl rfl (by rfl) rfl (by simp [L.evE, L.lk, Act.eval, ha0, ha7, ha9, ha17, ha18, l238, n10, n17, n19, n117, n118]; rfl) (by simp [L.evE, L.lk, Act.eval, ha0, ha7, ha9, ha17, ha18, l238, n10, n17, n19, n117, n118]; rfl) ?_) | (refine L.ge_val rfl rfl rfl (by rfl) (by intro w' hw'; simp [execOp, L.evE, L.lk, Act.eval, ha0, ha7, ha9, ha17, ha18, l238, n10, n17, n19, n117, n118]; go_simp; rfl) ?_))
                refine ge_freeze (fun E2 hE2 => ?_)
                have l253 : L.lk E2 253 = some (.bool false) := by rw [hE2]; simp [L.lk]
                have n20 : L.lk E2 0 = none := by rw [hE2]; simp [L.lk, n10]
                have n27 : L.lk E2 7 = none := by rw [hE2]; simp [L.lk, n17]
                have n29 : L.lk E2 9 = none := by rw [hE2]; simp [L.lk, n19]
                have n217 : L.lk E2 17 = none := by rw [hE2]; simp [L.lk, n117]
                have n218 : L.lk E2 18 = none := by rw [hE2]; simp [L.lk, n118]
                have HE2 := Lib.hid hE2
                clear hE2 l238 n10 n17 n19 n117 n118
                iterate 24 (first | (refine L.ge_off rfl rfl rfl (by rfl) ?_) | (refine L.ge_move rfl rfl rfl (by rfl) rfl (by simp [L.evE, L.lk, Act.eval, ha0, ha7, ha9, ha17, ha18, l253, n20, n27, n29, n217, n218]; rfl) ?_) | (refine L.ge_pick rfl rfl rfl (by rfl) rfl (by simp [L.evE, L.lk, Act.eval, ha0, ha7, ha9, ha17, ha18, l253, n20, n27, n29, n217, n218]; rfl) (by simp [L.evE, L.lk, Act.eval, ha0, ha7, ha9, ha17, ha18, l253, n20, n27, n29, n217, n218]; rfl) ?_) | (refine L.ge_val rfl rfl rfl (by rfl) (by intro w' hw'; simp [execOp, L.evE, L.lk, Act.eval, ha0, ha7, ha9, ha17, ha18, l253, n20, n27, n29, n217, n218]; go_simp; rfl) ?_))
                refine ge_freeze (fun E3 hE3 => ?_)
                have l277 : L.lk E3 277 = some (.bool false) := by rw [hE3]; simp [L.lk]
                have n30 : L.lk E3 0 = none := by rw [hE3]; simp [L.lk, n20]
                have n37 : L.lk E3 7 = none := by rw [hE3]; simp [L.lk, n27]
                have n39 : L.lk E3 9 = none := by rw [hE3]; simp [L.lk, n29]
                have n317 : L.lk E3 17 = none := by rw [hE3]; simp [L.lk, n217]
                have n318 : L.lk E3 18 = none := by rw [hE3]; simp [L.lk, n218]
                have HE3 := Lib.hid hE3
                clear hE3 l253 n20 n27 n29 n217 n218
                iterate 24 (first | (refine L.ge_off rfl rfl rfl (by rfl) ?_) | (refine L.ge_move rfl rfl rfl (by rfl) rfl (by simp [L.evE, L.lk, Act.eval, ha0, ha7, ha9, ha17, ha18, l277, n30, n37, n39, n317, n318]; rfl) ?_) | (refine L.ge_pick rfl rfl rfl (by rfl) rfl (by simp [L.evE, L.lk, Act.eval, ha0, ha7, ha9, ha17, ha18, l277, n30, n37, n39, n317, n318]; rfl) (by simp [L.evE, L.lk, Act.eval, ha0, ha7, ha9, ha17, ha18, l277, n30, n37, n39, n317, n318]; rfl) ?_) | (refine L.ge_val rfl rfl rfl (by rfl) (by intro w' hw'; simp [execOp, L.evE, L.lk, Act.eval, ha0, ha7, ha9, ha17, ha18, l277, n30, n37, n39, n317, n318]; go_simp; rfl) ?_))
                refine ge_freeze (fun E4 hE4 => ?_)
                have l301 : L.lk E4 301 = some (.bool false) := by rw [hE4]; simp [L.lk]
                have n40 : L.lk E4 0 = none := by rw [hE4]; simp [L.lk, n30]
                have n47 : L.lk E4 7 = none := by rw [hE4]; simp [L.lk, n37]
                have n49 : L.lk E4 9 = none := by rw [hE4]; simp [L.lk, n39]
                have n417 : L.lk E4 17 = none := by rw [hE4]; simp [L.lk, n317]
                have n418 : L.lk E4 18 = none := by rw [hE4]; simp [L.lk, n318]
                have HE4 := Lib.hid hE4
                clear hE4 l277 n30 n37 n39 n317 n318
                cases o
                · simp only [Bool.not_false, Bool.not_true, Bool.true_and, Bool.false_and] at g1
                  iterate 17 (first | (refine L.ge_off rfl rfl rfl (by rfl) ?_) | (refine L.ge_move rfl rfl rfl (by rfl) rfl (by simp [L.evE, L.lk, Act.eval, ha0, ha7, ha9, ha17, ha18, l301, n40, n47, n49, n417, n418]; rfl) ?_) | (refine L.ge_pick rfl rfl rfl (by rfl) rfl (by simp [L.evE, L.lk, Act.eval, ha0, ha7, ha9, ha17, ha18, l301, n40, n47, n49, n417, n418]; rfl) (by simp [L.evE, L.lk, Act.eval, ha0, ha7, ha9, ha17, ha18, l301, n40, n47, n49, n417, n418]; rfl) ?_) | (refine L.ge_val rfl rfl rfl (by rfl) (by intro w' hw'; simp [execOp, L.evE, L.lk, Act.eval, ha0, ha7, ha9, ha17, ha18, l301, n40, n47, n49, n417, n418]; go_simp; rfl) ?_))
                  refine L.ge_done ?_
                  rw [HE4.out, HE3.out, HE2.out, HE1.out, HACT.out]
                  clear ha0 ha7 ha9 ha17 ha18 l301 n40 n47 n49 n417 n418
                  simp only [L.puts, Act.put, goInt, List.setIfInBounds_toArray, List.set_cons_zero, List.set_cons_succ]
                  go_wp2
                  go_roundw
                  case rel => exact ⟨j + 1, by omega, by go_num, HOZ⟩
                  case measure => simp [Go.RowKit.intOf]; omega
                · simp only [Bool.not_false, Bool.not_true, Bool.true_and, Bool.false_and] at g1
                  iterate 17 (first | (refine L.ge_off rfl rfl rfl (by rfl) ?_) | (refine L.ge_move rfl rfl rfl (by rfl) rfl (by simp [L.evE, L.lk, Act.eval, ha0, ha7, ha9, ha17, ha18, l301, n40, n47, n49, n417, n418]; rfl) ?_) | (refine L.ge_pick rfl rfl rfl (by rfl) rfl (by simp [L.evE, L.lk, Act.eval, ha0, ha7, ha9, ha17, ha18, l301, n40, n47, n49, n417, n418]; rfl) (by simp [L.evE, L.lk, Act.eval, ha0, ha7, ha9, ha17, ha18, l301, n40, n47, n49, n417, n418]; rfl) ?_) | (refine L.ge_val rfl rfl rfl (by rfl) (by intro w' hw'; simp [execOp, L.evE, L.lk, Act.eval, ha0, ha7, ha9, ha17, ha18, l301, n40, n47, n49, n417, n418]; go_simp; rfl) ?_))
                  refine L.ge_done ?_
                  rw [HE4.out, HE3.out, HE2.out, HE1.out, HACT.out]
                  clear ha0 ha7 ha9 ha17 ha18 l301 n40 n47 n49 n417 n418
                  simp only [L.puts, Act.put, goInt, List.setIfInBounds_toArray, List.set_cons_zero, List.set_cons_succ]
                  go_wp2
                  go_roundw
                  case rel => exact ⟨j + 1, by omega, by go_num, HOZ⟩
                  case measure => simp [Go.RowKit.intOf]; omega
              · subst h9
                have h3 : ¬ n < lo := by omega
                have h4 : ¬ hi < n := by omega
                have hne : (n != n) = false := by simp
                rw [hne] at HI1
                clear hne
                as_aux_lemma =>
                refine L.grow_start [] 21 ((0, true, false) :: (1, true, false) :: (2, true, false) :: (3, true, false) :: (4, true, true) :: (5, true, true) :: (6, true, true) :: (7, true, true) :: (8, true, true) :: (9, true, true) :: (10, true, false) :: (11, true, false) :: (12, true, false) :: (13, true, false) :: (14, true, true) :: (15, true, true) :: (16, true, true) :: (17, true, true) :: (18, true, true) :: (19, true, true) :: (20, true, true) :: []) (by kernel_rfl) (([], [17], some 195) :: ([0], [9, 195], some 196) :: ([1], [196], some 197) :: ([], [0], some 198) :: ([], [17], some 199) :: ([3, 4], [198, 199], some 200) :: ([5], [200], some 201) :: ([6], [201], some 202) :: ([2, 7], [197, 202], some 203) :: ([8], [203], some 204) :: ([9], [17, 204], some 205) :: ([10, 9], [9, 205, 204], some 206) :: ([11, 9], [206, 204], some 207) :: ([9], [0, 204], some 208) :: ([9], [17, 204], some 209) :: ([13, 14, 9], [208, 209, 204], some 210) :: ([15, 9], [210, 204], some 211) :: ([16, 9], [211, 204], some 212) :: ([12, 17, 9], [207, 212, 204], some 213) :: ([9, 18], [204, 213], some 214) :: ([19, 9, 0, 1, 2, 3, 4, 5, 6, 7, 8, 9, 10, 11, 12, 13, 14, 15, 16, 17, 18, 19], [214], some 18) :: []) (by kernel_rfl) (by kernel_rfl) (n := 21) rfl (by kernel_rfl) (fun _ _ _ _ _ h => h) (fun wg hog => ?_)
                refine L.growe_start (N := 319) (by rfl) ?_
                have f1 : ∀ w', Only [] wg w' → w'.cell? ⟨(ad.add (j * 4)).block, (ad.add (j * 4)).off + 1, none⟩ = some (.bool o) := fun w' q => cellsAt_field (HCS.out.only (hog.trans q) (by simp)) 1 (by omega) rfl
                have f2 : ∀ w', Only [] wg w' → w'.cell? ⟨(ad.add (j * 4)).block, (ad.add (j * 4)).off + 2, none⟩ = some (.int .i64 lo) := fun w' q => cellsAt_field (HCS.out.only (hog.trans q) (by simp)) 2 (by omega) rfl
                have f3 : ∀ w', Only [] wg w' → w'.cell? ⟨(ad.add (j * 4)).block, (ad.add (j * 4)).off + 3, none⟩ = some (.int .i64 hi) := fun w' q => cellsAt_field (HCS.out.only (hog.trans q) (by simp)) 3 (by omega) rfl
                have m0 : ∀ w', Only [] wg w' → w'.cell? ⟨gi + 1, j, none⟩ = some (.int .i64 n) := fun w' q => (hog.trans q).cell HM.out (by simp)
                have HOG := Lib.hid hog
                clear hog
                iterate 21 (first | (refine L.ge_off rfl rfl rfl (by rfl) ?_) | (refine L.ge_move rfl rfl rfl (by rfl) rfl (by simp [L.evE, L.lk, Act.eval]; rfl) ?_) | (refine L.ge_pick rfl rfl rfl (by rfl) rfl (by simp [L.evE, L.lk, Act.eval]; rfl) (by simp [L.evE, L.lk, Act.eval]; rfl) ?_) | (refine L.ge_val rfl rfl rfl (by rfl) (by intro w' hw'; simp [execOp, L.evE, L.lk, Act.eval]; go_simp; rfl) ?_))
                refine L.ge_done ?_
                simp only [L.puts, Act.put, goInt, List.setIfInBounds_toArray, List.set_cons_zero, List.set_cons_succ]
                clear f1 f2 f3 m0
                go_wp2
                refine L.grow_start [] 104 ((0, true, false) :: (1, true, false) :: (2, true, false) :: (3, true, false) :: (4, true, false) :: (5, true, false) :: (6, true, true) :: (7, true, true) :: (8, true, true) :: (9, true, true) :: (10, true, true) :: (11, true, true) :: (12, true, false) :: (13, true, false) :: (14, true, false) :: (15, true, false) :: (16, true, false) :: (17, true, false) :: (18, true, true) :: (19, true, true) :: (20, true, true) :: (21, true, true) :: (22, true, true) :: (23, true, true) :: (24, true, true) :: (25, true, true) :: (26, true, true) :: (27, true, true) :: (28, true, false) :: (29, true, false) :: (30, true, false) :: (31, true, false) :: (32, true, false) :: (33, true, true) :: (34, true, true) :: (35, true, true) :: (36, true, true) :: (37, true, true) :: (38, true, true) :: (39, true, true) :: (40, true, false) :: (41, true, false) :: (42, true, false) :: (43, true, false) :: (44, true, true) :: (45, true, true) :: (46, true, true) :: (47, true, true) :: (48, true, true) :: (49, true, true) :: (50, true, false) :: (51, true, false) :: (52, true, false) :: (53, true, false) :: (54, true, false) :: (55, true, false) :: (56, true, true) :: (57, true, true) :: (58, true, true) :: (59, true, true) :: (60, true, true) :: (61, true, true) :: (62, true, true) :: (63, true, true) :: (64, true, false) :: (65, true, false) :: (66, true, false) :: (67, true, false) :: (68, true, true) :: (69, true, true) :: (70, true, true) :: (71, true, true) :: (72, true, true) :: (73, true, true) :: (74, true, false) :: (75, true, false) :: (76, true, false) :: (77, true, false) :: (78, true, false) :: (79, true, false) :: (80, true, true) :: (81, true, true) :: (82, true, true) :: (83, true, true) :: (84, true, true) :: (85, true, true) :: (86, true, true) :: (87, true, true) :: (88, true, false) :: (89, true, false) :: (90, true, false) :: (91, true, false) :: (92, true, false) :: (93, true, true) :: (94, true, true) :: (95, true, false) :: (96, true, true) :: (97, true, true) :: (98, true, true) :: (99, true, true) :: (100, true, true) :: (101, true, true) :: (102, true, true) :: (103, true, true) :: []) (by kernel_rfl) (([], [7], some 215) :: ([0], [215], some 216) :: ([], [17], some 217) :: ([1, 2], [216, 217], some 218) :: ([3], [218], some 219) :: ([], [0], some 220) :: ([], [17], some 221) :: ([5, 6], [220, 221], some 222) :: ([7], [222], some 223) :: ([8], [223], some 224) :: ([4, 9], [219, 224], some 225) :: ([10], [225], some 226) :: ([11], [7, 226], some 227) :: ([12, 11], [227, 226], some 228) :: ([11], [17, 226], some 229) :: ([13, 14, 11], [228, 229, 226], some 230) :: ([15, 11], [230, 226], some 231) :: ([11], [0, 226], some 232) :: ([11], [17, 226], some 233) :: ([17, 18, 11], [232, 233, 226], some 234) :: ([19, 11], [234, 226], some 235) :: ([20, 11], [235, 226], some 236) :: ([16, 21, 11], [231, 236, 226], some 237) :: ([11, 22], [226, 237], some 238) :: ([23, 11], [238], some 239) :: ([24], [18, 239], some 240) :: ([25, 24], [240, 239], some 241) :: ([26, 24, 24], [241, 239], some 242) :: ([27], [7, 242], some 243) :: ([28, 27], [243, 242], some 244) :: ([27], [17, 242], some 245) :: ([29, 30, 27], [244, 245, 242], some 246) :: ([31, 27], [246, 242], some 247) :: ([27], [17, 242], some 248) :: ([33, 27], [9, 248, 242], some 249) :: ([34, 27], [249, 242], some 250) :: ([32, 35, 27], [247, 250, 242], some 251) :: ([27, 36, 24], [242, 251, 239], some 252) :: ([24, 37], [239, 252], some 253) :: ([38, 27], [253], some 254) :: ([39], [17, 254], some 255) :: ([40, 39], [9, 255, 254], some 256) :: ([41, 39], [256, 254], some 257) :: ([39], [0, 254], some 258) :: ([39], [17, 254], some 259) :: ([43, 44, 39], [258, 259, 254], some 260) :: ([45, 39], [260, 254], some 261) :: ([46, 39], [261, 254], some 262) :: ([42, 47, 39], [257, 262, 254], some 263) :: ([48, 39, 39], [263, 254], some 264) :: ([49], [7, 264], some 265) :: ([50, 49], [265, 264], some 266) :: ([49], [17, 264], some 267) :: ([51, 52, 49], [266, 267, 264], some 268) :: ([53, 49], [268, 264], some 269) :: ([49], [0, 264], some 270) :: ([49], [17, 264], some 271) :: ([55, 56, 49], [270, 271, 264], some 272) :: ([57, 49], [272, 264], some 273) :: ([58, 49], [273, 264], some 274) :: ([54, 59, 49], [269, 274, 264], some 275) :: ([49, 60, 39], [264, 275, 254], some 276) :: ([39, 61], [254, 276], some 277) :: ([62, 49], [277], some 278) :: ([63], [17, 278], some 279) :: ([64, 63], [9, 279, 278], some 280) :: ([65, 63], [280, 278], some 281) :: ([63], [0, 278], some 282) :: ([63], [17, 278], some 283) :: ([67, 68, 63], [282, 283, 278], some 284) :: ([69, 63], [284, 278], some 285) :: ([70, 63], [285, 278], some 286) :: ([66, 71, 63], [281, 286, 278], some 287) :: ([72, 63, 63], [287, 278], some 288) :: ([73], [7, 288], some 289) :: ([74, 73], [289, 288], some 290) :: ([73], [17, 288], some 291) :: ([75, 76, 73], [290, 291, 288], some 292) :: ([77, 73], [292, 288], some 293) :: ([73], [0, 288], some 294) :: ([73], [17, 288], some 295) :: ([79, 80, 73], [294, 295, 288], some 296) :: ([81, 73], [296, 288], some 297) :: ([82, 73], [297, 288], some 298) :: ([78, 83, 73], [293, 298, 288], some 299) :: ([73, 84, 63], [288, 299, 278], some 300) :: ([63, 85], [278, 300], some 301) :: ([86, 73], [301], some 302) :: ([87], [7, 302], some 303) :: ([88, 87], [303, 302], some 304) :: ([87], [17, 302], some 305) :: ([89, 90, 87], [304, 305, 302], some 306) :: ([91, 87], [306, 302], some 307) :: ([87], [18, 302], some 308) :: ([93, 87, 87], [308, 302], some 309) :: ([94], [0, 309], some 310) :: ([94], [17, 309], some 311) :: ([95, 96, 94], [310, 311, 309], some 312) :: ([97, 94], [312, 309], some 313) :: ([98, 94], [313, 309], some 314) :: ([99, 94], [314, 309], some 315) :: ([94, 100, 87], [309, 315, 302], some 316) :: ([92, 101, 87], [307, 316, 302], some 317) :: ([87, 102], [302, 317], some 318) :: []) (by kernel_rfl) (by kernel_rfl) (n := 104) rfl (by kernel_rfl) (fun _ _ _ _ _ h => h) (fun wg2 hog2 => ?_)
                refine L.growe_start (N := 319) (by rfl) ?_
                have hog3 := HOG.out.trans hog2
                clear hog2
                have f1 : ∀ w', Only [] wg2 w' → w'.cell? ⟨(ad.add (j * 4)).block, (ad.add (j * 4)).off + 1, none⟩ = some (.bool o) := fun w' q => cellsAt_field (HCS.out.only (hog3.trans q) (by simp)) 1 (by omega) rfl
                have f2 : ∀ w', Only [] wg2 w' → w'.cell? ⟨(ad.add (j * 4)).block, (ad.add (j * 4)).off + 2, none⟩ = some (.int .i64 lo) := fun w' q => cellsAt_field (HCS.out.only (hog3.trans q) (by simp)) 2 (by omega) rfl
                have f3 : ∀ w', Only [] wg2 w' → w'.cell? ⟨(ad.add (j * 4)).block, (ad.add (j * 4)).off + 3, none⟩ = some (.int .i64 hi) := fun w' q => cellsAt_field (HCS.out.only (hog3.trans q) (by simp)) 3 (by omega) rfl
                have m0 : ∀ w', Only [] wg2 w' → w'.cell? ⟨gi + 1, j, none⟩ = some (.int .i64 n) := fun w' q => (hog3.trans q).cell HM.out (by simp)
                have e0 : ∀ w', Only [] wg2 w' → w'.cell? ⟨gi, 0, none⟩ = some (.slice (some a0) V.length cv) := fun w' q => (cell_of_row w' gi 0 _ _ _ ((hog3.trans q).heap HXQ.out (by simp))).trans rfl
                have e1 : ∀ w', Only [] wg2 w' → w'.cell? ⟨gi, 1, none⟩ = some (.slice (some a1) B.length cb) := fun w' q => (cell_of_row w' gi 1 _ _ _ ((hog3.trans q).heap HXQ.out (by simp))).trans rfl
                have g0 : ∀ w', Only [] wg2 w' → w'.cell? (a0.add j) = some (.int .i64 n) := fun w' q => (hog3.trans q).cell HI0.out (by simp)
                have g1 : ∀ w', Only [] wg2 w' → w'.cell? (a1.add j) = some (.bool (!o && false)) := fun w' q => (hog3.trans q).cell HI1.out (by simp)
                have HOZ := Lib.hid (show Only [] w7 wg2 from HOQ.out.trans hog3)
                clear hog3
                have hq1 : ¬ n < lo := by omega
                have hq2 : ¬ hi < n := by omega
                refine ge_act (fun b hb => ?_)
                have ha0 : b.tmps[0]? = some (.slice (some ad) l.length cap0) := by rw [hb]; rfl
                have ha7 : b.tmps[7]? = some (.pointer (some ⟨gi, 0, none⟩)) := by rw [hb]; rfl
                have ha9 : b.tmps[9]? = some (.pointer (some ⟨gi + 1, 0, none⟩)) := by rw [hb]; rfl
                have ha17 : b.tmps[17]? = some (.int .i64 j) := by rw [hb]; rfl
                have ha18 : b.tmps[18]? = some (.bool false) := by rw [hb]; rfl
                have HACT := Lib.hid hb
                clear hb
                iterate 24 (first | (refine L.ge_off rfl rfl rfl (by rfl) ?_) | (refine L.ge_move rfl rfl rfl (by rfl) rfl (by simp [L.evE, L.lk, Act.eval, ha0, ha7, ha9, ha17, ha18]; rfl) ?_) | (refine L.ge_pick rfl rfl rfl (by rfl) rfl (by simp [L.evE, L.lk, Act.eval, ha0, ha7, ha9, ha17, ha18]; rfl) (by simp [L.evE, L.lk, Act.eval, ha0, ha7, ha9, ha17, ha18]; rfl) ?_) | (refine L.ge_val rfl rfl rfl (by rfl) (by intro w' hw'; simp [execOp, L.evE, L.lk, Act.eval, ha0, ha7, ha9, ha17, ha18]; go_simp; rfl) ?_))
                refine ge_freeze (fun E1 hE1 => ?_)
                have l238 : L.lk E1 238 = some (.bool false) := by rw [hE1]; simp [L.lk]
                have n10 : L.lk E1 0 = none := by rw [hE1]; simp [L.lk]
                have n17 : L.lk E1 7 = none := by rw [hE1]; simp [L.lk]
                have n19 : L.lk E1 9 = none := by rw [hE1]; simp [L.lk]
                have n117 : L.lk E1 17 = none := by rw [hE1]; simp [L.lk]
                have n118 : L.lk E1 18 = none := by rw [hE1]; simp [L.lk]
                have HE1 := Lib.hid hE1
                clear hE1
                iterate 15 (first | (refine L.ge_off rfl rfl rfl (by rfl) ?_) | (refine L.ge_move rfl rfl rfl (by rfl) rfl (by simp [L.evE, L.lk, Act.eval, ha0, ha7, ha9, ha17, ha18, l238, n10, n17, n19, n117, n118]; rfl) ?_) | (refine L.ge_pick rfl rfl rfl (by rfl) rfl (by simp [L.evE, L.lk, Act.eval, ha0, ha7, ha9, ha17, ha18, l238, n10, n17, n19, n117, n118]; rfl) (by simp [L.evE, L.lk, Act.eval, ha0, ha7, ha9, ha17, ha18, l238, n10, n17, n19, n117, n118]; rfl) ?_) | (refine L.ge_val rfl rfl rfl (by rfl) (by intro w' hw'; simp [execOp, L.evE, L.lk, Act.eval, ha0, ha7, ha9, ha17, ha18, l238, n10, n17, n19, n117, n118]; go_simp; rfl) ?_))
                refine ge_freeze (fun E2 hE2 => ?_)
                have l253 : L.lk E2 253 = some (.bool false) := by rw [hE2]; simp [L.lk]
                have n20 : L.lk E2 0 = none := by rw [hE2]; simp [L.lk, n10]
                have n27 : L.lk E2 7 = none := by rw [hE2]; simp [L.lk, n17]
                have n29 : L.lk E2 9 = none := by rw [hE2]; simp [L.lk, n19]
                have n217 : L.lk E2 17 = none := by rw [hE2]; simp [L.lk, n117]
                have n218 : L.lk E2 18 = none := by rw [hE2]; simp [L.lk, n118]
                have HE2 := Lib.hid hE2
                clear hE2 l238 n10 n17 n19 n117 n118
                iterate 24 (first | (refine L.ge_off rfl rfl rfl (by rfl) ?_) | (refine L.ge_move rfl rfl rfl (by rfl) rfl (by simp [L.evE, L.lk, Act.eval, ha0, ha7, ha9, ha17, ha18, l253, n20, n27, n29, n217, n218]; rfl) ?_) | (refine L.ge_pick rfl rfl rfl (by rfl) rfl (by simp [L.evE, L.lk, Act.eval, ha0, ha7, ha9, ha17, ha18, l253, n20, n27, n29, n217, n218]; rfl) (by simp [L.evE, L.lk, Act.eval, ha0, ha7, ha9, ha17, ha18, l253, n20, n27, n29, n217, n218]; rfl) ?_) | (refine L.ge_val rfl rfl rfl (by rfl) (by intro w' hw'; simp [execOp, L.evE, L.lk, Act.eval, ha0, ha7, ha9, ha17, ha18, l253, n20, n27, n29, n217, n218]; go_simp; rfl) ?_))
                refine ge_freeze (fun E3 hE3 => ?_)
                have l277 : L.lk E3 277 = some (.bool false) := by rw [hE3]; simp [L.lk]
                have n30 : L.lk E3 0 = none := by rw [hE3]; simp [L.lk, n20]
                have n37 : L.lk E3 7 = none := by rw [hE3]; simp [L.lk, n27]
                have n39 : L.lk E3 9 = none := by rw [hE3]; simp [L.lk, n29]
                have n317 : L.lk E3 17 = none := by rw [hE3]; simp [L.lk, n217]
                have n318 : L.lk E3 18 = none := by rw [hE3]; simp [L.lk, n218]
                have HE3 := Lib.hid hE3
                clear hE3 l253 n20 n27 n29 n217 n218
                iterate 24 (first | (refine L.ge_off rfl rfl rfl (by rfl) ?_) | (refine L.ge_move rfl rfl rfl (by rfl) rfl (by simp [L.evE, L.lk, Act.eval, ha0, ha7, ha9, ha17, ha18, l277, n30, n37, n39, n317, n318]; rfl) ?_) | (refine L.ge_pick rfl rfl rfl (by rfl) rfl (by simp [L.evE, L.lk, Act.eval, ha0, ha7, ha9, ha17, ha18, l277, n30, n37, n39, n317, n318]; rfl) (by simp [L.evE, L.lk, Act.eval, ha0, ha7, ha9, ha17, ha18, l277, n30, n37, n39, n317, n318]; rfl) ?_) | (refine L.ge_val rfl rfl rfl (by rfl) (by intro w' hw'; simp [execOp, L.evE, L.lk, Act.eval, ha0, ha7, ha9, ha17, ha18, l277, n30, n37, n39, n317, n318]; go_simp; rfl) ?_))
                refine ge_freeze (fun E4 hE4 => ?_)
                have l301 : L.lk E4 301 = some (.bool false) := by rw [hE4]; simp [L.lk]
                have n40 : L.lk E4 0 = none := by rw [hE4]; simp [L.lk, n30]
                have n47 : L.lk E4 7 = none := by rw [hE4]; simp [L.lk, n37]
                have n49 : L.lk E4 9 = none := by rw [hE4]; simp [L.lk, n39]
                have n417 : L.lk E4 17 = none := by rw [hE4]; simp [L.lk, n317]
                have n418 : L.lk E4 18 = none := by rw [hE4]; simp [L.lk, n318]
                have HE4 := Lib.hid hE4
                clear hE4 l277 n30 n37 n39 n317 n318
                cases o
                · simp only [Bool.not_false, Bool.not_true, Bool.true_and, Bool.false_and] at g1
                  iterate 17 (first | (refine L.ge_off rfl rfl rfl (by rfl) ?_) | (refine L.ge_move rfl rfl rfl (by rfl) rfl (by simp [L.evE, L.lk, Act.eval, ha0, ha7, ha9, ha17, ha18, l301, n40, n47, n49, n417, n418]; rfl) ?_) | (refine L.ge_pick rfl rfl rfl (by rfl) rfl (by simp [L.evE, L.lk, Act.eval, ha0, ha7, ha9, ha17, ha18, l301, n40, n47, n49, n417, n418]; rfl) (by simp [L.evE, L.lk, Act.eval, ha0, ha7, ha9, ha17, ha18, l301, n40, n47, n49, n417, n418]; rfl) ?_) | (refine L.ge_val rfl rfl rfl (by rfl) (by intro w' hw'; simp [execOp, L.evE, L.lk, Act.eval, ha0, ha7, ha9, ha17, ha18, l301, n40, n47, n49, n417, n418]; go_simp; rfl) ?_))
                  refine L.ge_done ?_
                  rw [HE4.out, HE3.out, HE2.out, HE1.out, HACT.out]
                  clear ha0 ha7 ha9 ha17 ha18 l301 n40 n47 n49 n417 n418
                  simp only [L.puts, Act.put, goInt, List.setIfInBounds_toArray, List.set_cons_zero, List.set_cons_succ]
                  go_wp2
                  go_roundw
                  case rel => exact ⟨j + 1, by omega, by go_num, HOZ⟩
                  case measure => simp [Go.RowKit.intOf]; omega
                · simp only [Bool.not_false, Bool.not_true, Bool.true_and, Bool.false_and] at g1
                  iterate 17 (first | (refine L.ge_off rfl rfl rfl (by rfl) ?_) | (refine L.ge_move rfl rfl rfl (by rfl) rfl (by simp [L.evE, L.lk, Act.eval, ha0, ha7, ha9, ha17, ha18, l301, n40, n47, n49, n417, n418]; rfl) ?_) | (refine L.ge_pick rfl rfl rfl (by rfl) rfl (by simp [L.evE, L.lk, Act.eval, ha0, ha7, ha9, ha17, ha18, l301, n40, n47, n49, n417, n418]; rfl) (by simp [L.evE, L.lk, Act.eval, ha0, ha7, ha9, ha17, ha18, l301, n40, n47, n49, n417, n418]; rfl) ?_) | (refine L.ge_val rfl rfl rfl (by rfl) (by intro w' hw'; simp [execOp, L.evE, L.lk, Act.eval, ha0, ha7, ha9, ha17, ha18, l301, n40, n47, n49, n417, n418]; go_simp; rfl) ?_))
                  refine L.ge_done ?_
                  rw [HE4.out, HE3.out, HE2.out, HE1.out, HACT.out]
                  clear ha0 ha7 ha9 ha17 ha18 l301 n40 n47 n49 n417 n418
                  simp only [L.puts, Act.put, goInt, List.setIfInBounds_toArray, List.set_cons_zero, List.set_cons_succ]
                  go_wp2
                  go_roundw
                  case rel => exact ⟨j + 1, by omega, by go_num, HOZ⟩
                  case measure => simp [Go.RowKit.intOf]; omega
            · have hjl' : (l.length : Int) ≤ j := by omega
              go_wp2
              go_ret
              exact ⟨rfl, HBQ.out⟩
end Go.Proofs.YtbmdhmmahmdccaaDoor.Print
/-! ### TagsWithinRow -/
namespace Go.Proofs.YtbmdhmmahmdccaaDoor.tagsWithin
open Go.ChangeShapes Go.WideShapes Go.ChangeAt Go.RowKit Go.Shelf Go.Lib Go.Proofs.YtbmdhmmahmdccaaDoor.Print
open Go.ChangeMaps (open_string shut_string)
set_option linter.unusedVariables false
set_option linter.unusedSimpArgs false
theorem own : ownKnob Tryd.prog.godebug = none := by kernel_rfl
theorem laidOut : laidOutB Tryd.prog = true := by kernel_rfl
set_option maxRecDepth 100000 in
theorem lifted (os : Os) (started : os.Started) (H : Type) (enc : TypeId × Value → H) :
    ReturnsInHanded {} Tryd.checked os 6 .any (fun w args => (Rows.tagsWithinSpec.pre enc Tryd.prog Tryd.f6 [] false w args ∧ laidMetH Tryd.prog Rows.tagsWithinRow.laid w) ∧ sizedMet enc Tryd.prog Tryd.f6 (OpenSpec.ofChange Rows.tagsWithinSpec) false w args) (Rows.tagsWithinSpec.post enc Tryd.prog Tryd.f6 false true false false) := by
  refine returnsInHanded_of_change_and (C := Tryd.checked) (X := fun w _ => laidMetH Tryd.prog Rows.tagsWithinRow.laid w) (fun _ _ _ hh h => h.of_heap hh) own started (by kernel_rfl) Tryd.func6
    (ChangeSpec.witness_shaped (enc := enc) (C := Tryd.checked) (os := os) (X := fun w _ => laidMetH Tryd.prog Rows.tagsWithinRow.laid w) false (World.laidAll Tryd.prog os Rows.tagsWithinRow.laid) #[.slice none 0 0, .slice none 0 0] 8 (World.laidAll_os _ _ _)
      (World.shaped_of_ZipB (by kernel_rfl) (by kernel_rfl)) (by kernel_rfl) (by kernel_rfl) (by kernel_rfl)
      (by rw [MakeChecks.laidMetH_plain _ _ _ (by kernel_rfl)]; exact laidMet_laidAll _ (by kernel_rfl) (by kernel_rfl))) ?_
  intro W base args ds gs before hval0 hW hcnd hsz0 hL0 _
  have hL : laidMet Tryd.prog Rows.tagsWithinRow.laid W := by
    have h := hL0
    rw [MakeChecks.laidMetH_plain _ _ _ (by kernel_rfl)] at h
    exact h
  have hT : Tabs W := utf8Tabs_of_readsT (U8Types.of196 Tryd.laysValid) ⟨by kernel_rfl, by kernel_rfl, by kernel_rfl, by kernel_rfl, by kernel_rfl, by kernel_rfl, by kernel_rfl⟩ (Pinned.utf8First_eq ▸ Lib.laidMet.reads hL (.tail _ (.head _))) ((show Rows.laid_unicode_utf8_acceptRanges = acceptData from rfl) ▸ Lib.laidMet.reads hL (.head _))
  have hsz : (DataW.weightsEach Tryd.prog (Tryd.f6.params.toList ++ Rows.tagsWithinSpec.plain.varTypes Tryd.prog) (ds ++ gs)).all (· ≤ reachBytes) = true := hsz0
  have hval : ∀ (j : Nat) t v, Tryd.f6.params[j]? = some t → args[j]? = some v → Value.okWide Tryd.prog W .any base t v := hval0
  have hW' := hW
  obtain ⟨p, q, hA0, hV, rfl, hfz, hnd⟩ := hW
  have hA : DataW.TrodAll enc Tryd.prog W 0 (fun _ => true) true Tryd.f6.params.toList args.toList ds p := hA0
  rw [Tryd.params6] at hA hval hsz
  obtain ⟨v0, vs0, d0, ds0, p0, q0, hargs, rfl, rfl, h0, r0⟩ := trodAll_cons hA
  obtain ⟨v1, vs1, d1, ds1, p1, q1, rfl, rfl, rfl, h1, r1⟩ := trodAll_cons r0
  obtain ⟨rfl, rfl, rfl⟩ := trodAll_nil r1
  obtain rfl : args = #[v0, v1] := by cases args; simp_all
  obtain ⟨rfl, rfl⟩ := trodVars_none hV
  have k0 := h0
  have lt0 : ∀ x ∈ p0, x.block < W.heap.size := by obtain ⟨m, hm⟩ := k0; exact DataW.trod_lt m _ _ _ hm
  obtain ⟨y0, r0_⟩ := opens_arg (tags_opens enc W) h0 (weights_each hsz (j := 0) (t := 22) rfl rfl)
  obtain ⟨A0, len0, cap0, rfl⟩ := okWide_slice Tryd.underlying22 (hval 0 22 v0 rfl rfl)
  obtain ⟨A0_, cap0_, e0, hl0, hb0, hm0, hr0⟩ := r0_
  simp only [Value.cells, List.cons.injEq, Value.slice.injEq, and_true] at e0
  obtain ⟨rfl, rfl, rfl⟩ := e0
  have k1 := h1
  have lt1 : ∀ x ∈ p1, x.block < W.heap.size := by obtain ⟨m, hm⟩ := k1; exact DataW.trod_lt m _ _ _ hm
  obtain ⟨y1, r1_⟩ := opens_arg (turns_opens enc W) h1 (weights_each hsz (j := 1) (t := 41) rfl rfl)
  obtain ⟨A1, len1, cap1, rfl⟩ := okWide_slice Tryd.underlying41 (hval 1 41 v1 rfl rfl)
  obtain ⟨A1_, cap1_, e1, hl1, hb1, hm1, hr1⟩ := r1_
  simp only [Value.cells, List.cons.injEq, Value.slice.injEq, and_true] at e1
  obtain ⟨rfl, rfl, rfl⟩ := e1
  clear hA0 hval0 hsz0 hsz
  refine (tagsWithin_walk A0 cap0 y0 A1 cap1 y1 W hl0 hb0 hr0 hl1 hb1 hr1 hT).mono fun e W' ⟨he, bel⟩ => ?_
  subst he
  exact ⟨_, rfl, _, _, _, [], _, [], hW', trodAll_mk1 (shut_bool Tryd.underlying4 _), (trodAll_cons_mk (Below.trod laidOut (by kernel_rfl) (of_decide_eq_true (by kernel_rfl)) k0 bel lt0) (trodAll_cons_mk (Below.trod laidOut (by kernel_rfl) (of_decide_eq_true (by kernel_rfl)) k1 bel lt1) trodAll_mk0)), rfl, bel.frame _, fun h => by cases h⟩
theorem over : Rows.tagsWithinRow.holds Tryd.pinned (OpenSpec.ofChange Rows.tagsWithinSpec) :=
  OpenClaim.holds_of_wide 6 Tryd.f6 rfl rfl rfl rfl rfl rfl rfl ⟨rfl, rfl, rfl, rfl, rfl⟩ rfl rfl rfl rfl rfl (by kernel_rfl) Tryd.func6 (by kernel_rfl)
    (of_decide_eq_true (by kernel_rfl)) (by unfold Func.isWrapper; first | (rw [if_pos (by decide +kernel)]; kernel_rfl) | (rw [if_neg (by decide +kernel)]; exact ⟨rfl, rfl⟩))
    (fun os started H enc _ => lifted os started H enc)
theorem card_holds : Claim7.holds Tryd.pinned (.plain (OpenSpec.ofChange Rows.tagsWithinSpec)) Rows.tagsWithinCard :=
  Claim7.holds_tied_plain_at .later [] [.data, .pinned] true (true, "7d36d9853ee575ce272f199c3e5a4bf59fbbd4ba1e03fdccfdc5519af0a6589b") false over (fun _ h => by cases h) (by kernel_rfl) (fun _ h => by cases h) tagsWithin_row_tie rfl ⟨rfl, rfl⟩ (by kernel_rfl) rfl
    (fun f fn hf hfn => by
      obtain rfl : f = 6 := Option.some.inj ((show Tryd.prog.funcNamed "malthouse/malthouselaw08.TagsWithin" = some 6 by kernel_rfl).symm.trans hf) |>.symm
      obtain rfl : fn = Tryd.f6 := (Option.some.inj (Tryd.func6.symm.trans hfn)).symm
      exact ⟨by kernel_rfl, fun j t ht => by
        rw [Tryd.params6] at ht
        have hm : t ∈ [22, 41] := by simpa using Array.mem_of_getElem? ht
        have hall : ([22, 41].all fun u => !Tryd.prog.wantsStandIn u) = true := by kernel_rfl
        exact (show Tryd.prog.wantsStandIn t = false by simpa using List.all_eq_true.1 hall t hm)⟩)
    (by kernel_rfl)
theorem proved : Rows.TagsWithinCardSaid := card_holds
#print axioms proved
end Go.Proofs.YtbmdhmmahmdccaaDoor.tagsWithin
namespace Go.Proofs.YtbmdhmmahmdccaaDoor
/-- The card, under a short name, for the claim. -/
theorem tagsWithin_holds : Rows.TagsWithinCardSaid := tagsWithin.proved
end Go.Proofs.YtbmdhmmahmdccaaDoor
