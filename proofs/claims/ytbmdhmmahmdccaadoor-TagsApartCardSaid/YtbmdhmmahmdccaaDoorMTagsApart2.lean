import Derived.Test.YtbmdhmmahmdccaaDoorMTagsApart1
set_option linter.unusedVariables false
set_option linter.unusedSimpArgs false
/-! ### ETold -/
namespace Go.Proofs.YtbmdhmmahmdccaaDoor.Print
open Go.RowKit Go.Proofs.YtbmdhmmahmdccaaDoorW.PrintWords Go.Proofs.YtbmdhmmahmdccaaDoorW.PrintLast Go.Proofs.YtbmdhmmahmdccaaDoorW.PrintMore
set_option linter.unusedSimpArgs false
set_option linter.unusedVariables false
def toldGo (l : List S48) (out : Bool) : List S46 → List Int → List Bool → List Int × List Bool × Int
  | [], V, B => (V, B, 0)
  | c :: cs, V, B =>
    if firstFrom (tagIs c.f0) 0 l < 0 ∨ (l.getD (firstFrom (tagIs c.f0) 0 l).toNat z48).f1 ≠ out then ([], [], 21)
    else toldGo l out cs (V.set (firstFrom (tagIs c.f0) 0 l).toNat (nearT (l.getD (firstFrom (tagIs c.f0) 0 l).toNat z48) c.f1))
      (B.set (firstFrom (tagIs c.f0) 0 l).toNat (!(l.getD (firstFrom (tagIs c.f0) 0 l).toNat z48).f1 && nearT (l.getD (firstFrom (tagIs c.f0) 0 l).toNat z48) c.f1 != c.f1))
def toldZ (l : List S48) (V : List Int) (B : List Bool) (cs : List S46) (out : Bool) : List Int × List Bool × Int := if rightB l V B = true then toldGo l out cs V B else ([], [], 1)
def tags_told.f (l0 : List S48) (l1_0 : List Int) (l1_1 : List Bool) (l2 : List S46) (a3 : Bool) : Option (List Int × List Bool × Int) :=
  if okTags l0 ∧ l1_0.length ≤ 1000000000 ∧ l1_1.length ≤ 1000000000 ∧ l2.length ≤ 1000000000 then some (toldZ l0 l1_0 l1_1 l2 a3) else none
set_option maxHeartbeats 8000000 in
set_option maxRecDepth 100000 in
theorem tags_told.calls (A0 : Option Addr) (c0 : Nat) (l0 : List S48) (A1_0 : Option Addr) (c1_0 : Nat) (l1_0 : List Int) (A1_1 : Option Addr) (c1_1 : Nat) (l1_1 : List Bool) (A2 : Option Addr) (c2 : Nat) (l2 : List S46) (a3 : Bool) (r1 : List Int) (r2 : List Bool) (r3 : Int) (w : World)
    (hr0 : Kd.C k48 w A0 l0.length l0) (hc0 : l0.length ≤ c0) (hr1_0 : Kd.C (Kd.int .i64) w A1_0 l1_0.length l1_0) (hc1_0 : l1_0.length ≤ c1_0) (hr1_1 : Kd.C Kd.bool w A1_1 l1_1.length l1_1) (hc1_1 : l1_1.length ≤ c1_1) (hr2 : Kd.C k46 w A2 l2.length l2) (hc2 : l2.length ≤ c2) (hT : Tabs w) (h : tags_told.f l0 l1_0 l1_1 l2 a3 = some (r1, r2, r3)) :
    Calls Tryd.prog 36 #[.slice A0 l0.length c0, .agg #[.slice A1_0 l1_0.length c1_0, .slice A1_1 l1_1.length c1_1], .slice A2 l2.length c2, .bool a3] w fun e w' => ∃ v0_ v1_ : Value, e = .returned (.tuple #[.agg #[v0_, v1_], .int .i64 r3]) ∧ Kd.R (Kd.int .i64) 3 w' w.heap.size (fun _ => True) v0_ r1 ∧ Kd.R Kd.bool 4 w' w.heap.size (fun _ => True) v1_ r2 ∧ Below w.heap.size w w' := by
  unfold tags_told.f at h
  split at h
  case isFalse => cases h
  rename_i hok
  obtain ⟨hok, hl0, hl1, hl2⟩ := hok
  have hv := Option.some.inj h
  clear h
  have HV := Lib.hid hv
  have HR := Lib.hid hr0
  have HR0 := Lib.hid hr1_0
  have HR1 := Lib.hid hr1_1
  have HR2 := Lib.hid hr2
  have HOK := Lib.hid hok
  have HTB := Lib.hid hT
  have hll := hok.1
  have hu := Tryd.underlying48
  have hu2 := Tryd.underlying28
  have hu3 := Tryd.underlying71
  have hu4 := Tryd.underlying46
  clear hv hr0 hr1_0 hr1_1 hr2 hok hT
  obtain ⟨rt, hrt⟩ : ∃ rt, rt = rightB l0 l1_0 l1_1 := ⟨_, rfl⟩
  have HRT := Lib.hid hrt
  clear hrt
  have HCR := Lib.hid (show ∀ W, Below w.heap.size w W → Calls Tryd.prog 24 #[.slice A0 l0.length c0, .agg #[.slice A1_0 l1_0.length c1_0, .slice A1_1 l1_1.length c1_1]] W fun e w' => e = .returned (.bool rt) ∧ Below W.heap.size W w' from fun W hb =>
    tags_Right.calls A0 c0 l0 A1_0 c1_0 l1_0 A1_1 c1_1 l1_1 rt W (Kd.C_below HR.out hb) hc0 (Kd.C_below HR0.out hb) hc1_0 (Kd.C_below HR1.out hb) hc1_1 (HTB.out.below hb) (by unfold tags_Right.f; rw [if_pos ⟨HOK.out, hl0, hl1⟩, HRT.out]))
  have HB0 := Lib.hid (show Below w.heap.size w ((w.alloc (.cells #[.slice A1_0 l1_0.length c1_0, .slice A1_1 l1_1.length c1_1] 28)).alloc (.cells #[.slice none 0 0, .slice none 0 0] 28)) from ((Below.refl _ _).alloc (Nat.le_refl _) _).alloc (by simp) _)
  have HX0 := Lib.hid (show ((w.alloc (.cells #[.slice A1_0 l1_0.length c1_0, .slice A1_1 l1_1.length c1_1] 28)).alloc (.cells #[.slice none 0 0, .slice none 0 0] 28)).heap[w.heap.size]? = some (.cells #[.slice A1_0 l1_0.length c1_0, .slice A1_1 l1_1.length c1_1] 28 (0, 0)) from (Below.heap_alloc _ _ _ (by simp)).trans (heap_alloc_new w _))
  have HY0 := Lib.hid (show ((w.alloc (.cells #[.slice A1_0 l1_0.length c1_0, .slice A1_1 l1_1.length c1_1] 28)).alloc (.cells #[.slice none 0 0, .slice none 0 0] 28)).heap[w.heap.size + 1]? = some (.cells #[.slice none 0 0, .slice none 0 0] 28 (0, 0)) from by
    have := heap_alloc_new (w.alloc (.cells #[.slice A1_0 l1_0.length c1_0, .slice A1_1 l1_1.length c1_1] 28)) (.cells #[.slice none 0 0, .slice none 0 0] 28)
    simpa using this)
  cases rt with
  | false =>
    have hv := HV.out
    unfold toldZ at hv
    rw [← HRT.out, if_neg (by simp)] at hv
    simp only [Prod.mk.injEq] at hv
    obtain ⟨rfl, rfl, rfl⟩ := hv
    clear HV
    go_enter Tryd.func36, Tryd.ntmps36
    go_wp2_with (first
      | (go_at_call 24; refine (HCR.out _ HB0.out).mono ?_; rintro e w1 ⟨rfl, hb1⟩; have HY1 := Lib.hid ((hb1.block _ (by simp)).trans HY0.out); have HB1 := Lib.hid (below_then HB0.out HB0.out.size hb1); clear hb1; refine (fun (h : Hid _) => h.out) ?_))
    refine Lib.hid ?_
    have y0 : w1.cell? ⟨w.heap.size + 1, 0, none⟩ = some (.slice none 0 0) := (cell_of_row w1 _ 0 _ _ _ HY1.out).trans rfl
    have y1 : w1.cell? ⟨w.heap.size + 1, 1, none⟩ = some (.slice none 0 0) := (cell_of_row w1 _ 1 _ _ _ HY1.out).trans rfl
    have z0 : w1.frozen? ⟨w.heap.size + 1, 0, none⟩ = false := frozen_of_row w1 _ 0 _ _ HY1.out
    have z1 : w1.frozen? ⟨w.heap.size + 1, 1, none⟩ = false := frozen_of_row w1 _ 1 _ _ HY1.out
    go_wp2
    refine bodyPost_ret (v := .tuple #[.agg #[.slice none 0 0, .slice none 0 0], .int .i64 1]) (by simp [results, Tryd.results36, go_sem, y0, y1]) rfl ⟨_, _, rfl, Kd.R_nil _ _ _ _ _, Kd.R_nil _ _ _ _ _, ?_⟩
    exact (HB1.out.setCell (by simp) _).setCell (by simp) _
  | true =>
    have hv := HV.out
    unfold toldZ at hv
    rw [← HRT.out, if_pos rfl] at hv
    have HV1 := Lib.hid hv
    clear HV hv
    have hlen : l1_0.length = l0.length ∧ l1_1.length = l0.length ∧ l0.length ≤ 12 := by
      have := HRT.out
      unfold rightB at this
      simp only [Bool.true_eq, Bool.and_eq_true, beq_iff_eq] at this
      exact ⟨this.1.1.2, this.1.2, (check_ok this.1.1.1).1⟩
    have HLEN := Lib.hid hlen
    clear hlen
    go_enter Tryd.func36, Tryd.ntmps36
    go_wp2_with (first
      | (go_at_call 24; refine (HCR.out _ HB0.out).mono ?_; rintro e w1 ⟨rfl, hb1⟩; have HX1 := Lib.hid ((hb1.block _ (by simp; omega)).trans HX0.out); have HY1 := Lib.hid ((hb1.block _ (by simp)).trans HY0.out); have HB1 := Lib.hid (below_then HB0.out HB0.out.size hb1); clear hb1; refine (fun (h : Hid _) => h.out) ?_))
    refine Lib.hid ?_
    go_wp2
    refine L.grow_start [] 11 ((0, true, false) :: (1, true, false) :: (3, true, false) :: (4, true, false) :: (7, true, false) :: (2, false, true) :: (5, false, true) :: (6, true, true) :: (8, true, true) :: (9, false, true) :: (10, true, true) :: []) (by kernel_rfl) (([], [5], some 19) :: ([0], [19], some 20) :: ([1], [20], some 21) :: ([], [5], some 22) :: ([3], [22], some 23) :: ([4, 2], [23], some 24) :: ([2, 5], [21, 24], some 25) :: ([], [0], some 26) :: ([6, 7], [25, 26], some 27) :: ([8], [27], some 28) :: ([9, 5, 0, 1, 2, 3, 4, 5, 6, 7, 8, 9], [28], some 10) :: []) (by kernel_rfl) (by kernel_rfl) (n := 11) rfl (by kernel_rfl) (fun _ _ _ _ _ h => h) (fun wg hog => ?_)
    refine L.growe_start (N := 61) (by rfl) ?_
    have e0 : ∀ w', Only [] wg w' → w'.cell? ⟨w.heap.size, 0, none⟩ = some (.slice A1_0 l1_0.length c1_0) := fun w' q => (cell_of_row w' w.heap.size 0 _ _ _ ((hog.trans q).heap HX1.out (by simp))).trans rfl
    have e1 : ∀ w', Only [] wg w' → w'.cell? ⟨w.heap.size, 1, none⟩ = some (.slice A1_1 l1_1.length c1_1) := fun w' q => (cell_of_row w' w.heap.size 1 _ _ _ ((hog.trans q).heap HX1.out (by simp))).trans rfl
    have HOG := Lib.hid hog
    clear hog
    have HBG := Lib.hid (below_then HB1.out HB1.out.size HOG.out.nil_below)
    iterate 5 (first | (refine L.ge_off rfl rfl rfl (by rfl) ?_) | (refine L.ge_move rfl rfl rfl (by rfl) rfl (by simp [L.evE, L.lk, Act.eval]; rfl) ?_) | (refine L.ge_pick rfl rfl rfl (by rfl) rfl (by simp [L.evE, L.lk, Act.eval]; rfl) (by simp [L.evE, L.lk, Act.eval]; rfl) ?_) | (refine L.ge_val rfl rfl rfl (by rfl) (by intro w' hw'; simp [execOp, L.evE, L.lk, Act.eval]; go_simp; rfl) ?_))
    refine L.ge_call rfl rfl rfl (by rfl) rfl (by simp [L.evE, L.lk, Act.eval]; rfl) (by go_simp) ?_
    refine (clone_ints A1_0 c1_0 l1_0 wg (Kd.C_below HR0.out HBG.out) hl0).mono ?_
    rintro e w2 ⟨v0, rfl, hR2, hb2⟩
    obtain ⟨Av, cv, rfl⟩ := Kd.R_slice hR2
    refine ⟨_, rfl, Only.of_below hb2, ?_⟩
    have HR2' := Lib.hid (Kd.R_lower hR2 HBG.out.size)
    have HO2 := Lib.hid (Only.of_below hb2)
    have HB2 := Lib.hid (below_then HBG.out HBG.out.size hb2)
    clear hR2 hb2 e0 e1
    refine L.ge_call rfl rfl rfl (by rfl) rfl (by simp [L.evE, L.lk, Act.eval]; rfl) (by go_simp) ?_
    refine (clone_bools A1_1 c1_1 l1_1 w2 (Kd.C_below HR1.out HB2.out) hl1).mono ?_
    rintro e w3 ⟨v1, rfl, hR3, hb3⟩
    obtain ⟨Ab, cb, rfl⟩ := Kd.R_slice hR3
    refine ⟨_, rfl, Only.of_below hb3, ?_⟩
    have HR3' := Lib.hid (Kd.R_lower hR3 HB2.out.size)
    have HR2'' := Lib.hid (Kd.R_below HR2'.out hb3)
    have HO3 := Lib.hid (Only.of_below hb3)
    have HB3 := Lib.hid (below_then HB2.out HB2.out.size hb3)
    have HY3 := Lib.hid ((HOG.out.trans (HO2.out.trans HO3.out)).heap HY1.out (by simp))
    clear hR3 hb3 HR2'
    iterate 2 (first | (refine L.ge_off rfl rfl rfl (by rfl) ?_) | (refine L.ge_move rfl rfl rfl (by rfl) rfl (by simp [L.evE, L.lk, Act.eval]; rfl) ?_) | (refine L.ge_pick rfl rfl rfl (by rfl) rfl (by simp [L.evE, L.lk, Act.eval]; rfl) (by simp [L.evE, L.lk, Act.eval]; rfl) ?_) | (refine L.ge_val rfl rfl rfl (by rfl) (by intro w' hw'; simp [execOp, L.evE, L.lk, Act.eval]; go_simp; rfl) ?_))
    refine L.ge_mem rfl rfl rfl (by rfl) (v := .pointer (some ⟨w3.heap.size, 0, none⟩)) (w' := w3.alloc (.cells #[.slice Av l1_0.length cv, .slice Ab l1_1.length cb, .slice A0 l0.length c0] 71)) (by simp [execOp, L.evE, L.lk, Act.eval]; go_simp) ((Only.refl _ _).alloc _) ?_
    iterate 1 (first | (refine L.ge_off rfl rfl rfl (by rfl) ?_) | (refine L.ge_move rfl rfl rfl (by rfl) rfl (by simp [L.evE, L.lk, Act.eval]; rfl) ?_) | (refine L.ge_pick rfl rfl rfl (by rfl) rfl (by simp [L.evE, L.lk, Act.eval]; rfl) (by simp [L.evE, L.lk, Act.eval]; rfl) ?_) | (refine L.ge_val rfl rfl rfl (by rfl) (by intro w' hw'; simp [execOp, L.evE, L.lk, Act.eval]; go_simp; rfl) ?_))
    refine L.ge_done ?_
    simp only [L.puts, Act.put, goInt, List.setIfInBounds_toArray, List.set_cons_zero, List.set_cons_succ]
    have HT4 := Lib.hid (heap_alloc_new w3 (.cells #[.slice Av l1_0.length cv, .slice Ab l1_1.length cb, .slice A0 l0.length c0] 71))
    have HB4 := Lib.hid (HB3.out.alloc HB3.out.size (.cells #[.slice Av l1_0.length cv, .slice Ab l1_1.length cb, .slice A0 l0.length c0] 71))
    have HY4 := Lib.hid ((Below.heap_alloc w3 (.cells #[.slice Av l1_0.length cv, .slice Ab l1_1.length cb, .slice A0 l0.length c0] 71) (w.heap.size + 1) (heap_lt HY3.out)).trans HY3.out)
    have HVV := Lib.hid (own_of_R (Kd.R_below HR2''.out ((Below.refl _ _).alloc (Nat.le_refl _) (.cells #[.slice Av l1_0.length cv, .slice Ab l1_1.length cb, .slice A0 l0.length c0] 71))))
    have HBV := Lib.hid (own_of_R (Kd.R_below HR3'.out ((Below.refl _ _).alloc (Nat.le_refl _) (.cells #[.slice Av l1_0.length cv, .slice Ab l1_1.length cb, .slice A0 l0.length c0] 71))))
    have HG := Lib.hid (show w.heap.size + 1 < w3.heap.size from heap_lt HY3.out)
    generalize w3.alloc (.cells #[.slice Av l1_0.length cv, .slice Ab l1_1.length cb, .slice A0 l0.length c0] 71) = w4 at *
    generalize w3.heap.size = gt at *
    clear HR2'' HR3' HO2 HO3 HB2 HB3 HY3 HBG HOG HX1 HY1 HB1 HX0 HY0 HB0 HCR
    go_wp2
    go_loopw [12, 13, 31] (fun _ _ i wr => ∃ (k : Nat) (xs : List Int) (ys : List Bool), k ≤ l2.length ∧ i = .int .i64 k ∧ Hid (xs.length = l1_0.length) ∧ Hid (ys.length = l1_1.length) ∧ Hid (toldGo l0 a3 (l2.drop k) xs ys = (r1, r2, r3)) ∧
      Hid (wr.ownsRow w.heap.size 3 1 (.slice Av l1_0.length cv) l1_0.length (xs.map (Value.int .i64))) ∧ Hid (wr.ownsRow w.heap.size 4 1 (.slice Ab l1_1.length cb) l1_1.length (ys.map Value.bool)) ∧
      Hid (wr.heap[gt]? = some (.cells #[.slice Av l1_0.length cv, .slice Ab l1_1.length cb, .slice A0 l0.length c0] 71 (0, 0))) ∧ Hid (wr.heap[w.heap.size + 1]? = some (.cells #[.slice none 0 0, .slice none 0 0] 28 (0, 0))) ∧ Hid (Below w.heap.size w wr)) (fun _ _ i _ => l2.length - (intOf i).toNat)
    case atStart => exact ⟨0, l1_0, l1_1, by omega, rfl, rfl, rfl, HV1, HVV, HBV, HT4, HY4, HB4⟩
    case round =>
      obtain ⟨k, xs, ys, hk, rfl, hxl, hyl, hgo, hvv, hbv, ht, hy, hbw⟩ := hrel
      clear HVV HBV HT4 HY4 HB4 HV1
      by_cases hlt : k < l2.length
      · have hlt' : (k : Int) < l2.length := by omega
        have hk0 : (0 : Int) ≤ k := by omega
        obtain ⟨ad, cs, rfl, _, hK, hcs⟩ := Kd.C_cells (Kd.C_below HR2.out hbw.out) k hlt
        obtain rfl := k46_open hK
        have HCS := Lib.hid (show CellsAt wr (ad.add (k * 2)) _ from hcs)
        have hgo' := hgo.out
        rw [List.drop_eq_getElem_cons hlt] at hgo'
        unfold toldGo at hgo'
        have HGO := Lib.hid hgo'
        clear hcs hK hgo hgo'
        generalize l2[k] = c at *
        obtain ⟨fi, hfi⟩ : ∃ fi, fi = firstFrom (tagIs c.f0) 0 l0 := ⟨_, rfl⟩
        rw [← hfi] at HGO
        have hrange := firstFrom_range (tagIs c.f0) l0 0
        rw [← hfi] at hrange
        have HFI := Lib.hid hfi
        clear hfi
        go_wp2_with (first
          | (with_reducible refine wpList_load_at rfl 46 (.tmp 33) rfl (ad.add (k * 2)) rfl _ _ HCS.out Tryd.underlying46 rfl (by kernel_rfl) ?_)
          | (go_at_call 16; refine (tags_Find.calls A0 c0 l0 c.f0 fi _ ?hr hc0 ?hf).mono ?_; (case hr => exact Kd.C_alloc (Kd.C_below HR.out hbw.out) _); (case hf => rw [HFI.out]; exact find_is l0 _ hll); rintro e w5 ⟨rfl, hb5⟩; have HB5 := Lib.hid hb5; clear hb5; refine (fun (h : Hid _) => h.out) ?_))
        refine Lib.hid ?_
        have HO5 := Lib.hid (show Only [] wr w5 from ((Only.refl _ _).alloc _).trans (Only.of_below HB5.out))
        have HC5 := Lib.hid ((HB5.out.block wr.heap.size (by simp)).trans (heap_alloc_new wr (.cells #[.string c.f0, .int .i64 c.f1] 46)))
        have HB6 := Lib.hid (below_then hbw.out hbw.out.size HO5.out.nil_below)
        have HVV5 := Lib.hid (ownsRow_only hvv.out HO5.out (by simp))
        have HBV5 := Lib.hid (ownsRow_only hbv.out HO5.out (by simp))
        have HT5 := Lib.hid (HO5.out.heap ht.out (by simp))
        have HY5 := Lib.hid (HO5.out.heap hy.out (by simp))
        clear HB5 HCS
        have y0 : w5.cell? ⟨w.heap.size + 1, 0, none⟩ = some (.slice none 0 0) := (cell_of_row w5 _ 0 _ _ _ HY5.out).trans rfl
        have y1 : w5.cell? ⟨w.heap.size + 1, 1, none⟩ = some (.slice none 0 0) := (cell_of_row w5 _ 1 _ _ _ HY5.out).trans rfl
        have z0 : w5.frozen? ⟨w.heap.size + 1, 0, none⟩ = false := frozen_of_row w5 _ 0 _ _ HY5.out
        have z1 : w5.frozen? ⟨w.heap.size + 1, 1, none⟩ = false := frozen_of_row w5 _ 1 _ _ HY5.out
        have kc : w5.cell? ⟨wr.heap.size, 1, none⟩ = some (.int .i64 c.f1) := (cell_of_row w5 _ 1 _ _ _ HC5.out).trans rfl
        by_cases hneg : fi < 0
        · have hgo' := HGO.out
          rw [if_pos (.inl hneg)] at hgo'
          simp only [Prod.mk.injEq] at hgo'
          obtain ⟨rfl, rfl, rfl⟩ := hgo'
          clear HGO hrange
          go_wp2
          refine bodyPost_ret (v := .tuple #[.agg #[.slice none 0 0, .slice none 0 0], .int .i64 21]) (by simp [results, Tryd.results36, go_sem, y0, y1]) rfl ⟨_, _, rfl, Kd.R_nil _ _ _ _ _, Kd.R_nil _ _ _ _ _, ?_⟩
          exact (HB6.out.setCell (by simp) _).setCell (by simp) _
        · obtain ⟨j, rfl⟩ : ∃ j : Nat, fi = j := ⟨fi.toNat, by omega⟩
          have hjl : j < l0.length := by omega
          have hjl' : (j : Int) < l0.length := by omega
          have hj0 : (0 : Int) ≤ j := by omega
          obtain ⟨ad0, cs0, rfl, _, hK0, hcs0⟩ := Kd.C_cells (Kd.C_below HR.out HB6.out) j hjl
          obtain rfl := k48_open hK0
          have kt : w5.cell? ⟨(ad0.add (j * 4)).block, (ad0.add (j * 4)).off + 1, none⟩ = some (.bool l0[j].f1) := cellsAt_field (show CellsAt w5 (ad0.add (j * 4)) _ from hcs0) 1 (by omega) rfl
          clear hcs0 hK0
          have hgo' := HGO.out
          have egd : l0.getD ((j : Int)).toNat z48 = l0[j] := getD_at l0 _ j hjl
          rw [egd, Int.toNat_natCast] at hgo'
          by_cases hout : l0[j].f1 = a3
          · rw [if_neg (by simp [hout])] at hgo'
            have HGO2 := Lib.hid hgo'
            have hob : (l0[j].f1 == a3) = true := by rw [hout]; simp
            clear HGO hgo' hrange egd hneg hout
            obtain ⟨gv, capv, curv, ev, hgb, hgv, hgn⟩ := ownsRow_block HVV5.out (by have := HLEN.out; omega)
            obtain ⟨gb, capb, curb, eb, hbb, hgbv, hbn⟩ := ownsRow_block HBV5.out (by have := HLEN.out; omega)
            injection ev with ev1 ev2 ev3
            injection eb with eb1 eb2 eb3
            subst ev1
            subst ev3
            subst eb1
            subst eb3
            have HGV := Lib.hid hgv
            have HGB := Lib.hid hgbv
            have n1 : gt ≠ gv := by
              rintro rfl
              have := HT5.out.symm.trans hgv
              simp at this
            have n2 : gt ≠ gb := by
              rintro rfl
              have := HT5.out.symm.trans hgbv
              simp at this
            have n3 : gv ≠ gb := by
              rintro rfl
              have := hgv.symm.trans hgbv
              simp at this
            have n4 : w.heap.size + 1 ≠ gv := by
              intro e9
              have := hy.out
              have h9 := HY5.out
              rw [e9] at h9
              have := h9.symm.trans hgv
              simp at this
            have n5 : w.heap.size + 1 ≠ gb := by
              intro e9
              have h9 := HY5.out
              rw [e9] at h9
              have := h9.symm.trans hgbv
              simp at this
            have NN := Lib.hid (And.intro n1 (And.intro n2 (And.intro n3 (And.intro n4 n5))))
            have had : ∀ ad, some ad0 = some ad → ad.block ≠ gv ∧ ad.block ≠ gb := by
              intro ad e9
              injection e9 with e9
              subst e9
              obtain ⟨ad1, cs1, e1, hl1', _, hc1⟩ := Kd.C_cells HR.out j hjl
              injection e1 with e1
              subst e1
              have hpos : 0 < cs1.length := by rw [hl1']; exact Nat.succ_pos _
              have := block_lt_of_cell (hc1 0 _ (List.getElem?_eq_getElem hpos))
              rw [add_block, add_block] at this
              omega
            have HAD := Lib.hid had
            have HJV := Lib.hid (show curv[j]? ≠ none by rw [Array.getElem?_eq_getElem (by have := HLEN.out; omega)]; simp)
            have HJB := Lib.hid (show curb[j]? ≠ none by rw [Array.getElem?_eq_getElem (by have := HLEN.out; omega)]; simp)
            have HRL := Lib.hid (Kd.C_below HR.out HB6.out)
            clear hgv hgbv n1 n2 n3 n4 n5 had
            go_wp2_with (go_at_call 46; refine (tell_any gt gv gb l1_0.length l1_1.length cv cb (some ad0) c0 l0 j c.f1 curv curb w5 HT5.out HGV.out HGB.out HJV.out HJB.out HRL.out HAD.out (by have := HLEN.out; omega) (by have := HLEN.out; omega) hjl NN.out.1 NN.out.2.1 NN.out.2.2.1).mono ?_; rintro e w6 ⟨rfl, hv6, hb6, ho6⟩; have HV6 := Lib.hid hv6; have HBV6 := Lib.hid hb6; have HO6 := Lib.hid ho6; clear hv6 hb6 ho6)
            go_roundw
            case rel =>
              refine ⟨k + 1, xs.set j (nearT l0[j] c.f1), ys.set j (!l0[j].f1 && nearT l0[j] c.f1 != c.f1), by omega, by go_num, ?_, ?_, HGO2, ?_, ?_, ?_, ?_, ?_⟩
              · exact Lib.hid (by rw [List.length_set]; exact hxl.out)
              · exact Lib.hid (by rw [List.length_set]; exact hyl.out)
              · refine Lib.hid ?_
                rw [List.map_set]
                exact ownsRow_poke HVV5.out HGV.out HV6.out (by have := HLEN.out; omega)
              · refine Lib.hid ?_
                rw [List.map_set]
                exact ownsRow_poke HBV5.out HGB.out HBV6.out (by have := HLEN.out; omega)
              · exact Lib.hid (HO6.out.heap HT5.out (by have := NN.out; simp [this.1, this.2.1]))
              · exact Lib.hid (HO6.out.heap HY5.out (by have := NN.out; simp [this.2.2.2.1, this.2.2.2.2]))
              · refine Lib.hid ⟨?_, ?_, ?_, ?_, ?_⟩
                · rw [HO6.out.os]; exact HB6.out.os
                · rw [HO6.out.tape]; exact HB6.out.tape
                · rw [HO6.out.output]; exact HB6.out.output
                · exact Nat.le_trans HB6.out.size HO6.out.size
                · intro q hq
                  rw [HO6.out.block q (Nat.lt_of_lt_of_le hq HB6.out.size) (by simp; omega)]
                  exact HB6.out.block q hq
            case measure => simp [intOf]; omega
          · rw [if_pos (.inr hout)] at hgo'
            simp only [Prod.mk.injEq] at hgo'
            obtain ⟨rfl, rfl, rfl⟩ := hgo'
            have hob : (l0[j].f1 == a3) = false := by simpa using hout
            clear HGO hrange egd hneg hout
            go_wp2
            refine bodyPost_ret (v := .tuple #[.agg #[.slice none 0 0, .slice none 0 0], .int .i64 21]) (by simp [results, Tryd.results36, go_sem, y0, y1]) rfl ⟨_, _, rfl, Kd.R_nil _ _ _ _ _, Kd.R_nil _ _ _ _ _, ?_⟩
            exact (HB6.out.setCell (by simp) _).setCell (by simp) _
      · obtain rfl : k = l2.length := by omega
        have hgo' := hgo.out
        rw [List.drop_length] at hgo'
        unfold toldGo at hgo'
        simp only [Prod.mk.injEq] at hgo'
        obtain ⟨rfl, rfl, rfl⟩ := hgo'
        clear hgo
        have y0 : wr.cell? ⟨w.heap.size + 1, 0, none⟩ = some (.slice none 0 0) := (cell_of_row wr _ 0 _ _ _ hy.out).trans rfl
        have y1 : wr.cell? ⟨w.heap.size + 1, 1, none⟩ = some (.slice none 0 0) := (cell_of_row wr _ 1 _ _ _ hy.out).trans rfl
        have z0 : wr.frozen? ⟨w.heap.size + 1, 0, none⟩ = false := frozen_of_row wr _ 0 _ _ hy.out
        have z1 : wr.frozen? ⟨w.heap.size + 1, 1, none⟩ = false := frozen_of_row wr _ 1 _ _ hy.out
        have t0 : wr.cell? ⟨gt, 0, none⟩ = some (.slice Av l1_0.length cv) := (cell_of_row wr _ 0 _ _ _ ht.out).trans rfl
        have t1 : wr.cell? ⟨gt, 1, none⟩ = some (.slice Ab l1_1.length cb) := (cell_of_row wr _ 1 _ _ _ ht.out).trans rfl
        have na : ∀ k, (Value.slice Av l1_0.length cv).ownBlock = some k → k ≠ w.heap.size + 1 := by
          intro q hq e9
          subst e9
          rcases hvv.out.2 with ⟨h9, _⟩ | ⟨g, cap, cur, e1, _, hh, _⟩
          · rw [h9] at hq; simp [Value.ownBlock] at hq
          · rw [e1] at hq
            have : g = w.heap.size + 1 := by simpa [Value.ownBlock] using hq
            subst this
            have := hh.symm.trans hy.out
            simp at this
        have nb : ∀ k, (Value.slice Ab l1_1.length cb).ownBlock = some k → k ≠ w.heap.size + 1 := by
          intro q hq e9
          subst e9
          rcases hbv.out.2 with ⟨h9, _⟩ | ⟨g, cap, cur, e1, _, hh, _⟩
          · rw [h9] at hq; simp [Value.ownBlock] at hq
          · rw [e1] at hq
            have : g = w.heap.size + 1 := by simpa [Value.ownBlock] using hq
            subst this
            have := hh.symm.trans hy.out
            simp at this
        have HNA := Lib.hid na
        have HNB := Lib.hid nb
        clear na nb
        go_wp2
        have f0 := ownsRow_only hvv.out ((Only.refl [w.heap.size + 1] wr).setCell (p := ⟨w.heap.size + 1, 0, none⟩) (by simp) (.slice Av l1_0.length cv) |>.setCell (p := ⟨w.heap.size + 1, 1, none⟩) (by simp) (.slice Ab l1_1.length cb)) (fun q hq => by simpa using HNA.out q hq)
        have f1 := ownsRow_only hbv.out ((Only.refl [w.heap.size + 1] wr).setCell (p := ⟨w.heap.size + 1, 0, none⟩) (by simp) (.slice Av l1_0.length cv) |>.setCell (p := ⟨w.heap.size + 1, 1, none⟩) (by simp) (.slice Ab l1_1.length cb)) (fun q hq => by simpa using HNB.out q hq)
        rw [← hxl.out, ← hyl.out] at f0 f1
        refine bodyPost_ret (v := .tuple #[.agg #[.slice Av l1_0.length cv, .slice Ab l1_1.length cb], .int .i64 0]) (by simp [results, Tryd.results36, go_sem, y0, y1]) rfl ⟨_, _, rfl, ?_, ?_, ?_⟩
        · rw [← hxl.out, ← hyl.out]
          exact R_of_ownsRow f0
        · rw [← hxl.out, ← hyl.out]
          exact R_of_ownsRow f1
        · exact (hbw.out.setCell (by simp) _).setCell (by simp) _
end Go.Proofs.YtbmdhmmahmdccaaDoor.Print
/-! ### Print8 -/
namespace Go.Proofs.YtbmdhmmahmdccaaDoor.Print
open Go.RowKit Go.Proofs.YtbmdhmmahmdccaaDoorW.PrintWords Go.Proofs.YtbmdhmmahmdccaaDoorW.PrintLast Go.Proofs.YtbmdhmmahmdccaaDoorW.PrintMore
attribute [local go_sem] max2_int min2_int max_two min_two
set_option linter.unusedVariables false
set_option linter.unusedSimpArgs false
def tags_Latch.f (l0 : List (S48)) (l1_0 : List Int) (l1_1 : List Bool) (l2 : List (S46)) : Option (List Int × List Bool × Int) := (tags_told.f l0 l1_0 l1_1 l2 false).bind fun bt127 => (some (bt127.1, bt127.2.1, bt127.2.2))
set_option maxHeartbeats 8000000 in
set_option maxRecDepth 100000 in
theorem tags_Latch.calls (A0 : Option Addr) (c0 : Nat) (l0 : List (S48)) (A1_0 : Option Addr) (c1_0 : Nat) (l1_0 : List Int) (A1_1 : Option Addr) (c1_1 : Nat) (l1_1 : List Bool) (A2 : Option Addr) (c2 : Nat) (l2 : List (S46)) (r1 : List Int) (r2 : List Bool) (r3 : Int) (w : World) (hr0 : Kd.C k48 w A0 l0.length l0) (hc0 : l0.length ≤ c0) (hr1_0 : Kd.C (Kd.int .i64) w A1_0 l1_0.length l1_0) (hc1_0 : l1_0.length ≤ c1_0) (hr1_1 : Kd.C Kd.bool w A1_1 l1_1.length l1_1) (hc1_1 : l1_1.length ≤ c1_1) (hr2 : Kd.C k46 w A2 l2.length l2) (hc2 : l2.length ≤ c2) (hT : Tabs w) (h : tags_Latch.f l0 l1_0 l1_1 l2 = some (r1, r2, r3)) :
    Calls Tryd.prog 20 #[.slice A0 l0.length c0, .agg #[.slice A1_0 l1_0.length c1_0, .slice A1_1 l1_1.length c1_1], .slice A2 l2.length c2] w fun e w' => ∃ v0_ v1_ : Value, e = .returned (.tuple #[.agg #[v0_, v1_], .int .i64 r3]) ∧ Kd.R (Kd.int .i64) 3 w' w.heap.size (fun _ => True) v0_ r1 ∧ Kd.R Kd.bool 4 w' w.heap.size (fun _ => True) v1_ r2 ∧ Below w.heap.size w w' := by
  have hu28 := Tryd.underlying28
  have HR0 := Aside0.mk hr0
  have HC0 := Aside0.mk hc0
  clear hr0 hc0
  have HR1_0 := Aside0.mk hr1_0
  have HC1_0 := Aside0.mk hc1_0
  clear hr1_0 hc1_0
  have HR1_1 := Aside0.mk hr1_1
  have HC1_1 := Aside0.mk hc1_1
  clear hr1_1 hc1_1
  have HR2 := Aside0.mk hr2
  have HC2 := Aside0.mk hc2
  clear hr2 hc2
  have HB := Aside0.mk (Below.refl w.heap.size w)
  have H : ((tags_told.f l0 l1_0 l1_1 l2 false).bind fun bt127 => (some (bt127.1, bt127.2.1, bt127.2.2))) = some (r1, r2, r3) := h
  clear h
  replace H := Option.bind_eq_some_iff.mp H
  obtain ⟨⟨t127, t130, t133⟩, A40, H⟩ := H
  replace H : (some (t127, t130, t133)) = some (r1, r2, r3) := H
  have A4 := Aside0.mk A40
  clear A40
  simp only [Option.some.injEq, Prod.mk.injEq] at H
  obtain ⟨rfl, rfl, rfl⟩ := H
  go_enter Tryd.func20, Tryd.ntmps20
  go_wp2_with (first | ((with_reducible refine gate_dst (N := 4) rfl ?_); refine box_event ?hg (N := 4) ?hd (cs := #[.slice A1_0 l1_0.length c1_0, .slice A1_1 l1_1.length c1_1]) (t := 28) ?hr ?_; (case hd => rfl); (case hg => rfl); (case hr => first | (go_simp; done) | (go_simp; rfl)); intro gb125 hg w5 hbox hb; have n0_ := Aside0.mk (below_step (by repeat (first | (with_reducible first | exact HB.out | apply below_alloc | apply pw_below_drewN | apply below_drew1) | exact HB.out)) hb); have n1_ := Aside0.mk (hbox); have n2_ := Aside0.mk ((by rw [hg]; exact (below_size (by repeat (first | (with_reducible first | exact HB.out | apply below_alloc | apply pw_below_drewN | apply below_drew1) | exact HB.out))) : w.heap.size ≤ gb125)); have n3_ := Aside0.mk ((by rw [hg]; exact (below_size (by repeat (first | (with_reducible first | exact HB.out | apply below_alloc | apply pw_below_drewN | apply below_drew1) | exact HB.out))) : w.heap.size ≤ gb125)); clear HB; have HB := n0_; have BK125 := n1_; have GW125 := n2_; have GE125 := n3_; clear n0_ n1_ n2_ n3_; clear hb hbox hg) | ((with_reducible refine gate_dst (N := 6) rfl ?_); refine box_event ?hg (N := 6) ?hd (cs := #[.slice none 0 0, .slice none 0 0]) (t := 28) ?hr ?_; (case hd => rfl); (case hg => rfl); (case hr => first | (go_simp; done) | (go_simp; rfl)); intro gb126 hg w6 hbox hb; have n0_ := Aside0.mk (blk_below (g := gb125) (o := .cells #[.slice A1_0 l1_0.length c1_0, .slice A1_1 l1_1.length c1_1] 28 (0, 0)) (by (with_reducible repeat (first | refine blk_drewN ?_ _ | refine blk_drew ?_ | refine blk_alloc ?_ _)); exact BK125.out) hb); have n1_ := Aside0.mk (below_step (by repeat (first | (with_reducible first | exact HB.out | apply below_alloc | apply pw_below_drewN | apply below_drew1 | refine below_set ?_ GE125.out) | exact HB.out)) hb); have n2_ := Aside0.mk (hbox); have n3_ := Aside0.mk ((by rw [hg]; exact (below_size (by repeat (first | (with_reducible first | exact HB.out | apply below_alloc | apply pw_below_drewN | apply below_drew1 | refine below_set ?_ GE125.out) | exact HB.out))) : w.heap.size ≤ gb126)); have n4_ := Aside0.mk ((by rw [hg]; exact (below_size (by repeat (first | (with_reducible first | exact HB.out | apply below_alloc | apply pw_below_drewN | apply below_drew1 | refine below_set ?_ GE125.out) | exact HB.out))) : w.heap.size ≤ gb126)); have n5_ := Aside0.mk ((by rw [hg]; exact Nat.ne_of_lt (blk_lt (g := gb125) (o := .cells #[.slice A1_0 l1_0.length c1_0, .slice A1_1 l1_1.length c1_1] 28 (0, 0)) (by (with_reducible repeat (first | refine blk_drewN ?_ _ | refine blk_drew ?_ | refine blk_alloc ?_ _)); exact BK125.out)) : gb125 ≠ gb126)); have n6_ := Aside0.mk ((by rw [hg]; exact Nat.ne_of_gt (blk_lt (g := gb125) (o := .cells #[.slice A1_0 l1_0.length c1_0, .slice A1_1 l1_1.length c1_1] 28 (0, 0)) (by (with_reducible repeat (first | refine blk_drewN ?_ _ | refine blk_drew ?_ | refine blk_alloc ?_ _)); exact BK125.out)) : gb126 ≠ gb125)); clear BK125; clear HB; have BK125 := n0_; have HB := n1_; have BK126 := n2_; have GW126 := n3_; have GE126 := n4_; have NB125_126 := n5_; have NB126_125 := n6_; clear n0_ n1_ n2_ n3_ n4_ n5_ n6_; clear hb hbox hg; have hnb7 := NB125_126.out; have hnc7 := NB126_125.out; have hcz8_0 : w6.cell? ⟨gb125, 0, none⟩ = some (.slice A1_0 l1_0.length c1_0) := (blk_cell BK125.out 0).trans rfl; have hcz8_1 : w6.cell? ⟨gb125, 1, none⟩ = some (.slice A1_1 l1_1.length c1_1) := (blk_cell BK125.out 1).trans rfl; have hfz8_0 := blk_frozen BK125.out 0; have hfz8_1 := blk_frozen BK125.out 1) | ((with_reducible refine gate_callee (f := 36) rfl ?_); refine goesL_ (some 11) rfl rfl Tryd.func36 (by kernel_rfl) rfl #[.slice A0 l0.length c0, .agg #[.slice A1_0 l1_0.length c1_0, .slice A1_1 l1_1.length c1_1], .slice A2 l2.length c2, .bool false] rfl (by (try simp only [List.map_toArray, List.map_cons, List.map_nil]); first | done | rfl | (simp only [List.length_drop, List.length_take]; rfl)) ?_; (with_reducible refine (tags_told.calls _ _ l0 _ _ l1_0 _ _ l1_1 _ _ l2 false t127 t130 t133 _ ?side1 ?side2 ?side3 ?side4 ?side5 ?side6 ?side7 ?side8 ?side9 A4.out).mono ?_); (case side1 => repeat (first | exact (Kd.C_below HR0.out HB.out) | (with_reducible refine Kd.C_alloc ?_ _) | (with_reducible refine Kd.C_drewN ?_ _) | (with_reducible refine Kd.C_drew ?_))); (case side2 => exact HC0.out); (case side3 => repeat (first | exact (Kd.C_below HR1_0.out HB.out) | (with_reducible refine Kd.C_alloc ?_ _) | (with_reducible refine Kd.C_drewN ?_ _) | (with_reducible refine Kd.C_drew ?_))); (case side4 => exact HC1_0.out); (case side5 => repeat (first | exact (Kd.C_below HR1_1.out HB.out) | (with_reducible refine Kd.C_alloc ?_ _) | (with_reducible refine Kd.C_drewN ?_ _) | (with_reducible refine Kd.C_drew ?_))); (case side6 => exact HC1_1.out); (case side7 => repeat (first | exact (Kd.C_below HR2.out HB.out) | (with_reducible refine Kd.C_alloc ?_ _) | (with_reducible refine Kd.C_drewN ?_ _) | (with_reducible refine Kd.C_drew ?_))); (case side8 => exact HC2.out); (case side9 => exact Tabs.below hT (by repeat (first | (with_reducible first | exact HB.out | apply below_alloc | apply pw_below_drewN | apply below_drew1 | refine below_set ?_ GE125.out | refine below_set ?_ GE126.out) | exact HB.out))); rintro e w9 ⟨v128, v131, rfl, ho0, ho1, hb⟩; refine ⟨_, rfl, ?_⟩; have n0_ := Aside0.mk (Kd.R_lower ho0 (below_size (by repeat (first | (with_reducible first | exact HB.out | apply below_alloc | apply pw_below_drewN | apply below_drew1 | refine below_set ?_ GE125.out | refine below_set ?_ GE126.out) | exact HB.out)))); have n1_ := Aside0.mk (Kd.R_lower ho1 (below_size (by repeat (first | (with_reducible first | exact HB.out | apply below_alloc | apply pw_below_drewN | apply below_drew1 | refine below_set ?_ GE125.out | refine below_set ?_ GE126.out) | exact HB.out)))); have n2_ := Aside0.mk (blk_below (g := gb125) (o := .cells #[.slice A1_0 l1_0.length c1_0, .slice A1_1 l1_1.length c1_1] 28 (0, 0)) (by (with_reducible repeat (first | refine blk_drewN ?_ _ | refine blk_drew ?_ | refine blk_alloc ?_ _)); exact BK125.out) hb); have n3_ := Aside0.mk (blk_below (g := gb126) (o := .cells #[.slice none 0 0, .slice none 0 0] 28 (0, 0)) (by (with_reducible repeat (first | refine blk_drewN ?_ _ | refine blk_drew ?_ | refine blk_alloc ?_ _)); exact BK126.out) hb); have n4_ := Aside0.mk (below_step (by repeat (first | (with_reducible first | exact HB.out | apply below_alloc | apply pw_below_drewN | apply below_drew1 | refine below_set ?_ GE125.out | refine below_set ?_ GE126.out) | exact HB.out)) hb); clear BK125; clear BK126; clear HB; have HO129 := n0_; have HO132 := n1_; have BK125 := n2_; have BK126 := n3_; have HB := n4_; clear n0_ n1_ n2_ n3_ n4_; (try clear hb); (try clear hb2); (try clear hk); (try clear hi); (try clear ho0); (try clear ho1); obtain ⟨Ao10, co10, eo10⟩ := Kd.R_slice HO129.out; subst eo10; have hcz11_0 : w9.cell? ⟨gb126, 0, none⟩ = some (.slice none 0 0) := (blk_cell BK126.out 0).trans rfl; have hcz11_1 : w9.cell? ⟨gb126, 1, none⟩ = some (.slice none 0 0) := (blk_cell BK126.out 1).trans rfl; have hfz11_0 := blk_frozen BK126.out 0; have hfz11_1 := blk_frozen BK126.out 1; obtain ⟨Ao12, co12, eo12⟩ := Kd.R_slice HO132.out; subst eo12))
  refine bodyPost_ret (results_ct rfl _ _ gb126 28 #[.slice Ao10 t127.length co10, .slice Ao12 t130.length co12] (0, 0) _ rfl (by (with_reducible repeat (first | refine blk_drewN ?_ _ | refine blk_drew ?_ | refine blk_alloc ?_ _)); refine blk_put (cs := #[.slice Ao10 t127.length co10, .slice none 0 0]) ?_ 1 _ rfl; (with_reducible repeat (first | refine blk_drewN ?_ _ | refine blk_drew ?_ | refine blk_alloc ?_ _)); refine blk_put (cs := #[.slice none 0 0, .slice none 0 0]) ?_ 0 _ rfl; (with_reducible repeat (first | refine blk_drewN ?_ _ | refine blk_drew ?_ | refine blk_alloc ?_ _)); exact BK126.out) Tryd.underlying28 rfl (by kernel_rfl)) rfl ?_
  exact ⟨_, _, by first | rfl | (simp [errW_none, errW_some] <;> rfl) | (simp [*, errW_none, errW_some] <;> rfl), by (with_reducible repeat (first | apply Kd.R_alloc | apply Kd.R_drewN | apply Kd.R_drew)); exact Kd.R_mono (Kd.R_far (p := ⟨gb126, 1, none⟩) (Kd.R_far (p := ⟨gb126, 0, none⟩) (Kd.R_types HO129.out BK126.out (by decide)) (fun _ hk => hk.2) (.slice Ao10 t127.length co10)) (fun _ hk => hk.2) (.slice Ao12 t130.length co12)) (fun _ hk => trivial), by (with_reducible repeat (first | apply Kd.R_alloc | apply Kd.R_drewN | apply Kd.R_drew)); exact Kd.R_mono (Kd.R_far (p := ⟨gb126, 1, none⟩) (Kd.R_far (p := ⟨gb126, 0, none⟩) (Kd.R_types HO132.out BK126.out (by decide)) (fun _ hk => hk.2) (.slice Ao10 t127.length co10)) (fun _ hk => hk.2) (.slice Ao12 t130.length co12)) (fun _ hk => trivial), by repeat (first | (with_reducible first | exact HB.out | apply below_alloc | apply pw_below_drewN | apply below_drew1 | refine below_set ?_ GE125.out | refine below_set ?_ GE126.out) | exact HB.out)⟩
def tags_Drive.f (l0 : List (S48)) (l1_0 : List Int) (l1_1 : List Bool) (l2 : List (S46)) : Option (List Int × List Bool × Int) := (tags_told.f l0 l1_0 l1_1 l2 true).bind fun bt136 => (some (bt136.1, bt136.2.1, bt136.2.2))
set_option maxHeartbeats 8000000 in
set_option maxRecDepth 100000 in
theorem tags_Drive.calls (A0 : Option Addr) (c0 : Nat) (l0 : List (S48)) (A1_0 : Option Addr) (c1_0 : Nat) (l1_0 : List Int) (A1_1 : Option Addr) (c1_1 : Nat) (l1_1 : List Bool) (A2 : Option Addr) (c2 : Nat) (l2 : List (S46)) (r1 : List Int) (r2 : List Bool) (r3 : Int) (w : World) (hr0 : Kd.C k48 w A0 l0.length l0) (hc0 : l0.length ≤ c0) (hr1_0 : Kd.C (Kd.int .i64) w A1_0 l1_0.length l1_0) (hc1_0 : l1_0.length ≤ c1_0) (hr1_1 : Kd.C Kd.bool w A1_1 l1_1.length l1_1) (hc1_1 : l1_1.length ≤ c1_1) (hr2 : Kd.C k46 w A2 l2.length l2) (hc2 : l2.length ≤ c2) (hT : Tabs w) (h : tags_Drive.f l0 l1_0 l1_1 l2 = some (r1, r2, r3)) :
    Calls Tryd.prog 22 #[.slice A0 l0.length c0, .agg #[.slice A1_0 l1_0.length c1_0, .slice A1_1 l1_1.length c1_1], .slice A2 l2.length c2] w fun e w' => ∃ v0_ v1_ : Value, e = .returned (.tuple #[.agg #[v0_, v1_], .int .i64 r3]) ∧ Kd.R (Kd.int .i64) 3 w' w.heap.size (fun _ => True) v0_ r1 ∧ Kd.R Kd.bool 4 w' w.heap.size (fun _ => True) v1_ r2 ∧ Below w.heap.size w w' := by
  have hu28 := Tryd.underlying28
  have HR0 := Aside0.mk hr0
  have HC0 := Aside0.mk hc0
  clear hr0 hc0
  have HR1_0 := Aside0.mk hr1_0
  have HC1_0 := Aside0.mk hc1_0
  clear hr1_0 hc1_0
  have HR1_1 := Aside0.mk hr1_1
  have HC1_1 := Aside0.mk hc1_1
  clear hr1_1 hc1_1
  have HR2 := Aside0.mk hr2
  have HC2 := Aside0.mk hc2
  clear hr2 hc2
  have HB := Aside0.mk (Below.refl w.heap.size w)
  have H : ((tags_told.f l0 l1_0 l1_1 l2 true).bind fun bt136 => (some (bt136.1, bt136.2.1, bt136.2.2))) = some (r1, r2, r3) := h
  clear h
  replace H := Option.bind_eq_some_iff.mp H
  obtain ⟨⟨t136, t139, t142⟩, A40, H⟩ := H
  replace H : (some (t136, t139, t142)) = some (r1, r2, r3) := H
  have A4 := Aside0.mk A40
  clear A40
  simp only [Option.some.injEq, Prod.mk.injEq] at H
  obtain ⟨rfl, rfl, rfl⟩ := H
  go_enter Tryd.func22, Tryd.ntmps22
  go_wp2_with (first | ((with_reducible refine gate_dst (N := 4) rfl ?_); refine box_event ?hg (N := 4) ?hd (cs := #[.slice A1_0 l1_0.length c1_0, .slice A1_1 l1_1.length c1_1]) (t := 28) ?hr ?_; (case hd => rfl); (case hg => rfl); (case hr => first | (go_simp; done) | (go_simp; rfl)); intro gb134 hg w5 hbox hb; have n0_ := Aside0.mk (below_step (by repeat (first | (with_reducible first | exact HB.out | apply below_alloc | apply pw_below_drewN | apply below_drew1) | exact HB.out)) hb); have n1_ := Aside0.mk (hbox); have n2_ := Aside0.mk ((by rw [hg]; exact (below_size (by repeat (first | (with_reducible first | exact HB.out | apply below_alloc | apply pw_below_drewN | apply below_drew1) | exact HB.out))) : w.heap.size ≤ gb134)); have n3_ := Aside0.mk ((by rw [hg]; exact (below_size (by repeat (first | (with_reducible first | exact HB.out | apply below_alloc | apply pw_below_drewN | apply below_drew1) | exact HB.out))) : w.heap.size ≤ gb134)); clear HB; have HB := n0_; have BK134 := n1_; have GW134 := n2_; have GE134 := n3_; clear n0_ n1_ n2_ n3_; clear hb hbox hg) | ((with_reducible refine gate_dst (N := 6) rfl ?_); refine box_event ?hg (N := 6) ?hd (cs := #[.slice none 0 0, .slice none 0 0]) (t := 28) ?hr ?_; (case hd => rfl); (case hg => rfl); (case hr => first | (go_simp; done) | (go_simp; rfl)); intro gb135 hg w6 hbox hb; have n0_ := Aside0.mk (blk_below (g := gb134) (o := .cells #[.slice A1_0 l1_0.length c1_0, .slice A1_1 l1_1.length c1_1] 28 (0, 0)) (by (with_reducible repeat (first | refine blk_drewN ?_ _ | refine blk_drew ?_ | refine blk_alloc ?_ _)); exact BK134.out) hb); have n1_ := Aside0.mk (below_step (by repeat (first | (with_reducible first | exact HB.out | apply below_alloc | apply pw_below_drewN | apply below_drew1 | refine below_set ?_ GE134.out) | exact HB.out)) hb); have n2_ := Aside0.mk (hbox); have n3_ := Aside0.mk ((by rw [hg]; exact (below_size (by repeat (first | (with_reducible first | exact HB.out | apply below_alloc | apply pw_below_drewN | apply below_drew1 | refine below_set ?_ GE134.out) | exact HB.out))) : w.heap.size ≤ gb135)); have n4_ := Aside0.mk ((by rw [hg]; exact (below_size (by repeat (first | (with_reducible first | exact HB.out | apply below_alloc | apply pw_below_drewN | apply below_drew1 | refine below_set ?_ GE134.out) | exact HB.out))) : w.heap.size ≤ gb135)); have n5_ := Aside0.mk ((by rw [hg]; exact Nat.ne_of_lt (blk_lt (g := gb134) (o := .cells #[.slice A1_0 l1_0.length c1_0, .slice A1_1 l1_1.length c1_1] 28 (0, 0)) (by (with_reducible repeat (first | refine blk_drewN ?_ _ | refine blk_drew ?_ | refine blk_alloc ?_ _)); exact BK134.out)) : gb134 ≠ gb135)); have n6_ := Aside0.mk ((by rw [hg]; exact Nat.ne_of_gt (blk_lt (g := gb134) (o := .cells #[.slice A1_0 l1_0.length c1_0, .slice A1_1 l1_1.length c1_1] 28 (0, 0)) (by (with_reducible repeat (first | refine blk_drewN ?_ _ | refine blk_drew ?_ | refine blk_alloc ?_ _)); exact BK134.out)) : gb135 ≠ gb134)); clear BK134; clear HB; have BK134 := n0_; have HB := n1_; have BK135 := n2_; have GW135 := n3_; have GE135 := n4_; have NB134_135 := n5_; have NB135_134 := n6_; clear n0_ n1_ n2_ n3_ n4_ n5_ n6_; clear hb hbox hg; have hnb7 := NB134_135.out; have hnc7 := NB135_134.out; have hcz8_0 : w6.cell? ⟨gb134, 0, none⟩ = some (.slice A1_0 l1_0.length c1_0) := (blk_cell BK134.out 0).trans rfl; have hcz8_1 : w6.cell? ⟨gb134, 1, none⟩ = some (.slice A1_1 l1_1.length c1_1) := (blk_cell BK134.out 1).trans rfl; have hfz8_0 := blk_frozen BK134.out 0; have hfz8_1 := blk_frozen BK134.out 1) | ((with_reducible refine gate_callee (f := 36) rfl ?_); refine goesL_ (some 11) rfl rfl Tryd.func36 (by kernel_rfl) rfl #[.slice A0 l0.length c0, .agg #[.slice A1_0 l1_0.length c1_0, .slice A1_1 l1_1.length c1_1], .slice A2 l2.length c2, .bool true] rfl (by (try simp only [List.map_toArray, List.map_cons, List.map_nil]); first | done | rfl | (simp only [List.length_drop, List.length_take]; rfl)) ?_; (with_reducible refine (tags_told.calls _ _ l0 _ _ l1_0 _ _ l1_1 _ _ l2 true t136 t139 t142 _ ?side1 ?side2 ?side3 ?side4 ?side5 ?side6 ?side7 ?side8 ?side9 A4.out).mono ?_); (case side1 => repeat (first | exact (Kd.C_below HR0.out HB.out) | (with_reducible refine Kd.C_alloc ?_ _) | (with_reducible refine Kd.C_drewN ?_ _) | (with_reducible refine Kd.C_drew ?_))); (case side2 => exact HC0.out); (case side3 => repeat (first | exact (Kd.C_below HR1_0.out HB.out) | (with_reducible refine Kd.C_alloc ?_ _) | (with_reducible refine Kd.C_drewN ?_ _) | (with_reducible refine Kd.C_drew ?_))); (case side4 => exact HC1_0.out); (case side5 => repeat (first | exact (Kd.C_below HR1_1.out HB.out) | (with_reducible refine Kd.C_alloc ?_ _) | (with_reducible refine Kd.C_drewN ?_ _) | (with_reducible refine Kd.C_drew ?_))); (case side6 => exact HC1_1.out); (case side7 => repeat (first | exact (Kd.C_below HR2.out HB.out) | (with_reducible refine Kd.C_alloc ?_ _) | (with_reducible refine Kd.C_drewN ?_ _) | (with_reducible refine Kd.C_drew ?_))); (case side8 => exact HC2.out); (case side9 => exact Tabs.below hT (by repeat (first | (with_reducible first | exact HB.out | apply below_alloc | apply pw_below_drewN | apply below_drew1 | refine below_set ?_ GE134.out | refine below_set ?_ GE135.out) | exact HB.out))); rintro e w9 ⟨v137, v140, rfl, ho0, ho1, hb⟩; refine ⟨_, rfl, ?_⟩; have n0_ := Aside0.mk (Kd.R_lower ho0 (below_size (by repeat (first | (with_reducible first | exact HB.out | apply below_alloc | apply pw_below_drewN | apply below_drew1 | refine below_set ?_ GE134.out | refine below_set ?_ GE135.out) | exact HB.out)))); have n1_ := Aside0.mk (Kd.R_lower ho1 (below_size (by repeat (first | (with_reducible first | exact HB.out | apply below_alloc | apply pw_below_drewN | apply below_drew1 | refine below_set ?_ GE134.out | refine below_set ?_ GE135.out) | exact HB.out)))); have n2_ := Aside0.mk (blk_below (g := gb134) (o := .cells #[.slice A1_0 l1_0.length c1_0, .slice A1_1 l1_1.length c1_1] 28 (0, 0)) (by (with_reducible repeat (first | refine blk_drewN ?_ _ | refine blk_drew ?_ | refine blk_alloc ?_ _)); exact BK134.out) hb); have n3_ := Aside0.mk (blk_below (g := gb135) (o := .cells #[.slice none 0 0, .slice none 0 0] 28 (0, 0)) (by (with_reducible repeat (first | refine blk_drewN ?_ _ | refine blk_drew ?_ | refine blk_alloc ?_ _)); exact BK135.out) hb); have n4_ := Aside0.mk (below_step (by repeat (first | (with_reducible first | exact HB.out | apply below_alloc | apply pw_below_drewN | apply below_drew1 | refine below_set ?_ GE134.out | refine below_set ?_ GE135.out) | exact HB.out)) hb); clear BK134; clear BK135; clear HB; have HO138 := n0_; have HO141 := n1_; have BK134 := n2_; have BK135 := n3_; have HB := n4_; clear n0_ n1_ n2_ n3_ n4_; (try clear hb); (try clear hb2); (try clear hk); (try clear hi); (try clear ho0); (try clear ho1); obtain ⟨Ao10, co10, eo10⟩ := Kd.R_slice HO138.out; subst eo10; have hcz11_0 : w9.cell? ⟨gb135, 0, none⟩ = some (.slice none 0 0) := (blk_cell BK135.out 0).trans rfl; have hcz11_1 : w9.cell? ⟨gb135, 1, none⟩ = some (.slice none 0 0) := (blk_cell BK135.out 1).trans rfl; have hfz11_0 := blk_frozen BK135.out 0; have hfz11_1 := blk_frozen BK135.out 1; obtain ⟨Ao12, co12, eo12⟩ := Kd.R_slice HO141.out; subst eo12))
  refine bodyPost_ret (results_ct rfl _ _ gb135 28 #[.slice Ao10 t136.length co10, .slice Ao12 t139.length co12] (0, 0) _ rfl (by (with_reducible repeat (first | refine blk_drewN ?_ _ | refine blk_drew ?_ | refine blk_alloc ?_ _)); refine blk_put (cs := #[.slice Ao10 t136.length co10, .slice none 0 0]) ?_ 1 _ rfl; (with_reducible repeat (first | refine blk_drewN ?_ _ | refine blk_drew ?_ | refine blk_alloc ?_ _)); refine blk_put (cs := #[.slice none 0 0, .slice none 0 0]) ?_ 0 _ rfl; (with_reducible repeat (first | refine blk_drewN ?_ _ | refine blk_drew ?_ | refine blk_alloc ?_ _)); exact BK135.out) Tryd.underlying28 rfl (by kernel_rfl)) rfl ?_
  exact ⟨_, _, by first | rfl | (simp [errW_none, errW_some] <;> rfl) | (simp [*, errW_none, errW_some] <;> rfl), by (with_reducible repeat (first | apply Kd.R_alloc | apply Kd.R_drewN | apply Kd.R_drew)); exact Kd.R_mono (Kd.R_far (p := ⟨gb135, 1, none⟩) (Kd.R_far (p := ⟨gb135, 0, none⟩) (Kd.R_types HO138.out BK135.out (by decide)) (fun _ hk => hk.2) (.slice Ao10 t136.length co10)) (fun _ hk => hk.2) (.slice Ao12 t139.length co12)) (fun _ hk => trivial), by (with_reducible repeat (first | apply Kd.R_alloc | apply Kd.R_drewN | apply Kd.R_drew)); exact Kd.R_mono (Kd.R_far (p := ⟨gb135, 1, none⟩) (Kd.R_far (p := ⟨gb135, 0, none⟩) (Kd.R_types HO141.out BK135.out (by decide)) (fun _ hk => hk.2) (.slice Ao10 t136.length co10)) (fun _ hk => hk.2) (.slice Ao12 t139.length co12)) (fun _ hk => trivial), by repeat (first | (with_reducible first | exact HB.out | apply below_alloc | apply pw_below_drewN | apply below_drew1 | refine below_set ?_ GE134.out | refine below_set ?_ GE135.out) | exact HB.out)⟩
def malthouselaw08_pair.f  : Option ((List (S48))) := some (([(⟨(⟨#[116]⟩ : ByteArray), false, 0, 100⟩ : S48), (⟨(⟨#[118]⟩ : ByteArray), true, 1, 5⟩ : S48)] : List (S48)))
set_option maxHeartbeats 8000000 in
set_option maxRecDepth 100000 in
theorem malthouselaw08_pair.calls  (r : List (S48)) (w : World) (h : malthouselaw08_pair.f  = some r) :
    Calls Tryd.prog 29 #[] w fun e w' => ∃ v0_ : Value, e = .returned (v0_) ∧ Kd.R k48 48 w' w.heap.size (fun _ => True) v0_ r ∧ Below w.heap.size w w' := by
  have hu48 := Tryd.underlying48
  have HB := Aside0.mk (Below.refl w.heap.size w)
  have H : (some (([(⟨(⟨#[116]⟩ : ByteArray), false, 0, 100⟩ : S48), (⟨(⟨#[118]⟩ : ByteArray), true, 1, 5⟩ : S48)] : List (S48)))) = some r := h
  clear h
  obtain ⟨y143, hy143⟩ : ∃ y_ : List (S48), y_ = (([(⟨(⟨#[116]⟩ : ByteArray), false, 0, 100⟩ : S48), (⟨(⟨#[118]⟩ : ByteArray), true, 1, 5⟩ : S48)] : List (S48))) := ⟨_, rfl⟩
  replace H : (some y143) = some r := by first | (rw [hy143]; with_reducible exact H) | (have H2_ := (Option.bind_some _ _).symm.trans H; rw [hy143]; with_reducible exact H2_) | (have H2_ := (Option.bind_some _ _).symm.trans H; with_reducible exact H2_) | with_reducible exact H | (rw [hy143]; exact H) | exact H
  have Ny143 := Aside0.mk hy143
  clear hy143
  obtain rfl := Option.some.inj H
  go_enter Tryd.func29, Tryd.ntmps29
  go_wp2_with (first | ((with_reducible refine gate_dst (N := 3) rfl ?_); refine Kd.R_lit k48 _ 48 ?hg (N := 3) ?hd (xs := ([(⟨(⟨#[116]⟩ : ByteArray), false, 0, 100⟩ : S48), (⟨(⟨#[118]⟩ : ByteArray), true, 1, 5⟩ : S48)] : List (S48))) (inner := [.string (⟨#[116]⟩ : ByteArray), .bool false, .int .i64 0, .int .i64 100, .string (⟨#[118]⟩ : ByteArray), .bool true, .int .i64 1, .int .i64 5]) (ok := fun _ => True) (okp := fun _ => True) ?hr ?hp (fun _ hk => hk) trivial (Below.refl _ _) (Nat.le_refl _) (by simp) ?_; (case hd => rfl); (case hg => rfl); (case hr => first | (go_simp; done) | (go_simp; rfl)); (case hp => exact (Reps.c4 (show Kd.M k48 _ _ _ (⟨(⟨#[116]⟩ : ByteArray), false, 0, 100⟩ : S48) [.string (⟨#[116]⟩ : ByteArray), .bool false, .int .i64 0, .int .i64 100] from (k48_mkM _ _ _ (⟨(⟨#[116]⟩ : ByteArray), false, 0, 100⟩ : S48) )) (Reps.c4 (show Kd.M k48 _ _ _ (⟨(⟨#[118]⟩ : ByteArray), true, 1, 5⟩ : S48) [.string (⟨#[118]⟩ : ByteArray), .bool true, .int .i64 1, .int .i64 5] from (k48_mkM _ _ _ (⟨(⟨#[118]⟩ : ByteArray), true, 1, 5⟩ : S48) )) (Reps.none _ _)))); intro v144 w1 ho2 hb hg_ hnew_; clear hg_ hnew_; (first | rw [← Ny143.out] at ho2 | (simp only [Int.reduceToNat] at ho2; rw [← Ny143.out] at ho2)); have n0_ := Aside0.mk (Kd.R_lower ho2 (below_size (by repeat (first | (with_reducible first | exact HB.out | apply below_alloc | apply pw_below_drewN | apply below_drew1) | exact HB.out)))); have n1_ := Aside0.mk (below_step (by repeat (first | (with_reducible first | exact HB.out | apply below_alloc | apply pw_below_drewN | apply below_drew1) | exact HB.out)) hb); clear HB; have HO145 := n0_; have HB := n1_; clear n0_ n1_; clear hb ho2))
  go_ret
  exact ⟨_, by first | rfl | (simp [errW_none, errW_some] <;> rfl) | (simp [*, errW_none, errW_some] <;> rfl), by (with_reducible repeat (first | apply Kd.R_alloc | apply Kd.R_drewN | apply Kd.R_drew)); exact HO145.out, by repeat (first | (with_reducible first | exact HB.out | apply below_alloc | apply pw_below_drewN | apply below_drew1) | exact HB.out)⟩
end Go.Proofs.YtbmdhmmahmdccaaDoor.Print
/-! ### Print12 -/
namespace Go.Proofs.YtbmdhmmahmdccaaDoor.Print
open Go.RowKit Go.Proofs.YtbmdhmmahmdccaaDoorW.PrintWords Go.Proofs.YtbmdhmmahmdccaaDoorW.PrintLast Go.Proofs.YtbmdhmmahmdccaaDoorW.PrintMore
attribute [local go_sem] max2_int min2_int max_two min_two
set_option linter.unusedVariables false
set_option linter.unusedSimpArgs false
mutual
def malthouseref08_Same.j0 : Nat → Bool → List Int → List Bool → List Int → List Bool → Option (Bool)
  | 0, _, _, _, _, _ => none
  | k + 1, x22, x194000, x194001, x195000, x195001 => if x22 = true then (some false) else (malthouseref08_Same.l0 k 0 x194000 x194001 x195000 x195001)
def malthouseref08_Same.l0 : Nat → Int → List Int → List Bool → List Int → List Bool → Option (Bool)
  | 0, _, _, _, _, _ => none
  | k + 1, x5, x194000, x194001, x195000, x195001 => if x5 < (x194000.length : Int) then (if 0 ≤ x5 then (if x5 < (x195000.length : Int) then (if (rd x194000 x5) = (rd x195000 x5) then (malthouseref08_Same.l0 k (wrap64 (x5 + 1)) x194000 x194001 x195000 x195001) else (some false)) else (none)) else (none)) else (malthouseref08_Same.l1 k 0 x194000 x194001 x195000 x195001)
def malthouseref08_Same.l1 : Nat → Int → List Int → List Bool → List Int → List Bool → Option (Bool)
  | 0, _, _, _, _, _ => none
  | k + 1, x6, x194000, x194001, x195000, x195001 => if x6 < (x194001.length : Int) then (if 0 ≤ x6 then (if x6 < (x195001.length : Int) then (if ((rdOf false x194001 x6) != (rdOf false x195001 x6)) = true then (some false) else (malthouseref08_Same.l1 k (wrap64 (x6 + 1)) x194000 x194001 x195000 x195001)) else (none)) else (none)) else (some true)
end
def malthouseref08_Same.f (k : Nat) (l0_0 : List Int) (l0_1 : List Bool) (l1_0 : List Int) (l1_1 : List Bool) : Option (Bool) := if (l0_0.length : Int) = (l1_0.length : Int) then (malthouseref08_Same.j0 k ((l0_1.length : Int) != (l1_1.length : Int)) l0_0 l0_1 l1_0 l1_1) else (malthouseref08_Same.j0 k true l0_0 l0_1 l1_0 l1_1)
set_option maxHeartbeats 8000000 in
set_option maxRecDepth 100000 in
theorem malthouseref08_Same.calls (k : Nat) (A0_0 : Option Addr) (c0_0 : Nat) (l0_0 : List Int) (A0_1 : Option Addr) (c0_1 : Nat) (l0_1 : List Bool) (A1_0 : Option Addr) (c1_0 : Nat) (l1_0 : List Int) (A1_1 : Option Addr) (c1_1 : Nat) (l1_1 : List Bool) (r : Bool) (w : World) (hr0_0 : Kd.C (Kd.int .i64) w A0_0 l0_0.length l0_0) (hc0_0 : l0_0.length ≤ c0_0) (hr0_1 : Kd.C Kd.bool w A0_1 l0_1.length l0_1) (hc0_1 : l0_1.length ≤ c0_1) (hr1_0 : Kd.C (Kd.int .i64) w A1_0 l1_0.length l1_0) (hc1_0 : l1_0.length ≤ c1_0) (hr1_1 : Kd.C Kd.bool w A1_1 l1_1.length l1_1) (hc1_1 : l1_1.length ≤ c1_1) (h : malthouseref08_Same.f k l0_0 l0_1 l1_0 l1_1 = some r) :
    Calls Tryd.prog 13 #[.agg #[.slice A0_0 l0_0.length c0_0, .slice A0_1 l0_1.length c0_1], .agg #[.slice A1_0 l1_0.length c1_0, .slice A1_1 l1_1.length c1_1]] w fun e w' => e = .returned (.bool r) ∧ Below w.heap.size w w' := by
  have hu28 := Tryd.underlying28
  have HR0_0 := Aside0.mk hr0_0
  have HC0_0 := Aside0.mk hc0_0
  clear hr0_0 hc0_0
  have HR0_1 := Aside0.mk hr0_1
  have HC0_1 := Aside0.mk hc0_1
  clear hr0_1 hc0_1
  have HR1_0 := Aside0.mk hr1_0
  have HC1_0 := Aside0.mk hc1_0
  clear hr1_0 hc1_0
  have HR1_1 := Aside0.mk hr1_1
  have HC1_1 := Aside0.mk hc1_1
  clear hr1_1 hc1_1
  have HB := Aside0.mk (Below.refl w.heap.size w)
  have H : (if (l0_0.length : Int) = (l1_0.length : Int) then (malthouseref08_Same.j0 k ((l0_1.length : Int) != (l1_1.length : Int)) l0_0 l0_1 l1_0 l1_1) else (malthouseref08_Same.j0 k true l0_0 l0_1 l1_0 l1_1)) = some r := h
  clear h
  have HC3 := Aside0.mk H
  clear H
  go_enter Tryd.func13, Tryd.ntmps13
  go_upto_region 1 with (first | ((with_reducible refine gate_dst (N := 2) rfl ?_); (try (refine gate_guard (by rfl) ?_; dsimp only)); refine box_event ?hg (N := 2) ?hd (cs := #[.slice A0_0 l0_0.length c0_0, .slice A0_1 l0_1.length c0_1]) (t := 28) ?hr ?_; (case hd => rfl); (case hg => rfl); (case hr => first | (go_simp; done) | (go_simp; rfl)); intro gb193 hg w4 hbox hb; have n0_ := Aside0.mk (below_step (by repeat (first | (with_reducible first | exact HB.out | apply below_alloc | apply pw_below_drewN | apply below_drew1) | exact HB.out)) hb); have n1_ := Aside0.mk (hbox); have n2_ := Aside0.mk ((by rw [hg]; exact (below_size (by repeat (first | (with_reducible first | exact HB.out | apply below_alloc | apply pw_below_drewN | apply below_drew1) | exact HB.out))) : w.heap.size ≤ gb193)); have n3_ := Aside0.mk ((by rw [hg]; exact (below_size (by repeat (first | (with_reducible first | exact HB.out | apply below_alloc | apply pw_below_drewN | apply below_drew1) | exact HB.out))) : w.heap.size ≤ gb193)); clear HB; have HB := n0_; have BK193 := n1_; have GW193 := n2_; have GE193 := n3_; clear n0_ n1_ n2_ n3_; clear hb hbox hg) | ((with_reducible refine gate_dst (N := 3) rfl ?_); (try (refine gate_guard (by rfl) ?_; dsimp only)); refine box_event ?hg (N := 3) ?hd (cs := #[.slice A1_0 l1_0.length c1_0, .slice A1_1 l1_1.length c1_1]) (t := 28) ?hr ?_; (case hd => rfl); (case hg => rfl); (case hr => first | (go_simp; done) | (go_simp; rfl)); intro gb194 hg w5 hbox hb; have n0_ := Aside0.mk (blk_below (g := gb193) (o := .cells #[.slice A0_0 l0_0.length c0_0, .slice A0_1 l0_1.length c0_1] 28 (0, 0)) (by (with_reducible repeat (first | refine blk_drewN ?_ _ | refine blk_drew ?_ | refine blk_alloc ?_ _)); exact BK193.out) hb); have n1_ := Aside0.mk (below_step (by repeat (first | (with_reducible first | exact HB.out | apply below_alloc | apply pw_below_drewN | apply below_drew1 | refine below_set ?_ GE193.out) | exact HB.out)) hb); have n2_ := Aside0.mk (hbox); have n3_ := Aside0.mk ((by rw [hg]; exact (below_size (by repeat (first | (with_reducible first | exact HB.out | apply below_alloc | apply pw_below_drewN | apply below_drew1 | refine below_set ?_ GE193.out) | exact HB.out))) : w.heap.size ≤ gb194)); have n4_ := Aside0.mk ((by rw [hg]; exact (below_size (by repeat (first | (with_reducible first | exact HB.out | apply below_alloc | apply pw_below_drewN | apply below_drew1 | refine below_set ?_ GE193.out) | exact HB.out))) : w.heap.size ≤ gb194)); have n5_ := Aside0.mk ((by rw [hg]; exact Nat.ne_of_lt (blk_lt (g := gb193) (o := .cells #[.slice A0_0 l0_0.length c0_0, .slice A0_1 l0_1.length c0_1] 28 (0, 0)) (by (with_reducible repeat (first | refine blk_drewN ?_ _ | refine blk_drew ?_ | refine blk_alloc ?_ _)); exact BK193.out)) : gb193 ≠ gb194)); have n6_ := Aside0.mk ((by rw [hg]; exact Nat.ne_of_gt (blk_lt (g := gb193) (o := .cells #[.slice A0_0 l0_0.length c0_0, .slice A0_1 l0_1.length c0_1] 28 (0, 0)) (by (with_reducible repeat (first | refine blk_drewN ?_ _ | refine blk_drew ?_ | refine blk_alloc ?_ _)); exact BK193.out)) : gb194 ≠ gb193)); clear BK193; clear HB; have BK193 := n0_; have HB := n1_; have BK194 := n2_; have GW194 := n3_; have GE194 := n4_; have NB193_194 := n5_; have NB194_193 := n6_; clear n0_ n1_ n2_ n3_ n4_ n5_ n6_; clear hb hbox hg))
  repeat (go_quiet (first | ((with_reducible refine gate_dst (N := 2) rfl ?_); (try (refine gate_guard (by rfl) ?_; dsimp only)); refine box_event ?hg (N := 2) ?hd (cs := #[.slice A0_0 l0_0.length c0_0, .slice A0_1 l0_1.length c0_1]) (t := 28) ?hr ?_; (case hd => rfl); (case hg => rfl); (case hr => first | (go_simp; done) | (go_simp; rfl)); intro gb193 hg w4 hbox hb; have n0_ := Aside0.mk (below_step (by repeat (first | (with_reducible first | exact HB.out | apply below_alloc | apply pw_below_drewN | apply below_drew1) | exact HB.out)) hb); have n1_ := Aside0.mk (hbox); have n2_ := Aside0.mk ((by rw [hg]; exact (below_size (by repeat (first | (with_reducible first | exact HB.out | apply below_alloc | apply pw_below_drewN | apply below_drew1) | exact HB.out))) : w.heap.size ≤ gb193)); have n3_ := Aside0.mk ((by rw [hg]; exact (below_size (by repeat (first | (with_reducible first | exact HB.out | apply below_alloc | apply pw_below_drewN | apply below_drew1) | exact HB.out))) : w.heap.size ≤ gb193)); clear HB; have HB := n0_; have BK193 := n1_; have GW193 := n2_; have GE193 := n3_; clear n0_ n1_ n2_ n3_; clear hb hbox hg) | ((with_reducible refine gate_dst (N := 3) rfl ?_); (try (refine gate_guard (by rfl) ?_; dsimp only)); refine box_event ?hg (N := 3) ?hd (cs := #[.slice A1_0 l1_0.length c1_0, .slice A1_1 l1_1.length c1_1]) (t := 28) ?hr ?_; (case hd => rfl); (case hg => rfl); (case hr => first | (go_simp; done) | (go_simp; rfl)); intro gb194 hg w5 hbox hb; have n0_ := Aside0.mk (blk_below (g := gb193) (o := .cells #[.slice A0_0 l0_0.length c0_0, .slice A0_1 l0_1.length c0_1] 28 (0, 0)) (by (with_reducible repeat (first | refine blk_drewN ?_ _ | refine blk_drew ?_ | refine blk_alloc ?_ _)); exact BK193.out) hb); have n1_ := Aside0.mk (below_step (by repeat (first | (with_reducible first | exact HB.out | apply below_alloc | apply pw_below_drewN | apply below_drew1 | refine below_set ?_ GE193.out) | exact HB.out)) hb); have n2_ := Aside0.mk (hbox); have n3_ := Aside0.mk ((by rw [hg]; exact (below_size (by repeat (first | (with_reducible first | exact HB.out | apply below_alloc | apply pw_below_drewN | apply below_drew1 | refine below_set ?_ GE193.out) | exact HB.out))) : w.heap.size ≤ gb194)); have n4_ := Aside0.mk ((by rw [hg]; exact (below_size (by repeat (first | (with_reducible first | exact HB.out | apply below_alloc | apply pw_below_drewN | apply below_drew1 | refine below_set ?_ GE193.out) | exact HB.out))) : w.heap.size ≤ gb194)); have n5_ := Aside0.mk ((by rw [hg]; exact Nat.ne_of_lt (blk_lt (g := gb193) (o := .cells #[.slice A0_0 l0_0.length c0_0, .slice A0_1 l0_1.length c0_1] 28 (0, 0)) (by (with_reducible repeat (first | refine blk_drewN ?_ _ | refine blk_drew ?_ | refine blk_alloc ?_ _)); exact BK193.out)) : gb193 ≠ gb194)); have n6_ := Aside0.mk ((by rw [hg]; exact Nat.ne_of_gt (blk_lt (g := gb193) (o := .cells #[.slice A0_0 l0_0.length c0_0, .slice A0_1 l0_1.length c0_1] 28 (0, 0)) (by (with_reducible repeat (first | refine blk_drewN ?_ _ | refine blk_drew ?_ | refine blk_alloc ?_ _)); exact BK193.out)) : gb194 ≠ gb193)); clear BK193; clear HB; have BK193 := n0_; have HB := n1_; have BK194 := n2_; have GW194 := n3_; have GE194 := n4_; have NB193_194 := n5_; have NB194_193 := n6_; clear n0_ n1_ n2_ n3_ n4_ n5_ n6_; clear hb hbox hg)); go_upto_region 1 with (first | ((with_reducible refine gate_dst (N := 2) rfl ?_); (try (refine gate_guard (by rfl) ?_; dsimp only)); refine box_event ?hg (N := 2) ?hd (cs := #[.slice A0_0 l0_0.length c0_0, .slice A0_1 l0_1.length c0_1]) (t := 28) ?hr ?_; (case hd => rfl); (case hg => rfl); (case hr => first | (go_simp; done) | (go_simp; rfl)); intro gb193 hg w4 hbox hb; have n0_ := Aside0.mk (below_step (by repeat (first | (with_reducible first | exact HB.out | apply below_alloc | apply pw_below_drewN | apply below_drew1) | exact HB.out)) hb); have n1_ := Aside0.mk (hbox); have n2_ := Aside0.mk ((by rw [hg]; exact (below_size (by repeat (first | (with_reducible first | exact HB.out | apply below_alloc | apply pw_below_drewN | apply below_drew1) | exact HB.out))) : w.heap.size ≤ gb193)); have n3_ := Aside0.mk ((by rw [hg]; exact (below_size (by repeat (first | (with_reducible first | exact HB.out | apply below_alloc | apply pw_below_drewN | apply below_drew1) | exact HB.out))) : w.heap.size ≤ gb193)); clear HB; have HB := n0_; have BK193 := n1_; have GW193 := n2_; have GE193 := n3_; clear n0_ n1_ n2_ n3_; clear hb hbox hg) | ((with_reducible refine gate_dst (N := 3) rfl ?_); (try (refine gate_guard (by rfl) ?_; dsimp only)); refine box_event ?hg (N := 3) ?hd (cs := #[.slice A1_0 l1_0.length c1_0, .slice A1_1 l1_1.length c1_1]) (t := 28) ?hr ?_; (case hd => rfl); (case hg => rfl); (case hr => first | (go_simp; done) | (go_simp; rfl)); intro gb194 hg w5 hbox hb; have n0_ := Aside0.mk (blk_below (g := gb193) (o := .cells #[.slice A0_0 l0_0.length c0_0, .slice A0_1 l0_1.length c0_1] 28 (0, 0)) (by (with_reducible repeat (first | refine blk_drewN ?_ _ | refine blk_drew ?_ | refine blk_alloc ?_ _)); exact BK193.out) hb); have n1_ := Aside0.mk (below_step (by repeat (first | (with_reducible first | exact HB.out | apply below_alloc | apply pw_below_drewN | apply below_drew1 | refine below_set ?_ GE193.out) | exact HB.out)) hb); have n2_ := Aside0.mk (hbox); have n3_ := Aside0.mk ((by rw [hg]; exact (below_size (by repeat (first | (with_reducible first | exact HB.out | apply below_alloc | apply pw_below_drewN | apply below_drew1 | refine below_set ?_ GE193.out) | exact HB.out))) : w.heap.size ≤ gb194)); have n4_ := Aside0.mk ((by rw [hg]; exact (below_size (by repeat (first | (with_reducible first | exact HB.out | apply below_alloc | apply pw_below_drewN | apply below_drew1 | refine below_set ?_ GE193.out) | exact HB.out))) : w.heap.size ≤ gb194)); have n5_ := Aside0.mk ((by rw [hg]; exact Nat.ne_of_lt (blk_lt (g := gb193) (o := .cells #[.slice A0_0 l0_0.length c0_0, .slice A0_1 l0_1.length c0_1] 28 (0, 0)) (by (with_reducible repeat (first | refine blk_drewN ?_ _ | refine blk_drew ?_ | refine blk_alloc ?_ _)); exact BK193.out)) : gb193 ≠ gb194)); have n6_ := Aside0.mk ((by rw [hg]; exact Nat.ne_of_gt (blk_lt (g := gb193) (o := .cells #[.slice A0_0 l0_0.length c0_0, .slice A0_1 l0_1.length c0_1] 28 (0, 0)) (by (with_reducible repeat (first | refine blk_drewN ?_ _ | refine blk_drew ?_ | refine blk_alloc ?_ _)); exact BK193.out)) : gb194 ≠ gb193)); clear BK193; clear HB; have BK193 := n0_; have HB := n1_; have BK194 := n2_; have GW194 := n3_; have GE194 := n4_; have NB193_194 := n5_; have NB194_193 := n6_; clear n0_ n1_ n2_ n3_ n4_ n5_ n6_; clear hb hbox hg)))
  (try simp only [Act.put, List.setIfInBounds_toArray, List.set_cons_zero, List.set_cons_succ])
  go_cut [22] (fun v22 wc => ∃ (kq : Nat) (x22_2 : Bool), v22 = .bool x22_2 ∧ Aside0 (malthouseref08_Same.j0 kq x22_2 l0_0 l0_1 l1_0 l1_1 = some r) ∧ Aside0 (kq ≤ k) ∧ Aside0 (wc.heap[gb193]? = some (.cells #[(.slice A0_0 l0_0.length c0_0), (.slice A0_1 l0_1.length c0_1)] 28 (0, 0))) ∧ Aside0 (wc.heap[gb194]? = some (.cells #[(.slice A1_0 l1_0.length c1_0), (.slice A1_1 l1_1.length c1_1)] 28 (0, 0))) ∧ Aside0 (Below w.heap.size w wc))
  case first =>
    have H := HC3.out
    clear HC3
    by_cases c6 : (l0_0.length : Int) = (l1_0.length : Int)
    · rw [if_pos c6] at H
      have c6b0 : ((l0_0.length : Int) == (l1_0.length : Int)) = true := beq_iff_eq.mpr c6
      have c6b1 : ((l0_0.length : Int) != (l1_0.length : Int)) = false := bne_eq_false_iff_eq.mpr c6
      have c6b2 : (l0_0.length == l1_0.length) = true := by first | simpa using c6 | (simp at c6 ⊢; omega)
      clear c6
      (first | rw [c6b0] | (simp only [i64_w, i32_w]; rw [c6b0]) | skip)
      have H' := Aside0.mk H
      clear H
      have hnb7 := NB193_194.out
      have hnc7 := NB194_193.out
      have hcz8_0 : w5.cell? ⟨gb193, 0, none⟩ = some (.slice A0_0 l0_0.length c0_0) := (blk_cell BK193.out 0).trans rfl
      have hcz8_1 : w5.cell? ⟨gb193, 1, none⟩ = some (.slice A0_1 l0_1.length c0_1) := (blk_cell BK193.out 1).trans rfl
      have hfz8_0 := blk_frozen BK193.out 0
      have hfz8_1 := blk_frozen BK193.out 1
      have hcz9_0 : w5.cell? ⟨gb194, 0, none⟩ = some (.slice A1_0 l1_0.length c1_0) := (blk_cell BK194.out 0).trans rfl
      have hcz9_1 : w5.cell? ⟨gb194, 1, none⟩ = some (.slice A1_1 l1_1.length c1_1) := (blk_cell BK194.out 1).trans rfl
      have hfz9_0 := blk_frozen BK194.out 0
      have hfz9_1 := blk_frozen BK194.out 1
      go_wp2
      repeat (go_quiet (fail); try go_wp2)
      go_meet
      case rel => exact ⟨_, (((l0_1.length : Int) != (l1_1.length : Int))), (by first | rfl | (simp; done) | (simp [*]; done)), H', ⟨by first | omega | exact Nat.le_refl _⟩, ⟨by (with_reducible repeat (first | refine blk_drewN ?_ _ | refine blk_drew ?_ | refine blk_alloc ?_ _)); exact BK193.out⟩, ⟨by (with_reducible repeat (first | refine blk_drewN ?_ _ | refine blk_drew ?_ | refine blk_alloc ?_ _)); exact BK194.out⟩, ⟨by repeat (first | (with_reducible first | exact HB.out | apply below_alloc | apply pw_below_drewN | apply below_drew1 | refine below_set ?_ GE193.out | refine below_set ?_ GE194.out) | exact HB.out)⟩⟩
    · rw [if_neg c6] at H
      have c6b0 : ((l0_0.length : Int) == (l1_0.length : Int)) = false := beq_eq_false_iff_ne.mpr c6
      have c6b1 : ((l0_0.length : Int) != (l1_0.length : Int)) = true := bne_iff_ne.mpr c6
      have c6b2 : (l0_0.length == l1_0.length) = false := by first | simpa using c6 | (simp at c6 ⊢; omega)
      (first | rw [c6b0] | (simp only [i64_w, i32_w]; rw [c6b0]) | skip)
      have H' := Aside0.mk H
      clear H
      have hnb10 := NB193_194.out
      have hnc10 := NB194_193.out
      have hcz11_0 : w5.cell? ⟨gb193, 0, none⟩ = some (.slice A0_0 l0_0.length c0_0) := (blk_cell BK193.out 0).trans rfl
      have hcz11_1 : w5.cell? ⟨gb193, 1, none⟩ = some (.slice A0_1 l0_1.length c0_1) := (blk_cell BK193.out 1).trans rfl
      have hfz11_0 := blk_frozen BK193.out 0
      have hfz11_1 := blk_frozen BK193.out 1
      have hcz12_0 : w5.cell? ⟨gb194, 0, none⟩ = some (.slice A1_0 l1_0.length c1_0) := (blk_cell BK194.out 0).trans rfl
      have hcz12_1 : w5.cell? ⟨gb194, 1, none⟩ = some (.slice A1_1 l1_1.length c1_1) := (blk_cell BK194.out 1).trans rfl
      have hfz12_0 := blk_frozen BK194.out 0
      have hfz12_1 := blk_frozen BK194.out 1
      go_wp2
      repeat (go_quiet (fail); try go_wp2)
      go_meet
      case rel => exact ⟨_, (true), (by first | rfl | (simp; done) | (simp [*]; done)), H', ⟨by first | omega | exact Nat.le_refl _⟩, ⟨by (with_reducible repeat (first | refine blk_drewN ?_ _ | refine blk_drew ?_ | refine blk_alloc ?_ _)); exact BK193.out⟩, ⟨by (with_reducible repeat (first | refine blk_drewN ?_ _ | refine blk_drew ?_ | refine blk_alloc ?_ _)); exact BK194.out⟩, ⟨by repeat (first | (with_reducible first | exact HB.out | apply below_alloc | apply pw_below_drewN | apply below_drew1 | refine below_set ?_ GE193.out | refine below_set ?_ GE194.out) | exact HB.out)⟩⟩
  case rest =>
    clear HC3
    try clear c1
    try clear p2
    try clear c6
    try clear c6b0
    try clear c6b1
    try clear c6b2
    try clear c7
    try clear c10
    try clear hcz11_0
    try clear hcz11_1
    try clear hcz12_0
    try clear hcz12_1
    try clear hcz8_0
    try clear hcz8_1
    try clear hcz9_0
    try clear hcz9_1
    try clear hfz11_0
    try clear hfz11_1
    try clear hfz12_0
    try clear hfz12_1
    try clear hfz8_0
    try clear hfz8_1
    try clear hfz9_0
    try clear hfz9_1
    obtain ⟨kq, x22_2, rfl, HA, HJ2, BK193, BK194, HB⟩ := hcut
    cases kq with
    | zero => exact absurd HA.out (by simp [malthouseref08_Same.j0])
    | succ kj2 =>
      have H := HA.out
      clear HA
      simp only [malthouseref08_Same.j0] at H
      by_cases c13 : x22_2 = true
      · subst c13
        have H1 : (some false) = some r := by rw [if_pos rfl] at H; exact H
        clear H
        have H := H1
        clear H1
        obtain rfl := Option.some.inj H
        go_wp2
        repeat (go_quiet (fail); try go_wp2)
        go_ret
        exact ⟨by first | rfl | (simp [errW_none, errW_some] <;> rfl) | (simp [*, errW_none, errW_some] <;> rfl), by repeat (first | (with_reducible first | exact HB.out | apply below_alloc | apply pw_below_drewN | apply below_drew1 | refine below_set ?_ GE193.out | refine below_set ?_ GE194.out) | exact HB.out)⟩
      · replace c13 := Bool.eq_false_iff.mpr c13
        subst c13
        have H1 : (malthouseref08_Same.l0 kj2 0 l0_0 l0_1 l1_0 l1_1) = some r := by rw [if_neg (show ¬ (false = true) by decide)] at H; exact H
        clear H
        have H := H1
        clear H1
        have H' := Aside0.mk H
        clear H
        go_wp2
        repeat (go_quiet (fail); try go_wp2)
        go_loopg [5] kj2 (fun kq v5 w' => ∃ (x5_2 : Int), v5 = .int .i64 x5_2 ∧ Aside0 (malthouseref08_Same.l0 kq x5_2 l0_0 l0_1 l1_0 l1_1 = some r) ∧ Aside0 (kq ≤ kj2) ∧ Aside0 (w'.heap[gb193]? = some (.cells #[(.slice A0_0 l0_0.length c0_0), (.slice A0_1 l0_1.length c0_1)] 28 (0, 0))) ∧ Aside0 (w'.heap[gb194]? = some (.cells #[(.slice A1_0 l1_0.length c1_0), (.slice A1_1 l1_1.length c1_1)] 28 (0, 0))) ∧ Aside0 (Below w.heap.size w w'))
        case atStart => exact ⟨(0), (by first | rfl | (simp; done) | (simp [*]; done)), H', ⟨Nat.le_refl _⟩, ⟨by (with_reducible repeat (first | refine blk_drewN ?_ _ | refine blk_drew ?_ | refine blk_alloc ?_ _)); exact BK193.out⟩, ⟨by (with_reducible repeat (first | refine blk_drewN ?_ _ | refine blk_drew ?_ | refine blk_alloc ?_ _)); exact BK194.out⟩, ⟨by repeat (first | (with_reducible first | exact HB.out | apply below_alloc | apply pw_below_drewN | apply below_drew1 | refine below_set ?_ GE193.out | refine below_set ?_ GE194.out) | exact HB.out)⟩⟩
        case round =>
          clear H'
          try clear c1
          try clear p2
          try clear c6
          try clear c6b0
          try clear c6b1
          try clear c6b2
          try clear c7
          try clear c10
          try clear c13
          try clear hcz11_0
          try clear hcz11_1
          try clear hcz12_0
          try clear hcz12_1
          try clear hcz8_0
          try clear hcz8_1
          try clear hcz9_0
          try clear hcz9_1
          try clear hfz11_0
          try clear hfz11_1
          try clear hfz12_0
          try clear hfz12_1
          try clear hfz8_0
          try clear hfz8_1
          try clear hfz9_0
          try clear hfz9_1
          try clear p2
          obtain ⟨x5_2, rfl, HA, HK2, BK193, BK194, HB⟩ := hrel
          cases gk with
          | zero => exact absurd HA.out (by simp [malthouseref08_Same.l0])
          | succ k2 =>
            have H := HA.out
            clear HA
            simp only [malthouseref08_Same.l0] at H
            by_cases c14 : x5_2 < (l0_0.length : Int)
            · rw [if_pos c14] at H
              have c14b0 : decide (x5_2 < (l0_0.length : Int)) = true := decide_eq_true c14
              clear c14
              by_cases c15 : 0 ≤ x5_2
              · rw [if_pos c15] at H
                have c15b0 : decide (0 ≤ x5_2) = true := decide_eq_true c15
                clear c15
                by_cases c16 : x5_2 < (l1_0.length : Int)
                · rw [if_pos c16] at H
                  have c16b0 : decide (x5_2 < (l1_0.length : Int)) = true := decide_eq_true c16
                  clear c16
                  by_cases c17 : (rd l0_0 x5_2) = (rd l1_0 x5_2)
                  · rw [if_pos c17] at H
                    have c17b0 : ((rd l0_0 x5_2) == (rd l1_0 x5_2)) = true := beq_iff_eq.mpr c17
                    have c17b1 : ((rd l0_0 x5_2) != (rd l1_0 x5_2)) = false := bne_eq_false_iff_eq.mpr c17
                    clear c17
                    have H' := Aside0.mk H
                    clear H
                    have hnb18 := NB193_194.out
                    have hnc18 := NB194_193.out
                    have hcz19_0 : wr.cell? ⟨gb193, 0, none⟩ = some (.slice A0_0 l0_0.length c0_0) := (blk_cell BK193.out 0).trans rfl
                    have hcz19_1 : wr.cell? ⟨gb193, 1, none⟩ = some (.slice A0_1 l0_1.length c0_1) := (blk_cell BK193.out 1).trans rfl
                    have hfz19_0 := blk_frozen BK193.out 0
                    have hfz19_1 := blk_frozen BK193.out 1
                    have p195 : 0 ≤ (x5_2 : Int) := of_decide_eq_true (by first | (with_reducible assumption) | assumption)
                    have q195 : x5_2 < (l0_0.length : Int) := of_decide_eq_true (by first | (with_reducible assumption) | assumption)
                    obtain ⟨ad195, e195, hx195_0⟩ := Kd.at_int HR0_0.out x5_2 p195 q195
                    cases e195
                    replace hx195_0 := (HB.out.cell (World.block_lt_of_cell? w _ hx195_0)).trans hx195_0
                    replace p195 := eq_true p195
                    replace q195 := eq_true q195
                    have hcz20_0 : wr.cell? ⟨gb194, 0, none⟩ = some (.slice A1_0 l1_0.length c1_0) := (blk_cell BK194.out 0).trans rfl
                    have hcz20_1 : wr.cell? ⟨gb194, 1, none⟩ = some (.slice A1_1 l1_1.length c1_1) := (blk_cell BK194.out 1).trans rfl
                    have hfz20_0 := blk_frozen BK194.out 0
                    have hfz20_1 := blk_frozen BK194.out 1
                    have p196 : 0 ≤ (x5_2 : Int) := of_decide_eq_true (by first | (with_reducible assumption) | assumption)
                    have q196 : x5_2 < (l1_0.length : Int) := of_decide_eq_true (by first | (with_reducible assumption) | assumption)
                    obtain ⟨ad196, e196, hx196_0⟩ := Kd.at_int HR1_0.out x5_2 p196 q196
                    cases e196
                    replace hx196_0 := (HB.out.cell (World.block_lt_of_cell? w _ hx196_0)).trans hx196_0
                    replace p196 := eq_true p196
                    replace q196 := eq_true q196
                    go_wp2
                    repeat (go_quiet (fail); try go_wp2)
                    go_roundg k2
                    case measure => have := HJ2.out; have := HK2.out; omega
                    case rel => exact ⟨(wrap64 (x5_2 + 1)), (by first | rfl | (simp; done) | (simp [*]; done)), H', ⟨by have := HJ2.out; have := HK2.out; omega⟩, ⟨by (with_reducible repeat (first | refine blk_drewN ?_ _ | refine blk_drew ?_ | refine blk_alloc ?_ _)); exact BK193.out⟩, ⟨by (with_reducible repeat (first | refine blk_drewN ?_ _ | refine blk_drew ?_ | refine blk_alloc ?_ _)); exact BK194.out⟩, ⟨by repeat (first | (with_reducible first | exact HB.out | apply below_alloc | apply pw_below_drewN | apply below_drew1 | refine below_set ?_ GE193.out | refine below_set ?_ GE194.out) | exact HB.out)⟩⟩
                  · rw [if_neg c17] at H
                    have c17b0 : ((rd l0_0 x5_2) == (rd l1_0 x5_2)) = false := beq_eq_false_iff_ne.mpr c17
                    have c17b1 : ((rd l0_0 x5_2) != (rd l1_0 x5_2)) = true := bne_iff_ne.mpr c17
                    obtain rfl := Option.some.inj H
                    have hnb21 := NB193_194.out
                    have hnc21 := NB194_193.out
                    have hcz22_0 : wr.cell? ⟨gb193, 0, none⟩ = some (.slice A0_0 l0_0.length c0_0) := (blk_cell BK193.out 0).trans rfl
                    have hcz22_1 : wr.cell? ⟨gb193, 1, none⟩ = some (.slice A0_1 l0_1.length c0_1) := (blk_cell BK193.out 1).trans rfl
                    have hfz22_0 := blk_frozen BK193.out 0
                    have hfz22_1 := blk_frozen BK193.out 1
                    have p195 : 0 ≤ (x5_2 : Int) := of_decide_eq_true (by first | (with_reducible assumption) | assumption)
                    have q195 : x5_2 < (l0_0.length : Int) := of_decide_eq_true (by first | (with_reducible assumption) | assumption)
                    obtain ⟨ad195, e195, hx195_0⟩ := Kd.at_int HR0_0.out x5_2 p195 q195
                    cases e195
                    replace hx195_0 := (HB.out.cell (World.block_lt_of_cell? w _ hx195_0)).trans hx195_0
                    replace p195 := eq_true p195
                    replace q195 := eq_true q195
                    have hcz23_0 : wr.cell? ⟨gb194, 0, none⟩ = some (.slice A1_0 l1_0.length c1_0) := (blk_cell BK194.out 0).trans rfl
                    have hcz23_1 : wr.cell? ⟨gb194, 1, none⟩ = some (.slice A1_1 l1_1.length c1_1) := (blk_cell BK194.out 1).trans rfl
                    have hfz23_0 := blk_frozen BK194.out 0
                    have hfz23_1 := blk_frozen BK194.out 1
                    have p196 : 0 ≤ (x5_2 : Int) := of_decide_eq_true (by first | (with_reducible assumption) | assumption)
                    have q196 : x5_2 < (l1_0.length : Int) := of_decide_eq_true (by first | (with_reducible assumption) | assumption)
                    obtain ⟨ad196, e196, hx196_0⟩ := Kd.at_int HR1_0.out x5_2 p196 q196
                    cases e196
                    replace hx196_0 := (HB.out.cell (World.block_lt_of_cell? w _ hx196_0)).trans hx196_0
                    replace p196 := eq_true p196
                    replace q196 := eq_true q196
                    go_wp2
                    repeat (go_quiet (fail); try go_wp2)
                    go_ret
                    exact ⟨by first | rfl | (simp [errW_none, errW_some] <;> rfl) | (simp [*, errW_none, errW_some] <;> rfl), by repeat (first | (with_reducible first | exact HB.out | apply below_alloc | apply pw_below_drewN | apply below_drew1 | refine below_set ?_ GE193.out | refine below_set ?_ GE194.out) | exact HB.out)⟩
                · rw [if_neg c16] at H
                  exact absurd H (by simp)
              · rw [if_neg c15] at H
                exact absurd H (by simp)
            · rw [if_neg c14] at H
              have c14b0 : decide (x5_2 < (l0_0.length : Int)) = false := decide_eq_false c14
              clear c14
              have H' := Aside0.mk H
              clear H
              have hnb24 := NB193_194.out
              have hnc24 := NB194_193.out
              have hcz25_0 : wr.cell? ⟨gb193, 0, none⟩ = some (.slice A0_0 l0_0.length c0_0) := (blk_cell BK193.out 0).trans rfl
              have hcz25_1 : wr.cell? ⟨gb193, 1, none⟩ = some (.slice A0_1 l0_1.length c0_1) := (blk_cell BK193.out 1).trans rfl
              have hfz25_0 := blk_frozen BK193.out 0
              have hfz25_1 := blk_frozen BK193.out 1
              go_wp2
              repeat (go_quiet (fail); try go_wp2)
              go_loopg [6] k2 (fun kq v6 w' => ∃ (x6_3 : Int), v6 = .int .i64 x6_3 ∧ Aside0 (malthouseref08_Same.l1 kq x6_3 l0_0 l0_1 l1_0 l1_1 = some r) ∧ Aside0 (kq ≤ k2) ∧ Aside0 (w'.heap[gb193]? = some (.cells #[(.slice A0_0 l0_0.length c0_0), (.slice A0_1 l0_1.length c0_1)] 28 (0, 0))) ∧ Aside0 (w'.heap[gb194]? = some (.cells #[(.slice A1_0 l1_0.length c1_0), (.slice A1_1 l1_1.length c1_1)] 28 (0, 0))) ∧ Aside0 (Below w.heap.size w w'))
              case atStart => exact ⟨(0), (by first | rfl | (simp; done) | (simp [*]; done)), H', ⟨Nat.le_refl _⟩, ⟨by (with_reducible repeat (first | refine blk_drewN ?_ _ | refine blk_drew ?_ | refine blk_alloc ?_ _)); exact BK193.out⟩, ⟨by (with_reducible repeat (first | refine blk_drewN ?_ _ | refine blk_drew ?_ | refine blk_alloc ?_ _)); exact BK194.out⟩, ⟨by repeat (first | (with_reducible first | exact HB.out | apply below_alloc | apply pw_below_drewN | apply below_drew1 | refine below_set ?_ GE193.out | refine below_set ?_ GE194.out) | exact HB.out)⟩⟩
              case round =>
                clear H'
                try clear c1
                try clear p1
                try clear q1
                try clear hx1
                try clear c2
                try clear p2
                try clear c6
                try clear c6b0
                try clear c6b1
                try clear c6b2
                try clear p6
                try clear c7
                try clear c10
                try clear c13
                try clear c14
                try clear c14b0
                try clear c15
                try clear c15b0
                try clear c16
                try clear c16b0
                try clear c17
                try clear c17b0
                try clear c17b1
                try clear c18
                try clear p19
                try clear q19
                try clear hx19
                try clear c21
                try clear c24
                try clear hcz11_0
                try clear hcz11_1
                try clear hcz12_0
                try clear hcz12_1
                try clear hcz19_0
                try clear hcz19_1
                try clear hcz20_0
                try clear hcz20_1
                try clear hcz22_0
                try clear hcz22_1
                try clear hcz23_0
                try clear hcz23_1
                try clear hcz25_0
                try clear hcz25_1
                try clear hcz8_0
                try clear hcz8_1
                try clear hcz9_0
                try clear hcz9_1
                try clear hfz11_0
                try clear hfz11_1
                try clear hfz12_0
                try clear hfz12_1
                try clear hfz19_0
                try clear hfz19_1
                try clear hfz20_0
                try clear hfz20_1
                try clear hfz22_0
                try clear hfz22_1
                try clear hfz23_0
                try clear hfz23_1
                try clear hfz25_0
                try clear hfz25_1
                try clear hfz8_0
                try clear hfz8_1
                try clear hfz9_0
                try clear hfz9_1
                try clear hx195_0
                try clear hx196_0
                try clear p195
                try clear p196
                try clear p2
                try clear q195
                try clear q196
                obtain ⟨x6_3, rfl, HA, HK3, BK193, BK194, HB⟩ := hrel
                cases gk with
                | zero => exact absurd HA.out (by simp [malthouseref08_Same.l1])
                | succ k3 =>
                  have H := HA.out
                  clear HA
                  simp only [malthouseref08_Same.l1] at H
                  by_cases c26 : x6_3 < (l0_1.length : Int)
                  · rw [if_pos c26] at H
                    have c26b0 : decide (x6_3 < (l0_1.length : Int)) = true := decide_eq_true c26
                    clear c26
                    by_cases c27 : 0 ≤ x6_3
                    · rw [if_pos c27] at H
                      have c27b0 : decide (0 ≤ x6_3) = true := decide_eq_true c27
                      clear c27
                      by_cases c28 : x6_3 < (l1_1.length : Int)
                      · rw [if_pos c28] at H
                        have c28b0 : decide (x6_3 < (l1_1.length : Int)) = true := decide_eq_true c28
                        clear c28
                        by_cases c29 : ((rdOf false l0_1 x6_3) != (rdOf false l1_1 x6_3)) = true
                        · rw [if_pos c29] at H
                          have c29b0 : ((rdOf false l0_1 x6_3) != (rdOf false l1_1 x6_3)) = true := c29
                          (try (have c29b1 : decide ((rdOf false l0_1 x6_3) = (rdOf false l1_1 x6_3)) = false := by simpa using c29))
                          (try (have c29b2 : ((rdOf false l0_1 x6_3) == (rdOf false l1_1 x6_3)) = false := by simpa using c29))
                          (try (have c29b3 : ¬ ((rdOf false l0_1 x6_3) = (rdOf false l1_1 x6_3)) := by simpa using c29))
                          clear c29
                          obtain rfl := Option.some.inj H
                          have hnb30 := NB193_194.out
                          have hnc30 := NB194_193.out
                          have hcz31_0 : wr.cell? ⟨gb193, 0, none⟩ = some (.slice A0_0 l0_0.length c0_0) := (blk_cell BK193.out 0).trans rfl
                          have hcz31_1 : wr.cell? ⟨gb193, 1, none⟩ = some (.slice A0_1 l0_1.length c0_1) := (blk_cell BK193.out 1).trans rfl
                          have hfz31_0 := blk_frozen BK193.out 0
                          have hfz31_1 := blk_frozen BK193.out 1
                          have p197 : 0 ≤ (x6_3 : Int) := of_decide_eq_true (by first | (with_reducible assumption) | assumption)
                          have q197 : x6_3 < (l0_1.length : Int) := of_decide_eq_true (by first | (with_reducible assumption) | assumption)
                          obtain ⟨ad197, e197, hx197_0⟩ := Kd.at_bool HR0_1.out x6_3 p197 q197
                          cases e197
                          replace hx197_0 := (HB.out.cell (World.block_lt_of_cell? w _ hx197_0)).trans hx197_0
                          replace p197 := eq_true p197
                          replace q197 := eq_true q197
                          have hcz32_0 : wr.cell? ⟨gb194, 0, none⟩ = some (.slice A1_0 l1_0.length c1_0) := (blk_cell BK194.out 0).trans rfl
                          have hcz32_1 : wr.cell? ⟨gb194, 1, none⟩ = some (.slice A1_1 l1_1.length c1_1) := (blk_cell BK194.out 1).trans rfl
                          have hfz32_0 := blk_frozen BK194.out 0
                          have hfz32_1 := blk_frozen BK194.out 1
                          have p198 : 0 ≤ (x6_3 : Int) := of_decide_eq_true (by first | (with_reducible assumption) | assumption)
                          have q198 : x6_3 < (l1_1.length : Int) := of_decide_eq_true (by first | (with_reducible assumption) | assumption)
                          obtain ⟨ad198, e198, hx198_0⟩ := Kd.at_bool HR1_1.out x6_3 p198 q198
                          cases e198
                          replace hx198_0 := (HB.out.cell (World.block_lt_of_cell? w _ hx198_0)).trans hx198_0
                          replace p198 := eq_true p198
                          replace q198 := eq_true q198
                          go_wp2
                          repeat (go_quiet (fail); try go_wp2)
                          go_ret
                          exact ⟨by first | rfl | (simp [errW_none, errW_some] <;> rfl) | (simp [*, errW_none, errW_some] <;> rfl), by repeat (first | (with_reducible first | exact HB.out | apply below_alloc | apply pw_below_drewN | apply below_drew1 | refine below_set ?_ GE193.out | refine below_set ?_ GE194.out) | exact HB.out)⟩
                        · rw [if_neg c29] at H
                          have c29b0 : ((rdOf false l0_1 x6_3) != (rdOf false l1_1 x6_3)) = false := by simpa using c29
                          (try (have c29b1 : decide ((rdOf false l0_1 x6_3) = (rdOf false l1_1 x6_3)) = true := by simpa using c29))
                          (try (have c29b2 : ((rdOf false l0_1 x6_3) == (rdOf false l1_1 x6_3)) = true := by simpa using c29))
                          clear c29
                          have H' := Aside0.mk H
                          clear H
                          have hnb33 := NB193_194.out
                          have hnc33 := NB194_193.out
                          have hcz34_0 : wr.cell? ⟨gb193, 0, none⟩ = some (.slice A0_0 l0_0.length c0_0) := (blk_cell BK193.out 0).trans rfl
                          have hcz34_1 : wr.cell? ⟨gb193, 1, none⟩ = some (.slice A0_1 l0_1.length c0_1) := (blk_cell BK193.out 1).trans rfl
                          have hfz34_0 := blk_frozen BK193.out 0
                          have hfz34_1 := blk_frozen BK193.out 1
                          have p197 : 0 ≤ (x6_3 : Int) := of_decide_eq_true (by first | (with_reducible assumption) | assumption)
                          have q197 : x6_3 < (l0_1.length : Int) := of_decide_eq_true (by first | (with_reducible assumption) | assumption)
                          obtain ⟨ad197, e197, hx197_0⟩ := Kd.at_bool HR0_1.out x6_3 p197 q197
                          cases e197
                          replace hx197_0 := (HB.out.cell (World.block_lt_of_cell? w _ hx197_0)).trans hx197_0
                          replace p197 := eq_true p197
                          replace q197 := eq_true q197
                          have hcz35_0 : wr.cell? ⟨gb194, 0, none⟩ = some (.slice A1_0 l1_0.length c1_0) := (blk_cell BK194.out 0).trans rfl
                          have hcz35_1 : wr.cell? ⟨gb194, 1, none⟩ = some (.slice A1_1 l1_1.length c1_1) := (blk_cell BK194.out 1).trans rfl
                          have hfz35_0 := blk_frozen BK194.out 0
                          have hfz35_1 := blk_frozen BK194.out 1
                          have p198 : 0 ≤ (x6_3 : Int) := of_decide_eq_true (by first | (with_reducible assumption) | assumption)
                          have q198 : x6_3 < (l1_1.length : Int) := of_decide_eq_true (by first | (with_reducible assumption) | assumption)
                          obtain ⟨ad198, e198, hx198_0⟩ := Kd.at_bool HR1_1.out x6_3 p198 q198
                          cases e198
                          replace hx198_0 := (HB.out.cell (World.block_lt_of_cell? w _ hx198_0)).trans hx198_0
                          replace p198 := eq_true p198
                          replace q198 := eq_true q198
                          go_wp2
                          repeat (go_quiet (fail); try go_wp2)
                          go_roundg k3
                          case measure => have := HJ2.out; have := HK2.out; have := HK3.out; omega
                          case rel => exact ⟨(wrap64 (x6_3 + 1)), (by first | rfl | (simp; done) | (simp [*]; done)), H', ⟨by have := HJ2.out; have := HK2.out; have := HK3.out; omega⟩, ⟨by (with_reducible repeat (first | refine blk_drewN ?_ _ | refine blk_drew ?_ | refine blk_alloc ?_ _)); exact BK193.out⟩, ⟨by (with_reducible repeat (first | refine blk_drewN ?_ _ | refine blk_drew ?_ | refine blk_alloc ?_ _)); exact BK194.out⟩, ⟨by repeat (first | (with_reducible first | exact HB.out | apply below_alloc | apply pw_below_drewN | apply below_drew1 | refine below_set ?_ GE193.out | refine below_set ?_ GE194.out) | exact HB.out)⟩⟩
                      · rw [if_neg c28] at H
                        exact absurd H (by simp)
                    · rw [if_neg c27] at H
                      exact absurd H (by simp)
                  · rw [if_neg c26] at H
                    have c26b0 : decide (x6_3 < (l0_1.length : Int)) = false := decide_eq_false c26
                    clear c26
                    obtain rfl := Option.some.inj H
                    have hnb36 := NB193_194.out
                    have hnc36 := NB194_193.out
                    have hcz37_0 : wr.cell? ⟨gb193, 0, none⟩ = some (.slice A0_0 l0_0.length c0_0) := (blk_cell BK193.out 0).trans rfl
                    have hcz37_1 : wr.cell? ⟨gb193, 1, none⟩ = some (.slice A0_1 l0_1.length c0_1) := (blk_cell BK193.out 1).trans rfl
                    have hfz37_0 := blk_frozen BK193.out 0
                    have hfz37_1 := blk_frozen BK193.out 1
                    go_wp2
                    repeat (go_quiet (fail); try go_wp2)
                    go_ret
                    exact ⟨by first | rfl | (simp [errW_none, errW_some] <;> rfl) | (simp [*, errW_none, errW_some] <;> rfl), by repeat (first | (with_reducible first | exact HB.out | apply below_alloc | apply pw_below_drewN | apply below_drew1 | refine below_set ?_ GE193.out | refine below_set ?_ GE194.out) | exact HB.out)⟩
end Go.Proofs.YtbmdhmmahmdccaaDoor.Print
/-! ### EAwake -/
namespace Go.Proofs.YtbmdhmmahmdccaaDoor.Print
open Go.RowKit Go.Proofs.YtbmdhmmahmdccaaDoorW.PrintWords Go.Proofs.YtbmdhmmahmdccaaDoorW.PrintLast Go.Proofs.YtbmdhmmahmdccaaDoorW.PrintMore
set_option linter.unusedSimpArgs false
set_option linter.unusedVariables false
def pairL : List S48 := [⟨⟨#[116]⟩, false, 0, 100⟩, ⟨⟨#[118]⟩, true, 1, 5⟩]
def cellT : List S46 := [⟨⟨#[116]⟩, 120⟩]
def cellV : List S46 := [⟨⟨#[118]⟩, 9⟩]
theorem pair_ok : okTags pairL := by unfold okTags pairL; decide
theorem pair_new : tags_New.f 5 pairL = some ([0, 1], [false, false], 0) := by
  rw [new_is pairL pair_ok 5 (by decide)]
  decide +kernel
theorem pair_latch : tags_Latch.f pairL [0, 1] [false, false] cellT = some ([100, 1], [true, false], 0) := by
  have h : tags_told.f pairL [0, 1] [false, false] cellT false = some ([100, 1], [true, false], 0) := by
    unfold tags_told.f
    rw [if_pos ⟨pair_ok, by decide, by decide, by decide⟩]
    decide +kernel
  unfold tags_Latch.f
  rw [h]
  rfl
theorem pair_drive : tags_Drive.f pairL [100, 1] [true, false] cellV = some ([100, 5], [true, false], 0) := by
  have h : tags_told.f pairL [100, 1] [true, false] cellV true = some ([100, 5], [true, false], 0) := by
    unfold tags_told.f
    rw [if_pos ⟨pair_ok, by decide, by decide, by decide⟩]
    decide +kernel
  unfold tags_Drive.f
  rw [h]
  rfl
theorem reps_one_C (b : ByteArray) (n : Int) (w : World) : Reps (k46.K w) k46.sz [⟨b, n⟩] [.string b, .int .i64 n] := by
  refine ⟨rfl, fun j p hj => ?_⟩
  cases j with
  | zero => obtain rfl := Option.some.inj hj; exact k46_mk w _
  | succ j => simp at hj
def malthouselaw08_awake.f : Option Bool := some true
set_option maxHeartbeats 8000000 in
set_option maxRecDepth 100000 in
theorem malthouselaw08_awake.calls (r : Bool) (w : World) (hT : Tabs w) (h : malthouselaw08_awake.f = some r) :
    Calls Tryd.prog 9 #[] w fun e w' => e = .returned (.bool r) ∧ Below w.heap.size w w' := by
  obtain rfl := Option.some.inj h
  clear h
  have HTB := Lib.hid hT
  have hu2 := Tryd.underlying28
  have hu4 := Tryd.underlying46
  clear hT
  go_enter Tryd.func9, Tryd.ntmps9
  go_wp2_with (first
    | (go_at_call 29; refine (malthouselaw08_pair.calls pairL w rfl).mono ?_; rintro e w1 ⟨v0, rfl, hR, hb⟩; obtain ⟨Ap, cp, rfl, hcp, hC⟩ := Kd.R_reads hR; have HP1 := Lib.hid hC; have HB1 := Lib.hid hb; clear hR hC hb; refine (fun (h : Hid _) => h.out) ?_))
  refine Lib.hid ?_
  go_wp2_with (first
    | (go_at_call 11; refine (tags_New.calls 5 Ap cp pairL _ _ _ w1 HP1.out hcp (HTB.out.below HB1.out) pair_new).mono ?_; rintro e w2 ⟨v0, v1, rfl, hR, hR', hb⟩; obtain ⟨Av, cv, rfl, hcv, hC⟩ := Kd.R_reads hR; obtain ⟨Ab, cb, rfl, hcb, hC'⟩ := Kd.R_reads hR'; have HV2 := Lib.hid hC; have HW2 := Lib.hid hC'; have HB2 := Lib.hid (below_then HB1.out HB1.out.size hb); have HP2 := Lib.hid (Kd.C_below HP1.out hb); clear hR hR' hC hC' hb HP1 HB1; refine (fun (h : Hid _) => h.out) ?_))
  refine Lib.hid ?_
  have hb3 : Below w.heap.size w ((w2.alloc (.cells #[.slice Av [0, 1].length cv, .slice Ab [false, false].length cb] 28)).alloc (.cells #[.string ⟨#[116]⟩, .int .i64 120] 46)) := (HB2.out.alloc HB2.out.size _).alloc (Nat.le_trans HB2.out.size (by simp)) _
  have hb23 : Below w2.heap.size w2 ((w2.alloc (.cells #[.slice Av [0, 1].length cv, .slice Ab [false, false].length cb] 28)).alloc (.cells #[.string ⟨#[116]⟩, .int .i64 120] 46)) := ((Below.refl _ _).alloc (Nat.le_refl _) _).alloc (by simp) _
  have hl : Kd.C k46 ((w2.alloc (.cells #[.slice Av [0, 1].length cv, .slice Ab [false, false].length cb] 28)).alloc (.cells #[.string ⟨#[116]⟩, .int .i64 120] 46)) (some ⟨w2.heap.size + 1, 0, none⟩) cellT.length cellT := by
    refine Kd.C_lit (e := 46) (inner := [.string ⟨#[116]⟩, .int .i64 120]) ?_ ?_ (by decide)
    · have := heap_alloc_new (w2.alloc (.cells #[.slice Av [0, 1].length cv, .slice Ab [false, false].length cb] 28)) (.cells #[.string ⟨#[116]⟩, .int .i64 120] 46)
      simpa using this
    · exact reps_one_C _ _ _
  have HB3 := Lib.hid hb3
  have HB23 := Lib.hid hb23
  have HL := Lib.hid hl
  clear hb3 hb23 hl
  go_wp2_with (first
    | (go_at_call 20; refine (tags_Latch.calls Ap cp pairL Av cv [0, 1] Ab cb [false, false] (some ⟨w2.heap.size + 1, 0, none⟩) 1 cellT _ _ _ _ (Kd.C_below HP2.out HB23.out) hcp (Kd.C_below HV2.out HB23.out) hcv (Kd.C_below HW2.out HB23.out) hcb HL.out (by decide) (HTB.out.below HB3.out) pair_latch).mono ?_; rintro e w3 ⟨v0, v1, rfl, hR, hR', hb⟩; obtain ⟨Av3, cv3, rfl, hcv3, hC⟩ := Kd.R_reads hR; obtain ⟨Ab3, cb3, rfl, hcb3, hC'⟩ := Kd.R_reads hR'; have HV3 := Lib.hid hC; have HW3 := Lib.hid hC'; have HP3 := Lib.hid (Kd.C_below HP2.out (below_then HB23.out HB23.out.size hb)); have HB4 := Lib.hid (below_then HB3.out HB3.out.size hb); clear hR hR' hC hC' hb HP2 HB2 HB3 HB23 HL HV2 HW2; refine (fun (h : Hid _) => h.out) ?_))
  refine Lib.hid ?_
  have hb3 : Below w.heap.size w ((w3.alloc (.cells #[.slice Av3 [100, 1].length cv3, .slice Ab3 [true, false].length cb3] 28)).alloc (.cells #[.string ⟨#[118]⟩, .int .i64 9] 46)) := (HB4.out.alloc HB4.out.size _).alloc (Nat.le_trans HB4.out.size (by simp)) _
  have hb23 : Below w3.heap.size w3 ((w3.alloc (.cells #[.slice Av3 [100, 1].length cv3, .slice Ab3 [true, false].length cb3] 28)).alloc (.cells #[.string ⟨#[118]⟩, .int .i64 9] 46)) := ((Below.refl _ _).alloc (Nat.le_refl _) _).alloc (by simp) _
  have hl : Kd.C k46 ((w3.alloc (.cells #[.slice Av3 [100, 1].length cv3, .slice Ab3 [true, false].length cb3] 28)).alloc (.cells #[.string ⟨#[118]⟩, .int .i64 9] 46)) (some ⟨w3.heap.size + 1, 0, none⟩) cellV.length cellV := by
    refine Kd.C_lit (e := 46) (inner := [.string ⟨#[118]⟩, .int .i64 9]) ?_ ?_ (by decide)
    · have := heap_alloc_new (w3.alloc (.cells #[.slice Av3 [100, 1].length cv3, .slice Ab3 [true, false].length cb3] 28)) (.cells #[.string ⟨#[118]⟩, .int .i64 9] 46)
      simpa using this
    · exact reps_one_C _ _ _
  have HB5 := Lib.hid hb3
  have HB23 := Lib.hid hb23
  have HL := Lib.hid hl
  clear hb3 hb23 hl
  go_wp2_with (first
    | (go_at_call 22; refine (tags_Drive.calls Ap cp pairL Av3 cv3 [100, 1] Ab3 cb3 [true, false] (some ⟨w3.heap.size + 1, 0, none⟩) 1 cellV _ _ _ _ (Kd.C_below HP3.out HB23.out) hcp (Kd.C_below HV3.out HB23.out) hcv3 (Kd.C_below HW3.out HB23.out) hcb3 HL.out (by decide) (HTB.out.below HB5.out) pair_drive).mono ?_; rintro e w4 ⟨v0, v1, rfl, hR, hR', hb⟩; obtain ⟨Av4, cv4, rfl, hcv4, hC⟩ := Kd.R_reads hR; obtain ⟨Ab4, cb4, rfl, hcb4, hC'⟩ := Kd.R_reads hR'; have HV4 := Lib.hid hC; have HW4 := Lib.hid hC'; have HB6 := Lib.hid (below_then HB5.out HB5.out.size hb); clear hR hR' hC hC' hb HP3 HB4 HB5 HB23 HL HV3 HW3; refine (fun (h : Hid _) => h.out) ?_))
  refine Lib.hid ?_
  obtain ⟨av, rfl, n0⟩ := Kd.int_at (Kd.C_alloc HV4.out (.cells #[.slice Av4 [100, 5].length cv4, .slice Ab4 [true, false].length cb4] 28)) 0 (by decide)
  obtain ⟨av', e1, n1⟩ := Kd.int_at (Kd.C_alloc HV4.out (.cells #[.slice (some av) [100, 5].length cv4, .slice Ab4 [true, false].length cb4] 28)) 1 (by decide)
  obtain rfl := Option.some.inj e1
  obtain ⟨ab, rfl, b0⟩ := Kd.bool_at (Kd.C_alloc HW4.out (.cells #[.slice (some av) [100, 5].length cv4, .slice Ab4 [true, false].length cb4] 28)) 0 (by decide)
  obtain ⟨ab', e1, b1⟩ := Kd.bool_at (Kd.C_alloc HW4.out (.cells #[.slice (some av) [100, 5].length cv4, .slice (some ab) [true, false].length cb4] 28)) 1 (by decide)
  obtain rfl := Option.some.inj e1
  replace n0 : (w4.alloc (.cells #[.slice (some av) 2 cv4, .slice (some ab) 2 cb4] 28)).cell? (av.add 0) = some (.int .i64 100) := n0
  replace n1 : (w4.alloc (.cells #[.slice (some av) 2 cv4, .slice (some ab) 2 cb4] 28)).cell? ⟨av.block, av.off + 1, none⟩ = some (.int .i64 5) := n1
  replace b0 : (w4.alloc (.cells #[.slice (some av) 2 cv4, .slice (some ab) 2 cb4] 28)).cell? (ab.add 0) = some (.bool true) := b0
  replace b1 : (w4.alloc (.cells #[.slice (some av) 2 cv4, .slice (some ab) 2 cb4] 28)).cell? ⟨ab.block, ab.off + 1, none⟩ = some (.bool false) := b1
  rw [show ∀ a : Addr, a.add 0 = a from fun a => by simp [Addr.add]] at n0 b0
  go_wp2
  go_ret
  exact ⟨rfl, HB6.out.alloc HB6.out.size _⟩
end Go.Proofs.YtbmdhmmahmdccaaDoor.Print
/-! ### Print13 -/
namespace Go.Proofs.YtbmdhmmahmdccaaDoor.Print
open Go.RowKit Go.Proofs.YtbmdhmmahmdccaaDoorW.PrintWords Go.Proofs.YtbmdhmmahmdccaaDoorW.PrintLast Go.Proofs.YtbmdhmmahmdccaaDoorW.PrintMore
attribute [local go_sem] max2_int min2_int max_two min_two
set_option linter.unusedVariables false
set_option linter.unusedSimpArgs false
mutual
def malthouselaw08_fair.j0 : Nat → List (S46) → Bool → Option (Bool)
  | 0, _, _ => none
  | k + 1, x1, x20 => if x20 = true then (some false) else (malthouselaw08_fair.l0 k x1 0)
def malthouselaw08_fair.l0 : Nat → List (S46) → Int → Option (Bool)
  | 0, _, _ => none
  | k + 1, x1, x5 => if x5 < (x1.length : Int) then (if 0 ≤ x5 then (if (((rd_T46 x1 x5).f0).size : Int) > 200 then (some false) else (malthouselaw08_fair.l0 k x1 (wrap64 (x5 + 1)))) else (none)) else (some true)
end
def malthouselaw08_fair.f (k : Nat) (l0_0 : List Int) (l0_1 : List Bool) (l1 : List (S46)) : Option (Bool) := if (l0_0.length : Int) > 1000 then (malthouselaw08_fair.j0 k l1 true) else (if (l0_1.length : Int) > 1000 then (malthouselaw08_fair.j0 k l1 true) else (malthouselaw08_fair.j0 k l1 (decide ((l1.length : Int) > 1000))))
set_option maxHeartbeats 8000000 in
set_option maxRecDepth 100000 in
theorem malthouselaw08_fair.calls (k : Nat) (A0_0 : Option Addr) (c0_0 : Nat) (l0_0 : List Int) (A0_1 : Option Addr) (c0_1 : Nat) (l0_1 : List Bool) (A1 : Option Addr) (c1 : Nat) (l1 : List (S46)) (r : Bool) (w : World) (hr0_0 : Kd.C (Kd.int .i64) w A0_0 l0_0.length l0_0) (hc0_0 : l0_0.length ≤ c0_0) (hr0_1 : Kd.C Kd.bool w A0_1 l0_1.length l0_1) (hc0_1 : l0_1.length ≤ c0_1) (hr1 : Kd.C k46 w A1 l1.length l1) (hc1 : l1.length ≤ c1) (h : malthouselaw08_fair.f k l0_0 l0_1 l1 = some r) :
    Calls Tryd.prog 18 #[.agg #[.slice A0_0 l0_0.length c0_0, .slice A0_1 l0_1.length c0_1], .slice A1 l1.length c1] w fun e w' => e = .returned (.bool r) ∧ Below w.heap.size w w' := by
  have hu28 := Tryd.underlying28
  have HR0_0 := Aside0.mk hr0_0
  have HC0_0 := Aside0.mk hc0_0
  clear hr0_0 hc0_0
  have HR0_1 := Aside0.mk hr0_1
  have HC0_1 := Aside0.mk hc0_1
  clear hr0_1 hc0_1
  have HR1 := Aside0.mk hr1
  have HC1 := Aside0.mk hc1
  clear hr1 hc1
  have HB := Aside0.mk (Below.refl w.heap.size w)
  have H : (if (l0_0.length : Int) > 1000 then (malthouselaw08_fair.j0 k l1 true) else (if (l0_1.length : Int) > 1000 then (malthouselaw08_fair.j0 k l1 true) else (malthouselaw08_fair.j0 k l1 (decide ((l1.length : Int) > 1000))))) = some r := h
  clear h
  have HC3 := Aside0.mk H
  clear H
  go_enter Tryd.func18, Tryd.ntmps18
  go_upto_region 1 with (first | ((with_reducible refine gate_dst (N := 2) rfl ?_); (try (refine gate_guard (by rfl) ?_; dsimp only)); refine box_event ?hg (N := 2) ?hd (cs := #[.slice A0_0 l0_0.length c0_0, .slice A0_1 l0_1.length c0_1]) (t := 28) ?hr ?_; (case hd => rfl); (case hg => rfl); (case hr => first | (go_simp; done) | (go_simp; rfl)); intro gb222 hg w4 hbox hb; have n0_ := Aside0.mk (below_step (by repeat (first | (with_reducible first | exact HB.out | apply below_alloc | apply pw_below_drewN | apply below_drew1) | exact HB.out)) hb); have n1_ := Aside0.mk (hbox); have n2_ := Aside0.mk ((by rw [hg]; exact (below_size (by repeat (first | (with_reducible first | exact HB.out | apply below_alloc | apply pw_below_drewN | apply below_drew1) | exact HB.out))) : w.heap.size ≤ gb222)); have n3_ := Aside0.mk ((by rw [hg]; exact (below_size (by repeat (first | (with_reducible first | exact HB.out | apply below_alloc | apply pw_below_drewN | apply below_drew1) | exact HB.out))) : w.heap.size ≤ gb222)); clear HB; have HB := n0_; have BK222 := n1_; have GW222 := n2_; have GE222 := n3_; clear n0_ n1_ n2_ n3_; clear hb hbox hg))
  (try simp only [Act.put, List.setIfInBounds_toArray, List.set_cons_zero, List.set_cons_succ])
  go_cut [20] (fun v20 wc => ∃ (kq : Nat) (x20_2 : Bool), v20 = .bool x20_2 ∧ Aside0 (malthouselaw08_fair.j0 kq l1 x20_2 = some r) ∧ Aside0 (kq ≤ k) ∧ Aside0 (wc.heap[gb222]? = some (.cells #[(.slice A0_0 l0_0.length c0_0), (.slice A0_1 l0_1.length c0_1)] 28 (0, 0))) ∧ Aside0 (Below w.heap.size w wc))
  case first =>
    have H := HC3.out
    clear HC3
    by_cases c5 : (l0_0.length : Int) > 1000
    · rw [if_pos c5] at H
      have c5b0 : decide (1000 < (l0_0.length : Int)) = true := decide_eq_true c5
      have c5b1 : decide (1000 < l0_0.length) = true := decide_eq_true (by omega)
      clear c5
      (first | rw [c5b0] | (simp only [i64_w, i32_w]; rw [c5b0]) | skip)
      have H' := Aside0.mk H
      clear H
      have hcz6_0 : w4.cell? ⟨gb222, 0, none⟩ = some (.slice A0_0 l0_0.length c0_0) := (blk_cell BK222.out 0).trans rfl
      have hcz6_1 : w4.cell? ⟨gb222, 1, none⟩ = some (.slice A0_1 l0_1.length c0_1) := (blk_cell BK222.out 1).trans rfl
      have hfz6_0 := blk_frozen BK222.out 0
      have hfz6_1 := blk_frozen BK222.out 1
      go_wp2
      go_meet
      case rel => exact ⟨_, (true), (by first | rfl | (simp; done) | (simp [*]; done)), H', ⟨by first | omega | exact Nat.le_refl _⟩, ⟨by (with_reducible repeat (first | refine blk_drewN ?_ _ | refine blk_drew ?_ | refine blk_alloc ?_ _)); exact BK222.out⟩, ⟨by repeat (first | (with_reducible first | exact HB.out | apply below_alloc | apply pw_below_drewN | apply below_drew1 | refine below_set ?_ GE222.out) | exact HB.out)⟩⟩
    · rw [if_neg c5] at H
      have c5b0 : decide (1000 < (l0_0.length : Int)) = false := decide_eq_false c5
      have c5b1 : decide (1000 < l0_0.length) = false := decide_eq_false (by omega)
      clear c5
      (first | rw [c5b0] | (simp only [i64_w, i32_w]; rw [c5b0]) | skip)
      by_cases c7 : (l0_1.length : Int) > 1000
      · rw [if_pos c7] at H
        have c7b0 : decide (1000 < (l0_1.length : Int)) = true := decide_eq_true c7
        have c7b1 : decide (1000 < l0_1.length) = true := decide_eq_true (by omega)
        clear c7
        have H' := Aside0.mk H
        clear H
        have hcz8_0 : w4.cell? ⟨gb222, 0, none⟩ = some (.slice A0_0 l0_0.length c0_0) := (blk_cell BK222.out 0).trans rfl
        have hcz8_1 : w4.cell? ⟨gb222, 1, none⟩ = some (.slice A0_1 l0_1.length c0_1) := (blk_cell BK222.out 1).trans rfl
        have hfz8_0 := blk_frozen BK222.out 0
        have hfz8_1 := blk_frozen BK222.out 1
        go_wp2
        go_meet
        case rel => exact ⟨_, (true), (by first | rfl | (simp; done) | (simp [*]; done)), H', ⟨by first | omega | exact Nat.le_refl _⟩, ⟨by (with_reducible repeat (first | refine blk_drewN ?_ _ | refine blk_drew ?_ | refine blk_alloc ?_ _)); exact BK222.out⟩, ⟨by repeat (first | (with_reducible first | exact HB.out | apply below_alloc | apply pw_below_drewN | apply below_drew1 | refine below_set ?_ GE222.out) | exact HB.out)⟩⟩
      · rw [if_neg c7] at H
        have c7b0 : decide (1000 < (l0_1.length : Int)) = false := decide_eq_false c7
        have c7b1 : decide (1000 < l0_1.length) = false := decide_eq_false (by omega)
        clear c7
        have H' := Aside0.mk H
        clear H
        have hcz9_0 : w4.cell? ⟨gb222, 0, none⟩ = some (.slice A0_0 l0_0.length c0_0) := (blk_cell BK222.out 0).trans rfl
        have hcz9_1 : w4.cell? ⟨gb222, 1, none⟩ = some (.slice A0_1 l0_1.length c0_1) := (blk_cell BK222.out 1).trans rfl
        have hfz9_0 := blk_frozen BK222.out 0
        have hfz9_1 := blk_frozen BK222.out 1
        go_wp2
        go_meet
        case rel => exact ⟨_, (decide ((l1.length : Int) > 1000)), (by first | rfl | (simp; done) | (simp [*]; done)), H', ⟨by first | omega | exact Nat.le_refl _⟩, ⟨by (with_reducible repeat (first | refine blk_drewN ?_ _ | refine blk_drew ?_ | refine blk_alloc ?_ _)); exact BK222.out⟩, ⟨by repeat (first | (with_reducible first | exact HB.out | apply below_alloc | apply pw_below_drewN | apply below_drew1 | refine below_set ?_ GE222.out) | exact HB.out)⟩⟩
  case rest =>
    clear HC3
    try clear c1
    try clear p2
    try clear c5
    try clear c5b0
    try clear c5b1
    try clear c7
    try clear c7b0
    try clear c7b1
    try clear hcz6_0
    try clear hcz6_1
    try clear hcz8_0
    try clear hcz8_1
    try clear hcz9_0
    try clear hcz9_1
    try clear hfz6_0
    try clear hfz6_1
    try clear hfz8_0
    try clear hfz8_1
    try clear hfz9_0
    try clear hfz9_1
    obtain ⟨kq, x20_2, rfl, HA, HJ2, BK222, HB⟩ := hcut
    cases kq with
    | zero => exact absurd HA.out (by simp [malthouselaw08_fair.j0])
    | succ kj2 =>
      have H := HA.out
      clear HA
      simp only [malthouselaw08_fair.j0] at H
      by_cases c10 : x20_2 = true
      · subst c10
        have H1 : (some false) = some r := by rw [if_pos rfl] at H; exact H
        clear H
        have H := H1
        clear H1
        obtain rfl := Option.some.inj H
        go_wp2
        go_ret
        exact ⟨by first | rfl | (simp [errW_none, errW_some] <;> rfl) | (simp [*, errW_none, errW_some] <;> rfl), by repeat (first | (with_reducible first | exact HB.out | apply below_alloc | apply pw_below_drewN | apply below_drew1 | refine below_set ?_ GE222.out) | exact HB.out)⟩
      · replace c10 := Bool.eq_false_iff.mpr c10
        subst c10
        have H1 : (malthouselaw08_fair.l0 kj2 l1 0) = some r := by rw [if_neg (show ¬ (false = true) by decide)] at H; exact H
        clear H
        have H := H1
        clear H1
        have H' := Aside0.mk H
        clear H
        go_wp2
        go_loopg [5] kj2 (fun kq v5 w' => ∃ (x5_2 : Int), v5 = .int .i64 x5_2 ∧ Aside0 (malthouselaw08_fair.l0 kq l1 x5_2 = some r) ∧ Aside0 (kq ≤ kj2) ∧ Aside0 (w'.heap[gb222]? = some (.cells #[(.slice A0_0 l0_0.length c0_0), (.slice A0_1 l0_1.length c0_1)] 28 (0, 0))) ∧ Aside0 (Below w.heap.size w w'))
        case atStart => exact ⟨(0), (by first | rfl | (simp; done) | (simp [*]; done)), H', ⟨Nat.le_refl _⟩, ⟨by (with_reducible repeat (first | refine blk_drewN ?_ _ | refine blk_drew ?_ | refine blk_alloc ?_ _)); exact BK222.out⟩, ⟨by repeat (first | (with_reducible first | exact HB.out | apply below_alloc | apply pw_below_drewN | apply below_drew1 | refine below_set ?_ GE222.out) | exact HB.out)⟩⟩
        case round =>
          clear H'
          try clear c1
          try clear p2
          try clear c5
          try clear c5b0
          try clear c5b1
          try clear c7
          try clear c7b0
          try clear c7b1
          try clear c10
          try clear hcz6_0
          try clear hcz6_1
          try clear hcz8_0
          try clear hcz8_1
          try clear hcz9_0
          try clear hcz9_1
          try clear hfz6_0
          try clear hfz6_1
          try clear hfz8_0
          try clear hfz8_1
          try clear hfz9_0
          try clear hfz9_1
          try clear p2
          obtain ⟨x5_2, rfl, HA, HK2, BK222, HB⟩ := hrel
          cases gk with
          | zero => exact absurd HA.out (by simp [malthouselaw08_fair.l0])
          | succ k2 =>
            have H := HA.out
            clear HA
            simp only [malthouselaw08_fair.l0] at H
            by_cases c11 : x5_2 < (l1.length : Int)
            · rw [if_pos c11] at H
              have c11b0 : decide (x5_2 < (l1.length : Int)) = true := decide_eq_true c11
              clear c11
              by_cases c12 : 0 ≤ x5_2
              · rw [if_pos c12] at H
                have c12b0 : decide (0 ≤ x5_2) = true := decide_eq_true c12
                clear c12
                by_cases c13 : (((rd_T46 l1 x5_2).f0).size : Int) > 200
                · rw [if_pos c13] at H
                  have c13b0 : decide (200 < (((rd_T46 l1 x5_2).f0).size : Int)) = true := decide_eq_true c13
                  have c13b1 : decide (200 < ((rd_T46 l1 x5_2).f0).size) = true := decide_eq_true (by omega)
                  clear c13
                  obtain rfl := Option.some.inj H
                  have p223 : 0 ≤ (x5_2 : Int) := of_decide_eq_true (by first | (with_reducible assumption) | assumption)
                  have q223 : x5_2 < (l1.length : Int) := of_decide_eq_true (by first | (with_reducible assumption) | assumption)
                  obtain ⟨ad223, e223, hx223_0, hx223_1⟩ := at_T46 HR1.out x5_2 p223 q223
                  cases e223
                  replace hx223_0 := (HB.out.cell (World.block_lt_of_cell? w _ hx223_0)).trans hx223_0
                  replace hx223_1 := (HB.out.cell (World.block_lt_of_cell? w _ hx223_1)).trans hx223_1
                  replace p223 := eq_true p223
                  replace q223 := eq_true q223
                  go_wp2
                  go_ret
                  exact ⟨by first | rfl | (simp [errW_none, errW_some] <;> rfl) | (simp [*, errW_none, errW_some] <;> rfl), by repeat (first | (with_reducible first | exact HB.out | apply below_alloc | apply pw_below_drewN | apply below_drew1 | refine below_set ?_ GE222.out) | exact HB.out)⟩
                · rw [if_neg c13] at H
                  have c13b0 : decide (200 < (((rd_T46 l1 x5_2).f0).size : Int)) = false := decide_eq_false c13
                  have c13b1 : decide (200 < ((rd_T46 l1 x5_2).f0).size) = false := decide_eq_false (by omega)
                  clear c13
                  have H' := Aside0.mk H
                  clear H
                  have p223 : 0 ≤ (x5_2 : Int) := of_decide_eq_true (by first | (with_reducible assumption) | assumption)
                  have q223 : x5_2 < (l1.length : Int) := of_decide_eq_true (by first | (with_reducible assumption) | assumption)
                  obtain ⟨ad223, e223, hx223_0, hx223_1⟩ := at_T46 HR1.out x5_2 p223 q223
                  cases e223
                  replace hx223_0 := (HB.out.cell (World.block_lt_of_cell? w _ hx223_0)).trans hx223_0
                  replace hx223_1 := (HB.out.cell (World.block_lt_of_cell? w _ hx223_1)).trans hx223_1
                  replace p223 := eq_true p223
                  replace q223 := eq_true q223
                  go_wp2
                  go_roundg k2
                  case measure => have := HJ2.out; have := HK2.out; omega
                  case rel => exact ⟨(wrap64 (x5_2 + 1)), (by first | rfl | (simp; done) | (simp [*]; done)), H', ⟨by have := HJ2.out; have := HK2.out; omega⟩, ⟨by (with_reducible repeat (first | refine blk_drewN ?_ _ | refine blk_drew ?_ | refine blk_alloc ?_ _)); exact BK222.out⟩, ⟨by repeat (first | (with_reducible first | exact HB.out | apply below_alloc | apply pw_below_drewN | apply below_drew1 | refine below_set ?_ GE222.out) | exact HB.out)⟩⟩
              · rw [if_neg c12] at H
                exact absurd H (by simp)
            · rw [if_neg c11] at H
              have c11b0 : decide (x5_2 < (l1.length : Int)) = false := decide_eq_false c11
              clear c11
              obtain rfl := Option.some.inj H
              go_wp2
              go_ret
              exact ⟨by first | rfl | (simp [errW_none, errW_some] <;> rfl) | (simp [*, errW_none, errW_some] <;> rfl), by repeat (first | (with_reducible first | exact HB.out | apply below_alloc | apply pw_below_drewN | apply below_drew1 | refine below_set ?_ GE222.out) | exact HB.out)⟩
end Go.Proofs.YtbmdhmmahmdccaaDoor.Print
