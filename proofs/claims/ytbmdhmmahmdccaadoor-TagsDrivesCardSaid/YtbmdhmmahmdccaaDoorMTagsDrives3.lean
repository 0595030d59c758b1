import Derived.Test.YtbmdhmmahmdccaaDoorMTagsDrives2
set_option linter.unusedVariables false
set_option linter.unusedSimpArgs false
/-! ### ETold -/
namespace Go.Proofs.YtbmdhmmahmdccaaDoor.Print
open Go.RowKit Go.Proofs.YtbmdhmmahmdccaaDoorW.PrintWords Go.Proofs.YtbmdhmmahmdccaaDoorW.PrintLast Go.Proofs.YtbmdhmmahmdccaaDoorW.PrintMore
set_option linter.unusedSimpArgs false
set_option linter.unusedVariables false
def toldGo (l : List S48) (out : Bool) : List S46 → List Int → List Bool → List Int × List Bool × Int
  | [], V, B => (V, B, 0)
  | c :: cs, V, B =>
    if firstFrom (tagIs c.f0) 0 l < 0 ∨ (l.getD (firstFrom (tagIs c.f0) 0 l).toNat z48).f1 ≠ out then ([], [], 21)
    else toldGo l out cs (V.set (firstFrom (tagIs c.f0) 0 l).toNat (nearT (l.getD (firstFrom (tagIs c.f0) 0 l).toNat z48) c.f1))
      (B.set (firstFrom (tagIs c.f0) 0 l).toNat (!(l.getD (firstFrom (tagIs c.f0) 0 l).toNat z48).f1 && nearT (l.getD (firstFrom (tagIs c.f0) 0 l).toNat z48) c.f1 != c.f1))
def toldZ (l : List S48) (V : List Int) (B : List Bool) (cs : List S46) (out : Bool) : List Int × List Bool × Int := if rightB l V B = true then toldGo l out cs V B else ([], [], 1)
def tags_told.f (l0 : List S48) (l1_0 : List Int) (l1_1 : List Bool) (l2 : List S46) (a3 : Bool) : Option (List Int × List Bool × Int) :=
  if okTags l0 ∧ l1_0.length ≤ 1000000000 ∧ l1_1.length ≤ 1000000000 ∧ l2.length ≤ 1000000000 then some (toldZ l0 l1_0 l1_1 l2 a3) else none
set_option maxHeartbeats 8000000 in
set_option maxRecDepth 100000 in
theorem tags_told.calls (A0 : Option Addr) (c0 : Nat) (l0 : List S48) (A1_0 : Option Addr) (c1_0 : Nat) (l1_0 : List Int) (A1_1 : Option Addr) (c1_1 : Nat) (l1_1 : List Bool) (A2 : Option Addr) (c2 : Nat) (l2 : List S46) (a3 : Bool) (r1 : List Int) (r2 : List Bool) (r3 : Int) (w : World)
    (hr0 : Kd.C k48 w A0 l0.length l0) (hc0 : l0.length ≤ c0) (hr1_0 : Kd.C (Kd.int .i64) w A1_0 l1_0.length l1_0) (hc1_0 : l1_0.length ≤ c1_0) (hr1_1 : Kd.C Kd.bool w A1_1 l1_1.length l1_1) (hc1_1 : l1_1.length ≤ c1_1) (hr2 : Kd.C k46 w A2 l2.length l2) (hc2 : l2.length ≤ c2) (hT : Tabs w) (h : tags_told.f l0 l1_0 l1_1 l2 a3 = some (r1, r2, r3)) :
    Calls Tryd.prog 36 #[.slice A0 l0.length c0, .agg #[.slice A1_0 l1_0.length c1_0, .slice A1_1 l1_1.length c1_1], .slice A2 l2.length c2, .bool a3] w fun e w' => ∃ v0_ v1_ : Value, e = .returned (.tuple #[.agg #[v0_, v1_], .int .i64 r3]) ∧ Kd.R (Kd.int .i64) 3 w' w.heap.size (fun _ => True) v0_ r1 ∧ Kd.R Kd.bool 4 w' w.heap.size (fun _ => True) v1_ r2 ∧ Below w.heap.size w w' := by
  unfold tags_told.f at h
  split at h
  case isFalse => cases h
  rename_i hok
  obtain ⟨hok, hl0, hl1, hl2⟩ := hok
  have hv := Option.some.inj h
  clear h
  have HV := Lib.hid hv
  have HR := Lib.hid hr0
  have HR0 := Lib.hid hr1_0
  have HR1 := Lib.hid hr1_1
  have HR2 := Lib.hid hr2
  have HOK := Lib.hid hok
  have HTB := Lib.hid hT
  have hll := hok.1
  have hu := Tryd.underlying48
  have hu2 := Tryd.underlying28
  have hu3 := Tryd.underlying71
  have hu4 := Tryd.underlying46
  clear hv hr0 hr1_0 hr1_1 hr2 hok hT
  obtain ⟨rt, hrt⟩ : ∃ rt, rt = rightB l0 l1_0 l1_1 := ⟨_, rfl⟩
  have HRT := Lib.hid hrt
  clear hrt
  have HCR := Lib.hid (show ∀ W, Below w.heap.size w W → Calls Tryd.prog 24 #[.slice A0 l0.length c0, .agg #[.slice A1_0 l1_0.length c1_0, .slice A1_1 l1_1.length c1_1]] W fun e w' => e = .returned (.bool rt) ∧ Below W.heap.size W w' from fun W hb =>
    tags_Right.calls A0 c0 l0 A1_0 c1_0 l1_0 A1_1 c1_1 l1_1 rt W (Kd.C_below HR.out hb) hc0 (Kd.C_below HR0.out hb) hc1_0 (Kd.C_below HR1.out hb) hc1_1 (HTB.out.below hb) (by unfold tags_Right.f; rw [if_pos ⟨HOK.out, hl0, hl1⟩, HRT.out]))
  have HB0 := Lib.hid (show Below w.heap.size w ((w.alloc (.cells #[.slice A1_0 l1_0.length c1_0, .slice A1_1 l1_1.length c1_1] 28)).alloc (.cells #[.slice none 0 0, .slice none 0 0] 28)) from ((Below.refl _ _).alloc (Nat.le_refl _) _).alloc (by simp) _)
  have HX0 := Lib.hid (show ((w.alloc (.cells #[.slice A1_0 l1_0.length c1_0, .slice A1_1 l1_1.length c1_1] 28)).alloc (.cells #[.slice none 0 0, .slice none 0 0] 28)).heap[w.heap.size]? = some (.cells #[.slice A1_0 l1_0.length c1_0, .slice A1_1 l1_1.length c1_1] 28 (0, 0)) from (Below.heap_alloc _ _ _ (by simp)).trans (heap_alloc_new w _))
  have HY0 := Lib.hid (show ((w.alloc (.cells #[.slice A1_0 l1_0.length c1_0, .slice A1_1 l1_1.length c1_1] 28)).alloc (.cells #[.slice none 0 0, .slice none 0 0] 28)).heap[w.heap.size + 1]? = some (.cells #[.slice none 0 0, .slice none 0 0] 28 (0, 0)) from by
    have := heap_alloc_new (w.alloc (.cells #[.slice A1_0 l1_0.length c1_0, .slice A1_1 l1_1.length c1_1] 28)) (.cells #[.slice none 0 0, .slice none 0 0] 28)
    simpa using this)
  cases rt with
  | false =>
    have hv := HV.out
    unfold toldZ at hv
    rw [← HRT.out, if_neg (by simp)] at hv
    simp only [Prod.mk.injEq] at hv
    obtain ⟨rfl, rfl, rfl⟩ := hv
    clear HV
    go_enter Tryd.func36, Tryd.ntmps36
    go_wp2_with (first
      | (go_at_call 24; refine (HCR.out _ HB0.out).mono ?_; rintro e w1 ⟨rfl, hb1⟩; have HY1 := Lib.hid ((hb1.block _ (by simp)).trans HY0.out); have HB1 := Lib.hid (below_then HB0.out HB0.out.size hb1); clear hb1; refine (fun (h : Hid _) => h.out) ?_))
    refine Lib.hid ?_
    have y0 : w1.cell? ⟨w.heap.size + 1, 0, none⟩ = some (.slice none 0 0) := (cell_of_row w1 _ 0 _ _ _ HY1.out).trans rfl
    have y1 : w1.cell? ⟨w.heap.size + 1, 1, none⟩ = some (.slice none 0 0) := (cell_of_row w1 _ 1 _ _ _ HY1.out).trans rfl
    have z0 : w1.frozen? ⟨w.heap.size + 1, 0, none⟩ = false := frozen_of_row w1 _ 0 _ _ HY1.out
    have z1 : w1.frozen? ⟨w.heap.size + 1, 1, none⟩ = false := frozen_of_row w1 _ 1 _ _ HY1.out
    go_wp2
    refine bodyPost_ret (v := .tuple #[.agg #[.slice none 0 0, .slice none 0 0], .int .i64 1]) (by simp [results, Tryd.results36, go_sem, y0, y1]) rfl ⟨_, _, rfl, Kd.R_nil _ _ _ _ _, Kd.R_nil _ _ _ _ _, ?_⟩
    exact (HB1.out.setCell (by simp) _).setCell (by simp) _
  | true =>
    have hv := HV.out
    unfold toldZ at hv
    rw [← HRT.out, if_pos rfl] at hv
    have HV1 := Lib.hid hv
    clear HV hv
    have hlen : l1_0.length = l0.length ∧ l1_1.length = l0.length ∧ l0.length ≤ 12 := by
      have := HRT.out
      unfold rightB at this
      simp only [Bool.true_eq, Bool.and_eq_true, beq_iff_eq] at this
      exact ⟨this.1.1.2, this.1.2, (check_ok this.1.1.1).1⟩
    have HLEN := Lib.hid hlen
    clear hlen
    go_enter Tryd.func36, Tryd.ntmps36
    go_wp2_with (first
      | (go_at_call 24; refine (HCR.out _ HB0.out).mono ?_; rintro e w1 ⟨rfl, hb1⟩; have HX1 := Lib.hid ((hb1.block _ (by simp; omega)).trans HX0.out); have HY1 := Lib.hid ((hb1.block _ (by simp)).trans HY0.out); have HB1 := Lib.hid (below_then HB0.out HB0.out.size hb1); clear hb1; refine (fun (h : Hid _) => h.out) ?_))
    refine Lib.hid ?_
    go_wp2
    refine L.grow_start [] 11 ((0, true, false) :: (1, true, false) :: (3, true, false) :: (4, true, false) :: (7, true, false) :: (2, false, true) :: (5, false, true) :: (6, true, true) :: (8, true, true) :: (9, false, true) :: (10, true, true) :: []) (by kernel_rfl) (([], [5], some 19) :: ([0], [19], some 20) :: ([1], [20], some 21) :: ([], [5], some 22) :: ([3], [22], some 23) :: ([4, 2], [23], some 24) :: ([2, 5], [21, 24], some 25) :: ([], [0], some 26) :: ([6, 7], [25, 26], some 27) :: ([8], [27], some 28) :: ([9, 5, 0, 1, 2, 3, 4, 5, 6, 7, 8, 9], [28], some 10) :: []) (by kernel_rfl) (by kernel_rfl) (n := 11) rfl (by kernel_rfl) (fun _ _ _ _ _ h => h) (fun wg hog => ?_)
    refine L.growe_start (N := 61) (by rfl) ?_
    have e0 : ∀ w', Only [] wg w' → w'.cell? ⟨w.heap.size, 0, none⟩ = some (.slice A1_0 l1_0.length c1_0) := fun w' q => (cell_of_row w' w.heap.size 0 _ _ _ ((hog.trans q).heap HX1.out (by simp))).trans rfl
    have e1 : ∀ w', Only [] wg w' → w'.cell? ⟨w.heap.size, 1, none⟩ = some (.slice A1_1 l1_1.length c1_1) := fun w' q => (cell_of_row w' w.heap.size 1 _ _ _ ((hog.trans q).heap HX1.out (by simp))).trans rfl
    have HOG := Lib.hid hog
    clear hog
    have HBG := Lib.hid (below_then HB1.out HB1.out.size HOG.out.nil_below)
    iterate 5 (first | (refine L.ge_off rfl rfl rfl (by rfl) ?_) | (refine L.ge_move rfl rfl rfl (by rfl) rfl (by simp [L.evE, L.lk, Act.eval]; rfl) ?_) | (refine L.ge_pick rfl rfl rfl (by rfl) rfl (by simp [L.evE, L.lk, Act.eval]; rfl) (by simp [L.evE, L.lk, Act.eval]; rfl) ?_) | (refine L.ge_val rfl rfl rfl (by rfl) (by intro w' hw'; simp [execOp, L.evE, L.lk, Act.eval]; go_simp; rfl) ?_))
    refine L.ge_call rfl rfl rfl (by rfl) rfl (by simp [L.evE, L.lk, Act.eval]; rfl) (by go_simp) ?_
    refine (clone_ints A1_0 c1_0 l1_0 wg (Kd.C_below HR0.out HBG.out) hl0).mono ?_
    rintro e w2 ⟨v0, rfl, hR2, hb2⟩
    obtain ⟨Av, cv, rfl⟩ := Kd.R_slice hR2
    refine ⟨_, rfl, Only.of_below hb2, ?_⟩
    have HR2' := Lib.hid (Kd.R_lower hR2 HBG.out.size)
    have HO2 := Lib.hid (Only.of_below hb2)
    have HB2 := Lib.hid (below_then HBG.out HBG.out.size hb2)
    clear hR2 hb2 e0 e1
    refine L.ge_call rfl rfl rfl (by rfl) rfl (by simp [L.evE, L.lk, Act.eval]; rfl) (by go_simp) ?_
    refine (clone_bools A1_1 c1_1 l1_1 w2 (Kd.C_below HR1.out HB2.out) hl1).mono ?_
    rintro e w3 ⟨v1, rfl, hR3, hb3⟩
    obtain ⟨Ab, cb, rfl⟩ := Kd.R_slice hR3
    refine ⟨_, rfl, Only.of_below hb3, ?_⟩
    have HR3' := Lib.hid (Kd.R_lower hR3 HB2.out.size)
    have HR2'' := Lib.hid (Kd.R_below HR2'.out hb3)
    have HO3 := Lib.hid (Only.of_below hb3)
    have HB3 := Lib.hid (below_then HB2.out HB2.out.size hb3)
    have HY3 := Lib.hid ((HOG.out.trans (HO2.out.trans HO3.out)).heap HY1.out (by simp))
    clear hR3 hb3 HR2'
    iterate 2 (first | (refine L.ge_off rfl rfl rfl (by rfl) ?_) | (refine L.ge_move rfl rfl rfl (by rfl) rfl (by simp [L.evE, L.lk, Act.eval]; rfl) ?_) | (refine L.ge_pick rfl rfl rfl (by rfl) rfl (by simp [L.evE, L.lk, Act.eval]; rfl) (by simp [L.evE, L.lk, Act.eval]; rfl) ?_) | (refine L.ge_val rfl rfl rfl (by rfl) (by intro w' hw'; simp [execOp, L.evE, L.lk, Act.eval]; go_simp; rfl) ?_))
    refine L.ge_mem rfl rfl rfl (by rfl) (v := .pointer (some ⟨w3.heap.size, 0, none⟩)) (w' := w3.alloc (.cells #[.slice Av l1_0.length cv, .slice Ab l1_1.length cb, .slice A0 l0.length c0] 71)) (by simp [execOp, L.evE, L.lk, Act.eval]; go_simp) ((Only.refl _ _).alloc _) ?_
    iterate 1 (first | (refine L.ge_off rfl rfl rfl (by rfl) ?_) | (refine L.ge_move rfl rfl rfl (by rfl) rfl (by simp [L.evE, L.lk, Act.eval]; rfl) ?_) | (refine L.ge_pick rfl rfl rfl (by rfl) rfl (by simp [L.evE, L.lk, Act.eval]; rfl) (by simp [L.evE, L.lk, Act.eval]; rfl) ?_) | (refine L.ge_val rfl rfl rfl (by rfl) (by intro w' hw'; simp [execOp, L.evE, L.lk, Act.eval]; go_simp; rfl) ?_))
    refine L.ge_done ?_
    simp only [L.puts, Act.put, goInt, List.setIfInBounds_toArray, List.set_cons_zero, List.set_cons_succ]
    have HT4 := Lib.hid (heap_alloc_new w3 (.cells #[.slice Av l1_0.length cv, .slice Ab l1_1.length cb, .slice A0 l0.length c0] 71))
    have HB4 := Lib.hid (HB3.out.alloc HB3.out.size (.cells #[.slice Av l1_0.length cv, .slice Ab l1_1.length cb, .slice A0 l0.length c0] 71))
    have HY4 := Lib.hid ((Below.heap_alloc w3 (.cells #[.slice Av l1_0.length cv, .slice Ab l1_1.length cb, .slice A0 l0.length c0] 71) (w.heap.size + 1) (heap_lt HY3.out)).trans HY3.out)
    have HVV := Lib.hid (own_of_R (Kd.R_below HR2''.out ((Below.refl _ _).alloc (Nat.le_refl _) (.cells #[.slice Av l1_0.length cv, .slice Ab l1_1.length cb, .slice A0 l0.length c0] 71))))
    have HBV := Lib.hid (own_of_R (Kd.R_below HR3'.out ((Below.refl _ _).alloc (Nat.le_refl _) (.cells #[.slice Av l1_0.length cv, .slice Ab l1_1.length cb, .slice A0 l0.length c0] 71))))
    have HG := Lib.hid (show w.heap.size + 1 < w3.heap.size from heap_lt HY3.out)
    generalize w3.alloc (.cells #[.slice Av l1_0.length cv, .slice Ab l1_1.length cb, .slice A0 l0.length c0] 71) = w4 at *
    generalize w3.heap.size = gt at *
    clear HR2'' HR3' HO2 HO3 HB2 HB3 HY3 HBG HOG HX1 HY1 HB1 HX0 HY0 HB0 HCR
    go_wp2
    go_loopw [12, 13, 31] (fun _ _ i wr => ∃ (k : Nat) (xs : List Int) (ys : List Bool), k ≤ l2.length ∧ i = .int .i64 k ∧ Hid (xs.length = l1_0.length) ∧ Hid (ys.length = l1_1.length) ∧ Hid (toldGo l0 a3 (l2.drop k) xs ys = (r1, r2, r3)) ∧
      Hid (wr.ownsRow w.heap.size 3 1 (.slice Av l1_0.length cv) l1_0.length (xs.map (Value.int .i64))) ∧ Hid (wr.ownsRow w.heap.size 4 1 (.slice Ab l1_1.length cb) l1_1.length (ys.map Value.bool)) ∧
      Hid (wr.heap[gt]? = some (.cells #[.slice Av l1_0.length cv, .slice Ab l1_1.length cb, .slice A0 l0.length c0] 71 (0, 0))) ∧ Hid (wr.heap[w.heap.size + 1]? = some (.cells #[.slice none 0 0, .slice none 0 0] 28 (0, 0))) ∧ Hid (Below w.heap.size w wr)) (fun _ _ i _ => l2.length - (intOf i).toNat)
    case atStart => exact ⟨0, l1_0, l1_1, by omega, rfl, rfl, rfl, HV1, HVV, HBV, HT4, HY4, HB4⟩
    case round =>
      obtain ⟨k, xs, ys, hk, rfl, hxl, hyl, hgo, hvv, hbv, ht, hy, hbw⟩ := hrel
      clear HVV HBV HT4 HY4 HB4 HV1
      by_cases hlt : k < l2.length
      · have hlt' : (k : Int) < l2.length := by omega
        have hk0 : (0 : Int) ≤ k := by omega
        obtain ⟨ad, cs, rfl, _, hK, hcs⟩ := Kd.C_cells (Kd.C_below HR2.out hbw.out) k hlt
        obtain rfl := k46_open hK
        have HCS := Lib.hid (show CellsAt wr (ad.add (k * 2)) _ from hcs)
        have hgo' := hgo.out
        rw [List.drop_eq_getElem_cons hlt] at hgo'
        unfold toldGo at hgo'
        have HGO := Lib.hid hgo'
        clear hcs hK hgo hgo'
        generalize l2[k] = c at *
        obtain ⟨fi, hfi⟩ : ∃ fi, fi = firstFrom (tagIs c.f0) 0 l0 := ⟨_, rfl⟩
        rw [← hfi] at HGO
        have hrange := firstFrom_range (tagIs c.f0) l0 0
        rw [← hfi] at hrange
        have HFI := Lib.hid hfi
        clear hfi
        go_wp2_with (first
          | (with_reducible refine wpList_load_at rfl 46 (.tmp 33) rfl (ad.add (k * 2)) rfl _ _ HCS.out Tryd.underlying46 rfl (by kernel_rfl) ?_)
          | (go_at_call 16; refine (tags_Find.calls A0 c0 l0 c.f0 fi _ ?hr hc0 ?hf).mono ?_; (case hr => exact Kd.C_alloc (Kd.C_below HR.out hbw.out) _); (case hf => rw [HFI.out]; exact find_is l0 _ hll); rintro e w5 ⟨rfl, hb5⟩; have HB5 := Lib.hid hb5; clear hb5; refine (fun (h : Hid _) => h.out) ?_))
        refine Lib.hid ?_
        have HO5 := Lib.hid (show Only [] wr w5 from ((Only.refl _ _).alloc _).trans (Only.of_below HB5.out))
        have HC5 := Lib.hid ((HB5.out.block wr.heap.size (by simp)).trans (heap_alloc_new wr (.cells #[.string c.f0, .int .i64 c.f1] 46)))
        have HB6 := Lib.hid (below_then hbw.out hbw.out.size HO5.out.nil_below)
        have HVV5 := Lib.hid (ownsRow_only hvv.out HO5.out (by simp))
        have HBV5 := Lib.hid (ownsRow_only hbv.out HO5.out (by simp))
        have HT5 := Lib.hid (HO5.out.heap ht.out (by simp))
        have HY5 := Lib.hid (HO5.out.heap hy.out (by simp))
        clear HB5 HCS
        have y0 : w5.cell? ⟨w.heap.size + 1, 0, none⟩ = some (.slice none 0 0) := (cell_of_row w5 _ 0 _ _ _ HY5.out).trans rfl
        have y1 : w5.cell? ⟨w.heap.size + 1, 1, none⟩ = some (.slice none 0 0) := (cell_of_row w5 _ 1 _ _ _ HY5.out).trans rfl
        have z0 : w5.frozen? ⟨w.heap.size + 1, 0, none⟩ = false := frozen_of_row w5 _ 0 _ _ HY5.out
        have z1 : w5.frozen? ⟨w.heap.size + 1, 1, none⟩ = false := frozen_of_row w5 _ 1 _ _ HY5.out
        have kc : w5.cell? ⟨wr.heap.size, 1, none⟩ = some (.int .i64 c.f1) := (cell_of_row w5 _ 1 _ _ _ HC5.out).trans rfl
        by_cases hneg : fi < 0
        · have hgo' := HGO.out
          rw [if_pos (.inl hneg)] at hgo'
          simp only [Prod.mk.injEq] at hgo'
          obtain ⟨rfl, rfl, rfl⟩ := hgo'
          clear HGO hrange
          go_wp2
          refine bodyPost_ret (v := .tuple #[.agg #[.slice none 0 0, .slice none 0 0], .int .i64 21]) (by simp [results, Tryd.results36, go_sem, y0, y1]) rfl ⟨_, _, rfl, Kd.R_nil _ _ _ _ _, Kd.R_nil _ _ _ _ _, ?_⟩
          exact (HB6.out.setCell (by simp) _).setCell (by simp) _
        · obtain ⟨j, rfl⟩ : ∃ j : Nat, fi = j := ⟨fi.toNat, by omega⟩
          have hjl : j < l0.length := by omega
          have hjl' : (j : Int) < l0.length := by omega
          have hj0 : (0 : Int) ≤ j := by omega
          obtain ⟨ad0, cs0, rfl, _, hK0, hcs0⟩ := Kd.C_cells (Kd.C_below HR.out HB6.out) j hjl
          obtain rfl := k48_open hK0
          have kt : w5.cell? ⟨(ad0.add (j * 4)).block, (ad0.add (j * 4)).off + 1, none⟩ = some (.bool l0[j].f1) := cellsAt_field (show CellsAt w5 (ad0.add (j * 4)) _ from hcs0) 1 (by omega) rfl
          clear hcs0 hK0
          have hgo' := HGO.out
          have egd : l0.getD ((j : Int)).toNat z48 = l0[j] := getD_at l0 _ j hjl
          rw [egd, Int.toNat_natCast] at hgo'
          by_cases hout : l0[j].f1 = a3
          · rw [if_neg (by simp [hout])] at hgo'
            have HGO2 := Lib.hid hgo'
            have hob : (l0[j].f1 == a3) = true := by rw [hout]; simp
            clear HGO hgo' hrange egd hneg hout
            obtain ⟨gv, capv, curv, ev, hgb, hgv, hgn⟩ := ownsRow_block HVV5.out (by have := HLEN.out; omega)
            obtain ⟨gb, capb, curb, eb, hbb, hgbv, hbn⟩ := ownsRow_block HBV5.out (by have := HLEN.out; omega)
            injection ev with ev1 ev2 ev3
            injection eb with eb1 eb2 eb3
            subst ev1
            subst ev3
            subst eb1
            subst eb3
            have HGV := Lib.hid hgv
            have HGB := Lib.hid hgbv
            have n1 : gt ≠ gv := by
              rintro rfl
              have := HT5.out.symm.trans hgv
              simp at this
            have n2 : gt ≠ gb := by
              rintro rfl
              have := HT5.out.symm.trans hgbv
              simp at this
            have n3 : gv ≠ gb := by
              rintro rfl
              have := hgv.symm.trans hgbv
              simp at this
            have n4 : w.heap.size + 1 ≠ gv := by
              intro e9
              have := hy.out
              have h9 := HY5.out
              rw [e9] at h9
              have := h9.symm.trans hgv
              simp at this
            have n5 : w.heap.size + 1 ≠ gb := by
              intro e9
              have h9 := HY5.out
              rw [e9] at h9
              have := h9.symm.trans hgbv
              simp at this
            have NN := Lib.hid (And.intro n1 (And.intro n2 (And.intro n3 (And.intro n4 n5))))
            have had : ∀ ad, some ad0 = some ad → ad.block ≠ gv ∧ ad.block ≠ gb := by
              intro ad e9
              injection e9 with e9
              subst e9
              obtain ⟨ad1, cs1, e1, hl1', _, hc1⟩ := Kd.C_cells HR.out j hjl
              injection e1 with e1
              subst e1
              have hpos : 0 < cs1.length := by rw [hl1']; exact Nat.succ_pos _
              have := block_lt_of_cell (hc1 0 _ (List.getElem?_eq_getElem hpos))
              rw [add_block, add_block] at this
              omega
            have HAD := Lib.hid had
            have HJV := Lib.hid (show curv[j]? ≠ none by rw [Array.getElem?_eq_getElem (by have := HLEN.out; omega)]; simp)
            have HJB := Lib.hid (show curb[j]? ≠ none by rw [Array.getElem?_eq_getElem (by have := HLEN.out; omega)]; simp)
            have HRL := Lib.hid (Kd.C_below HR.out HB6.out)
            clear hgv hgbv n1 n2 n3 n4 n5 had
            go_wp2_with (go_at_call 46; refine (tell_any gt gv gb l1_0.length l1_1.length cv cb (some ad0) c0 l0 j c.f1 curv curb w5 HT5.out HGV.out HGB.out HJV.out HJB.out HRL.out HAD.out (by have := HLEN.out; omega) (by have := HLEN.out; omega) hjl NN.out.1 NN.out.2.1 NN.out.2.2.1).mono ?_; rintro e w6 ⟨rfl, hv6, hb6, ho6⟩; have HV6 := Lib.hid hv6; have HBV6 := Lib.hid hb6; have HO6 := Lib.hid ho6; clear hv6 hb6 ho6)
            go_roundw
            case rel =>
              refine ⟨k + 1, xs.set j (nearT l0[j] c.f1), ys.set j (!l0[j].f1 && nearT l0[j] c.f1 != c.f1), by omega, by go_num, ?_, ?_, HGO2, ?_, ?_, ?_, ?_, ?_⟩
              · exact Lib.hid (by rw [List.length_set]; exact hxl.out)
              · exact Lib.hid (by rw [List.length_set]; exact hyl.out)
              · refine Lib.hid ?_
                rw [List.map_set]
                exact ownsRow_poke HVV5.out HGV.out HV6.out (by have := HLEN.out; omega)
              · refine Lib.hid ?_
                rw [List.map_set]
                exact ownsRow_poke HBV5.out HGB.out HBV6.out (by have := HLEN.out; omega)
              · exact Lib.hid (HO6.out.heap HT5.out (by have := NN.out; simp [this.1, this.2.1]))
              · exact Lib.hid (HO6.out.heap HY5.out (by have := NN.out; simp [this.2.2.2.1, this.2.2.2.2]))
              · refine Lib.hid ⟨?_, ?_, ?_, ?_, ?_⟩
                · rw [HO6.out.os]; exact HB6.out.os
                · rw [HO6.out.tape]; exact HB6.out.tape
                · rw [HO6.out.output]; exact HB6.out.output
                · exact Nat.le_trans HB6.out.size HO6.out.size
                · intro q hq
                  rw [HO6.out.block q (Nat.lt_of_lt_of_le hq HB6.out.size) (by simp; omega)]
                  exact HB6.out.block q hq
            case measure => simp [intOf]; omega
          · rw [if_pos (.inr hout)] at hgo'
            simp only [Prod.mk.injEq] at hgo'
            obtain ⟨rfl, rfl, rfl⟩ := hgo'
            have hob : (l0[j].f1 == a3) = false := by simpa using hout
            clear HGO hrange egd hneg hout
            go_wp2
            refine bodyPost_ret (v := .tuple #[.agg #[.slice none 0 0, .slice none 0 0], .int .i64 21]) (by simp [results, Tryd.results36, go_sem, y0, y1]) rfl ⟨_, _, rfl, Kd.R_nil _ _ _ _ _, Kd.R_nil _ _ _ _ _, ?_⟩
            exact (HB6.out.setCell (by simp) _).setCell (by simp) _
      · obtain rfl : k = l2.length := by omega
        have hgo' := hgo.out
        rw [List.drop_length] at hgo'
        unfold toldGo at hgo'
        simp only [Prod.mk.injEq] at hgo'
        obtain ⟨rfl, rfl, rfl⟩ := hgo'
        clear hgo
        have y0 : wr.cell? ⟨w.heap.size + 1, 0, none⟩ = some (.slice none 0 0) := (cell_of_row wr _ 0 _ _ _ hy.out).trans rfl
        have y1 : wr.cell? ⟨w.heap.size + 1, 1, none⟩ = some (.slice none 0 0) := (cell_of_row wr _ 1 _ _ _ hy.out).trans rfl
        have z0 : wr.frozen? ⟨w.heap.size + 1, 0, none⟩ = false := frozen_of_row wr _ 0 _ _ hy.out
        have z1 : wr.frozen? ⟨w.heap.size + 1, 1, none⟩ = false := frozen_of_row wr _ 1 _ _ hy.out
        have t0 : wr.cell? ⟨gt, 0, none⟩ = some (.slice Av l1_0.length cv) := (cell_of_row wr _ 0 _ _ _ ht.out).trans rfl
        have t1 : wr.cell? ⟨gt, 1, none⟩ = some (.slice Ab l1_1.length cb) := (cell_of_row wr _ 1 _ _ _ ht.out).trans rfl
        have na : ∀ k, (Value.slice Av l1_0.length cv).ownBlock = some k → k ≠ w.heap.size + 1 := by
          intro q hq e9
          subst e9
          rcases hvv.out.2 with ⟨h9, _⟩ | ⟨g, cap, cur, e1, _, hh, _⟩
          · rw [h9] at hq; simp [Value.ownBlock] at hq
          · rw [e1] at hq
            have : g = w.heap.size + 1 := by simpa [Value.ownBlock] using hq
            subst this
            have := hh.symm.trans hy.out
            simp at this
        have nb : ∀ k, (Value.slice Ab l1_1.length cb).ownBlock = some k → k ≠ w.heap.size + 1 := by
          intro q hq e9
          subst e9
          rcases hbv.out.2 with ⟨h9, _⟩ | ⟨g, cap, cur, e1, _, hh, _⟩
          · rw [h9] at hq; simp [Value.ownBlock] at hq
          · rw [e1] at hq
            have : g = w.heap.size + 1 := by simpa [Value.ownBlock] using hq
            subst this
            have := hh.symm.trans hy.out
            simp at this
        have HNA := Lib.hid na
        have HNB := Lib.hid nb
        clear na nb
        go_wp2
        have f0 := ownsRow_only hvv.out ((Only.refl [w.heap.size + 1] wr).setCell (p := ⟨w.heap.size + 1, 0, none⟩) (by simp) (.slice Av l1_0.length cv) |>.setCell (p := ⟨w.heap.size + 1, 1, none⟩) (by simp) (.slice Ab l1_1.length cb)) (fun q hq => by simpa using HNA.out q hq)
        have f1 := ownsRow_only hbv.out ((Only.refl [w.heap.size + 1] wr).setCell (p := ⟨w.heap.size + 1, 0, none⟩) (by simp) (.slice Av l1_0.length cv) |>.setCell (p := ⟨w.heap.size + 1, 1, none⟩) (by simp) (.slice Ab l1_1.length cb)) (fun q hq => by simpa using HNB.out q hq)
        rw [← hxl.out, ← hyl.out] at f0 f1
        refine bodyPost_ret (v := .tuple #[.agg #[.slice Av l1_0.length cv, .slice Ab l1_1.length cb], .int .i64 0]) (by simp [results, Tryd.results36, go_sem, y0, y1]) rfl ⟨_, _, rfl, ?_, ?_, ?_⟩
        · rw [← hxl.out, ← hyl.out]
          exact R_of_ownsRow f0
        · rw [← hxl.out, ← hyl.out]
          exact R_of_ownsRow f1
        · exact (hbw.out.setCell (by simp) _).setCell (by simp) _
end Go.Proofs.YtbmdhmmahmdccaaDoor.Print
/-! ### Print8 -/
namespace Go.Proofs.YtbmdhmmahmdccaaDoor.Print
open Go.RowKit Go.Proofs.YtbmdhmmahmdccaaDoorW.PrintWords Go.Proofs.YtbmdhmmahmdccaaDoorW.PrintLast Go.Proofs.YtbmdhmmahmdccaaDoorW.PrintMore
attribute [local go_sem] max2_int min2_int max_two min_two
set_option linter.unusedVariables false
set_option linter.unusedSimpArgs false
def tags_Latch.f (l0 : List (S48)) (l1_0 : List Int) (l1_1 : List Bool) (l2 : List (S46)) : Option (List Int × List Bool × Int) := (tags_told.f l0 l1_0 l1_1 l2 false).bind fun bt127 => (some (bt127.1, bt127.2.1, bt127.2.2))
set_option maxHeartbeats 8000000 in
set_option maxRecDepth 100000 in
theorem tags_Latch.calls (A0 : Option Addr) (c0 : Nat) (l0 : List (S48)) (A1_0 : Option Addr) (c1_0 : Nat) (l1_0 : List Int) (A1_1 : Option Addr) (c1_1 : Nat) (l1_1 : List Bool) (A2 : Option Addr) (c2 : Nat) (l2 : List (S46)) (r1 : List Int) (r2 : List Bool) (r3 : Int) (w : World) (hr0 : Kd.C k48 w A0 l0.length l0) (hc0 : l0.length ≤ c0) (hr1_0 : Kd.C (Kd.int .i64) w A1_0 l1_0.length l1_0) (hc1_0 : l1_0.length ≤ c1_0) (hr1_1 : Kd.C Kd.bool w A1_1 l1_1.length l1_1) (hc1_1 : l1_1.length ≤ c1_1) (hr2 : Kd.C k46 w A2 l2.length l2) (hc2 : l2.length ≤ c2) (hT : Tabs w) (h : tags_Latch.f l0 l1_0 l1_1 l2 = some (r1, r2, r3)) :
    Calls Tryd.prog 20 #[.slice A0 l0.length c0, .agg #[.slice A1_0 l1_0.length c1_0, .slice A1_1 l1_1.length c1_1], .slice A2 l2.length c2] w fun e w' => ∃ v0_ v1_ : Value, e = .returned (.tuple #[.agg #[v0_, v1_], .int .i64 r3]) ∧ Kd.R (Kd.int .i64) 3 w' w.heap.size (fun _ => True) v0_ r1 ∧ Kd.R Kd.bool 4 w' w.heap.size (fun _ => True) v1_ r2 ∧ Below w.heap.size w w' := by
  have hu28 := Tryd.underlying28
  have HR0 := Aside0.mk hr0
  have HC0 := Aside0.mk hc0
  clear hr0 hc0
  have HR1_0 := Aside0.mk hr1_0
  have HC1_0 := Aside0.mk hc1_0
  clear hr1_0 hc1_0
  have HR1_1 := Aside0.mk hr1_1
  have HC1_1 := Aside0.mk hc1_1
  clear hr1_1 hc1_1
  have HR2 := Aside0.mk hr2
  have HC2 := Aside0.mk hc2
  clear hr2 hc2
  have HB := Aside0.mk (Below.refl w.heap.size w)
  have H : ((tags_told.f l0 l1_0 l1_1 l2 false).bind fun bt127 => (some (bt127.1, bt127.2.1, bt127.2.2))) = some (r1, r2, r3) := h
  clear h
  replace H := Option.bind_eq_some_iff.mp H
  obtain ⟨⟨t127, t130, t133⟩, A40, H⟩ := H
  replace H : (some (t127, t130, t133)) = some (r1, r2, r3) := H
  have A4 := Aside0.mk A40
  clear A40
  simp only [Option.some.injEq, Prod.mk.injEq] at H
  obtain ⟨rfl, rfl, rfl⟩ := H
  go_enter Tryd.func20, Tryd.ntmps20
  go_wp2_with (first | ((with_reducible refine gate_dst (N := 4) rfl ?_); refine box_event ?hg (N := 4) ?hd (cs := #[.slice A1_0 l1_0.length c1_0, .slice A1_1 l1_1.length c1_1]) (t := 28) ?hr ?_; (case hd => rfl); (case hg => rfl); (case hr => first | (go_simp; done) | (go_simp; rfl)); intro gb125 hg w5 hbox hb; have n0_ := Aside0.mk (below_step (by repeat (first | (with_reducible first | exact HB.out | apply below_alloc | apply pw_below_drewN | apply below_drew1) | exact HB.out)) hb); have n1_ := Aside0.mk (hbox); have n2_ := Aside0.mk ((by rw [hg]; exact (below_size (by repeat (first | (with_reducible first | exact HB.out | apply below_alloc | apply pw_below_drewN | apply below_drew1) | exact HB.out))) : w.heap.size ≤ gb125)); have n3_ := Aside0.mk ((by rw [hg]; exact (below_size (by repeat (first | (with_reducible first | exact HB.out | apply below_alloc | apply pw_below_drewN | apply below_drew1) | exact HB.out))) : w.heap.size ≤ gb125)); clear HB; have HB := n0_; have BK125 := n1_; have GW125 := n2_; have GE125 := n3_; clear n0_ n1_ n2_ n3_; clear hb hbox hg) | ((with_reducible refine gate_dst (N := 6) rfl ?_); refine box_event ?hg (N := 6) ?hd (cs := #[.slice none 0 0, .slice none 0 0]) (t := 28) ?hr ?_; (case hd => rfl); (case hg => rfl); (case hr => first | (go_simp; done) | (go_simp; rfl)); intro gb126 hg w6 hbox hb; have n0_ := Aside0.mk (blk_below (g := gb125) (o := .cells #[.slice A1_0 l1_0.length c1_0, .slice A1_1 l1_1.length c1_1] 28 (0, 0)) (by (with_reducible repeat (first | refine blk_drewN ?_ _ | refine blk_drew ?_ | refine blk_alloc ?_ _)); exact BK125.out) hb); have n1_ := Aside0.mk (below_step (by repeat (first | (with_reducible first | exact HB.out | apply below_alloc | apply pw_below_drewN | apply below_drew1 | refine below_set ?_ GE125.out) | exact HB.out)) hb); have n2_ := Aside0.mk (hbox); have n3_ := Aside0.mk ((by rw [hg]; exact (below_size (by repeat (first | (with_reducible first | exact HB.out | apply below_alloc | apply pw_below_drewN | apply below_drew1 | refine below_set ?_ GE125.out) | exact HB.out))) : w.heap.size ≤ gb126)); have n4_ := Aside0.mk ((by rw [hg]; exact (below_size (by repeat (first | (with_reducible first | exact HB.out | apply below_alloc | apply pw_below_drewN | apply below_drew1 | refine below_set ?_ GE125.out) | exact HB.out))) : w.heap.size ≤ gb126)); have n5_ := Aside0.mk ((by rw [hg]; exact Nat.ne_of_lt (blk_lt (g := gb125) (o := .cells #[.slice A1_0 l1_0.length c1_0, .slice A1_1 l1_1.length c1_1] 28 (0, 0)) (by (with_reducible repeat (first | refine blk_drewN ?_ _ | refine blk_drew ?_ | refine blk_alloc ?_ _)); exact BK125.out)) : gb125 ≠ gb126)); have n6_ := Aside0.mk ((by rw [hg]; exact Nat.ne_of_gt (blk_lt (g := gb125) (o := .cells #[.slice A1_0 l1_0.length c1_0, .slice A1_1 l1_1.length c1_1] 28 (0, 0)) (by (with_reducible repeat (first | refine blk_drewN ?_ _ | refine blk_drew ?_ | refine blk_alloc ?_ _)); exact BK125.out)) : gb126 ≠ gb125)); clear BK125; clear HB; have BK125 := n0_; have HB := n1_; have BK126 := n2_; have GW126 := n3_; have GE126 := n4_; have NB125_126 := n5_; have NB126_125 := n6_; clear n0_ n1_ n2_ n3_ n4_ n5_ n6_; clear hb hbox hg; have hnb7 := NB125_126.out; have hnc7 := NB126_125.out; have hcz8_0 : w6.cell? ⟨gb125, 0, none⟩ = some (.slice A1_0 l1_0.length c1_0) := (blk_cell BK125.out 0).trans rfl; have hcz8_1 : w6.cell? ⟨gb125, 1, none⟩ = some (.slice A1_1 l1_1.length c1_1) := (blk_cell BK125.out 1).trans rfl; have hfz8_0 := blk_frozen BK125.out 0; have hfz8_1 := blk_frozen BK125.out 1) | ((with_reducible refine gate_callee (f := 36) rfl ?_); refine goesL_ (some 11) rfl rfl Tryd.func36 (by kernel_rfl) rfl #[.slice A0 l0.length c0, .agg #[.slice A1_0 l1_0.length c1_0, .slice A1_1 l1_1.length c1_1], .slice A2 l2.length c2, .bool false] rfl (by (try simp only [List.map_toArray, List.map_cons, List.map_nil]); first | done | rfl | (simp only [List.length_drop, List.length_take]; rfl)) ?_; (with_reducible refine (tags_told.calls _ _ l0 _ _ l1_0 _ _ l1_1 _ _ l2 false t127 t130 t133 _ ?side1 ?side2 ?side3 ?side4 ?side5 ?side6 ?side7 ?side8 ?side9 A4.out).mono ?_); (case side1 => repeat (first | exact (Kd.C_below HR0.out HB.out) | (with_reducible refine Kd.C_alloc ?_ _) | (with_reducible refine Kd.C_drewN ?_ _) | (with_reducible refine Kd.C_drew ?_))); (case side2 => exact HC0.out); (case side3 => repeat (first | exact (Kd.C_below HR1_0.out HB.out) | (with_reducible refine Kd.C_alloc ?_ _) | (with_reducible refine Kd.C_drewN ?_ _) | (with_reducible refine Kd.C_drew ?_))); (case side4 => exact HC1_0.out); (case side5 => repeat (first | exact (Kd.C_below HR1_1.out HB.out) | (with_reducible refine Kd.C_alloc ?_ _) | (with_reducible refine Kd.C_drewN ?_ _) | (with_reducible refine Kd.C_drew ?_))); (case side6 => exact HC1_1.out); (case side7 => repeat (first | exact (Kd.C_below HR2.out HB.out) | (with_reducible refine Kd.C_alloc ?_ _) | (with_reducible refine Kd.C_drewN ?_ _) | (with_reducible refine Kd.C_drew ?_))); (case side8 => exact HC2.out); (case side9 => exact Tabs.below hT (by repeat (first | (with_reducible first | exact HB.out | apply below_alloc | apply pw_below_drewN | apply below_drew1 | refine below_set ?_ GE125.out | refine below_set ?_ GE126.out) | exact HB.out))); rintro e w9 ⟨v128, v131, rfl, ho0, ho1, hb⟩; refine ⟨_, rfl, ?_⟩; have n0_ := Aside0.mk (Kd.R_lower ho0 (below_size (by repeat (first | (with_reducible first | exact HB.out | apply below_alloc | apply pw_below_drewN | apply below_drew1 | refine below_set ?_ GE125.out | refine below_set ?_ GE126.out) | exact HB.out)))); have n1_ := Aside0.mk (Kd.R_lower ho1 (below_size (by repeat (first | (with_reducible first | exact HB.out | apply below_alloc | apply pw_below_drewN | apply below_drew1 | refine below_set ?_ GE125.out | refine below_set ?_ GE126.out) | exact HB.out)))); have n2_ := Aside0.mk (blk_below (g := gb125) (o := .cells #[.slice A1_0 l1_0.length c1_0, .slice A1_1 l1_1.length c1_1] 28 (0, 0)) (by (with_reducible repeat (first | refine blk_drewN ?_ _ | refine blk_drew ?_ | refine blk_alloc ?_ _)); exact BK125.out) hb); have n3_ := Aside0.mk (blk_below (g := gb126) (o := .cells #[.slice none 0 0, .slice none 0 0] 28 (0, 0)) (by (with_reducible repeat (first | refine blk_drewN ?_ _ | refine blk_drew ?_ | refine blk_alloc ?_ _)); exact BK126.out) hb); have n4_ := Aside0.mk (below_step (by repeat (first | (with_reducible first | exact HB.out | apply below_alloc | apply pw_below_drewN | apply below_drew1 | refine below_set ?_ GE125.out | refine below_set ?_ GE126.out) | exact HB.out)) hb); clear BK125; clear BK126; clear HB; have HO129 := n0_; have HO132 := n1_; have BK125 := n2_; have BK126 := n3_; have HB := n4_; clear n0_ n1_ n2_ n3_ n4_; (try clear hb); (try clear hb2); (try clear hk); (try clear hi); (try clear ho0); (try clear ho1); obtain ⟨Ao10, co10, eo10⟩ := Kd.R_slice HO129.out; subst eo10; have hcz11_0 : w9.cell? ⟨gb126, 0, none⟩ = some (.slice none 0 0) := (blk_cell BK126.out 0).trans rfl; have hcz11_1 : w9.cell? ⟨gb126, 1, none⟩ = some (.slice none 0 0) := (blk_cell BK126.out 1).trans rfl; have hfz11_0 := blk_frozen BK126.out 0; have hfz11_1 := blk_frozen BK126.out 1; obtain ⟨Ao12, co12, eo12⟩ := Kd.R_slice HO132.out; subst eo12))
  refine bodyPost_ret (results_ct rfl _ _ gb126 28 #[.slice Ao10 t127.length co10, .slice Ao12 t130.length co12] (0, 0) _ rfl (by (with_reducible repeat (first | refine blk_drewN ?_ _ | refine blk_drew ?_ | refine blk_alloc ?_ _)); refine blk_put (cs := #[.slice Ao10 t127.length co10, .slice none 0 0]) ?_ 1 _ rfl; (with_reducible repeat (first | refine blk_drewN ?_ _ | refine blk_drew ?_ | refine blk_alloc ?_ _)); refine blk_put (cs := #[.slice none 0 0, .slice none 0 0]) ?_ 0 _ rfl; (with_reducible repeat (first | refine blk_drewN ?_ _ | refine blk_drew ?_ | refine blk_alloc ?_ _)); exact BK126.out) Tryd.underlying28 rfl (by kernel_rfl)) rfl ?_
  exact ⟨_, _, by first | rfl | (simp [errW_none, errW_some] <;> rfl) | (simp [*, errW_none, errW_some] <;> rfl), by (with_reducible repeat (first | apply Kd.R_alloc | apply Kd.R_drewN | apply Kd.R_drew)); exact Kd.R_mono (Kd.R_far (p := ⟨gb126, 1, none⟩) (Kd.R_far (p := ⟨gb126, 0, none⟩) (Kd.R_types HO129.out BK126.out (by decide)) (fun _ hk => hk.2) (.slice Ao10 t127.length co10)) (fun _ hk => hk.2) (.slice Ao12 t130.length co12)) (fun _ hk => trivial), by (with_reducible repeat (first | apply Kd.R_alloc | apply Kd.R_drewN | apply Kd.R_drew)); exact Kd.R_mono (Kd.R_far (p := ⟨gb126, 1, none⟩) (Kd.R_far (p := ⟨gb126, 0, none⟩) (Kd.R_types HO132.out BK126.out (by decide)) (fun _ hk => hk.2) (.slice Ao10 t127.length co10)) (fun _ hk => hk.2) (.slice Ao12 t130.length co12)) (fun _ hk => trivial), by repeat (first | (with_reducible first | exact HB.out | apply below_alloc | apply pw_below_drewN | apply below_drew1 | refine below_set ?_ GE125.out | refine below_set ?_ GE126.out) | exact HB.out)⟩
def tags_Drive.f (l0 : List (S48)) (l1_0 : List Int) (l1_1 : List Bool) (l2 : List (S46)) : Option (List Int × List Bool × Int) := (tags_told.f l0 l1_0 l1_1 l2 true).bind fun bt136 => (some (bt136.1, bt136.2.1, bt136.2.2))
set_option maxHeartbeats 8000000 in
set_option maxRecDepth 100000 in
theorem tags_Drive.calls (A0 : Option Addr) (c0 : Nat) (l0 : List (S48)) (A1_0 : Option Addr) (c1_0 : Nat) (l1_0 : List Int) (A1_1 : Option Addr) (c1_1 : Nat) (l1_1 : List Bool) (A2 : Option Addr) (c2 : Nat) (l2 : List (S46)) (r1 : List Int) (r2 : List Bool) (r3 : Int) (w : World) (hr0 : Kd.C k48 w A0 l0.length l0) (hc0 : l0.length ≤ c0) (hr1_0 : Kd.C (Kd.int .i64) w A1_0 l1_0.length l1_0) (hc1_0 : l1_0.length ≤ c1_0) (hr1_1 : Kd.C Kd.bool w A1_1 l1_1.length l1_1) (hc1_1 : l1_1.length ≤ c1_1) (hr2 : Kd.C k46 w A2 l2.length l2) (hc2 : l2.length ≤ c2) (hT : Tabs w) (h : tags_Drive.f l0 l1_0 l1_1 l2 = some (r1, r2, r3)) :
    Calls Tryd.prog 22 #[.slice A0 l0.length c0, .agg #[.slice A1_0 l1_0.length c1_0, .slice A1_1 l1_1.length c1_1], .slice A2 l2.length c2] w fun e w' => ∃ v0_ v1_ : Value, e = .returned (.tuple #[.agg #[v0_, v1_], .int .i64 r3]) ∧ Kd.R (Kd.int .i64) 3 w' w.heap.size (fun _ => True) v0_ r1 ∧ Kd.R Kd.bool 4 w' w.heap.size (fun _ => True) v1_ r2 ∧ Below w.heap.size w w' := by
  have hu28 := Tryd.underlying28
  have HR0 := Aside0.mk hr0
  have HC0 := Aside0.mk hc0
  clear hr0 hc0
  have HR1_0 := Aside0.mk hr1_0
  have HC1_0 := Aside0.mk hc1_0
  clear hr1_0 hc1_0
  have HR1_1 := Aside0.mk hr1_1
  have HC1_1 := Aside0.mk hc1_1
  clear hr1_1 hc1_1
  have HR2 := Aside0.mk hr2
  have HC2 := Aside0.mk hc2
  clear hr2 hc2
  have HB := Aside0.mk (Below.refl w.heap.size w)
  have H : ((tags_told.f l0 l1_0 l1_1 l2 true).bind fun bt136 => (some (bt136.1, bt136.2.1, bt136.2.2))) = some (r1, r2, r3) := h
  clear h
  replace H := Option.bind_eq_some_iff.mp H
  obtain ⟨⟨t136, t139, t142⟩, A40, H⟩ := H
  replace H : (some (t136, t139, t142)) = some (r1, r2, r3) := H
  have A4 := Aside0.mk A40
  clear A40
  simp only [Option.some.injEq, Prod.mk.injEq] at H
  obtain ⟨rfl, rfl, rfl⟩ := H
  go_enter Tryd.func22, Tryd.ntmps22
  go_wp2_with (first | ((with_reducible refine gate_dst (N := 4) rfl ?_); refine box_event ?hg (N := 4) ?hd (cs := #[.slice A1_0 l1_0.length c1_0, .slice A1_1 l1_1.length c1_1]) (t := 28) ?hr ?_; (case hd => rfl); (case hg => rfl); (case hr => first | (go_simp; done) | (go_simp; rfl)); intro gb134 hg w5 hbox hb; have n0_ := Aside0.mk (below_step (by repeat (first | (with_reducible first | exact HB.out | apply below_alloc | apply pw_below_drewN | apply below_drew1) | exact HB.out)) hb); have n1_ := Aside0.mk (hbox); have n2_ := Aside0.mk ((by rw [hg]; exact (below_size (by repeat (first | (with_reducible first | exact HB.out | apply below_alloc | apply pw_below_drewN | apply below_drew1) | exact HB.out))) : w.heap.size ≤ gb134)); have n3_ := Aside0.mk ((by rw [hg]; exact (below_size (by repeat (first | (with_reducible first | exact HB.out | apply below_alloc | apply pw_below_drewN | apply below_drew1) | exact HB.out))) : w.heap.size ≤ gb134)); clear HB; have HB := n0_; have BK134 := n1_; have GW134 := n2_; have GE134 := n3_; clear n0_ n1_ n2_ n3_; clear hb hbox hg) | ((with_reducible refine gate_dst (N := 6) rfl ?_); refine box_event ?hg (N := 6) ?hd (cs := #[.slice none 0 0, .slice none 0 0]) (t := 28) ?hr ?_; (case hd => rfl); (case hg => rfl); (case hr => first | (go_simp; done) | (go_simp; rfl)); intro gb135 hg w6 hbox hb; have n0_ := Aside0.mk (blk_below (g := gb134) (o := .cells #[.slice A1_0 l1_0.length c1_0, .slice A1_1 l1_1.length c1_1] 28 (0, 0)) (by (with_reducible repeat (first | refine blk_drewN ?_ _ | refine blk_drew ?_ | refine blk_alloc ?_ _)); exact BK134.out) hb); have n1_ := Aside0.mk (below_step (by repeat (first | (with_reducible first | exact HB.out | apply below_alloc | apply pw_below_drewN | apply below_drew1 | refine below_set ?_ GE134.out) | exact HB.out)) hb); have n2_ := Aside0.mk (hbox); have n3_ := Aside0.mk ((by rw [hg]; exact (below_size (by repeat (first | (with_reducible first | exact HB.out | apply below_alloc | apply pw_below_drewN | apply below_drew1 | refine below_set ?_ GE134.out) | exact HB.out))) : w.heap.size ≤ gb135)); have n4_ := Aside0.mk ((by rw [hg]; exact (below_size (by repeat (first | (with_reducible first | exact HB.out | apply below_alloc | apply pw_below_drewN | apply below_drew1 | refine below_set ?_ GE134.out) | exact HB.out))) : w.heap.size ≤ gb135)); have n5_ := Aside0.mk ((by rw [hg]; exact Nat.ne_of_lt (blk_lt (g := gb134) (o := .cells #[.slice A1_0 l1_0.length c1_0, .slice A1_1 l1_1.length c1_1] 28 (0, 0)) (by (with_reducible repeat (first | refine blk_drewN ?_ _ | refine blk_drew ?_ | refine blk_alloc ?_ _)); exact BK134.out)) : gb134 ≠ gb135)); have n6_ := Aside0.mk ((by rw [hg]; exact Nat.ne_of_gt (blk_lt (g := gb134) (o := .cells #[.slice A1_0 l1_0.length c1_0, .slice A1_1 l1_1.length c1_1] 28 (0, 0)) (by (with_reducible repeat (first | refine blk_drewN ?_ _ | refine blk_drew ?_ | refine blk_alloc ?_ _)); exact BK134.out)) : gb135 ≠ gb134)); clear BK134; clear HB; have BK134 := n0_; have HB := n1_; have BK135 := n2_; have GW135 := n3_; have GE135 := n4_; have NB134_135 := n5_; have NB135_134 := n6_; clear n0_ n1_ n2_ n3_ n4_ n5_ n6_; clear hb hbox hg; have hnb7 := NB134_135.out; have hnc7 := NB135_134.out; have hcz8_0 : w6.cell? ⟨gb134, 0, none⟩ = some (.slice A1_0 l1_0.length c1_0) := (blk_cell BK134.out 0).trans rfl; have hcz8_1 : w6.cell? ⟨gb134, 1, none⟩ = some (.slice A1_1 l1_1.length c1_1) := (blk_cell BK134.out 1).trans rfl; have hfz8_0 := blk_frozen BK134.out 0; have hfz8_1 := blk_frozen BK134.out 1) | ((with_reducible refine gate_callee (f := 36) rfl ?_); refine goesL_ (some 11) rfl rfl Tryd.func36 (by kernel_rfl) rfl #[.slice A0 l0.length c0, .agg #[.slice A1_0 l1_0.length c1_0, .slice A1_1 l1_1.length c1_1], .slice A2 l2.length c2, .bool true] rfl (by (try simp only [List.map_toArray, List.map_cons, List.map_nil]); first | done | rfl | (simp only [List.length_drop, List.length_take]; rfl)) ?_; (with_reducible refine (tags_told.calls _ _ l0 _ _ l1_0 _ _ l1_1 _ _ l2 true t136 t139 t142 _ ?side1 ?side2 ?side3 ?side4 ?side5 ?side6 ?side7 ?side8 ?side9 A4.out).mono ?_); (case side1 => repeat (first | exact (Kd.C_below HR0.out HB.out) | (with_reducible refine Kd.C_alloc ?_ _) | (with_reducible refine Kd.C_drewN ?_ _) | (with_reducible refine Kd.C_drew ?_))); (case side2 => exact HC0.out); (case side3 => repeat (first | exact (Kd.C_below HR1_0.out HB.out) | (with_reducible refine Kd.C_alloc ?_ _) | (with_reducible refine Kd.C_drewN ?_ _) | (with_reducible refine Kd.C_drew ?_))); (case side4 => exact HC1_0.out); (case side5 => repeat (first | exact (Kd.C_below HR1_1.out HB.out) | (with_reducible refine Kd.C_alloc ?_ _) | (with_reducible refine Kd.C_drewN ?_ _) | (with_reducible refine Kd.C_drew ?_))); (case side6 => exact HC1_1.out); (case side7 => repeat (first | exact (Kd.C_below HR2.out HB.out) | (with_reducible refine Kd.C_alloc ?_ _) | (with_reducible refine Kd.C_drewN ?_ _) | (with_reducible refine Kd.C_drew ?_))); (case side8 => exact HC2.out); (case side9 => exact Tabs.below hT (by repeat (first | (with_reducible first | exact HB.out | apply below_alloc | apply pw_below_drewN | apply below_drew1 | refine below_set ?_ GE134.out | refine below_set ?_ GE135.out) | exact HB.out))); rintro e w9 ⟨v137, v140, rfl, ho0, ho1, hb⟩; refine ⟨_, rfl, ?_⟩; have n0_ := Aside0.mk (Kd.R_lower ho0 (below_size (by repeat (first | (with_reducible first | exact HB.out | apply below_alloc | apply pw_below_drewN | apply below_drew1 | refine below_set ?_ GE134.out | refine below_set ?_ GE135.out) | exact HB.out)))); have n1_ := Aside0.mk (Kd.R_lower ho1 (below_size (by repeat (first | (with_reducible first | exact HB.out | apply below_alloc | apply pw_below_drewN | apply below_drew1 | refine below_set ?_ GE134.out | refine below_set ?_ GE135.out) | exact HB.out)))); have n2_ := Aside0.mk (blk_below (g := gb134) (o := .cells #[.slice A1_0 l1_0.length c1_0, .slice A1_1 l1_1.length c1_1] 28 (0, 0)) (by (with_reducible repeat (first | refine blk_drewN ?_ _ | refine blk_drew ?_ | refine blk_alloc ?_ _)); exact BK134.out) hb); have n3_ := Aside0.mk (blk_below (g := gb135) (o := .cells #[.slice none 0 0, .slice none 0 0] 28 (0, 0)) (by (with_reducible repeat (first | refine blk_drewN ?_ _ | refine blk_drew ?_ | refine blk_alloc ?_ _)); exact BK135.out) hb); have n4_ := Aside0.mk (below_step (by repeat (first | (with_reducible first | exact HB.out | apply below_alloc | apply pw_below_drewN | apply below_drew1 | refine below_set ?_ GE134.out | refine below_set ?_ GE135.out) | exact HB.out)) hb); clear BK134; clear BK135; clear HB; have HO138 := n0_; have HO141 := n1_; have BK134 := n2_; have BK135 := n3_; have HB := n4_; clear n0_ n1_ n2_ n3_ n4_; (try clear hb); (try clear hb2); (try clear hk); (try clear hi); (try clear ho0); (try clear ho1); obtain ⟨Ao10, co10, eo10⟩ := Kd.R_slice HO138.out; subst eo10; have hcz11_0 : w9.cell? ⟨gb135, 0, none⟩ = some (.slice none 0 0) := (blk_cell BK135.out 0).trans rfl; have hcz11_1 : w9.cell? ⟨gb135, 1, none⟩ = some (.slice none 0 0) := (blk_cell BK135.out 1).trans rfl; have hfz11_0 := blk_frozen BK135.out 0; have hfz11_1 := blk_frozen BK135.out 1; obtain ⟨Ao12, co12, eo12⟩ := Kd.R_slice HO141.out; subst eo12))
  refine bodyPost_ret (results_ct rfl _ _ gb135 28 #[.slice Ao10 t136.length co10, .slice Ao12 t139.length co12] (0, 0) _ rfl (by (with_reducible repeat (first | refine blk_drewN ?_ _ | refine blk_drew ?_ | refine blk_alloc ?_ _)); refine blk_put (cs := #[.slice Ao10 t136.length co10, .slice none 0 0]) ?_ 1 _ rfl; (with_reducible repeat (first | refine blk_drewN ?_ _ | refine blk_drew ?_ | refine blk_alloc ?_ _)); refine blk_put (cs := #[.slice none 0 0, .slice none 0 0]) ?_ 0 _ rfl; (with_reducible repeat (first | refine blk_drewN ?_ _ | refine blk_drew ?_ | refine blk_alloc ?_ _)); exact BK135.out) Tryd.underlying28 rfl (by kernel_rfl)) rfl ?_
  exact ⟨_, _, by first | rfl | (simp [errW_none, errW_some] <;> rfl) | (simp [*, errW_none, errW_some] <;> rfl), by (with_reducible repeat (first | apply Kd.R_alloc | apply Kd.R_drewN | apply Kd.R_drew)); exact Kd.R_mono (Kd.R_far (p := ⟨gb135, 1, none⟩) (Kd.R_far (p := ⟨gb135, 0, none⟩) (Kd.R_types HO138.out BK135.out (by decide)) (fun _ hk => hk.2) (.slice Ao10 t136.length co10)) (fun _ hk => hk.2) (.slice Ao12 t139.length co12)) (fun _ hk => trivial), by (with_reducible repeat (first | apply Kd.R_alloc | apply Kd.R_drewN | apply Kd.R_drew)); exact Kd.R_mono (Kd.R_far (p := ⟨gb135, 1, none⟩) (Kd.R_far (p := ⟨gb135, 0, none⟩) (Kd.R_types HO141.out BK135.out (by decide)) (fun _ hk => hk.2) (.slice Ao10 t136.length co10)) (fun _ hk => hk.2) (.slice Ao12 t139.length co12)) (fun _ hk => trivial), by repeat (first | (with_reducible first | exact HB.out | apply below_alloc | apply pw_below_drewN | apply below_drew1 | refine below_set ?_ GE134.out | refine below_set ?_ GE135.out) | exact HB.out)⟩
def malthouselaw08_pair.f  : Option ((List (S48))) := some (([(⟨(⟨#[116]⟩ : ByteArray), false, 0, 100⟩ : S48), (⟨(⟨#[118]⟩ : ByteArray), true, 1, 5⟩ : S48)] : List (S48)))
set_option maxHeartbeats 8000000 in
set_option maxRecDepth 100000 in
theorem malthouselaw08_pair.calls  (r : List (S48)) (w : World) (h : malthouselaw08_pair.f  = some r) :
    Calls Tryd.prog 29 #[] w fun e w' => ∃ v0_ : Value, e = .returned (v0_) ∧ Kd.R k48 48 w' w.heap.size (fun _ => True) v0_ r ∧ Below w.heap.size w w' := by
  have hu48 := Tryd.underlying48
  have HB := Aside0.mk (Below.refl w.heap.size w)
  have H : (some (([(⟨(⟨#[116]⟩ : ByteArray), false, 0, 100⟩ : S48), (⟨(⟨#[118]⟩ : ByteArray), true, 1, 5⟩ : S48)] : List (S48)))) = some r := h
  clear h
  obtain ⟨y143, hy143⟩ : ∃ y_ : List (S48), y_ = (([(⟨(⟨#[116]⟩ : ByteArray), false, 0, 100⟩ : S48), (⟨(⟨#[118]⟩ : ByteArray), true, 1, 5⟩ : S48)] : List (S48))) := ⟨_, rfl⟩
  replace H : (some y143) = some r := by first | (rw [hy143]; with_reducible exact H) | (have H2_ := (Option.bind_some _ _).symm.trans H; rw [hy143]; with_reducible exact H2_) | (have H2_ := (Option.bind_some _ _).symm.trans H; with_reducible exact H2_) | with_reducible exact H | (rw [hy143]; exact H) | exact H
  have Ny143 := Aside0.mk hy143
  clear hy143
  obtain rfl := Option.some.inj H
  go_enter Tryd.func29, Tryd.ntmps29
  go_wp2_with (first | ((with_reducible refine gate_dst (N := 3) rfl ?_); refine Kd.R_lit k48 _ 48 ?hg (N := 3) ?hd (xs := ([(⟨(⟨#[116]⟩ : ByteArray), false, 0, 100⟩ : S48), (⟨(⟨#[118]⟩ : ByteArray), true, 1, 5⟩ : S48)] : List (S48))) (inner := [.string (⟨#[116]⟩ : ByteArray), .bool false, .int .i64 0, .int .i64 100, .string (⟨#[118]⟩ : ByteArray), .bool true, .int .i64 1, .int .i64 5]) (ok := fun _ => True) (okp := fun _ => True) ?hr ?hp (fun _ hk => hk) trivial (Below.refl _ _) (Nat.le_refl _) (by simp) ?_; (case hd => rfl); (case hg => rfl); (case hr => first | (go_simp; done) | (go_simp; rfl)); (case hp => exact (Reps.c4 (show Kd.M k48 _ _ _ (⟨(⟨#[116]⟩ : ByteArray), false, 0, 100⟩ : S48) [.string (⟨#[116]⟩ : ByteArray), .bool false, .int .i64 0, .int .i64 100] from (k48_mkM _ _ _ (⟨(⟨#[116]⟩ : ByteArray), false, 0, 100⟩ : S48) )) (Reps.c4 (show Kd.M k48 _ _ _ (⟨(⟨#[118]⟩ : ByteArray), true, 1, 5⟩ : S48) [.string (⟨#[118]⟩ : ByteArray), .bool true, .int .i64 1, .int .i64 5] from (k48_mkM _ _ _ (⟨(⟨#[118]⟩ : ByteArray), true, 1, 5⟩ : S48) )) (Reps.none _ _)))); intro v144 w1 ho2 hb hg_ hnew_; clear hg_ hnew_; (first | rw [← Ny143.out] at ho2 | (simp only [Int.reduceToNat] at ho2; rw [← Ny143.out] at ho2)); have n0_ := Aside0.mk (Kd.R_lower ho2 (below_size (by repeat (first | (with_reducible first | exact HB.out | apply below_alloc | apply pw_below_drewN | apply below_drew1) | exact HB.out)))); have n1_ := Aside0.mk (below_step (by repeat (first | (with_reducible first | exact HB.out | apply below_alloc | apply pw_below_drewN | apply below_drew1) | exact HB.out)) hb); clear HB; have HO145 := n0_; have HB := n1_; clear n0_ n1_; clear hb ho2))
  go_ret
  exact ⟨_, by first | rfl | (simp [errW_none, errW_some] <;> rfl) | (simp [*, errW_none, errW_some] <;> rfl), by (with_reducible repeat (first | apply Kd.R_alloc | apply Kd.R_drewN | apply Kd.R_drew)); exact HO145.out, by repeat (first | (with_reducible first | exact HB.out | apply below_alloc | apply pw_below_drewN | apply below_drew1) | exact HB.out)⟩
end Go.Proofs.YtbmdhmmahmdccaaDoor.Print
/-! ### EAwake -/
namespace Go.Proofs.YtbmdhmmahmdccaaDoor.Print
open Go.RowKit Go.Proofs.YtbmdhmmahmdccaaDoorW.PrintWords Go.Proofs.YtbmdhmmahmdccaaDoorW.PrintLast Go.Proofs.YtbmdhmmahmdccaaDoorW.PrintMore
set_option linter.unusedSimpArgs false
set_option linter.unusedVariables false
def pairL : List S48 := [⟨⟨#[116]⟩, false, 0, 100⟩, ⟨⟨#[118]⟩, true, 1, 5⟩]
def cellT : List S46 := [⟨⟨#[116]⟩, 120⟩]
def cellV : List S46 := [⟨⟨#[118]⟩, 9⟩]
theorem pair_ok : okTags pairL := by unfold okTags pairL; decide
theorem pair_new : tags_New.f 5 pairL = some ([0, 1], [false, false], 0) := by
  rw [new_is pairL pair_ok 5 (by decide)]
  decide +kernel
theorem pair_latch : tags_Latch.f pairL [0, 1] [false, false] cellT = some ([100, 1], [true, false], 0) := by
  have h : tags_told.f pairL [0, 1] [false, false] cellT false = some ([100, 1], [true, false], 0) := by
    unfold tags_told.f
    rw [if_pos ⟨pair_ok, by decide, by decide, by decide⟩]
    decide +kernel
  unfold tags_Latch.f
  rw [h]
  rfl
theorem pair_drive : tags_Drive.f pairL [100, 1] [true, false] cellV = some ([100, 5], [true, false], 0) := by
  have h : tags_told.f pairL [100, 1] [true, false] cellV true = some ([100, 5], [true, false], 0) := by
    unfold tags_told.f
    rw [if_pos ⟨pair_ok, by decide, by decide, by decide⟩]
    decide +kernel
  unfold tags_Drive.f
  rw [h]
  rfl
theorem reps_one_C (b : ByteArray) (n : Int) (w : World) : Reps (k46.K w) k46.sz [⟨b, n⟩] [.string b, .int .i64 n] := by
  refine ⟨rfl, fun j p hj => ?_⟩
  cases j with
  | zero => obtain rfl := Option.some.inj hj; exact k46_mk w _
  | succ j => simp at hj
def malthouselaw08_awake.f : Option Bool := some true
set_option maxHeartbeats 8000000 in
set_option maxRecDepth 100000 in
theorem malthouselaw08_awake.calls (r : Bool) (w : World) (hT : Tabs w) (h : malthouselaw08_awake.f = some r) :
    Calls Tryd.prog 9 #[] w fun e w' => e = .returned (.bool r) ∧ Below w.heap.size w w' := by
  obtain rfl := Option.some.inj h
  clear h
  have HTB := Lib.hid hT
  have hu2 := Tryd.underlying28
  have hu4 := Tryd.underlying46
  clear hT
  go_enter Tryd.func9, Tryd.ntmps9
  go_wp2_with (first
    | (go_at_call 29; refine (malthouselaw08_pair.calls pairL w rfl).mono ?_; rintro e w1 ⟨v0, rfl, hR, hb⟩; obtain ⟨Ap, cp, rfl, hcp, hC⟩ := Kd.R_reads hR; have HP1 := Lib.hid hC; have HB1 := Lib.hid hb; clear hR hC hb; refine (fun (h : Hid _) => h.out) ?_))
  refine Lib.hid ?_
  go_wp2_with (first
    | (go_at_call 11; refine (tags_New.calls 5 Ap cp pairL _ _ _ w1 HP1.out hcp (HTB.out.below HB1.out) pair_new).mono ?_; rintro e w2 ⟨v0, v1, rfl, hR, hR', hb⟩; obtain ⟨Av, cv, rfl, hcv, hC⟩ := Kd.R_reads hR; obtain ⟨Ab, cb, rfl, hcb, hC'⟩ := Kd.R_reads hR'; have HV2 := Lib.hid hC; have HW2 := Lib.hid hC'; have HB2 := Lib.hid (below_then HB1.out HB1.out.size hb); have HP2 := Lib.hid (Kd.C_below HP1.out hb); clear hR hR' hC hC' hb HP1 HB1; refine (fun (h : Hid _) => h.out) ?_))
  refine Lib.hid ?_
  have hb3 : Below w.heap.size w ((w2.alloc (.cells #[.slice Av [0, 1].length cv, .slice Ab [false, false].length cb] 28)).alloc (.cells #[.string ⟨#[116]⟩, .int .i64 120] 46)) := (HB2.out.alloc HB2.out.size _).alloc (Nat.le_trans HB2.out.size (by simp)) _
  have hb23 : Below w2.heap.size w2 ((w2.alloc (.cells #[.slice Av [0, 1].length cv, .slice Ab [false, false].length cb] 28)).alloc (.cells #[.string ⟨#[116]⟩, .int .i64 120] 46)) := ((Below.refl _ _).alloc (Nat.le_refl _) _).alloc (by simp) _
  have hl : Kd.C k46 ((w2.alloc (.cells #[.slice Av [0, 1].length cv, .slice Ab [false, false].length cb] 28)).alloc (.cells #[.string ⟨#[116]⟩, .int .i64 120] 46)) (some ⟨w2.heap.size + 1, 0, none⟩) cellT.length cellT := by
    refine Kd.C_lit (e := 46) (inner := [.string ⟨#[116]⟩, .int .i64 120]) ?_ ?_ (by decide)
    · have := heap_alloc_new (w2.alloc (.cells #[.slice Av [0, 1].length cv, .slice Ab [false, false].length cb] 28)) (.cells #[.string ⟨#[116]⟩, .int .i64 120] 46)
      simpa using this
    · exact reps_one_C _ _ _
  have HB3 := Lib.hid hb3
  have HB23 := Lib.hid hb23
  have HL := Lib.hid hl
  clear hb3 hb23 hl
  go_wp2_with (first
    | (go_at_call 20; refine (tags_Latch.calls Ap cp pairL Av cv [0, 1] Ab cb [false, false] (some ⟨w2.heap.size + 1, 0, none⟩) 1 cellT _ _ _ _ (Kd.C_below HP2.out HB23.out) hcp (Kd.C_below HV2.out HB23.out) hcv (Kd.C_below HW2.out HB23.out) hcb HL.out (by decide) (HTB.out.below HB3.out) pair_latch).mono ?_; rintro e w3 ⟨v0, v1, rfl, hR, hR', hb⟩; obtain ⟨Av3, cv3, rfl, hcv3, hC⟩ := Kd.R_reads hR; obtain ⟨Ab3, cb3, rfl, hcb3, hC'⟩ := Kd.R_reads hR'; have HV3 := Lib.hid hC; have HW3 := Lib.hid hC'; have HP3 := Lib.hid (Kd.C_below HP2.out (below_then HB23.out HB23.out.size hb)); have HB4 := Lib.hid (below_then HB3.out HB3.out.size hb); clear hR hR' hC hC' hb HP2 HB2 HB3 HB23 HL HV2 HW2; refine (fun (h : Hid _) => h.out) ?_))
  refine Lib.hid ?_
  have hb3 : Below w.heap.size w ((w3.alloc (.cells #[.slice Av3 [100, 1].length cv3, .slice Ab3 [true, false].length cb3] 28)).alloc (.cells #[.string ⟨#[118]⟩, .int .i64 9] 46)) := (HB4.out.alloc HB4.out.size _).alloc (Nat.le_trans HB4.out.size (by simp)) _
  have hb23 : Below w3.heap.size w3 ((w3.alloc (.cells #[.slice Av3 [100, 1].length cv3, .slice Ab3 [true, false].length cb3] 28)).alloc (.cells #[.string ⟨#[118]⟩, .int .i64 9] 46)) := ((Below.refl _ _).alloc (Nat.le_refl _) _).alloc (by simp) _
  have hl : Kd.C k46 ((w3.alloc (.cells #[.slice Av3 [100, 1].length cv3, .slice Ab3 [true, false].length cb3] 28)).alloc (.cells #[.string ⟨#[118]⟩, .int .i64 9] 46)) (some ⟨w3.heap.size + 1, 0, none⟩) cellV.length cellV := by
    refine Kd.C_lit (e := 46) (inner := [.string ⟨#[118]⟩, .int .i64 9]) ?_ ?_ (by decide)
    · have := heap_alloc_new (w3.alloc (.cells #[.slice Av3 [100, 1].length cv3, .slice Ab3 [true, false].length cb3] 28)) (.cells #[.string ⟨#[118]⟩, .int .i64 9] 46)
      simpa using this
    · exact reps_one_C _ _ _
  have HB5 := Lib.hid hb3
  have HB23 := Lib.hid hb23
  have HL := Lib.hid hl
  clear hb3 hb23 hl
  go_wp2_with (first
    | (go_at_call 22; refine (tags_Drive.calls Ap cp pairL Av3 cv3 [100, 1] Ab3 cb3 [true, false] (some ⟨w3.heap.size + 1, 0, none⟩) 1 cellV _ _ _ _ (Kd.C_below HP3.out HB23.out) hcp (Kd.C_below HV3.out HB23.out) hcv3 (Kd.C_below HW3.out HB23.out) hcb3 HL.out (by decide) (HTB.out.below HB5.out) pair_drive).mono ?_; rintro e w4 ⟨v0, v1, rfl, hR, hR', hb⟩; obtain ⟨Av4, cv4, rfl, hcv4, hC⟩ := Kd.R_reads hR; obtain ⟨Ab4, cb4, rfl, hcb4, hC'⟩ := Kd.R_reads hR'; have HV4 := Lib.hid hC; have HW4 := Lib.hid hC'; have HB6 := Lib.hid (below_then HB5.out HB5.out.size hb); clear hR hR' hC hC' hb HP3 HB4 HB5 HB23 HL HV3 HW3; refine (fun (h : Hid _) => h.out) ?_))
  refine Lib.hid ?_
  obtain ⟨av, rfl, n0⟩ := Kd.int_at (Kd.C_alloc HV4.out (.cells #[.slice Av4 [100, 5].length cv4, .slice Ab4 [true, false].length cb4] 28)) 0 (by decide)
  obtain ⟨av', e1, n1⟩ := Kd.int_at (Kd.C_alloc HV4.out (.cells #[.slice (some av) [100, 5].length cv4, .slice Ab4 [true, false].length cb4] 28)) 1 (by decide)
  obtain rfl := Option.some.inj e1
  obtain ⟨ab, rfl, b0⟩ := Kd.bool_at (Kd.C_alloc HW4.out (.cells #[.slice (some av) [100, 5].length cv4, .slice Ab4 [true, false].length cb4] 28)) 0 (by decide)
  obtain ⟨ab', e1, b1⟩ := Kd.bool_at (Kd.C_alloc HW4.out (.cells #[.slice (some av) [100, 5].length cv4, .slice (some ab) [true, false].length cb4] 28)) 1 (by decide)
  obtain rfl := Option.some.inj e1
  replace n0 : (w4.alloc (.cells #[.slice (some av) 2 cv4, .slice (some ab) 2 cb4] 28)).cell? (av.add 0) = some (.int .i64 100) := n0
  replace n1 : (w4.alloc (.cells #[.slice (some av) 2 cv4, .slice (some ab) 2 cb4] 28)).cell? ⟨av.block, av.off + 1, none⟩ = some (.int .i64 5) := n1
  replace b0 : (w4.alloc (.cells #[.slice (some av) 2 cv4, .slice (some ab) 2 cb4] 28)).cell? (ab.add 0) = some (.bool true) := b0
  replace b1 : (w4.alloc (.cells #[.slice (some av) 2 cv4, .slice (some ab) 2 cb4] 28)).cell? ⟨ab.block, ab.off + 1, none⟩ = some (.bool false) := b1
  rw [show ∀ a : Addr, a.add 0 = a from fun a => by simp [Addr.add]] at n0 b0
  go_wp2
  go_ret
  exact ⟨rfl, HB6.out.alloc HB6.out.size _⟩
end Go.Proofs.YtbmdhmmahmdccaaDoor.Print
/-! ### Print13 -/
namespace Go.Proofs.YtbmdhmmahmdccaaDoor.Print
open Go.RowKit Go.Proofs.YtbmdhmmahmdccaaDoorW.PrintWords Go.Proofs.YtbmdhmmahmdccaaDoorW.PrintLast Go.Proofs.YtbmdhmmahmdccaaDoorW.PrintMore
attribute [local go_sem] max2_int min2_int max_two min_two
set_option linter.unusedVariables false
set_option linter.unusedSimpArgs false
def malthouselaw08_TagsChecks.j0 : Nat → List (S48) → ByteArray → Bool → Bool → Option (Bool)
  | 0, _, _, _, _ => none
  | k + 1, x0, x1, x5, x25 => if x25 = true then (some x5) else ((tags_New.f k x0).bind fun bt201 => ((malthouseref08_New.f k x0).bind fun bt209 => ((malthouseref08_Same.f k bt201.1 bt201.2.1 bt209.1 bt209.2.1).bind fun t217 => (if t217 = true then (if bt201.2.2 = bt209.2.2 then ((tags_Check.f k x0).bind fun t218 => ((malthouseref08_Check.f k x0).bind fun t219 => (if t218 = t219 then ((tags_Find.f x0 x1).bind fun t220 => ((malthouseref08_Find.f k x0 x1).bind fun t221 => (some (t220 == t221)))) else (some false)))) else (some false)) else (some false)))))
def malthouselaw08_TagsChecks.f (k : Nat) (l0 : List (S48)) (a1 : ByteArray) : Option (Bool) := (malthouselaw08_awake.f).bind fun t199 => ((malthouselaw08_small.f k l0).bind fun t200 => (if t199 = true then (if t200 = true then (malthouselaw08_TagsChecks.j0 k l0 a1 t199 (decide ((a1.size : Int) > 200))) else (malthouselaw08_TagsChecks.j0 k l0 a1 t199 true)) else (malthouselaw08_TagsChecks.j0 k l0 a1 t199 true)))
theorem malthouselaw08_TagsChecks.mono_l : ∀ k, (∀ y0 y1 y2 y3, LeO (malthouselaw08_TagsChecks.j0 k y0 y1 y2 y3) (malthouselaw08_TagsChecks.j0 (k + 1) y0 y1 y2 y3))
  | 0 => fun _ _ _ _ r h => by simp [malthouselaw08_TagsChecks.j0] at h
  | k + 1 => by
    have ih0 := malthouselaw08_TagsChecks.mono_l k
    · intro y0 y1 y2 y3
      unfold malthouselaw08_TagsChecks.j0
      repeat' first
      | (with_reducible exact ih0 _ _ _ _)
      | (with_reducible exact malthouselaw08_small.mono _ _)
      | (with_reducible exact malthouseref08_Check.mono _ _)
      | (with_reducible exact malthouseref08_Find.mono _ _ _)
      | (with_reducible exact malthouseref08_New.mono _ _)
      | (with_reducible exact malthouseref08_Same.mono _ _ _ _ _)
      | (with_reducible exact tags_Check.mono _ _)
      | (with_reducible exact tags_New.mono _ _)
      | (with_reducible exact LeO.refl _)
      | (with_reducible exact LeO.none _)
      | (with_reducible refine LeO.ite ?_ ?_)
      | (with_reducible refine LeO.bind ?_ (fun _ => ?_))
      | exact ih0 _ _ _ _
      | exact malthouselaw08_small.mono _ _
      | exact malthouseref08_Check.mono _ _
      | exact malthouseref08_Find.mono _ _ _
      | exact malthouseref08_New.mono _ _
      | exact malthouseref08_Same.mono _ _ _ _ _
      | exact tags_Check.mono _ _
      | exact tags_New.mono _ _
      | exact LeO.none _
      | refine LeO.ite ?_ ?_
      | refine LeO.bind ?_ (fun _ => ?_)
theorem malthouselaw08_TagsChecks.mono : ∀ a0 a1 k, LeO (malthouselaw08_TagsChecks.f k a0 a1) (malthouselaw08_TagsChecks.f (k + 1) a0 a1) := by
  intro a0 a1 k
  have ih0 := malthouselaw08_TagsChecks.mono_l k
  unfold malthouselaw08_TagsChecks.f
  repeat' first
      | (with_reducible exact ih0 _ _ _ _)
      | (with_reducible exact malthouselaw08_small.mono _ _)
      | (with_reducible exact malthouseref08_Check.mono _ _)
      | (with_reducible exact malthouseref08_Find.mono _ _ _)
      | (with_reducible exact malthouseref08_New.mono _ _)
      | (with_reducible exact malthouseref08_Same.mono _ _ _ _ _)
      | (with_reducible exact tags_Check.mono _ _)
      | (with_reducible exact tags_New.mono _ _)
      | (with_reducible exact LeO.refl _)
      | (with_reducible exact LeO.none _)
      | (with_reducible refine LeO.ite ?_ ?_)
      | (with_reducible refine LeO.bind ?_ (fun _ => ?_))
      | exact ih0 _ _ _ _
      | exact malthouselaw08_small.mono _ _
      | exact malthouseref08_Check.mono _ _
      | exact malthouseref08_Find.mono _ _ _
      | exact malthouseref08_New.mono _ _
      | exact malthouseref08_Same.mono _ _ _ _ _
      | exact tags_Check.mono _ _
      | exact tags_New.mono _ _
      | exact LeO.none _
      | refine LeO.ite ?_ ?_
      | refine LeO.bind ?_ (fun _ => ?_)
set_option maxHeartbeats 8000000 in
set_option maxRecDepth 100000 in
theorem malthouselaw08_TagsChecks.calls (k : Nat) (A0 : Option Addr) (c0 : Nat) (l0 : List (S48)) (a1 : ByteArray) (r : Bool) (w : World) (hr0 : Kd.C k48 w A0 l0.length l0) (hc0 : l0.length ≤ c0) (hT : Tabs w) (h : malthouselaw08_TagsChecks.f k l0 a1 = some r) :
    Calls Tryd.prog 3 #[.slice A0 l0.length c0, .string a1] w fun e w' => e = .returned (.bool r) ∧ Below w.heap.size w w' := by
  have hu28 := Tryd.underlying28
  have HR0 := Aside0.mk hr0
  have HC0 := Aside0.mk hc0
  clear hr0 hc0
  have HB := Aside0.mk (Below.refl w.heap.size w)
  have H : ((malthouselaw08_awake.f).bind fun t199 => ((malthouselaw08_small.f k l0).bind fun t200 => (if t199 = true then (if t200 = true then (malthouselaw08_TagsChecks.j0 k l0 a1 t199 (decide ((a1.size : Int) > 200))) else (malthouselaw08_TagsChecks.j0 k l0 a1 t199 true)) else (malthouselaw08_TagsChecks.j0 k l0 a1 t199 true)))) = some r := h
  clear h
  replace H := Option.bind_eq_some_iff.mp H
  obtain ⟨t199, A30, H⟩ := H
  replace H : ((malthouselaw08_small.f k l0).bind fun t200 => (if t199 = true then (if t200 = true then (malthouselaw08_TagsChecks.j0 k l0 a1 t199 (decide ((a1.size : Int) > 200))) else (malthouselaw08_TagsChecks.j0 k l0 a1 t199 true)) else (malthouselaw08_TagsChecks.j0 k l0 a1 t199 true))) = some r := H
  have A3 := Aside0.mk A30
  clear A30
  replace H := Option.bind_eq_some_iff.mp H
  obtain ⟨t200, A40, H⟩ := H
  replace H : (if t199 = true then (if t200 = true then (malthouselaw08_TagsChecks.j0 k l0 a1 t199 (decide ((a1.size : Int) > 200))) else (malthouselaw08_TagsChecks.j0 k l0 a1 t199 true)) else (malthouselaw08_TagsChecks.j0 k l0 a1 t199 true)) = some r := H
  have A4 := Aside0.mk A40
  clear A40
  have HC5 := Aside0.mk H
  clear H
  go_enter Tryd.func3, Tryd.ntmps3
  go_upto_region 3 with (first | ((with_reducible refine gate_callee (f := 9) rfl ?_); refine goesL_ (some 12) rfl rfl Tryd.func9 (by kernel_rfl) rfl #[] rfl (by (try simp only [List.map_toArray, List.map_cons, List.map_nil]); first | done | rfl | (simp only [List.length_drop, List.length_take]; rfl)) ?_; (with_reducible refine (malthouselaw08_awake.calls  t199 _ ?side1 A3.out).mono ?_); (case side1 => exact Tabs.below hT (by repeat (first | (with_reducible first | exact HB.out | apply below_alloc | apply pw_below_drewN | apply below_drew1) | exact HB.out))); rintro e w6 ⟨rfl, hb⟩; refine ⟨_, rfl, ?_⟩; have n0_ := Aside0.mk (below_step (by repeat (first | (with_reducible first | exact HB.out | apply below_alloc | apply pw_below_drewN | apply below_drew1) | exact HB.out)) hb); clear HB; have HB := n0_; clear n0_; (try clear hb); (try clear hb2); (try clear hk); (try clear hi)) | ((with_reducible refine gate_callee (f := 10) rfl ?_); refine goesL_ (some 14) rfl rfl Tryd.func10 (by kernel_rfl) rfl #[.slice A0 l0.length c0] rfl (by (try simp only [List.map_toArray, List.map_cons, List.map_nil]); first | done | rfl | (simp only [List.length_drop, List.length_take]; rfl)) ?_; (with_reducible refine (malthouselaw08_small.calls k _ _ l0 t200 _ ?side1 ?side2 A4.out).mono ?_); (case side1 => repeat (first | exact (Kd.C_below HR0.out HB.out) | (with_reducible refine Kd.C_alloc ?_ _) | (with_reducible refine Kd.C_drewN ?_ _) | (with_reducible refine Kd.C_drew ?_))); (case side2 => exact HC0.out); rintro e w' ⟨rfl, ⟨nd, rfl⟩⟩; refine ⟨_, rfl, ?_⟩))
  (try simp only [Act.put, List.setIfInBounds_toArray, List.set_cons_zero, List.set_cons_succ])
  go_cut [25] (fun v25 wc => ∃ (kq : Nat) (x25_4 : Bool), v25 = .bool x25_4 ∧ Aside0 (malthouselaw08_TagsChecks.j0 kq l0 a1 t199 x25_4 = some r) ∧ Aside0 (kq ≤ k) ∧ Aside0 (Below w.heap.size w wc))
  case first =>
    have H := HC5.out
    clear HC5
    by_cases c7 : t199 = true
    · subst c7
      have H1 : (if t200 = true then (malthouselaw08_TagsChecks.j0 k l0 a1 true (decide ((a1.size : Int) > 200))) else (malthouselaw08_TagsChecks.j0 k l0 a1 true true)) = some r := by rw [if_pos rfl] at H; exact H
      clear H
      have H := H1
      clear H1
      by_cases c8 : t200 = true
      · subst c8
        have H1 : (malthouselaw08_TagsChecks.j0 k l0 a1 true (decide ((a1.size : Int) > 200))) = some r := by rw [if_pos rfl] at H; exact H
        clear H
        have H := H1
        clear H1
        have H' := Aside0.mk H
        clear H
        go_wp2
        go_meet
        case rel => exact ⟨_, (decide ((a1.size : Int) > 200)), (by first | rfl | (simp; done) | (simp [*]; done)), H', ⟨by first | omega | exact Nat.le_refl _⟩, ⟨by repeat (first | (with_reducible first | exact HB.out | apply below_alloc | apply pw_below_drewN | apply below_drew1) | exact HB.out)⟩⟩
      · replace c8 := Bool.eq_false_iff.mpr c8
        subst c8
        have H1 : (malthouselaw08_TagsChecks.j0 k l0 a1 true true) = some r := by rw [if_neg (show ¬ (false = true) by decide)] at H; exact H
        clear H
        have H := H1
        clear H1
        have H' := Aside0.mk H
        clear H
        go_wp2
        go_meet
        case rel => exact ⟨_, (true), (by first | rfl | (simp; done) | (simp [*]; done)), H', ⟨by first | omega | exact Nat.le_refl _⟩, ⟨by repeat (first | (with_reducible first | exact HB.out | apply below_alloc | apply pw_below_drewN | apply below_drew1) | exact HB.out)⟩⟩
    · replace c7 := Bool.eq_false_iff.mpr c7
      subst c7
      have H1 : (malthouselaw08_TagsChecks.j0 k l0 a1 false true) = some r := by rw [if_neg (show ¬ (false = true) by decide)] at H; exact H
      clear H
      have H := H1
      clear H1
      have H' := Aside0.mk H
      clear H
      go_wp2
      go_meet
      case rel => exact ⟨_, (true), (by first | rfl | (simp; done) | (simp [*]; done)), H', ⟨by first | omega | exact Nat.le_refl _⟩, ⟨by repeat (first | (with_reducible first | exact HB.out | apply below_alloc | apply pw_below_drewN | apply below_drew1) | exact HB.out)⟩⟩
  case rest =>
    clear HC5
    try clear c1
    try clear p2
    try clear c3
    try clear c7
    try clear c8
    obtain ⟨kq, x25_4, rfl, HA, HJ4, HB⟩ := hcut
    cases kq with
    | zero => exact absurd HA.out (by simp [malthouselaw08_TagsChecks.j0])
    | succ kj4 =>
      have H := HA.out
      clear HA
      simp only [malthouselaw08_TagsChecks.j0] at H
      by_cases c9 : x25_4 = true
      · subst c9
        have H1 : (some t199) = some r := by rw [if_pos rfl] at H; exact H
        clear H
        have H := H1
        clear H1
        obtain rfl := Option.some.inj H
        go_wp2
        go_ret
        exact ⟨by first | rfl | (simp [errW_none, errW_some] <;> rfl) | (simp [*, errW_none, errW_some] <;> rfl), by repeat (first | (with_reducible first | exact HB.out | apply below_alloc | apply pw_below_drewN | apply below_drew1) | exact HB.out)⟩
      · replace c9 := Bool.eq_false_iff.mpr c9
        subst c9
        have H1 : ((tags_New.f kj4 l0).bind fun bt201 => ((malthouseref08_New.f kj4 l0).bind fun bt209 => ((malthouseref08_Same.f kj4 bt201.1 bt201.2.1 bt209.1 bt209.2.1).bind fun t217 => (if t217 = true then (if bt201.2.2 = bt209.2.2 then ((tags_Check.f kj4 l0).bind fun t218 => ((malthouseref08_Check.f kj4 l0).bind fun t219 => (if t218 = t219 then ((tags_Find.f l0 a1).bind fun t220 => ((malthouseref08_Find.f kj4 l0 a1).bind fun t221 => (some (t220 == t221)))) else (some false)))) else (some false)) else (some false))))) = some r := by rw [if_neg (show ¬ (false = true) by decide)] at H; exact H
        clear H
        have H := H1
        clear H1
        replace H := Option.bind_eq_some_iff.mp H
        obtain ⟨⟨t201, t204, t207⟩, A100, H⟩ := H
        replace H : ((malthouseref08_New.f kj4 l0).bind fun bt209 => ((malthouseref08_Same.f kj4 t201 t204 bt209.1 bt209.2.1).bind fun t217 => (if t217 = true then (if t207 = bt209.2.2 then ((tags_Check.f kj4 l0).bind fun t218 => ((malthouseref08_Check.f kj4 l0).bind fun t219 => (if t218 = t219 then ((tags_Find.f l0 a1).bind fun t220 => ((malthouseref08_Find.f kj4 l0 a1).bind fun t221 => (some (t220 == t221)))) else (some false)))) else (some false)) else (some false)))) = some r := H
        have A10 := Aside0.mk A100
        clear A100
        replace H := Option.bind_eq_some_iff.mp H
        obtain ⟨⟨t209, t212, t215⟩, A110, H⟩ := H
        replace H : ((malthouseref08_Same.f kj4 t201 t204 t209 t212).bind fun t217 => (if t217 = true then (if t207 = t215 then ((tags_Check.f kj4 l0).bind fun t218 => ((malthouseref08_Check.f kj4 l0).bind fun t219 => (if t218 = t219 then ((tags_Find.f l0 a1).bind fun t220 => ((malthouseref08_Find.f kj4 l0 a1).bind fun t221 => (some (t220 == t221)))) else (some false)))) else (some false)) else (some false))) = some r := H
        have A11 := Aside0.mk A110
        clear A110
        replace H := Option.bind_eq_some_iff.mp H
        obtain ⟨t217, A120, H⟩ := H
        replace H : (if t217 = true then (if t207 = t215 then ((tags_Check.f kj4 l0).bind fun t218 => ((malthouseref08_Check.f kj4 l0).bind fun t219 => (if t218 = t219 then ((tags_Find.f l0 a1).bind fun t220 => ((malthouseref08_Find.f kj4 l0 a1).bind fun t221 => (some (t220 == t221)))) else (some false)))) else (some false)) else (some false)) = some r := H
        have A12 := Aside0.mk A120
        clear A120
        by_cases c13 : t217 = true
        · subst c13
          have H1 : (if t207 = t215 then ((tags_Check.f kj4 l0).bind fun t218 => ((malthouseref08_Check.f kj4 l0).bind fun t219 => (if t218 = t219 then ((tags_Find.f l0 a1).bind fun t220 => ((malthouseref08_Find.f kj4 l0 a1).bind fun t221 => (some (t220 == t221)))) else (some false)))) else (some false)) = some r := by rw [if_pos rfl] at H; exact H
          clear H
          have H := H1
          clear H1
          by_cases c14 : t207 = t215
          · rw [if_pos c14] at H
            have c14b0 : (t207 == t215) = true := beq_iff_eq.mpr c14
            have c14b1 : (t207 != t215) = false := bne_eq_false_iff_eq.mpr c14
            clear c14
            replace H := Option.bind_eq_some_iff.mp H
            obtain ⟨t218, A150, H⟩ := H
            replace H : ((malthouseref08_Check.f kj4 l0).bind fun t219 => (if t218 = t219 then ((tags_Find.f l0 a1).bind fun t220 => ((malthouseref08_Find.f kj4 l0 a1).bind fun t221 => (some (t220 == t221)))) else (some false))) = some r := H
            have A15 := Aside0.mk A150
            clear A150
            replace H := Option.bind_eq_some_iff.mp H
            obtain ⟨t219, A160, H⟩ := H
            replace H : (if t218 = t219 then ((tags_Find.f l0 a1).bind fun t220 => ((malthouseref08_Find.f kj4 l0 a1).bind fun t221 => (some (t220 == t221)))) else (some false)) = some r := H
            have A16 := Aside0.mk A160
            clear A160
            by_cases c17 : t218 = t219
            · rw [if_pos c17] at H
              have c17b0 : (t218 == t219) = true := beq_iff_eq.mpr c17
              have c17b1 : (t218 != t219) = false := bne_eq_false_iff_eq.mpr c17
              clear c17
              replace H := Option.bind_eq_some_iff.mp H
              obtain ⟨t220, A180, H⟩ := H
              replace H : ((malthouseref08_Find.f kj4 l0 a1).bind fun t221 => (some (t220 == t221))) = some r := H
              have A18 := Aside0.mk A180
              clear A180
              replace H := Option.bind_eq_some_iff.mp H
              obtain ⟨t221, A190, H⟩ := H
              replace H : (some (t220 == t221)) = some r := H
              have A19 := Aside0.mk A190
              clear A190
              obtain rfl := Option.some.inj H
              go_wp2_with (first | ((with_reducible refine gate_callee (f := 11) rfl ?_); refine goesL_ (some 29) rfl rfl Tryd.func11 (by kernel_rfl) rfl #[.slice A0 l0.length c0] rfl (by (try simp only [List.map_toArray, List.map_cons, List.map_nil]); first | done | rfl | (simp only [List.length_drop, List.length_take]; rfl)) ?_; (with_reducible refine (tags_New.calls kj4 _ _ l0 t201 t204 t207 _ ?side1 ?side2 ?side3 A10.out).mono ?_); (case side1 => repeat (first | exact (Kd.C_below HR0.out HB.out) | (with_reducible refine Kd.C_alloc ?_ _) | (with_reducible refine Kd.C_drewN ?_ _) | (with_reducible refine Kd.C_drew ?_))); (case side2 => exact HC0.out); (case side3 => exact Tabs.below hT (by repeat (first | (with_reducible first | exact HB.out | apply below_alloc | apply pw_below_drewN | apply below_drew1) | exact HB.out))); rintro e w20 ⟨v202, v205, rfl, ho0, ho1, hb⟩; refine ⟨_, rfl, ?_⟩; have n0_ := Aside0.mk (Kd.R_lower ho0 (below_size (by repeat (first | (with_reducible first | exact HB.out | apply below_alloc | apply pw_below_drewN | apply below_drew1) | exact HB.out)))); have n1_ := Aside0.mk (Kd.R_lower ho1 (below_size (by repeat (first | (with_reducible first | exact HB.out | apply below_alloc | apply pw_below_drewN | apply below_drew1) | exact HB.out)))); have n2_ := Aside0.mk (below_step (by repeat (first | (with_reducible first | exact HB.out | apply below_alloc | apply pw_below_drewN | apply below_drew1) | exact HB.out)) hb); clear HB; have HO203 := n0_; have HO206 := n1_; have HB := n2_; clear n0_ n1_ n2_; (try clear hb); (try clear hb2); (try clear hk); (try clear hi); (try clear ho0); (try clear ho1)) | ((with_reducible refine gate_dst (N := 7) rfl ?_); (try (refine gate_guard (by rfl) ?_; dsimp only)); refine box_event ?hg (N := 7) ?hd (cs := #[.slice none 0 0, .slice none 0 0]) (t := 28) ?hr ?_; (case hd => rfl); (case hg => rfl); (case hr => first | (go_simp; done) | (go_simp; rfl)); intro gb208 hg w21 hbox hb; have n0_ := Aside0.mk (Kd.R_below (by (with_reducible repeat (first | apply Kd.R_alloc | apply Kd.R_drewN | apply Kd.R_drew)); exact HO203.out) hb); have n1_ := Aside0.mk (Kd.R_below (by (with_reducible repeat (first | apply Kd.R_alloc | apply Kd.R_drewN | apply Kd.R_drew)); exact HO206.out) hb); have n2_ := Aside0.mk (below_step (by repeat (first | (with_reducible first | exact HB.out | apply below_alloc | apply pw_below_drewN | apply below_drew1) | exact HB.out)) hb); have n3_ := Aside0.mk (hbox); have n4_ := Aside0.mk ((by rw [hg]; exact (below_size (by repeat (first | (with_reducible first | exact HB.out | apply below_alloc | apply pw_below_drewN | apply below_drew1) | exact HB.out))) : w.heap.size ≤ gb208)); have n5_ := Aside0.mk ((by rw [hg]; exact (below_size (by repeat (first | (with_reducible first | exact HB.out | apply below_alloc | apply pw_below_drewN | apply below_drew1) | exact HB.out))) : w.heap.size ≤ gb208)); clear HO203; clear HO206; clear HB; have HO203 := n0_; have HO206 := n1_; have HB := n2_; have BK208 := n3_; have GW208 := n4_; have GE208 := n5_; clear n0_ n1_ n2_ n3_ n4_ n5_; clear hb hbox hg; obtain ⟨Ao22, co22, eo22⟩ := Kd.R_slice HO203.out; subst eo22; have hcz23_0 : w21.cell? ⟨gb208, 0, none⟩ = some (.slice none 0 0) := (blk_cell BK208.out 0).trans rfl; have hcz23_1 : w21.cell? ⟨gb208, 1, none⟩ = some (.slice none 0 0) := (blk_cell BK208.out 1).trans rfl; have hfz23_0 := blk_frozen BK208.out 0; have hfz23_1 := blk_frozen BK208.out 1; obtain ⟨Ao24, co24, eo24⟩ := Kd.R_slice HO206.out; subst eo24) | ((with_reducible refine gate_callee (f := 12) rfl ?_); refine goesL_ (some 34) rfl rfl Tryd.func12 (by kernel_rfl) rfl #[.slice A0 l0.length c0] rfl (by (try simp only [List.map_toArray, List.map_cons, List.map_nil]); first | done | rfl | (simp only [List.length_drop, List.length_take]; rfl)) ?_; (with_reducible refine (malthouseref08_New.calls kj4 _ _ l0 t209 t212 t215 _ ?side1 ?side2 A11.out).mono ?_); (case side1 => exact Kd.C_below HR0.out (by repeat (first | (with_reducible first | exact HB.out | apply below_alloc | apply pw_below_drewN | apply below_drew1 | refine below_set ?_ GE208.out) | exact HB.out))); (case side2 => exact HC0.out); rintro e w25 ⟨v210, v213, rfl, ho0, ho1, hb⟩; refine ⟨_, rfl, ?_⟩; have n0_ := Aside0.mk (Kd.R_elder' (by (with_reducible repeat (first | apply Kd.R_alloc | apply Kd.R_drewN | apply Kd.R_drew)); exact (Kd.R_mono (Kd.R_far (p := ⟨gb208, 1, none⟩) (Kd.R_far (p := ⟨gb208, 0, none⟩) (Kd.R_types HO203.out BK208.out (by decide)) (fun _ hk => hk.2) (.slice Ao22 t201.length co22)) (fun _ hk => hk.2) (.slice Ao24 t204.length co24)) (fun _ h_ => h_.1))) (Kd.R_base ho0) hb); have n1_ := Aside0.mk (Kd.R_elder' (by (with_reducible repeat (first | apply Kd.R_alloc | apply Kd.R_drewN | apply Kd.R_drew)); exact (Kd.R_mono (Kd.R_far (p := ⟨gb208, 1, none⟩) (Kd.R_far (p := ⟨gb208, 0, none⟩) (Kd.R_types HO206.out BK208.out (by decide)) (fun _ hk => hk.2) (.slice Ao22 t201.length co22)) (fun _ hk => hk.2) (.slice Ao24 t204.length co24)) (fun _ h_ => h_.1))) (Kd.R_base ho1) hb); have n2_ := Aside0.mk (Kd.R_lower (Kd.R_new' ho0 (Kd.R_lt (by (with_reducible repeat (first | apply Kd.R_alloc | apply Kd.R_drewN | apply Kd.R_drew)); exact (Kd.R_mono (Kd.R_far (p := ⟨gb208, 1, none⟩) (Kd.R_far (p := ⟨gb208, 0, none⟩) (Kd.R_types HO203.out BK208.out (by decide)) (fun _ hk => hk.2) (.slice Ao22 t201.length co22)) (fun _ hk => hk.2) (.slice Ao24 t204.length co24)) (fun _ h_ => h_.1))))) (below_size (by repeat (first | (with_reducible first | exact HB.out | apply below_alloc | apply pw_below_drewN | apply below_drew1 | refine below_set ?_ GE208.out) | exact HB.out)))); have n3_ := Aside0.mk (Kd.R_lower (Kd.R_new' ho1 (Kd.R_lt (by (with_reducible repeat (first | apply Kd.R_alloc | apply Kd.R_drewN | apply Kd.R_drew)); exact (Kd.R_mono (Kd.R_far (p := ⟨gb208, 1, none⟩) (Kd.R_far (p := ⟨gb208, 0, none⟩) (Kd.R_types HO206.out BK208.out (by decide)) (fun _ hk => hk.2) (.slice Ao22 t201.length co22)) (fun _ hk => hk.2) (.slice Ao24 t204.length co24)) (fun _ h_ => h_.1))))) (below_size (by repeat (first | (with_reducible first | exact HB.out | apply below_alloc | apply pw_below_drewN | apply below_drew1 | refine below_set ?_ GE208.out) | exact HB.out)))); have n4_ := Aside0.mk (blk_below (g := gb208) (o := .cells #[.slice Ao22 t201.length co22, .slice Ao24 t204.length co24] 28 (0, 0)) (by (with_reducible repeat (first | refine blk_drewN ?_ _ | refine blk_drew ?_ | refine blk_alloc ?_ _)); refine blk_put (cs := #[.slice Ao22 t201.length co22, .slice none 0 0]) ?_ 1 _ rfl; (with_reducible repeat (first | refine blk_drewN ?_ _ | refine blk_drew ?_ | refine blk_alloc ?_ _)); refine blk_put (cs := #[.slice none 0 0, .slice none 0 0]) ?_ 0 _ rfl; (with_reducible repeat (first | refine blk_drewN ?_ _ | refine blk_drew ?_ | refine blk_alloc ?_ _)); exact BK208.out) hb); have n5_ := Aside0.mk (below_step (by repeat (first | (with_reducible first | exact HB.out | apply below_alloc | apply pw_below_drewN | apply below_drew1 | refine below_set ?_ GE208.out) | exact HB.out)) hb); clear HO203; clear HO206; clear BK208; clear HB; have HO203 := n0_; have HO206 := n1_; have HO211 := n2_; have HO214 := n3_; have BK208 := n4_; have HB := n5_; clear n0_ n1_ n2_ n3_ n4_ n5_; (try clear hb); (try clear hb2); (try clear hk); (try clear hi); (try clear ho0); (try clear ho1)) | ((with_reducible refine gate_dst (N := 9) rfl ?_); (try (refine gate_guard (by rfl) ?_; dsimp only)); refine box_event ?hg (N := 9) ?hd (cs := #[.slice none 0 0, .slice none 0 0]) (t := 28) ?hr ?_; (case hd => rfl); (case hg => rfl); (case hr => first | (go_simp; done) | (go_simp; rfl)); intro gb216 hg w26 hbox hb; have n0_ := Aside0.mk (Kd.R_below (by (with_reducible repeat (first | apply Kd.R_alloc | apply Kd.R_drewN | apply Kd.R_drew)); exact HO203.out) hb); have n1_ := Aside0.mk (Kd.R_below (by (with_reducible repeat (first | apply Kd.R_alloc | apply Kd.R_drewN | apply Kd.R_drew)); exact HO206.out) hb); have n2_ := Aside0.mk (Kd.R_below (by (with_reducible repeat (first | apply Kd.R_alloc | apply Kd.R_drewN | apply Kd.R_drew)); exact HO211.out) hb); have n3_ := Aside0.mk (Kd.R_below (by (with_reducible repeat (first | apply Kd.R_alloc | apply Kd.R_drewN | apply Kd.R_drew)); exact HO214.out) hb); have n4_ := Aside0.mk (blk_below (g := gb208) (o := .cells #[.slice Ao22 t201.length co22, .slice Ao24 t204.length co24] 28 (0, 0)) (by (with_reducible repeat (first | refine blk_drewN ?_ _ | refine blk_drew ?_ | refine blk_alloc ?_ _)); exact BK208.out) hb); have n5_ := Aside0.mk (below_step (by repeat (first | (with_reducible first | exact HB.out | apply below_alloc | apply pw_below_drewN | apply below_drew1 | refine below_set ?_ GE208.out) | exact HB.out)) hb); have n6_ := Aside0.mk (hbox); have n7_ := Aside0.mk ((by rw [hg]; exact (below_size (by repeat (first | (with_reducible first | exact HB.out | apply below_alloc | apply pw_below_drewN | apply below_drew1 | refine below_set ?_ GE208.out) | exact HB.out))) : w.heap.size ≤ gb216)); have n8_ := Aside0.mk ((by rw [hg]; exact (below_size (by repeat (first | (with_reducible first | exact HB.out | apply below_alloc | apply pw_below_drewN | apply below_drew1 | refine below_set ?_ GE208.out) | exact HB.out))) : w.heap.size ≤ gb216)); have n9_ := Aside0.mk ((by rw [hg]; exact Nat.ne_of_lt (blk_lt (g := gb208) (o := .cells #[.slice Ao22 t201.length co22, .slice Ao24 t204.length co24] 28 (0, 0)) (by (with_reducible repeat (first | refine blk_drewN ?_ _ | refine blk_drew ?_ | refine blk_alloc ?_ _)); exact BK208.out)) : gb208 ≠ gb216)); have n10_ := Aside0.mk ((by rw [hg]; exact Nat.ne_of_gt (blk_lt (g := gb208) (o := .cells #[.slice Ao22 t201.length co22, .slice Ao24 t204.length co24] 28 (0, 0)) (by (with_reducible repeat (first | refine blk_drewN ?_ _ | refine blk_drew ?_ | refine blk_alloc ?_ _)); exact BK208.out)) : gb216 ≠ gb208)); clear HO203; clear HO206; clear HO211; clear HO214; clear BK208; clear HB; have HO203 := n0_; have HO206 := n1_; have HO211 := n2_; have HO214 := n3_; have BK208 := n4_; have HB := n5_; have BK216 := n6_; have GW216 := n7_; have GE216 := n8_; have NB208_216 := n9_; have NB216_208 := n10_; clear n0_ n1_ n2_ n3_ n4_ n5_ n6_ n7_ n8_ n9_ n10_; clear hb hbox hg; obtain ⟨Ao27, co27, eo27⟩ := Kd.R_slice HO211.out; subst eo27; have hnb28 := NB216_208.out; have hnc28 := NB208_216.out; have hcz29_0 : w26.cell? ⟨gb216, 0, none⟩ = some (.slice none 0 0) := (blk_cell BK216.out 0).trans rfl; have hcz29_1 : w26.cell? ⟨gb216, 1, none⟩ = some (.slice none 0 0) := (blk_cell BK216.out 1).trans rfl; have hfz29_0 := blk_frozen BK216.out 0; have hfz29_1 := blk_frozen BK216.out 1; obtain ⟨Ao30, co30, eo30⟩ := Kd.R_slice HO214.out; subst eo30; have hcz31_0 : w26.cell? ⟨gb208, 0, none⟩ = some (.slice Ao22 t201.length co22) := (blk_cell BK208.out 0).trans rfl; have hcz31_1 : w26.cell? ⟨gb208, 1, none⟩ = some (.slice Ao24 t204.length co24) := (blk_cell BK208.out 1).trans rfl; have hfz31_0 := blk_frozen BK208.out 0; have hfz31_1 := blk_frozen BK208.out 1) | ((with_reducible refine gate_callee (f := 13) rfl ?_); refine goesL_ (some 39) rfl rfl Tryd.func13 (by kernel_rfl) rfl #[.agg #[.slice Ao22 t201.length co22, .slice Ao24 t204.length co24], .agg #[.slice Ao27 t209.length co27, .slice Ao30 t212.length co30]] rfl (by (try simp only [List.map_toArray, List.map_cons, List.map_nil]); first | done | rfl | (simp only [List.length_drop, List.length_take]; rfl)) ?_; (with_reducible refine (malthouseref08_Same.calls kj4 _ _ t201 _ _ t204 _ _ t209 _ _ t212 true _ ?side1 ?side2 ?side3 ?side4 ?side5 ?side6 ?side7 ?side8 A12.out).mono ?_); (case side1 => refine (Kd.R_reads' (e := 3) (base := w.heap.size) (ok := fun k_ => (True ∧ some k_ ≠ (.slice Ao27 t209.length co27 : Value).ownBlock)) (n := t201.length) (c := co22) ?_).2.2; exact (by (with_reducible repeat (first | apply Kd.R_alloc | apply Kd.R_drewN | apply Kd.R_drew)); exact (Kd.R_mono (Kd.R_far (p := ⟨gb216, 1, none⟩) (Kd.R_far (p := ⟨gb216, 0, none⟩) (Kd.R_types HO203.out BK216.out (by decide)) (fun _ hk => hk.2) (.slice Ao27 t209.length co27)) (fun _ hk => hk.2) (.slice Ao30 t212.length co30)) (fun _ h_ => h_.1)))); (case side2 => exact (Kd.R_reads' HO203.out).2.1); (case side3 => refine (Kd.R_reads' (e := 4) (base := w.heap.size) (ok := fun k_ => (True ∧ some k_ ≠ (.slice Ao30 t212.length co30 : Value).ownBlock)) (n := t204.length) (c := co24) ?_).2.2; exact (by (with_reducible repeat (first | apply Kd.R_alloc | apply Kd.R_drewN | apply Kd.R_drew)); exact (Kd.R_mono (Kd.R_far (p := ⟨gb216, 1, none⟩) (Kd.R_far (p := ⟨gb216, 0, none⟩) (Kd.R_types HO206.out BK216.out (by decide)) (fun _ hk => hk.2) (.slice Ao27 t209.length co27)) (fun _ hk => hk.2) (.slice Ao30 t212.length co30)) (fun _ h_ => h_.1)))); (case side4 => exact (Kd.R_reads' HO206.out).2.1); (case side5 => refine (Kd.R_reads' (e := 3) (base := w.heap.size) (ok := fun k_ => (True ∧ some k_ ≠ (.slice Ao22 t201.length co22 : Value).ownBlock)) (n := t209.length) (c := co27) ?_).2.2; exact (by (with_reducible repeat (first | apply Kd.R_alloc | apply Kd.R_drewN | apply Kd.R_drew)); exact (Kd.R_mono (Kd.R_far (p := ⟨gb216, 1, none⟩) (Kd.R_far (p := ⟨gb216, 0, none⟩) (Kd.R_types HO211.out BK216.out (by decide)) (fun _ hk => hk.2) (.slice Ao27 t209.length co27)) (fun _ hk => hk.2) (.slice Ao30 t212.length co30)) (fun _ h_ => h_.1)))); (case side6 => exact (Kd.R_reads' HO211.out).2.1); (case side7 => refine (Kd.R_reads' (e := 4) (base := w.heap.size) (ok := fun k_ => (True ∧ some k_ ≠ (.slice Ao24 t204.length co24 : Value).ownBlock)) (n := t212.length) (c := co30) ?_).2.2; exact (by (with_reducible repeat (first | apply Kd.R_alloc | apply Kd.R_drewN | apply Kd.R_drew)); exact (Kd.R_mono (Kd.R_far (p := ⟨gb216, 1, none⟩) (Kd.R_far (p := ⟨gb216, 0, none⟩) (Kd.R_types HO214.out BK216.out (by decide)) (fun _ hk => hk.2) (.slice Ao27 t209.length co27)) (fun _ hk => hk.2) (.slice Ao30 t212.length co30)) (fun _ h_ => h_.1)))); (case side8 => exact (Kd.R_reads' HO214.out).2.1); rintro e w32 ⟨rfl, hb⟩; refine ⟨_, rfl, ?_⟩; have n0_ := Aside0.mk (Kd.R_below (by (with_reducible repeat (first | apply Kd.R_alloc | apply Kd.R_drewN | apply Kd.R_drew)); exact (Kd.R_mono (Kd.R_far (p := ⟨gb216, 1, none⟩) (Kd.R_far (p := ⟨gb216, 0, none⟩) (Kd.R_types HO203.out BK216.out (by decide)) (fun _ hk => hk.2) (.slice Ao27 t209.length co27)) (fun _ hk => hk.2) (.slice Ao30 t212.length co30)) (fun _ h_ => h_.1))) hb); have n1_ := Aside0.mk (Kd.R_below (by (with_reducible repeat (first | apply Kd.R_alloc | apply Kd.R_drewN | apply Kd.R_drew)); exact (Kd.R_mono (Kd.R_far (p := ⟨gb216, 1, none⟩) (Kd.R_far (p := ⟨gb216, 0, none⟩) (Kd.R_types HO206.out BK216.out (by decide)) (fun _ hk => hk.2) (.slice Ao27 t209.length co27)) (fun _ hk => hk.2) (.slice Ao30 t212.length co30)) (fun _ h_ => h_.1))) hb); have n2_ := Aside0.mk (Kd.R_below (by (with_reducible repeat (first | apply Kd.R_alloc | apply Kd.R_drewN | apply Kd.R_drew)); exact (Kd.R_mono (Kd.R_far (p := ⟨gb216, 1, none⟩) (Kd.R_far (p := ⟨gb216, 0, none⟩) (Kd.R_types HO211.out BK216.out (by decide)) (fun _ hk => hk.2) (.slice Ao27 t209.length co27)) (fun _ hk => hk.2) (.slice Ao30 t212.length co30)) (fun _ h_ => h_.1))) hb); have n3_ := Aside0.mk (Kd.R_below (by (with_reducible repeat (first | apply Kd.R_alloc | apply Kd.R_drewN | apply Kd.R_drew)); exact (Kd.R_mono (Kd.R_far (p := ⟨gb216, 1, none⟩) (Kd.R_far (p := ⟨gb216, 0, none⟩) (Kd.R_types HO214.out BK216.out (by decide)) (fun _ hk => hk.2) (.slice Ao27 t209.length co27)) (fun _ hk => hk.2) (.slice Ao30 t212.length co30)) (fun _ h_ => h_.1))) hb); have n4_ := Aside0.mk (blk_below (g := gb208) (o := .cells #[.slice Ao22 t201.length co22, .slice Ao24 t204.length co24] 28 (0, 0)) (by (with_reducible repeat (first | refine blk_drewN ?_ _ | refine blk_drew ?_ | refine blk_alloc ?_ _)); refine blk_far ?_ NB208_216.out _; (with_reducible repeat (first | refine blk_drewN ?_ _ | refine blk_drew ?_ | refine blk_alloc ?_ _)); refine blk_far ?_ NB208_216.out _; (with_reducible repeat (first | refine blk_drewN ?_ _ | refine blk_drew ?_ | refine blk_alloc ?_ _)); exact BK208.out) hb); have n5_ := Aside0.mk (blk_below (g := gb216) (o := .cells #[.slice Ao27 t209.length co27, .slice Ao30 t212.length co30] 28 (0, 0)) (by (with_reducible repeat (first | refine blk_drewN ?_ _ | refine blk_drew ?_ | refine blk_alloc ?_ _)); refine blk_put (cs := #[.slice Ao27 t209.length co27, .slice none 0 0]) ?_ 1 _ rfl; (with_reducible repeat (first | refine blk_drewN ?_ _ | refine blk_drew ?_ | refine blk_alloc ?_ _)); refine blk_put (cs := #[.slice none 0 0, .slice none 0 0]) ?_ 0 _ rfl; (with_reducible repeat (first | refine blk_drewN ?_ _ | refine blk_drew ?_ | refine blk_alloc ?_ _)); exact BK216.out) hb); have n6_ := Aside0.mk (below_step (by repeat (first | (with_reducible first | exact HB.out | apply below_alloc | apply pw_below_drewN | apply below_drew1 | refine below_set ?_ GE208.out | refine below_set ?_ GE216.out) | exact HB.out)) hb); clear HO203; clear HO206; clear HO211; clear HO214; clear BK208; clear BK216; clear HB; have HO203 := n0_; have HO206 := n1_; have HO211 := n2_; have HO214 := n3_; have BK208 := n4_; have BK216 := n5_; have HB := n6_; clear n0_ n1_ n2_ n3_ n4_ n5_ n6_; (try clear hb); (try clear hb2); (try clear hk); (try clear hi)) | (go_at_call 14; (with_reducible refine (tags_Check.calls kj4 _ _ l0 t218 _ ?side1 ?side2 ?side3 A15.out).mono ?_); (case side1 => repeat (first | exact (Kd.C_below HR0.out HB.out) | (with_reducible refine Kd.C_alloc ?_ _) | (with_reducible refine Kd.C_drewN ?_ _) | (with_reducible refine Kd.C_drew ?_))); (case side2 => exact HC0.out); (case side3 => exact Tabs.below hT (by repeat (first | (with_reducible first | exact HB.out | apply below_alloc | apply pw_below_drewN | apply below_drew1 | refine below_set ?_ GE208.out | refine below_set ?_ GE216.out) | exact HB.out))); rintro e w33 ⟨rfl, hb⟩; have n0_ := Aside0.mk (Kd.R_below (by (with_reducible repeat (first | apply Kd.R_alloc | apply Kd.R_drewN | apply Kd.R_drew)); exact HO203.out) hb); have n1_ := Aside0.mk (Kd.R_below (by (with_reducible repeat (first | apply Kd.R_alloc | apply Kd.R_drewN | apply Kd.R_drew)); exact HO206.out) hb); have n2_ := Aside0.mk (Kd.R_below (by (with_reducible repeat (first | apply Kd.R_alloc | apply Kd.R_drewN | apply Kd.R_drew)); exact HO211.out) hb); have n3_ := Aside0.mk (Kd.R_below (by (with_reducible repeat (first | apply Kd.R_alloc | apply Kd.R_drewN | apply Kd.R_drew)); exact HO214.out) hb); have n4_ := Aside0.mk (blk_below (g := gb208) (o := .cells #[.slice Ao22 t201.length co22, .slice Ao24 t204.length co24] 28 (0, 0)) (by (with_reducible repeat (first | refine blk_drewN ?_ _ | refine blk_drew ?_ | refine blk_alloc ?_ _)); exact BK208.out) hb); have n5_ := Aside0.mk (blk_below (g := gb216) (o := .cells #[.slice Ao27 t209.length co27, .slice Ao30 t212.length co30] 28 (0, 0)) (by (with_reducible repeat (first | refine blk_drewN ?_ _ | refine blk_drew ?_ | refine blk_alloc ?_ _)); exact BK216.out) hb); have n6_ := Aside0.mk (below_step (by repeat (first | (with_reducible first | exact HB.out | apply below_alloc | apply pw_below_drewN | apply below_drew1 | refine below_set ?_ GE208.out | refine below_set ?_ GE216.out) | exact HB.out)) hb); clear HO203; clear HO206; clear HO211; clear HO214; clear BK208; clear BK216; clear HB; have HO203 := n0_; have HO206 := n1_; have HO211 := n2_; have HO214 := n3_; have BK208 := n4_; have BK216 := n5_; have HB := n6_; clear n0_ n1_ n2_ n3_ n4_ n5_ n6_; (try clear hb); (try clear hb2); (try clear hk); (try clear hi)) | (go_at_call 15; (with_reducible refine (malthouseref08_Check.calls kj4 _ _ l0 t219 _ ?side1 ?side2 A16.out).mono ?_); (case side1 => repeat (first | exact (Kd.C_below HR0.out HB.out) | (with_reducible refine Kd.C_alloc ?_ _) | (with_reducible refine Kd.C_drewN ?_ _) | (with_reducible refine Kd.C_drew ?_))); (case side2 => exact HC0.out); rintro e w34 ⟨rfl, hb⟩; have n0_ := Aside0.mk (Kd.R_below (by (with_reducible repeat (first | apply Kd.R_alloc | apply Kd.R_drewN | apply Kd.R_drew)); exact HO203.out) hb); have n1_ := Aside0.mk (Kd.R_below (by (with_reducible repeat (first | apply Kd.R_alloc | apply Kd.R_drewN | apply Kd.R_drew)); exact HO206.out) hb); have n2_ := Aside0.mk (Kd.R_below (by (with_reducible repeat (first | apply Kd.R_alloc | apply Kd.R_drewN | apply Kd.R_drew)); exact HO211.out) hb); have n3_ := Aside0.mk (Kd.R_below (by (with_reducible repeat (first | apply Kd.R_alloc | apply Kd.R_drewN | apply Kd.R_drew)); exact HO214.out) hb); have n4_ := Aside0.mk (blk_below (g := gb208) (o := .cells #[.slice Ao22 t201.length co22, .slice Ao24 t204.length co24] 28 (0, 0)) (by (with_reducible repeat (first | refine blk_drewN ?_ _ | refine blk_drew ?_ | refine blk_alloc ?_ _)); exact BK208.out) hb); have n5_ := Aside0.mk (blk_below (g := gb216) (o := .cells #[.slice Ao27 t209.length co27, .slice Ao30 t212.length co30] 28 (0, 0)) (by (with_reducible repeat (first | refine blk_drewN ?_ _ | refine blk_drew ?_ | refine blk_alloc ?_ _)); exact BK216.out) hb); have n6_ := Aside0.mk (below_step (by repeat (first | (with_reducible first | exact HB.out | apply below_alloc | apply pw_below_drewN | apply below_drew1 | refine below_set ?_ GE208.out | refine below_set ?_ GE216.out) | exact HB.out)) hb); clear HO203; clear HO206; clear HO211; clear HO214; clear BK208; clear BK216; clear HB; have HO203 := n0_; have HO206 := n1_; have HO211 := n2_; have HO214 := n3_; have BK208 := n4_; have BK216 := n5_; have HB := n6_; clear n0_ n1_ n2_ n3_ n4_ n5_ n6_; (try clear hb); (try clear hb2); (try clear hk); (try clear hi)) | (go_at_call 16; (with_reducible refine (tags_Find.calls _ _ l0 a1 t220 _ ?side1 ?side2 A18.out).mono ?_); (case side1 => repeat (first | exact (Kd.C_below HR0.out HB.out) | (with_reducible refine Kd.C_alloc ?_ _) | (with_reducible refine Kd.C_drewN ?_ _) | (with_reducible refine Kd.C_drew ?_))); (case side2 => exact HC0.out); rintro e w35 ⟨rfl, hb⟩; have n0_ := Aside0.mk (Kd.R_below (by (with_reducible repeat (first | apply Kd.R_alloc | apply Kd.R_drewN | apply Kd.R_drew)); exact HO203.out) hb); have n1_ := Aside0.mk (Kd.R_below (by (with_reducible repeat (first | apply Kd.R_alloc | apply Kd.R_drewN | apply Kd.R_drew)); exact HO206.out) hb); have n2_ := Aside0.mk (Kd.R_below (by (with_reducible repeat (first | apply Kd.R_alloc | apply Kd.R_drewN | apply Kd.R_drew)); exact HO211.out) hb); have n3_ := Aside0.mk (Kd.R_below (by (with_reducible repeat (first | apply Kd.R_alloc | apply Kd.R_drewN | apply Kd.R_drew)); exact HO214.out) hb); have n4_ := Aside0.mk (blk_below (g := gb208) (o := .cells #[.slice Ao22 t201.length co22, .slice Ao24 t204.length co24] 28 (0, 0)) (by (with_reducible repeat (first | refine blk_drewN ?_ _ | refine blk_drew ?_ | refine blk_alloc ?_ _)); exact BK208.out) hb); have n5_ := Aside0.mk (blk_below (g := gb216) (o := .cells #[.slice Ao27 t209.length co27, .slice Ao30 t212.length co30] 28 (0, 0)) (by (with_reducible repeat (first | refine blk_drewN ?_ _ | refine blk_drew ?_ | refine blk_alloc ?_ _)); exact BK216.out) hb); have n6_ := Aside0.mk (below_step (by repeat (first | (with_reducible first | exact HB.out | apply below_alloc | apply pw_below_drewN | apply below_drew1 | refine below_set ?_ GE208.out | refine below_set ?_ GE216.out) | exact HB.out)) hb); clear HO203; clear HO206; clear HO211; clear HO214; clear BK208; clear BK216; clear HB; have HO203 := n0_; have HO206 := n1_; have HO211 := n2_; have HO214 := n3_; have BK208 := n4_; have BK216 := n5_; have HB := n6_; clear n0_ n1_ n2_ n3_ n4_ n5_ n6_; (try clear hb); (try clear hb2); (try clear hk); (try clear hi)) | (go_at_call 17; (with_reducible refine (malthouseref08_Find.calls kj4 _ _ l0 a1 t221 _ ?side1 ?side2 A19.out).mono ?_); (case side1 => repeat (first | exact (Kd.C_below HR0.out HB.out) | (with_reducible refine Kd.C_alloc ?_ _) | (with_reducible refine Kd.C_drewN ?_ _) | (with_reducible refine Kd.C_drew ?_))); (case side2 => exact HC0.out); rintro e w' ⟨rfl, ⟨nd, rfl⟩⟩))
              go_ret
              exact ⟨by first | rfl | (simp [errW_none, errW_some] <;> rfl) | (simp [*, errW_none, errW_some] <;> rfl), by repeat (first | (with_reducible first | exact HB.out | apply below_alloc | apply pw_below_drewN | apply below_drew1 | refine below_set ?_ GE208.out | refine below_set ?_ GE216.out) | exact HB.out)⟩
            · rw [if_neg c17] at H
              have c17b0 : (t218 == t219) = false := beq_eq_false_iff_ne.mpr c17
              have c17b1 : (t218 != t219) = true := bne_iff_ne.mpr c17
              obtain rfl := Option.some.inj H
              go_wp2_with (first | ((with_reducible refine gate_callee (f := 11) rfl ?_); refine goesL_ (some 29) rfl rfl Tryd.func11 (by kernel_rfl) rfl #[.slice A0 l0.length c0] rfl (by (try simp only [List.map_toArray, List.map_cons, List.map_nil]); first | done | rfl | (simp only [List.length_drop, List.length_take]; rfl)) ?_; (with_reducible refine (tags_New.calls kj4 _ _ l0 t201 t204 t207 _ ?side1 ?side2 ?side3 A10.out).mono ?_); (case side1 => repeat (first | exact (Kd.C_below HR0.out HB.out) | (with_reducible refine Kd.C_alloc ?_ _) | (with_reducible refine Kd.C_drewN ?_ _) | (with_reducible refine Kd.C_drew ?_))); (case side2 => exact HC0.out); (case side3 => exact Tabs.below hT (by repeat (first | (with_reducible first | exact HB.out | apply below_alloc | apply pw_below_drewN | apply below_drew1) | exact HB.out))); rintro e w36 ⟨v202, v205, rfl, ho0, ho1, hb⟩; refine ⟨_, rfl, ?_⟩; have n0_ := Aside0.mk (Kd.R_lower ho0 (below_size (by repeat (first | (with_reducible first | exact HB.out | apply below_alloc | apply pw_below_drewN | apply below_drew1) | exact HB.out)))); have n1_ := Aside0.mk (Kd.R_lower ho1 (below_size (by repeat (first | (with_reducible first | exact HB.out | apply below_alloc | apply pw_below_drewN | apply below_drew1) | exact HB.out)))); have n2_ := Aside0.mk (below_step (by repeat (first | (with_reducible first | exact HB.out | apply below_alloc | apply pw_below_drewN | apply below_drew1) | exact HB.out)) hb); clear HB; have HO203 := n0_; have HO206 := n1_; have HB := n2_; clear n0_ n1_ n2_; (try clear hb); (try clear hb2); (try clear hk); (try clear hi); (try clear ho0); (try clear ho1)) | ((with_reducible refine gate_dst (N := 7) rfl ?_); (try (refine gate_guard (by rfl) ?_; dsimp only)); refine box_event ?hg (N := 7) ?hd (cs := #[.slice none 0 0, .slice none 0 0]) (t := 28) ?hr ?_; (case hd => rfl); (case hg => rfl); (case hr => first | (go_simp; done) | (go_simp; rfl)); intro gb208 hg w37 hbox hb; have n0_ := Aside0.mk (Kd.R_below (by (with_reducible repeat (first | apply Kd.R_alloc | apply Kd.R_drewN | apply Kd.R_drew)); exact HO203.out) hb); have n1_ := Aside0.mk (Kd.R_below (by (with_reducible repeat (first | apply Kd.R_alloc | apply Kd.R_drewN | apply Kd.R_drew)); exact HO206.out) hb); have n2_ := Aside0.mk (below_step (by repeat (first | (with_reducible first | exact HB.out | apply below_alloc | apply pw_below_drewN | apply below_drew1) | exact HB.out)) hb); have n3_ := Aside0.mk (hbox); have n4_ := Aside0.mk ((by rw [hg]; exact (below_size (by repeat (first | (with_reducible first | exact HB.out | apply below_alloc | apply pw_below_drewN | apply below_drew1) | exact HB.out))) : w.heap.size ≤ gb208)); have n5_ := Aside0.mk ((by rw [hg]; exact (below_size (by repeat (first | (with_reducible first | exact HB.out | apply below_alloc | apply pw_below_drewN | apply below_drew1) | exact HB.out))) : w.heap.size ≤ gb208)); clear HO203; clear HO206; clear HB; have HO203 := n0_; have HO206 := n1_; have HB := n2_; have BK208 := n3_; have GW208 := n4_; have GE208 := n5_; clear n0_ n1_ n2_ n3_ n4_ n5_; clear hb hbox hg; obtain ⟨Ao38, co38, eo38⟩ := Kd.R_slice HO203.out; subst eo38; have hcz39_0 : w37.cell? ⟨gb208, 0, none⟩ = some (.slice none 0 0) := (blk_cell BK208.out 0).trans rfl; have hcz39_1 : w37.cell? ⟨gb208, 1, none⟩ = some (.slice none 0 0) := (blk_cell BK208.out 1).trans rfl; have hfz39_0 := blk_frozen BK208.out 0; have hfz39_1 := blk_frozen BK208.out 1; obtain ⟨Ao40, co40, eo40⟩ := Kd.R_slice HO206.out; subst eo40) | ((with_reducible refine gate_callee (f := 12) rfl ?_); refine goesL_ (some 34) rfl rfl Tryd.func12 (by kernel_rfl) rfl #[.slice A0 l0.length c0] rfl (by (try simp only [List.map_toArray, List.map_cons, List.map_nil]); first | done | rfl | (simp only [List.length_drop, List.length_take]; rfl)) ?_; (with_reducible refine (malthouseref08_New.calls kj4 _ _ l0 t209 t212 t215 _ ?side1 ?side2 A11.out).mono ?_); (case side1 => exact Kd.C_below HR0.out (by repeat (first | (with_reducible first | exact HB.out | apply below_alloc | apply pw_below_drewN | apply below_drew1 | refine below_set ?_ GE208.out) | exact HB.out))); (case side2 => exact HC0.out); rintro e w41 ⟨v210, v213, rfl, ho0, ho1, hb⟩; refine ⟨_, rfl, ?_⟩; have n0_ := Aside0.mk (Kd.R_elder' (by (with_reducible repeat (first | apply Kd.R_alloc | apply Kd.R_drewN | apply Kd.R_drew)); exact (Kd.R_mono (Kd.R_far (p := ⟨gb208, 1, none⟩) (Kd.R_far (p := ⟨gb208, 0, none⟩) (Kd.R_types HO203.out BK208.out (by decide)) (fun _ hk => hk.2) (.slice Ao38 t201.length co38)) (fun _ hk => hk.2) (.slice Ao40 t204.length co40)) (fun _ h_ => h_.1))) (Kd.R_base ho0) hb); have n1_ := Aside0.mk (Kd.R_elder' (by (with_reducible repeat (first | apply Kd.R_alloc | apply Kd.R_drewN | apply Kd.R_drew)); exact (Kd.R_mono (Kd.R_far (p := ⟨gb208, 1, none⟩) (Kd.R_far (p := ⟨gb208, 0, none⟩) (Kd.R_types HO206.out BK208.out (by decide)) (fun _ hk => hk.2) (.slice Ao38 t201.length co38)) (fun _ hk => hk.2) (.slice Ao40 t204.length co40)) (fun _ h_ => h_.1))) (Kd.R_base ho1) hb); have n2_ := Aside0.mk (Kd.R_lower (Kd.R_new' ho0 (Kd.R_lt (by (with_reducible repeat (first | apply Kd.R_alloc | apply Kd.R_drewN | apply Kd.R_drew)); exact (Kd.R_mono (Kd.R_far (p := ⟨gb208, 1, none⟩) (Kd.R_far (p := ⟨gb208, 0, none⟩) (Kd.R_types HO203.out BK208.out (by decide)) (fun _ hk => hk.2) (.slice Ao38 t201.length co38)) (fun _ hk => hk.2) (.slice Ao40 t204.length co40)) (fun _ h_ => h_.1))))) (below_size (by repeat (first | (with_reducible first | exact HB.out | apply below_alloc | apply pw_below_drewN | apply below_drew1 | refine below_set ?_ GE208.out) | exact HB.out)))); have n3_ := Aside0.mk (Kd.R_lower (Kd.R_new' ho1 (Kd.R_lt (by (with_reducible repeat (first | apply Kd.R_alloc | apply Kd.R_drewN | apply Kd.R_drew)); exact (Kd.R_mono (Kd.R_far (p := ⟨gb208, 1, none⟩) (Kd.R_far (p := ⟨gb208, 0, none⟩) (Kd.R_types HO206.out BK208.out (by decide)) (fun _ hk => hk.2) (.slice Ao38 t201.length co38)) (fun _ hk => hk.2) (.slice Ao40 t204.length co40)) (fun _ h_ => h_.1))))) (below_size (by repeat (first | (with_reducible first | exact HB.out | apply below_alloc | apply pw_below_drewN | apply below_drew1 | refine below_set ?_ GE208.out) | exact HB.out)))); have n4_ := Aside0.mk (blk_below (g := gb208) (o := .cells #[.slice Ao38 t201.length co38, .slice Ao40 t204.length co40] 28 (0, 0)) (by (with_reducible repeat (first | refine blk_drewN ?_ _ | refine blk_drew ?_ | refine blk_alloc ?_ _)); refine blk_put (cs := #[.slice Ao38 t201.length co38, .slice none 0 0]) ?_ 1 _ rfl; (with_reducible repeat (first | refine blk_drewN ?_ _ | refine blk_drew ?_ | refine blk_alloc ?_ _)); refine blk_put (cs := #[.slice none 0 0, .slice none 0 0]) ?_ 0 _ rfl; (with_reducible repeat (first | refine blk_drewN ?_ _ | refine blk_drew ?_ | refine blk_alloc ?_ _)); exact BK208.out) hb); have n5_ := Aside0.mk (below_step (by repeat (first | (with_reducible first | exact HB.out | apply below_alloc | apply pw_below_drewN | apply below_drew1 | refine below_set ?_ GE208.out) | exact HB.out)) hb); clear HO203; clear HO206; clear BK208; clear HB; have HO203 := n0_; have HO206 := n1_; have HO211 := n2_; have HO214 := n3_; have BK208 := n4_; have HB := n5_; clear n0_ n1_ n2_ n3_ n4_ n5_; (try clear hb); (try clear hb2); (try clear hk); (try clear hi); (try clear ho0); (try clear ho1)) | ((with_reducible refine gate_dst (N := 9) rfl ?_); (try (refine gate_guard (by rfl) ?_; dsimp only)); refine box_event ?hg (N := 9) ?hd (cs := #[.slice none 0 0, .slice none 0 0]) (t := 28) ?hr ?_; (case hd => rfl); (case hg => rfl); (case hr => first | (go_simp; done) | (go_simp; rfl)); intro gb216 hg w42 hbox hb; have n0_ := Aside0.mk (Kd.R_below (by (with_reducible repeat (first | apply Kd.R_alloc | apply Kd.R_drewN | apply Kd.R_drew)); exact HO203.out) hb); have n1_ := Aside0.mk (Kd.R_below (by (with_reducible repeat (first | apply Kd.R_alloc | apply Kd.R_drewN | apply Kd.R_drew)); exact HO206.out) hb); have n2_ := Aside0.mk (Kd.R_below (by (with_reducible repeat (first | apply Kd.R_alloc | apply Kd.R_drewN | apply Kd.R_drew)); exact HO211.out) hb); have n3_ := Aside0.mk (Kd.R_below (by (with_reducible repeat (first | apply Kd.R_alloc | apply Kd.R_drewN | apply Kd.R_drew)); exact HO214.out) hb); have n4_ := Aside0.mk (blk_below (g := gb208) (o := .cells #[.slice Ao38 t201.length co38, .slice Ao40 t204.length co40] 28 (0, 0)) (by (with_reducible repeat (first | refine blk_drewN ?_ _ | refine blk_drew ?_ | refine blk_alloc ?_ _)); exact BK208.out) hb); have n5_ := Aside0.mk (below_step (by repeat (first | (with_reducible first | exact HB.out | apply below_alloc | apply pw_below_drewN | apply below_drew1 | refine below_set ?_ GE208.out) | exact HB.out)) hb); have n6_ := Aside0.mk (hbox); have n7_ := Aside0.mk ((by rw [hg]; exact (below_size (by repeat (first | (with_reducible first | exact HB.out | apply below_alloc | apply pw_below_drewN | apply below_drew1 | refine below_set ?_ GE208.out) | exact HB.out))) : w.heap.size ≤ gb216)); have n8_ := Aside0.mk ((by rw [hg]; exact (below_size (by repeat (first | (with_reducible first | exact HB.out | apply below_alloc | apply pw_below_drewN | apply below_drew1 | refine below_set ?_ GE208.out) | exact HB.out))) : w.heap.size ≤ gb216)); have n9_ := Aside0.mk ((by rw [hg]; exact Nat.ne_of_lt (blk_lt (g := gb208) (o := .cells #[.slice Ao38 t201.length co38, .slice Ao40 t204.length co40] 28 (0, 0)) (by (with_reducible repeat (first | refine blk_drewN ?_ _ | refine blk_drew ?_ | refine blk_alloc ?_ _)); exact BK208.out)) : gb208 ≠ gb216)); have n10_ := Aside0.mk ((by rw [hg]; exact Nat.ne_of_gt (blk_lt (g := gb208) (o := .cells #[.slice Ao38 t201.length co38, .slice Ao40 t204.length co40] 28 (0, 0)) (by (with_reducible repeat (first | refine blk_drewN ?_ _ | refine blk_drew ?_ | refine blk_alloc ?_ _)); exact BK208.out)) : gb216 ≠ gb208)); clear HO203; clear HO206; clear HO211; clear HO214; clear BK208; clear HB; have HO203 := n0_; have HO206 := n1_; have HO211 := n2_; have HO214 := n3_; have BK208 := n4_; have HB := n5_; have BK216 := n6_; have GW216 := n7_; have GE216 := n8_; have NB208_216 := n9_; have NB216_208 := n10_; clear n0_ n1_ n2_ n3_ n4_ n5_ n6_ n7_ n8_ n9_ n10_; clear hb hbox hg; obtain ⟨Ao43, co43, eo43⟩ := Kd.R_slice HO211.out; subst eo43; have hnb44 := NB216_208.out; have hnc44 := NB208_216.out; have hcz45_0 : w42.cell? ⟨gb216, 0, none⟩ = some (.slice none 0 0) := (blk_cell BK216.out 0).trans rfl; have hcz45_1 : w42.cell? ⟨gb216, 1, none⟩ = some (.slice none 0 0) := (blk_cell BK216.out 1).trans rfl; have hfz45_0 := blk_frozen BK216.out 0; have hfz45_1 := blk_frozen BK216.out 1; obtain ⟨Ao46, co46, eo46⟩ := Kd.R_slice HO214.out; subst eo46; have hcz47_0 : w42.cell? ⟨gb208, 0, none⟩ = some (.slice Ao38 t201.length co38) := (blk_cell BK208.out 0).trans rfl; have hcz47_1 : w42.cell? ⟨gb208, 1, none⟩ = some (.slice Ao40 t204.length co40) := (blk_cell BK208.out 1).trans rfl; have hfz47_0 := blk_frozen BK208.out 0; have hfz47_1 := blk_frozen BK208.out 1) | ((with_reducible refine gate_callee (f := 13) rfl ?_); refine goesL_ (some 39) rfl rfl Tryd.func13 (by kernel_rfl) rfl #[.agg #[.slice Ao38 t201.length co38, .slice Ao40 t204.length co40], .agg #[.slice Ao43 t209.length co43, .slice Ao46 t212.length co46]] rfl (by (try simp only [List.map_toArray, List.map_cons, List.map_nil]); first | done | rfl | (simp only [List.length_drop, List.length_take]; rfl)) ?_; (with_reducible refine (malthouseref08_Same.calls kj4 _ _ t201 _ _ t204 _ _ t209 _ _ t212 true _ ?side1 ?side2 ?side3 ?side4 ?side5 ?side6 ?side7 ?side8 A12.out).mono ?_); (case side1 => refine (Kd.R_reads' (e := 3) (base := w.heap.size) (ok := fun k_ => (True ∧ some k_ ≠ (.slice Ao43 t209.length co43 : Value).ownBlock)) (n := t201.length) (c := co38) ?_).2.2; exact (by (with_reducible repeat (first | apply Kd.R_alloc | apply Kd.R_drewN | apply Kd.R_drew)); exact (Kd.R_mono (Kd.R_far (p := ⟨gb216, 1, none⟩) (Kd.R_far (p := ⟨gb216, 0, none⟩) (Kd.R_types HO203.out BK216.out (by decide)) (fun _ hk => hk.2) (.slice Ao43 t209.length co43)) (fun _ hk => hk.2) (.slice Ao46 t212.length co46)) (fun _ h_ => h_.1)))); (case side2 => exact (Kd.R_reads' HO203.out).2.1); (case side3 => refine (Kd.R_reads' (e := 4) (base := w.heap.size) (ok := fun k_ => (True ∧ some k_ ≠ (.slice Ao46 t212.length co46 : Value).ownBlock)) (n := t204.length) (c := co40) ?_).2.2; exact (by (with_reducible repeat (first | apply Kd.R_alloc | apply Kd.R_drewN | apply Kd.R_drew)); exact (Kd.R_mono (Kd.R_far (p := ⟨gb216, 1, none⟩) (Kd.R_far (p := ⟨gb216, 0, none⟩) (Kd.R_types HO206.out BK216.out (by decide)) (fun _ hk => hk.2) (.slice Ao43 t209.length co43)) (fun _ hk => hk.2) (.slice Ao46 t212.length co46)) (fun _ h_ => h_.1)))); (case side4 => exact (Kd.R_reads' HO206.out).2.1); (case side5 => refine (Kd.R_reads' (e := 3) (base := w.heap.size) (ok := fun k_ => (True ∧ some k_ ≠ (.slice Ao38 t201.length co38 : Value).ownBlock)) (n := t209.length) (c := co43) ?_).2.2; exact (by (with_reducible repeat (first | apply Kd.R_alloc | apply Kd.R_drewN | apply Kd.R_drew)); exact (Kd.R_mono (Kd.R_far (p := ⟨gb216, 1, none⟩) (Kd.R_far (p := ⟨gb216, 0, none⟩) (Kd.R_types HO211.out BK216.out (by decide)) (fun _ hk => hk.2) (.slice Ao43 t209.length co43)) (fun _ hk => hk.2) (.slice Ao46 t212.length co46)) (fun _ h_ => h_.1)))); (case side6 => exact (Kd.R_reads' HO211.out).2.1); (case side7 => refine (Kd.R_reads' (e := 4) (base := w.heap.size) (ok := fun k_ => (True ∧ some k_ ≠ (.slice Ao40 t204.length co40 : Value).ownBlock)) (n := t212.length) (c := co46) ?_).2.2; exact (by (with_reducible repeat (first | apply Kd.R_alloc | apply Kd.R_drewN | apply Kd.R_drew)); exact (Kd.R_mono (Kd.R_far (p := ⟨gb216, 1, none⟩) (Kd.R_far (p := ⟨gb216, 0, none⟩) (Kd.R_types HO214.out BK216.out (by decide)) (fun _ hk => hk.2) (.slice Ao43 t209.length co43)) (fun _ hk => hk.2) (.slice Ao46 t212.length co46)) (fun _ h_ => h_.1)))); (case side8 => exact (Kd.R_reads' HO214.out).2.1); rintro e w48 ⟨rfl, hb⟩; refine ⟨_, rfl, ?_⟩; have n0_ := Aside0.mk (Kd.R_below (by (with_reducible repeat (first | apply Kd.R_alloc | apply Kd.R_drewN | apply Kd.R_drew)); exact (Kd.R_mono (Kd.R_far (p := ⟨gb216, 1, none⟩) (Kd.R_far (p := ⟨gb216, 0, none⟩) (Kd.R_types HO203.out BK216.out (by decide)) (fun _ hk => hk.2) (.slice Ao43 t209.length co43)) (fun _ hk => hk.2) (.slice Ao46 t212.length co46)) (fun _ h_ => h_.1))) hb); have n1_ := Aside0.mk (Kd.R_below (by (with_reducible repeat (first | apply Kd.R_alloc | apply Kd.R_drewN | apply Kd.R_drew)); exact (Kd.R_mono (Kd.R_far (p := ⟨gb216, 1, none⟩) (Kd.R_far (p := ⟨gb216, 0, none⟩) (Kd.R_types HO206.out BK216.out (by decide)) (fun _ hk => hk.2) (.slice Ao43 t209.length co43)) (fun _ hk => hk.2) (.slice Ao46 t212.length co46)) (fun _ h_ => h_.1))) hb); have n2_ := Aside0.mk (Kd.R_below (by (with_reducible repeat (first | apply Kd.R_alloc | apply Kd.R_drewN | apply Kd.R_drew)); exact (Kd.R_mono (Kd.R_far (p := ⟨gb216, 1, none⟩) (Kd.R_far (p := ⟨gb216, 0, none⟩) (Kd.R_types HO211.out BK216.out (by decide)) (fun _ hk => hk.2) (.slice Ao43 t209.length co43)) (fun _ hk => hk.2) (.slice Ao46 t212.length co46)) (fun _ h_ => h_.1))) hb); have n3_ := Aside0.mk (Kd.R_below (by (with_reducible repeat (first | apply Kd.R_alloc | apply Kd.R_drewN | apply Kd.R_drew)); exact (Kd.R_mono (Kd.R_far (p := ⟨gb216, 1, none⟩) (Kd.R_far (p := ⟨gb216, 0, none⟩) (Kd.R_types HO214.out BK216.out (by decide)) (fun _ hk => hk.2) (.slice Ao43 t209.length co43)) (fun _ hk => hk.2) (.slice Ao46 t212.length co46)) (fun _ h_ => h_.1))) hb); have n4_ := Aside0.mk (blk_below (g := gb208) (o := .cells #[.slice Ao38 t201.length co38, .slice Ao40 t204.length co40] 28 (0, 0)) (by (with_reducible repeat (first | refine blk_drewN ?_ _ | refine blk_drew ?_ | refine blk_alloc ?_ _)); refine blk_far ?_ NB208_216.out _; (with_reducible repeat (first | refine blk_drewN ?_ _ | refine blk_drew ?_ | refine blk_alloc ?_ _)); refine blk_far ?_ NB208_216.out _; (with_reducible repeat (first | refine blk_drewN ?_ _ | refine blk_drew ?_ | refine blk_alloc ?_ _)); exact BK208.out) hb); have n5_ := Aside0.mk (blk_below (g := gb216) (o := .cells #[.slice Ao43 t209.length co43, .slice Ao46 t212.length co46] 28 (0, 0)) (by (with_reducible repeat (first | refine blk_drewN ?_ _ | refine blk_drew ?_ | refine blk_alloc ?_ _)); refine blk_put (cs := #[.slice Ao43 t209.length co43, .slice none 0 0]) ?_ 1 _ rfl; (with_reducible repeat (first | refine blk_drewN ?_ _ | refine blk_drew ?_ | refine blk_alloc ?_ _)); refine blk_put (cs := #[.slice none 0 0, .slice none 0 0]) ?_ 0 _ rfl; (with_reducible repeat (first | refine blk_drewN ?_ _ | refine blk_drew ?_ | refine blk_alloc ?_ _)); exact BK216.out) hb); have n6_ := Aside0.mk (below_step (by repeat (first | (with_reducible first | exact HB.out | apply below_alloc | apply pw_below_drewN | apply below_drew1 | refine below_set ?_ GE208.out | refine below_set ?_ GE216.out) | exact HB.out)) hb); clear HO203; clear HO206; clear HO211; clear HO214; clear BK208; clear BK216; clear HB; have HO203 := n0_; have HO206 := n1_; have HO211 := n2_; have HO214 := n3_; have BK208 := n4_; have BK216 := n5_; have HB := n6_; clear n0_ n1_ n2_ n3_ n4_ n5_ n6_; (try clear hb); (try clear hb2); (try clear hk); (try clear hi)) | (go_at_call 14; (with_reducible refine (tags_Check.calls kj4 _ _ l0 t218 _ ?side1 ?side2 ?side3 A15.out).mono ?_); (case side1 => repeat (first | exact (Kd.C_below HR0.out HB.out) | (with_reducible refine Kd.C_alloc ?_ _) | (with_reducible refine Kd.C_drewN ?_ _) | (with_reducible refine Kd.C_drew ?_))); (case side2 => exact HC0.out); (case side3 => exact Tabs.below hT (by repeat (first | (with_reducible first | exact HB.out | apply below_alloc | apply pw_below_drewN | apply below_drew1 | refine below_set ?_ GE208.out | refine below_set ?_ GE216.out) | exact HB.out))); rintro e w49 ⟨rfl, hb⟩; have n0_ := Aside0.mk (Kd.R_below (by (with_reducible repeat (first | apply Kd.R_alloc | apply Kd.R_drewN | apply Kd.R_drew)); exact HO203.out) hb); have n1_ := Aside0.mk (Kd.R_below (by (with_reducible repeat (first | apply Kd.R_alloc | apply Kd.R_drewN | apply Kd.R_drew)); exact HO206.out) hb); have n2_ := Aside0.mk (Kd.R_below (by (with_reducible repeat (first | apply Kd.R_alloc | apply Kd.R_drewN | apply Kd.R_drew)); exact HO211.out) hb); have n3_ := Aside0.mk (Kd.R_below (by (with_reducible repeat (first | apply Kd.R_alloc | apply Kd.R_drewN | apply Kd.R_drew)); exact HO214.out) hb); have n4_ := Aside0.mk (blk_below (g := gb208) (o := .cells #[.slice Ao38 t201.length co38, .slice Ao40 t204.length co40] 28 (0, 0)) (by (with_reducible repeat (first | refine blk_drewN ?_ _ | refine blk_drew ?_ | refine blk_alloc ?_ _)); exact BK208.out) hb); have n5_ := Aside0.mk (blk_below (g := gb216) (o := .cells #[.slice Ao43 t209.length co43, .slice Ao46 t212.length co46] 28 (0, 0)) (by (with_reducible repeat (first | refine blk_drewN ?_ _ | refine blk_drew ?_ | refine blk_alloc ?_ _)); exact BK216.out) hb); have n6_ := Aside0.mk (below_step (by repeat (first | (with_reducible first | exact HB.out | apply below_alloc | apply pw_below_drewN | apply below_drew1 | refine below_set ?_ GE208.out | refine below_set ?_ GE216.out) | exact HB.out)) hb); clear HO203; clear HO206; clear HO211; clear HO214; clear BK208; clear BK216; clear HB; have HO203 := n0_; have HO206 := n1_; have HO211 := n2_; have HO214 := n3_; have BK208 := n4_; have BK216 := n5_; have HB := n6_; clear n0_ n1_ n2_ n3_ n4_ n5_ n6_; (try clear hb); (try clear hb2); (try clear hk); (try clear hi)) | (go_at_call 15; (with_reducible refine (malthouseref08_Check.calls kj4 _ _ l0 t219 _ ?side1 ?side2 A16.out).mono ?_); (case side1 => repeat (first | exact (Kd.C_below HR0.out HB.out) | (with_reducible refine Kd.C_alloc ?_ _) | (with_reducible refine Kd.C_drewN ?_ _) | (with_reducible refine Kd.C_drew ?_))); (case side2 => exact HC0.out); rintro e w50 ⟨rfl, hb⟩; have n0_ := Aside0.mk (Kd.R_below (by (with_reducible repeat (first | apply Kd.R_alloc | apply Kd.R_drewN | apply Kd.R_drew)); exact HO203.out) hb); have n1_ := Aside0.mk (Kd.R_below (by (with_reducible repeat (first | apply Kd.R_alloc | apply Kd.R_drewN | apply Kd.R_drew)); exact HO206.out) hb); have n2_ := Aside0.mk (Kd.R_below (by (with_reducible repeat (first | apply Kd.R_alloc | apply Kd.R_drewN | apply Kd.R_drew)); exact HO211.out) hb); have n3_ := Aside0.mk (Kd.R_below (by (with_reducible repeat (first | apply Kd.R_alloc | apply Kd.R_drewN | apply Kd.R_drew)); exact HO214.out) hb); have n4_ := Aside0.mk (blk_below (g := gb208) (o := .cells #[.slice Ao38 t201.length co38, .slice Ao40 t204.length co40] 28 (0, 0)) (by (with_reducible repeat (first | refine blk_drewN ?_ _ | refine blk_drew ?_ | refine blk_alloc ?_ _)); exact BK208.out) hb); have n5_ := Aside0.mk (blk_below (g := gb216) (o := .cells #[.slice Ao43 t209.length co43, .slice Ao46 t212.length co46] 28 (0, 0)) (by (with_reducible repeat (first | refine blk_drewN ?_ _ | refine blk_drew ?_ | refine blk_alloc ?_ _)); exact BK216.out) hb); have n6_ := Aside0.mk (below_step (by repeat (first | (with_reducible first | exact HB.out | apply below_alloc | apply pw_below_drewN | apply below_drew1 | refine below_set ?_ GE208.out | refine below_set ?_ GE216.out) | exact HB.out)) hb); clear HO203; clear HO206; clear HO211; clear HO214; clear BK208; clear BK216; clear HB; have HO203 := n0_; have HO206 := n1_; have HO211 := n2_; have HO214 := n3_; have BK208 := n4_; have BK216 := n5_; have HB := n6_; clear n0_ n1_ n2_ n3_ n4_ n5_ n6_; (try clear hb); (try clear hb2); (try clear hk); (try clear hi)))
              go_ret
              exact ⟨by first | rfl | (simp [errW_none, errW_some] <;> rfl) | (simp [*, errW_none, errW_some] <;> rfl), by repeat (first | (with_reducible first | exact HB.out | apply below_alloc | apply pw_below_drewN | apply below_drew1 | refine below_set ?_ GE208.out | refine below_set ?_ GE216.out) | exact HB.out)⟩
          · rw [if_neg c14] at H
            have c14b0 : (t207 == t215) = false := beq_eq_false_iff_ne.mpr c14
            have c14b1 : (t207 != t215) = true := bne_iff_ne.mpr c14
            obtain rfl := Option.some.inj H
            go_wp2_with (first | ((with_reducible refine gate_callee (f := 11) rfl ?_); refine goesL_ (some 29) rfl rfl Tryd.func11 (by kernel_rfl) rfl #[.slice A0 l0.length c0] rfl (by (try simp only [List.map_toArray, List.map_cons, List.map_nil]); first | done | rfl | (simp only [List.length_drop, List.length_take]; rfl)) ?_; (with_reducible refine (tags_New.calls kj4 _ _ l0 t201 t204 t207 _ ?side1 ?side2 ?side3 A10.out).mono ?_); (case side1 => repeat (first | exact (Kd.C_below HR0.out HB.out) | (with_reducible refine Kd.C_alloc ?_ _) | (with_reducible refine Kd.C_drewN ?_ _) | (with_reducible refine Kd.C_drew ?_))); (case side2 => exact HC0.out); (case side3 => exact Tabs.below hT (by repeat (first | (with_reducible first | exact HB.out | apply below_alloc | apply pw_below_drewN | apply below_drew1) | exact HB.out))); rintro e w51 ⟨v202, v205, rfl, ho0, ho1, hb⟩; refine ⟨_, rfl, ?_⟩; have n0_ := Aside0.mk (Kd.R_lower ho0 (below_size (by repeat (first | (with_reducible first | exact HB.out | apply below_alloc | apply pw_below_drewN | apply below_drew1) | exact HB.out)))); have n1_ := Aside0.mk (Kd.R_lower ho1 (below_size (by repeat (first | (with_reducible first | exact HB.out | apply below_alloc | apply pw_below_drewN | apply below_drew1) | exact HB.out)))); have n2_ := Aside0.mk (below_step (by repeat (first | (with_reducible first | exact HB.out | apply below_alloc | apply pw_below_drewN | apply below_drew1) | exact HB.out)) hb); clear HB; have HO203 := n0_; have HO206 := n1_; have HB := n2_; clear n0_ n1_ n2_; (try clear hb); (try clear hb2); (try clear hk); (try clear hi); (try clear ho0); (try clear ho1)) | ((with_reducible refine gate_dst (N := 7) rfl ?_); (try (refine gate_guard (by rfl) ?_; dsimp only)); refine box_event ?hg (N := 7) ?hd (cs := #[.slice none 0 0, .slice none 0 0]) (t := 28) ?hr ?_; (case hd => rfl); (case hg => rfl); (case hr => first | (go_simp; done) | (go_simp; rfl)); intro gb208 hg w52 hbox hb; have n0_ := Aside0.mk (Kd.R_below (by (with_reducible repeat (first | apply Kd.R_alloc | apply Kd.R_drewN | apply Kd.R_drew)); exact HO203.out) hb); have n1_ := Aside0.mk (Kd.R_below (by (with_reducible repeat (first | apply Kd.R_alloc | apply Kd.R_drewN | apply Kd.R_drew)); exact HO206.out) hb); have n2_ := Aside0.mk (below_step (by repeat (first | (with_reducible first | exact HB.out | apply below_alloc | apply pw_below_drewN | apply below_drew1) | exact HB.out)) hb); have n3_ := Aside0.mk (hbox); have n4_ := Aside0.mk ((by rw [hg]; exact (below_size (by repeat (first | (with_reducible first | exact HB.out | apply below_alloc | apply pw_below_drewN | apply below_drew1) | exact HB.out))) : w.heap.size ≤ gb208)); have n5_ := Aside0.mk ((by rw [hg]; exact (below_size (by repeat (first | (with_reducible first | exact HB.out | apply below_alloc | apply pw_below_drewN | apply below_drew1) | exact HB.out))) : w.heap.size ≤ gb208)); clear HO203; clear HO206; clear HB; have HO203 := n0_; have HO206 := n1_; have HB := n2_; have BK208 := n3_; have GW208 := n4_; have GE208 := n5_; clear n0_ n1_ n2_ n3_ n4_ n5_; clear hb hbox hg; obtain ⟨Ao53, co53, eo53⟩ := Kd.R_slice HO203.out; subst eo53; have hcz54_0 : w52.cell? ⟨gb208, 0, none⟩ = some (.slice none 0 0) := (blk_cell BK208.out 0).trans rfl; have hcz54_1 : w52.cell? ⟨gb208, 1, none⟩ = some (.slice none 0 0) := (blk_cell BK208.out 1).trans rfl; have hfz54_0 := blk_frozen BK208.out 0; have hfz54_1 := blk_frozen BK208.out 1; obtain ⟨Ao55, co55, eo55⟩ := Kd.R_slice HO206.out; subst eo55) | ((with_reducible refine gate_callee (f := 12) rfl ?_); refine goesL_ (some 34) rfl rfl Tryd.func12 (by kernel_rfl) rfl #[.slice A0 l0.length c0] rfl (by (try simp only [List.map_toArray, List.map_cons, List.map_nil]); first | done | rfl | (simp only [List.length_drop, List.length_take]; rfl)) ?_; (with_reducible refine (malthouseref08_New.calls kj4 _ _ l0 t209 t212 t215 _ ?side1 ?side2 A11.out).mono ?_); (case side1 => exact Kd.C_below HR0.out (by repeat (first | (with_reducible first | exact HB.out | apply below_alloc | apply pw_below_drewN | apply below_drew1 | refine below_set ?_ GE208.out) | exact HB.out))); (case side2 => exact HC0.out); rintro e w56 ⟨v210, v213, rfl, ho0, ho1, hb⟩; refine ⟨_, rfl, ?_⟩; have n0_ := Aside0.mk (Kd.R_elder' (by (with_reducible repeat (first | apply Kd.R_alloc | apply Kd.R_drewN | apply Kd.R_drew)); exact (Kd.R_mono (Kd.R_far (p := ⟨gb208, 1, none⟩) (Kd.R_far (p := ⟨gb208, 0, none⟩) (Kd.R_types HO203.out BK208.out (by decide)) (fun _ hk => hk.2) (.slice Ao53 t201.length co53)) (fun _ hk => hk.2) (.slice Ao55 t204.length co55)) (fun _ h_ => h_.1))) (Kd.R_base ho0) hb); have n1_ := Aside0.mk (Kd.R_elder' (by (with_reducible repeat (first | apply Kd.R_alloc | apply Kd.R_drewN | apply Kd.R_drew)); exact (Kd.R_mono (Kd.R_far (p := ⟨gb208, 1, none⟩) (Kd.R_far (p := ⟨gb208, 0, none⟩) (Kd.R_types HO206.out BK208.out (by decide)) (fun _ hk => hk.2) (.slice Ao53 t201.length co53)) (fun _ hk => hk.2) (.slice Ao55 t204.length co55)) (fun _ h_ => h_.1))) (Kd.R_base ho1) hb); have n2_ := Aside0.mk (Kd.R_lower (Kd.R_new' ho0 (Kd.R_lt (by (with_reducible repeat (first | apply Kd.R_alloc | apply Kd.R_drewN | apply Kd.R_drew)); exact (Kd.R_mono (Kd.R_far (p := ⟨gb208, 1, none⟩) (Kd.R_far (p := ⟨gb208, 0, none⟩) (Kd.R_types HO203.out BK208.out (by decide)) (fun _ hk => hk.2) (.slice Ao53 t201.length co53)) (fun _ hk => hk.2) (.slice Ao55 t204.length co55)) (fun _ h_ => h_.1))))) (below_size (by repeat (first | (with_reducible first | exact HB.out | apply below_alloc | apply pw_below_drewN | apply below_drew1 | refine below_set ?_ GE208.out) | exact HB.out)))); have n3_ := Aside0.mk (Kd.R_lower (Kd.R_new' ho1 (Kd.R_lt (by (with_reducible repeat (first | apply Kd.R_alloc | apply Kd.R_drewN | apply Kd.R_drew)); exact (Kd.R_mono (Kd.R_far (p := ⟨gb208, 1, none⟩) (Kd.R_far (p := ⟨gb208, 0, none⟩) (Kd.R_types HO206.out BK208.out (by decide)) (fun _ hk => hk.2) (.slice Ao53 t201.length co53)) (fun _ hk => hk.2) (.slice Ao55 t204.length co55)) (fun _ h_ => h_.1))))) (below_size (by repeat (first | (with_reducible first | exact HB.out | apply below_alloc | apply pw_below_drewN | apply below_drew1 | refine below_set ?_ GE208.out) | exact HB.out)))); have n4_ := Aside0.mk (blk_below (g := gb208) (o := .cells #[.slice Ao53 t201.length co53, .slice Ao55 t204.length co55] 28 (0, 0)) (by (with_reducible repeat (first | refine blk_drewN ?_ _ | refine blk_drew ?_ | refine blk_alloc ?_ _)); refine blk_put (cs := #[.slice Ao53 t201.length co53, .slice none 0 0]) ?_ 1 _ rfl; (with_reducible repeat (first | refine blk_drewN ?_ _ | refine blk_drew ?_ | refine blk_alloc ?_ _)); refine blk_put (cs := #[.slice none 0 0, .slice none 0 0]) ?_ 0 _ rfl; (with_reducible repeat (first | refine blk_drewN ?_ _ | refine blk_drew ?_ | refine blk_alloc ?_ _)); exact BK208.out) hb); have n5_ := Aside0.mk (below_step (by repeat (first | (with_reducible first | exact HB.out | apply below_alloc | apply pw_below_drewN | apply below_drew1 | refine below_set ?_ GE208.out) | exact HB.out)) hb); clear HO203; clear HO206; clear BK208; clear HB; have HO203 := n0_; have HO206 := n1_; have HO211 := n2_; have HO214 := n3_; have BK208 := n4_; have HB := n5_; clear n0_ n1_ n2_ n3_ n4_ n5_; (try clear hb); (try clear hb2); (try clear hk); (try clear hi); (try clear ho0); (try clear ho1)) | ((with_reducible refine gate_dst (N := 9) rfl ?_); (try (refine gate_guard (by rfl) ?_; dsimp only)); refine box_event ?hg (N := 9) ?hd (cs := #[.slice none 0 0, .slice none 0 0]) (t := 28) ?hr ?_; (case hd => rfl); (case hg => rfl); (case hr => first | (go_simp; done) | (go_simp; rfl)); intro gb216 hg w57 hbox hb; have n0_ := Aside0.mk (Kd.R_below (by (with_reducible repeat (first | apply Kd.R_alloc | apply Kd.R_drewN | apply Kd.R_drew)); exact HO203.out) hb); have n1_ := Aside0.mk (Kd.R_below (by (with_reducible repeat (first | apply Kd.R_alloc | apply Kd.R_drewN | apply Kd.R_drew)); exact HO206.out) hb); have n2_ := Aside0.mk (Kd.R_below (by (with_reducible repeat (first | apply Kd.R_alloc | apply Kd.R_drewN | apply Kd.R_drew)); exact HO211.out) hb); have n3_ := Aside0.mk (Kd.R_below (by (with_reducible repeat (first | apply Kd.R_alloc | apply Kd.R_drewN | apply Kd.R_drew)); exact HO214.out) hb); have n4_ := Aside0.mk (blk_below (g := gb208) (o := .cells #[.slice Ao53 t201.length co53, .slice Ao55 t204.length co55] 28 (0, 0)) (by (with_reducible repeat (first | refine blk_drewN ?_ _ | refine blk_drew ?_ | refine blk_alloc ?_ _)); exact BK208.out) hb); have n5_ := Aside0.mk (below_step (by repeat (first | (with_reducible first | exact HB.out | apply below_alloc | apply pw_below_drewN | apply below_drew1 | refine below_set ?_ GE208.out) | exact HB.out)) hb); have n6_ := Aside0.mk (hbox); have n7_ := Aside0.mk ((by rw [hg]; exact (below_size (by repeat (first | (with_reducible first | exact HB.out | apply below_alloc | apply pw_below_drewN | apply below_drew1 | refine below_set ?_ GE208.out) | exact HB.out))) : w.heap.size ≤ gb216)); have n8_ := Aside0.mk ((by rw [hg]; exact (below_size (by repeat (first | (with_reducible first | exact HB.out | apply below_alloc | apply pw_below_drewN | apply below_drew1 | refine below_set ?_ GE208.out) | exact HB.out))) : w.heap.size ≤ gb216)); have n9_ := Aside0.mk ((by rw [hg]; exact Nat.ne_of_lt (blk_lt (g := gb208) (o := .cells #[.slice Ao53 t201.length co53, .slice Ao55 t204.length co55] 28 (0, 0)) (by (with_reducible repeat (first | refine blk_drewN ?_ _ | refine blk_drew ?_ | refine blk_alloc ?_ _)); exact BK208.out)) : gb208 ≠ gb216)); have n10_ := Aside0.mk ((by rw [hg]; exact Nat.ne_of_gt (blk_lt (g := gb208) (o := .cells #[.slice Ao53 t201.length co53, .slice Ao55 t204.length co55] 28 (0, 0)) (by (with_reducible repeat (first | refine blk_drewN ?_ _ | refine blk_drew ?_ | refine blk_alloc ?_ _)); exact BK208.out)) : gb216 ≠ gb208)); clear HO203; clear HO206; clear HO211; clear HO214; clear BK208; clear HB; have HO203 := n0_; have HO206 := n1_; have HO211 := n2_; have HO214 := n3_; have BK208 := n4_; have HB := n5_; have BK216 := n6_; have GW216 := n7_; have GE216 := n8_; have NB208_216 := n9_; have NB216_208 := n10_; clear n0_ n1_ n2_ n3_ n4_ n5_ n6_ n7_ n8_ n9_ n10_; clear hb hbox hg; obtain ⟨Ao58, co58, eo58⟩ := Kd.R_slice HO211.out; subst eo58; have hnb59 := NB216_208.out; have hnc59 := NB208_216.out; have hcz60_0 : w57.cell? ⟨gb216, 0, none⟩ = some (.slice none 0 0) := (blk_cell BK216.out 0).trans rfl; have hcz60_1 : w57.cell? ⟨gb216, 1, none⟩ = some (.slice none 0 0) := (blk_cell BK216.out 1).trans rfl; have hfz60_0 := blk_frozen BK216.out 0; have hfz60_1 := blk_frozen BK216.out 1; obtain ⟨Ao61, co61, eo61⟩ := Kd.R_slice HO214.out; subst eo61; have hcz62_0 : w57.cell? ⟨gb208, 0, none⟩ = some (.slice Ao53 t201.length co53) := (blk_cell BK208.out 0).trans rfl; have hcz62_1 : w57.cell? ⟨gb208, 1, none⟩ = some (.slice Ao55 t204.length co55) := (blk_cell BK208.out 1).trans rfl; have hfz62_0 := blk_frozen BK208.out 0; have hfz62_1 := blk_frozen BK208.out 1) | ((with_reducible refine gate_callee (f := 13) rfl ?_); refine goesL_ (some 39) rfl rfl Tryd.func13 (by kernel_rfl) rfl #[.agg #[.slice Ao53 t201.length co53, .slice Ao55 t204.length co55], .agg #[.slice Ao58 t209.length co58, .slice Ao61 t212.length co61]] rfl (by (try simp only [List.map_toArray, List.map_cons, List.map_nil]); first | done | rfl | (simp only [List.length_drop, List.length_take]; rfl)) ?_; (with_reducible refine (malthouseref08_Same.calls kj4 _ _ t201 _ _ t204 _ _ t209 _ _ t212 true _ ?side1 ?side2 ?side3 ?side4 ?side5 ?side6 ?side7 ?side8 A12.out).mono ?_); (case side1 => refine (Kd.R_reads' (e := 3) (base := w.heap.size) (ok := fun k_ => (True ∧ some k_ ≠ (.slice Ao58 t209.length co58 : Value).ownBlock)) (n := t201.length) (c := co53) ?_).2.2; exact (by (with_reducible repeat (first | apply Kd.R_alloc | apply Kd.R_drewN | apply Kd.R_drew)); exact (Kd.R_mono (Kd.R_far (p := ⟨gb216, 1, none⟩) (Kd.R_far (p := ⟨gb216, 0, none⟩) (Kd.R_types HO203.out BK216.out (by decide)) (fun _ hk => hk.2) (.slice Ao58 t209.length co58)) (fun _ hk => hk.2) (.slice Ao61 t212.length co61)) (fun _ h_ => h_.1)))); (case side2 => exact (Kd.R_reads' HO203.out).2.1); (case side3 => refine (Kd.R_reads' (e := 4) (base := w.heap.size) (ok := fun k_ => (True ∧ some k_ ≠ (.slice Ao61 t212.length co61 : Value).ownBlock)) (n := t204.length) (c := co55) ?_).2.2; exact (by (with_reducible repeat (first | apply Kd.R_alloc | apply Kd.R_drewN | apply Kd.R_drew)); exact (Kd.R_mono (Kd.R_far (p := ⟨gb216, 1, none⟩) (Kd.R_far (p := ⟨gb216, 0, none⟩) (Kd.R_types HO206.out BK216.out (by decide)) (fun _ hk => hk.2) (.slice Ao58 t209.length co58)) (fun _ hk => hk.2) (.slice Ao61 t212.length co61)) (fun _ h_ => h_.1)))); (case side4 => exact (Kd.R_reads' HO206.out).2.1); (case side5 => refine (Kd.R_reads' (e := 3) (base := w.heap.size) (ok := fun k_ => (True ∧ some k_ ≠ (.slice Ao53 t201.length co53 : Value).ownBlock)) (n := t209.length) (c := co58) ?_).2.2; exact (by (with_reducible repeat (first | apply Kd.R_alloc | apply Kd.R_drewN | apply Kd.R_drew)); exact (Kd.R_mono (Kd.R_far (p := ⟨gb216, 1, none⟩) (Kd.R_far (p := ⟨gb216, 0, none⟩) (Kd.R_types HO211.out BK216.out (by decide)) (fun _ hk => hk.2) (.slice Ao58 t209.length co58)) (fun _ hk => hk.2) (.slice Ao61 t212.length co61)) (fun _ h_ => h_.1)))); (case side6 => exact (Kd.R_reads' HO211.out).2.1); (case side7 => refine (Kd.R_reads' (e := 4) (base := w.heap.size) (ok := fun k_ => (True ∧ some k_ ≠ (.slice Ao55 t204.length co55 : Value).ownBlock)) (n := t212.length) (c := co61) ?_).2.2; exact (by (with_reducible repeat (first | apply Kd.R_alloc | apply Kd.R_drewN | apply Kd.R_drew)); exact (Kd.R_mono (Kd.R_far (p := ⟨gb216, 1, none⟩) (Kd.R_far (p := ⟨gb216, 0, none⟩) (Kd.R_types HO214.out BK216.out (by decide)) (fun _ hk => hk.2) (.slice Ao58 t209.length co58)) (fun _ hk => hk.2) (.slice Ao61 t212.length co61)) (fun _ h_ => h_.1)))); (case side8 => exact (Kd.R_reads' HO214.out).2.1); rintro e w63 ⟨rfl, hb⟩; refine ⟨_, rfl, ?_⟩; have n0_ := Aside0.mk (Kd.R_below (by (with_reducible repeat (first | apply Kd.R_alloc | apply Kd.R_drewN | apply Kd.R_drew)); exact (Kd.R_mono (Kd.R_far (p := ⟨gb216, 1, none⟩) (Kd.R_far (p := ⟨gb216, 0, none⟩) (Kd.R_types HO203.out BK216.out (by decide)) (fun _ hk => hk.2) (.slice Ao58 t209.length co58)) (fun _ hk => hk.2) (.slice Ao61 t212.length co61)) (fun _ h_ => h_.1))) hb); have n1_ := Aside0.mk (Kd.R_below (by (with_reducible repeat (first | apply Kd.R_alloc | apply Kd.R_drewN | apply Kd.R_drew)); exact (Kd.R_mono (Kd.R_far (p := ⟨gb216, 1, none⟩) (Kd.R_far (p := ⟨gb216, 0, none⟩) (Kd.R_types HO206.out BK216.out (by decide)) (fun _ hk => hk.2) (.slice Ao58 t209.length co58)) (fun _ hk => hk.2) (.slice Ao61 t212.length co61)) (fun _ h_ => h_.1))) hb); have n2_ := Aside0.mk (Kd.R_below (by (with_reducible repeat (first | apply Kd.R_alloc | apply Kd.R_drewN | apply Kd.R_drew)); exact (Kd.R_mono (Kd.R_far (p := ⟨gb216, 1, none⟩) (Kd.R_far (p := ⟨gb216, 0, none⟩) (Kd.R_types HO211.out BK216.out (by decide)) (fun _ hk => hk.2) (.slice Ao58 t209.length co58)) (fun _ hk => hk.2) (.slice Ao61 t212.length co61)) (fun _ h_ => h_.1))) hb); have n3_ := Aside0.mk (Kd.R_below (by (with_reducible repeat (first | apply Kd.R_alloc | apply Kd.R_drewN | apply Kd.R_drew)); exact (Kd.R_mono (Kd.R_far (p := ⟨gb216, 1, none⟩) (Kd.R_far (p := ⟨gb216, 0, none⟩) (Kd.R_types HO214.out BK216.out (by decide)) (fun _ hk => hk.2) (.slice Ao58 t209.length co58)) (fun _ hk => hk.2) (.slice Ao61 t212.length co61)) (fun _ h_ => h_.1))) hb); have n4_ := Aside0.mk (blk_below (g := gb208) (o := .cells #[.slice Ao53 t201.length co53, .slice Ao55 t204.length co55] 28 (0, 0)) (by (with_reducible repeat (first | refine blk_drewN ?_ _ | refine blk_drew ?_ | refine blk_alloc ?_ _)); refine blk_far ?_ NB208_216.out _; (with_reducible repeat (first | refine blk_drewN ?_ _ | refine blk_drew ?_ | refine blk_alloc ?_ _)); refine blk_far ?_ NB208_216.out _; (with_reducible repeat (first | refine blk_drewN ?_ _ | refine blk_drew ?_ | refine blk_alloc ?_ _)); exact BK208.out) hb); have n5_ := Aside0.mk (blk_below (g := gb216) (o := .cells #[.slice Ao58 t209.length co58, .slice Ao61 t212.length co61] 28 (0, 0)) (by (with_reducible repeat (first | refine blk_drewN ?_ _ | refine blk_drew ?_ | refine blk_alloc ?_ _)); refine blk_put (cs := #[.slice Ao58 t209.length co58, .slice none 0 0]) ?_ 1 _ rfl; (with_reducible repeat (first | refine blk_drewN ?_ _ | refine blk_drew ?_ | refine blk_alloc ?_ _)); refine blk_put (cs := #[.slice none 0 0, .slice none 0 0]) ?_ 0 _ rfl; (with_reducible repeat (first | refine blk_drewN ?_ _ | refine blk_drew ?_ | refine blk_alloc ?_ _)); exact BK216.out) hb); have n6_ := Aside0.mk (below_step (by repeat (first | (with_reducible first | exact HB.out | apply below_alloc | apply pw_below_drewN | apply below_drew1 | refine below_set ?_ GE208.out | refine below_set ?_ GE216.out) | exact HB.out)) hb); clear HO203; clear HO206; clear HO211; clear HO214; clear BK208; clear BK216; clear HB; have HO203 := n0_; have HO206 := n1_; have HO211 := n2_; have HO214 := n3_; have BK208 := n4_; have BK216 := n5_; have HB := n6_; clear n0_ n1_ n2_ n3_ n4_ n5_ n6_; (try clear hb); (try clear hb2); (try clear hk); (try clear hi)))
            go_ret
            exact ⟨by first | rfl | (simp [errW_none, errW_some] <;> rfl) | (simp [*, errW_none, errW_some] <;> rfl), by repeat (first | (with_reducible first | exact HB.out | apply below_alloc | apply pw_below_drewN | apply below_drew1 | refine below_set ?_ GE208.out | refine below_set ?_ GE216.out) | exact HB.out)⟩
        · replace c13 := Bool.eq_false_iff.mpr c13
          subst c13
          have H1 : (some false) = some r := by rw [if_neg (show ¬ (false = true) by decide)] at H; exact H
          clear H
          have H := H1
          clear H1
          obtain rfl := Option.some.inj H
          go_wp2_with (first | ((with_reducible refine gate_callee (f := 11) rfl ?_); refine goesL_ (some 29) rfl rfl Tryd.func11 (by kernel_rfl) rfl #[.slice A0 l0.length c0] rfl (by (try simp only [List.map_toArray, List.map_cons, List.map_nil]); first | done | rfl | (simp only [List.length_drop, List.length_take]; rfl)) ?_; (with_reducible refine (tags_New.calls kj4 _ _ l0 t201 t204 t207 _ ?side1 ?side2 ?side3 A10.out).mono ?_); (case side1 => repeat (first | exact (Kd.C_below HR0.out HB.out) | (with_reducible refine Kd.C_alloc ?_ _) | (with_reducible refine Kd.C_drewN ?_ _) | (with_reducible refine Kd.C_drew ?_))); (case side2 => exact HC0.out); (case side3 => exact Tabs.below hT (by repeat (first | (with_reducible first | exact HB.out | apply below_alloc | apply pw_below_drewN | apply below_drew1) | exact HB.out))); rintro e w64 ⟨v202, v205, rfl, ho0, ho1, hb⟩; refine ⟨_, rfl, ?_⟩; have n0_ := Aside0.mk (Kd.R_lower ho0 (below_size (by repeat (first | (with_reducible first | exact HB.out | apply below_alloc | apply pw_below_drewN | apply below_drew1) | exact HB.out)))); have n1_ := Aside0.mk (Kd.R_lower ho1 (below_size (by repeat (first | (with_reducible first | exact HB.out | apply below_alloc | apply pw_below_drewN | apply below_drew1) | exact HB.out)))); have n2_ := Aside0.mk (below_step (by repeat (first | (with_reducible first | exact HB.out | apply below_alloc | apply pw_below_drewN | apply below_drew1) | exact HB.out)) hb); clear HB; have HO203 := n0_; have HO206 := n1_; have HB := n2_; clear n0_ n1_ n2_; (try clear hb); (try clear hb2); (try clear hk); (try clear hi); (try clear ho0); (try clear ho1)) | ((with_reducible refine gate_dst (N := 7) rfl ?_); (try (refine gate_guard (by rfl) ?_; dsimp only)); refine box_event ?hg (N := 7) ?hd (cs := #[.slice none 0 0, .slice none 0 0]) (t := 28) ?hr ?_; (case hd => rfl); (case hg => rfl); (case hr => first | (go_simp; done) | (go_simp; rfl)); intro gb208 hg w65 hbox hb; have n0_ := Aside0.mk (Kd.R_below (by (with_reducible repeat (first | apply Kd.R_alloc | apply Kd.R_drewN | apply Kd.R_drew)); exact HO203.out) hb); have n1_ := Aside0.mk (Kd.R_below (by (with_reducible repeat (first | apply Kd.R_alloc | apply Kd.R_drewN | apply Kd.R_drew)); exact HO206.out) hb); have n2_ := Aside0.mk (below_step (by repeat (first | (with_reducible first | exact HB.out | apply below_alloc | apply pw_below_drewN | apply below_drew1) | exact HB.out)) hb); have n3_ := Aside0.mk (hbox); have n4_ := Aside0.mk ((by rw [hg]; exact (below_size (by repeat (first | (with_reducible first | exact HB.out | apply below_alloc | apply pw_below_drewN | apply below_drew1) | exact HB.out))) : w.heap.size ≤ gb208)); have n5_ := Aside0.mk ((by rw [hg]; exact (below_size (by repeat (first | (with_reducible first | exact HB.out | apply below_alloc | apply pw_below_drewN | apply below_drew1) | exact HB.out))) : w.heap.size ≤ gb208)); clear HO203; clear HO206; clear HB; have HO203 := n0_; have HO206 := n1_; have HB := n2_; have BK208 := n3_; have GW208 := n4_; have GE208 := n5_; clear n0_ n1_ n2_ n3_ n4_ n5_; clear hb hbox hg; obtain ⟨Ao66, co66, eo66⟩ := Kd.R_slice HO203.out; subst eo66; have hcz67_0 : w65.cell? ⟨gb208, 0, none⟩ = some (.slice none 0 0) := (blk_cell BK208.out 0).trans rfl; have hcz67_1 : w65.cell? ⟨gb208, 1, none⟩ = some (.slice none 0 0) := (blk_cell BK208.out 1).trans rfl; have hfz67_0 := blk_frozen BK208.out 0; have hfz67_1 := blk_frozen BK208.out 1; obtain ⟨Ao68, co68, eo68⟩ := Kd.R_slice HO206.out; subst eo68) | ((with_reducible refine gate_callee (f := 12) rfl ?_); refine goesL_ (some 34) rfl rfl Tryd.func12 (by kernel_rfl) rfl #[.slice A0 l0.length c0] rfl (by (try simp only [List.map_toArray, List.map_cons, List.map_nil]); first | done | rfl | (simp only [List.length_drop, List.length_take]; rfl)) ?_; (with_reducible refine (malthouseref08_New.calls kj4 _ _ l0 t209 t212 t215 _ ?side1 ?side2 A11.out).mono ?_); (case side1 => exact Kd.C_below HR0.out (by repeat (first | (with_reducible first | exact HB.out | apply below_alloc | apply pw_below_drewN | apply below_drew1 | refine below_set ?_ GE208.out) | exact HB.out))); (case side2 => exact HC0.out); rintro e w69 ⟨v210, v213, rfl, ho0, ho1, hb⟩; refine ⟨_, rfl, ?_⟩; have n0_ := Aside0.mk (Kd.R_elder' (by (with_reducible repeat (first | apply Kd.R_alloc | apply Kd.R_drewN | apply Kd.R_drew)); exact (Kd.R_mono (Kd.R_far (p := ⟨gb208, 1, none⟩) (Kd.R_far (p := ⟨gb208, 0, none⟩) (Kd.R_types HO203.out BK208.out (by decide)) (fun _ hk => hk.2) (.slice Ao66 t201.length co66)) (fun _ hk => hk.2) (.slice Ao68 t204.length co68)) (fun _ h_ => h_.1))) (Kd.R_base ho0) hb); have n1_ := Aside0.mk (Kd.R_elder' (by (with_reducible repeat (first | apply Kd.R_alloc | apply Kd.R_drewN | apply Kd.R_drew)); exact (Kd.R_mono (Kd.R_far (p := ⟨gb208, 1, none⟩) (Kd.R_far (p := ⟨gb208, 0, none⟩) (Kd.R_types HO206.out BK208.out (by decide)) (fun _ hk => hk.2) (.slice Ao66 t201.length co66)) (fun _ hk => hk.2) (.slice Ao68 t204.length co68)) (fun _ h_ => h_.1))) (Kd.R_base ho1) hb); have n2_ := Aside0.mk (Kd.R_lower (Kd.R_new' ho0 (Kd.R_lt (by (with_reducible repeat (first | apply Kd.R_alloc | apply Kd.R_drewN | apply Kd.R_drew)); exact (Kd.R_mono (Kd.R_far (p := ⟨gb208, 1, none⟩) (Kd.R_far (p := ⟨gb208, 0, none⟩) (Kd.R_types HO203.out BK208.out (by decide)) (fun _ hk => hk.2) (.slice Ao66 t201.length co66)) (fun _ hk => hk.2) (.slice Ao68 t204.length co68)) (fun _ h_ => h_.1))))) (below_size (by repeat (first | (with_reducible first | exact HB.out | apply below_alloc | apply pw_below_drewN | apply below_drew1 | refine below_set ?_ GE208.out) | exact HB.out)))); have n3_ := Aside0.mk (Kd.R_lower (Kd.R_new' ho1 (Kd.R_lt (by (with_reducible repeat (first | apply Kd.R_alloc | apply Kd.R_drewN | apply Kd.R_drew)); exact (Kd.R_mono (Kd.R_far (p := ⟨gb208, 1, none⟩) (Kd.R_far (p := ⟨gb208, 0, none⟩) (Kd.R_types HO206.out BK208.out (by decide)) (fun _ hk => hk.2) (.slice Ao66 t201.length co66)) (fun _ hk => hk.2) (.slice Ao68 t204.length co68)) (fun _ h_ => h_.1))))) (below_size (by repeat (first | (with_reducible first | exact HB.out | apply below_alloc | apply pw_below_drewN | apply below_drew1 | refine below_set ?_ GE208.out) | exact HB.out)))); have n4_ := Aside0.mk (blk_below (g := gb208) (o := .cells #[.slice Ao66 t201.length co66, .slice Ao68 t204.length co68] 28 (0, 0)) (by (with_reducible repeat (first | refine blk_drewN ?_ _ | refine blk_drew ?_ | refine blk_alloc ?_ _)); refine blk_put (cs := #[.slice Ao66 t201.length co66, .slice none 0 0]) ?_ 1 _ rfl; (with_reducible repeat (first | refine blk_drewN ?_ _ | refine blk_drew ?_ | refine blk_alloc ?_ _)); refine blk_put (cs := #[.slice none 0 0, .slice none 0 0]) ?_ 0 _ rfl; (with_reducible repeat (first | refine blk_drewN ?_ _ | refine blk_drew ?_ | refine blk_alloc ?_ _)); exact BK208.out) hb); have n5_ := Aside0.mk (below_step (by repeat (first | (with_reducible first | exact HB.out | apply below_alloc | apply pw_below_drewN | apply below_drew1 | refine below_set ?_ GE208.out) | exact HB.out)) hb); clear HO203; clear HO206; clear BK208; clear HB; have HO203 := n0_; have HO206 := n1_; have HO211 := n2_; have HO214 := n3_; have BK208 := n4_; have HB := n5_; clear n0_ n1_ n2_ n3_ n4_ n5_; (try clear hb); (try clear hb2); (try clear hk); (try clear hi); (try clear ho0); (try clear ho1)) | ((with_reducible refine gate_dst (N := 9) rfl ?_); (try (refine gate_guard (by rfl) ?_; dsimp only)); refine box_event ?hg (N := 9) ?hd (cs := #[.slice none 0 0, .slice none 0 0]) (t := 28) ?hr ?_; (case hd => rfl); (case hg => rfl); (case hr => first | (go_simp; done) | (go_simp; rfl)); intro gb216 hg w70 hbox hb; have n0_ := Aside0.mk (Kd.R_below (by (with_reducible repeat (first | apply Kd.R_alloc | apply Kd.R_drewN | apply Kd.R_drew)); exact HO203.out) hb); have n1_ := Aside0.mk (Kd.R_below (by (with_reducible repeat (first | apply Kd.R_alloc | apply Kd.R_drewN | apply Kd.R_drew)); exact HO206.out) hb); have n2_ := Aside0.mk (Kd.R_below (by (with_reducible repeat (first | apply Kd.R_alloc | apply Kd.R_drewN | apply Kd.R_drew)); exact HO211.out) hb); have n3_ := Aside0.mk (Kd.R_below (by (with_reducible repeat (first | apply Kd.R_alloc | apply Kd.R_drewN | apply Kd.R_drew)); exact HO214.out) hb); have n4_ := Aside0.mk (blk_below (g := gb208) (o := .cells #[.slice Ao66 t201.length co66, .slice Ao68 t204.length co68] 28 (0, 0)) (by (with_reducible repeat (first | refine blk_drewN ?_ _ | refine blk_drew ?_ | refine blk_alloc ?_ _)); exact BK208.out) hb); have n5_ := Aside0.mk (below_step (by repeat (first | (with_reducible first | exact HB.out | apply below_alloc | apply pw_below_drewN | apply below_drew1 | refine below_set ?_ GE208.out) | exact HB.out)) hb); have n6_ := Aside0.mk (hbox); have n7_ := Aside0.mk ((by rw [hg]; exact (below_size (by repeat (first | (with_reducible first | exact HB.out | apply below_alloc | apply pw_below_drewN | apply below_drew1 | refine below_set ?_ GE208.out) | exact HB.out))) : w.heap.size ≤ gb216)); have n8_ := Aside0.mk ((by rw [hg]; exact (below_size (by repeat (first | (with_reducible first | exact HB.out | apply below_alloc | apply pw_below_drewN | apply below_drew1 | refine below_set ?_ GE208.out) | exact HB.out))) : w.heap.size ≤ gb216)); have n9_ := Aside0.mk ((by rw [hg]; exact Nat.ne_of_lt (blk_lt (g := gb208) (o := .cells #[.slice Ao66 t201.length co66, .slice Ao68 t204.length co68] 28 (0, 0)) (by (with_reducible repeat (first | refine blk_drewN ?_ _ | refine blk_drew ?_ | refine blk_alloc ?_ _)); exact BK208.out)) : gb208 ≠ gb216)); have n10_ := Aside0.mk ((by rw [hg]; exact Nat.ne_of_gt (blk_lt (g := gb208) (o := .cells #[.slice Ao66 t201.length co66, .slice Ao68 t204.length co68] 28 (0, 0)) (by (with_reducible repeat (first | refine blk_drewN ?_ _ | refine blk_drew ?_ | refine blk_alloc ?_ _)); exact BK208.out)) : gb216 ≠ gb208)); clear HO203; clear HO206; clear HO211; clear HO214; clear BK208; clear HB; have HO203 := n0_; have HO206 := n1_; have HO211 := n2_; have HO214 := n3_; have BK208 := n4_; have HB := n5_; have BK216 := n6_; have GW216 := n7_; have GE216 := n8_; have NB208_216 := n9_; have NB216_208 := n10_; clear n0_ n1_ n2_ n3_ n4_ n5_ n6_ n7_ n8_ n9_ n10_; clear hb hbox hg; obtain ⟨Ao71, co71, eo71⟩ := Kd.R_slice HO211.out; subst eo71; have hnb72 := NB216_208.out; have hnc72 := NB208_216.out; have hcz73_0 : w70.cell? ⟨gb216, 0, none⟩ = some (.slice none 0 0) := (blk_cell BK216.out 0).trans rfl; have hcz73_1 : w70.cell? ⟨gb216, 1, none⟩ = some (.slice none 0 0) := (blk_cell BK216.out 1).trans rfl; have hfz73_0 := blk_frozen BK216.out 0; have hfz73_1 := blk_frozen BK216.out 1; obtain ⟨Ao74, co74, eo74⟩ := Kd.R_slice HO214.out; subst eo74; have hcz75_0 : w70.cell? ⟨gb208, 0, none⟩ = some (.slice Ao66 t201.length co66) := (blk_cell BK208.out 0).trans rfl; have hcz75_1 : w70.cell? ⟨gb208, 1, none⟩ = some (.slice Ao68 t204.length co68) := (blk_cell BK208.out 1).trans rfl; have hfz75_0 := blk_frozen BK208.out 0; have hfz75_1 := blk_frozen BK208.out 1) | ((with_reducible refine gate_callee (f := 13) rfl ?_); refine goesL_ (some 39) rfl rfl Tryd.func13 (by kernel_rfl) rfl #[.agg #[.slice Ao66 t201.length co66, .slice Ao68 t204.length co68], .agg #[.slice Ao71 t209.length co71, .slice Ao74 t212.length co74]] rfl (by (try simp only [List.map_toArray, List.map_cons, List.map_nil]); first | done | rfl | (simp only [List.length_drop, List.length_take]; rfl)) ?_; (with_reducible refine (malthouseref08_Same.calls kj4 _ _ t201 _ _ t204 _ _ t209 _ _ t212 false _ ?side1 ?side2 ?side3 ?side4 ?side5 ?side6 ?side7 ?side8 A12.out).mono ?_); (case side1 => refine (Kd.R_reads' (e := 3) (base := w.heap.size) (ok := fun k_ => (True ∧ some k_ ≠ (.slice Ao71 t209.length co71 : Value).ownBlock)) (n := t201.length) (c := co66) ?_).2.2; exact (by (with_reducible repeat (first | apply Kd.R_alloc | apply Kd.R_drewN | apply Kd.R_drew)); exact (Kd.R_mono (Kd.R_far (p := ⟨gb216, 1, none⟩) (Kd.R_far (p := ⟨gb216, 0, none⟩) (Kd.R_types HO203.out BK216.out (by decide)) (fun _ hk => hk.2) (.slice Ao71 t209.length co71)) (fun _ hk => hk.2) (.slice Ao74 t212.length co74)) (fun _ h_ => h_.1)))); (case side2 => exact (Kd.R_reads' HO203.out).2.1); (case side3 => refine (Kd.R_reads' (e := 4) (base := w.heap.size) (ok := fun k_ => (True ∧ some k_ ≠ (.slice Ao74 t212.length co74 : Value).ownBlock)) (n := t204.length) (c := co68) ?_).2.2; exact (by (with_reducible repeat (first | apply Kd.R_alloc | apply Kd.R_drewN | apply Kd.R_drew)); exact (Kd.R_mono (Kd.R_far (p := ⟨gb216, 1, none⟩) (Kd.R_far (p := ⟨gb216, 0, none⟩) (Kd.R_types HO206.out BK216.out (by decide)) (fun _ hk => hk.2) (.slice Ao71 t209.length co71)) (fun _ hk => hk.2) (.slice Ao74 t212.length co74)) (fun _ h_ => h_.1)))); (case side4 => exact (Kd.R_reads' HO206.out).2.1); (case side5 => refine (Kd.R_reads' (e := 3) (base := w.heap.size) (ok := fun k_ => (True ∧ some k_ ≠ (.slice Ao66 t201.length co66 : Value).ownBlock)) (n := t209.length) (c := co71) ?_).2.2; exact (by (with_reducible repeat (first | apply Kd.R_alloc | apply Kd.R_drewN | apply Kd.R_drew)); exact (Kd.R_mono (Kd.R_far (p := ⟨gb216, 1, none⟩) (Kd.R_far (p := ⟨gb216, 0, none⟩) (Kd.R_types HO211.out BK216.out (by decide)) (fun _ hk => hk.2) (.slice Ao71 t209.length co71)) (fun _ hk => hk.2) (.slice Ao74 t212.length co74)) (fun _ h_ => h_.1)))); (case side6 => exact (Kd.R_reads' HO211.out).2.1); (case side7 => refine (Kd.R_reads' (e := 4) (base := w.heap.size) (ok := fun k_ => (True ∧ some k_ ≠ (.slice Ao68 t204.length co68 : Value).ownBlock)) (n := t212.length) (c := co74) ?_).2.2; exact (by (with_reducible repeat (first | apply Kd.R_alloc | apply Kd.R_drewN | apply Kd.R_drew)); exact (Kd.R_mono (Kd.R_far (p := ⟨gb216, 1, none⟩) (Kd.R_far (p := ⟨gb216, 0, none⟩) (Kd.R_types HO214.out BK216.out (by decide)) (fun _ hk => hk.2) (.slice Ao71 t209.length co71)) (fun _ hk => hk.2) (.slice Ao74 t212.length co74)) (fun _ h_ => h_.1)))); (case side8 => exact (Kd.R_reads' HO214.out).2.1); rintro e w76 ⟨rfl, hb⟩; refine ⟨_, rfl, ?_⟩; have n0_ := Aside0.mk (Kd.R_below (by (with_reducible repeat (first | apply Kd.R_alloc | apply Kd.R_drewN | apply Kd.R_drew)); exact (Kd.R_mono (Kd.R_far (p := ⟨gb216, 1, none⟩) (Kd.R_far (p := ⟨gb216, 0, none⟩) (Kd.R_types HO203.out BK216.out (by decide)) (fun _ hk => hk.2) (.slice Ao71 t209.length co71)) (fun _ hk => hk.2) (.slice Ao74 t212.length co74)) (fun _ h_ => h_.1))) hb); have n1_ := Aside0.mk (Kd.R_below (by (with_reducible repeat (first | apply Kd.R_alloc | apply Kd.R_drewN | apply Kd.R_drew)); exact (Kd.R_mono (Kd.R_far (p := ⟨gb216, 1, none⟩) (Kd.R_far (p := ⟨gb216, 0, none⟩) (Kd.R_types HO206.out BK216.out (by decide)) (fun _ hk => hk.2) (.slice Ao71 t209.length co71)) (fun _ hk => hk.2) (.slice Ao74 t212.length co74)) (fun _ h_ => h_.1))) hb); have n2_ := Aside0.mk (Kd.R_below (by (with_reducible repeat (first | apply Kd.R_alloc | apply Kd.R_drewN | apply Kd.R_drew)); exact (Kd.R_mono (Kd.R_far (p := ⟨gb216, 1, none⟩) (Kd.R_far (p := ⟨gb216, 0, none⟩) (Kd.R_types HO211.out BK216.out (by decide)) (fun _ hk => hk.2) (.slice Ao71 t209.length co71)) (fun _ hk => hk.2) (.slice Ao74 t212.length co74)) (fun _ h_ => h_.1))) hb); have n3_ := Aside0.mk (Kd.R_below (by (with_reducible repeat (first | apply Kd.R_alloc | apply Kd.R_drewN | apply Kd.R_drew)); exact (Kd.R_mono (Kd.R_far (p := ⟨gb216, 1, none⟩) (Kd.R_far (p := ⟨gb216, 0, none⟩) (Kd.R_types HO214.out BK216.out (by decide)) (fun _ hk => hk.2) (.slice Ao71 t209.length co71)) (fun _ hk => hk.2) (.slice Ao74 t212.length co74)) (fun _ h_ => h_.1))) hb); have n4_ := Aside0.mk (blk_below (g := gb208) (o := .cells #[.slice Ao66 t201.length co66, .slice Ao68 t204.length co68] 28 (0, 0)) (by (with_reducible repeat (first | refine blk_drewN ?_ _ | refine blk_drew ?_ | refine blk_alloc ?_ _)); refine blk_far ?_ NB208_216.out _; (with_reducible repeat (first | refine blk_drewN ?_ _ | refine blk_drew ?_ | refine blk_alloc ?_ _)); refine blk_far ?_ NB208_216.out _; (with_reducible repeat (first | refine blk_drewN ?_ _ | refine blk_drew ?_ | refine blk_alloc ?_ _)); exact BK208.out) hb); have n5_ := Aside0.mk (blk_below (g := gb216) (o := .cells #[.slice Ao71 t209.length co71, .slice Ao74 t212.length co74] 28 (0, 0)) (by (with_reducible repeat (first | refine blk_drewN ?_ _ | refine blk_drew ?_ | refine blk_alloc ?_ _)); refine blk_put (cs := #[.slice Ao71 t209.length co71, .slice none 0 0]) ?_ 1 _ rfl; (with_reducible repeat (first | refine blk_drewN ?_ _ | refine blk_drew ?_ | refine blk_alloc ?_ _)); refine blk_put (cs := #[.slice none 0 0, .slice none 0 0]) ?_ 0 _ rfl; (with_reducible repeat (first | refine blk_drewN ?_ _ | refine blk_drew ?_ | refine blk_alloc ?_ _)); exact BK216.out) hb); have n6_ := Aside0.mk (below_step (by repeat (first | (with_reducible first | exact HB.out | apply below_alloc | apply pw_below_drewN | apply below_drew1 | refine below_set ?_ GE208.out | refine below_set ?_ GE216.out) | exact HB.out)) hb); clear HO203; clear HO206; clear HO211; clear HO214; clear BK208; clear BK216; clear HB; have HO203 := n0_; have HO206 := n1_; have HO211 := n2_; have HO214 := n3_; have BK208 := n4_; have BK216 := n5_; have HB := n6_; clear n0_ n1_ n2_ n3_ n4_ n5_ n6_; (try clear hb); (try clear hb2); (try clear hk); (try clear hi)))
          go_ret
          exact ⟨by first | rfl | (simp [errW_none, errW_some] <;> rfl) | (simp [*, errW_none, errW_some] <;> rfl), by repeat (first | (with_reducible first | exact HB.out | apply below_alloc | apply pw_below_drewN | apply below_drew1 | refine below_set ?_ GE208.out | refine below_set ?_ GE216.out) | exact HB.out)⟩
mutual
def malthouselaw08_fair.j0 : Nat → List (S46) → Bool → Option (Bool)
  | 0, _, _ => none
  | k + 1, x1, x20 => if x20 = true then (some false) else (malthouselaw08_fair.l0 k x1 0)
def malthouselaw08_fair.l0 : Nat → List (S46) → Int → Option (Bool)
  | 0, _, _ => none
  | k + 1, x1, x5 => if x5 < (x1.length : Int) then (if 0 ≤ x5 then (if (((rd_T46 x1 x5).f0).size : Int) > 200 then (some false) else (malthouselaw08_fair.l0 k x1 (wrap64 (x5 + 1)))) else (none)) else (some true)
end
def malthouselaw08_fair.f (k : Nat) (l0_0 : List Int) (l0_1 : List Bool) (l1 : List (S46)) : Option (Bool) := if (l0_0.length : Int) > 1000 then (malthouselaw08_fair.j0 k l1 true) else (if (l0_1.length : Int) > 1000 then (malthouselaw08_fair.j0 k l1 true) else (malthouselaw08_fair.j0 k l1 (decide ((l1.length : Int) > 1000))))
theorem malthouselaw08_fair.mono_l : ∀ k, (∀ y0 y1, LeO (malthouselaw08_fair.j0 k y0 y1) (malthouselaw08_fair.j0 (k + 1) y0 y1)) ∧ (∀ y0 y1, LeO (malthouselaw08_fair.l0 k y0 y1) (malthouselaw08_fair.l0 (k + 1) y0 y1))
  | 0 => ⟨fun _ _ r h => by simp [malthouselaw08_fair.j0] at h, fun _ _ r h => by simp [malthouselaw08_fair.l0] at h⟩
  | k + 1 => by
    obtain ⟨ih0, ih1⟩ := malthouselaw08_fair.mono_l k
    refine ⟨?_, ?_⟩
    · intro y0 y1
      unfold malthouselaw08_fair.j0
      repeat' first
      | (with_reducible exact ih0 _ _)
      | (with_reducible exact ih1 _ _)
      | (with_reducible exact LeO.refl _)
      | (with_reducible exact LeO.none _)
      | (with_reducible refine LeO.ite ?_ ?_)
      | (with_reducible refine LeO.bind ?_ (fun _ => ?_))
      | exact ih0 _ _
      | exact ih1 _ _
      | exact LeO.none _
      | refine LeO.ite ?_ ?_
      | refine LeO.bind ?_ (fun _ => ?_)
    · intro y0 y1
      unfold malthouselaw08_fair.l0
      repeat' first
      | (with_reducible exact ih0 _ _)
      | (with_reducible exact ih1 _ _)
      | (with_reducible exact LeO.refl _)
      | (with_reducible exact LeO.none _)
      | (with_reducible refine LeO.ite ?_ ?_)
      | (with_reducible refine LeO.bind ?_ (fun _ => ?_))
      | exact ih0 _ _
      | exact ih1 _ _
      | exact LeO.none _
      | refine LeO.ite ?_ ?_
      | refine LeO.bind ?_ (fun _ => ?_)
theorem malthouselaw08_fair.mono : ∀ a0 a1 a2 k, LeO (malthouselaw08_fair.f k a0 a1 a2) (malthouselaw08_fair.f (k + 1) a0 a1 a2) := by
  intro a0 a1 a2 k
  obtain ⟨ih0, ih1⟩ := malthouselaw08_fair.mono_l k
  unfold malthouselaw08_fair.f
  repeat' first
      | (with_reducible exact ih0 _ _)
      | (with_reducible exact ih1 _ _)
      | (with_reducible exact LeO.refl _)
      | (with_reducible exact LeO.none _)
      | (with_reducible refine LeO.ite ?_ ?_)
      | (with_reducible refine LeO.bind ?_ (fun _ => ?_))
      | exact ih0 _ _
      | exact ih1 _ _
      | exact LeO.none _
      | refine LeO.ite ?_ ?_
      | refine LeO.bind ?_ (fun _ => ?_)
set_option maxHeartbeats 8000000 in
set_option maxRecDepth 100000 in
theorem malthouselaw08_fair.calls (k : Nat) (A0_0 : Option Addr) (c0_0 : Nat) (l0_0 : List Int) (A0_1 : Option Addr) (c0_1 : Nat) (l0_1 : List Bool) (A1 : Option Addr) (c1 : Nat) (l1 : List (S46)) (r : Bool) (w : World) (hr0_0 : Kd.C (Kd.int .i64) w A0_0 l0_0.length l0_0) (hc0_0 : l0_0.length ≤ c0_0) (hr0_1 : Kd.C Kd.bool w A0_1 l0_1.length l0_1) (hc0_1 : l0_1.length ≤ c0_1) (hr1 : Kd.C k46 w A1 l1.length l1) (hc1 : l1.length ≤ c1) (h : malthouselaw08_fair.f k l0_0 l0_1 l1 = some r) :
    Calls Tryd.prog 18 #[.agg #[.slice A0_0 l0_0.length c0_0, .slice A0_1 l0_1.length c0_1], .slice A1 l1.length c1] w fun e w' => e = .returned (.bool r) ∧ Below w.heap.size w w' := by
  have hu28 := Tryd.underlying28
  have HR0_0 := Aside0.mk hr0_0
  have HC0_0 := Aside0.mk hc0_0
  clear hr0_0 hc0_0
  have HR0_1 := Aside0.mk hr0_1
  have HC0_1 := Aside0.mk hc0_1
  clear hr0_1 hc0_1
  have HR1 := Aside0.mk hr1
  have HC1 := Aside0.mk hc1
  clear hr1 hc1
  have HB := Aside0.mk (Below.refl w.heap.size w)
  have H : (if (l0_0.length : Int) > 1000 then (malthouselaw08_fair.j0 k l1 true) else (if (l0_1.length : Int) > 1000 then (malthouselaw08_fair.j0 k l1 true) else (malthouselaw08_fair.j0 k l1 (decide ((l1.length : Int) > 1000))))) = some r := h
  clear h
  have HC3 := Aside0.mk H
  clear H
  go_enter Tryd.func18, Tryd.ntmps18
  go_upto_region 1 with (first | ((with_reducible refine gate_dst (N := 2) rfl ?_); (try (refine gate_guard (by rfl) ?_; dsimp only)); refine box_event ?hg (N := 2) ?hd (cs := #[.slice A0_0 l0_0.length c0_0, .slice A0_1 l0_1.length c0_1]) (t := 28) ?hr ?_; (case hd => rfl); (case hg => rfl); (case hr => first | (go_simp; done) | (go_simp; rfl)); intro gb222 hg w4 hbox hb; have n0_ := Aside0.mk (below_step (by repeat (first | (with_reducible first | exact HB.out | apply below_alloc | apply pw_below_drewN | apply below_drew1) | exact HB.out)) hb); have n1_ := Aside0.mk (hbox); have n2_ := Aside0.mk ((by rw [hg]; exact (below_size (by repeat (first | (with_reducible first | exact HB.out | apply below_alloc | apply pw_below_drewN | apply below_drew1) | exact HB.out))) : w.heap.size ≤ gb222)); have n3_ := Aside0.mk ((by rw [hg]; exact (below_size (by repeat (first | (with_reducible first | exact HB.out | apply below_alloc | apply pw_below_drewN | apply below_drew1) | exact HB.out))) : w.heap.size ≤ gb222)); clear HB; have HB := n0_; have BK222 := n1_; have GW222 := n2_; have GE222 := n3_; clear n0_ n1_ n2_ n3_; clear hb hbox hg))
  (try simp only [Act.put, List.setIfInBounds_toArray, List.set_cons_zero, List.set_cons_succ])
  go_cut [20] (fun v20 wc => ∃ (kq : Nat) (x20_2 : Bool), v20 = .bool x20_2 ∧ Aside0 (malthouselaw08_fair.j0 kq l1 x20_2 = some r) ∧ Aside0 (kq ≤ k) ∧ Aside0 (wc.heap[gb222]? = some (.cells #[(.slice A0_0 l0_0.length c0_0), (.slice A0_1 l0_1.length c0_1)] 28 (0, 0))) ∧ Aside0 (Below w.heap.size w wc))
  case first =>
    have H := HC3.out
    clear HC3
    by_cases c5 : (l0_0.length : Int) > 1000
    · rw [if_pos c5] at H
      have c5b0 : decide (1000 < (l0_0.length : Int)) = true := decide_eq_true c5
      have c5b1 : decide (1000 < l0_0.length) = true := decide_eq_true (by omega)
      clear c5
      (first | rw [c5b0] | (simp only [i64_w, i32_w]; rw [c5b0]) | skip)
      have H' := Aside0.mk H
      clear H
      have hcz6_0 : w4.cell? ⟨gb222, 0, none⟩ = some (.slice A0_0 l0_0.length c0_0) := (blk_cell BK222.out 0).trans rfl
      have hcz6_1 : w4.cell? ⟨gb222, 1, none⟩ = some (.slice A0_1 l0_1.length c0_1) := (blk_cell BK222.out 1).trans rfl
      have hfz6_0 := blk_frozen BK222.out 0
      have hfz6_1 := blk_frozen BK222.out 1
      go_wp2
      go_meet
      case rel => exact ⟨_, (true), (by first | rfl | (simp; done) | (simp [*]; done)), H', ⟨by first | omega | exact Nat.le_refl _⟩, ⟨by (with_reducible repeat (first | refine blk_drewN ?_ _ | refine blk_drew ?_ | refine blk_alloc ?_ _)); exact BK222.out⟩, ⟨by repeat (first | (with_reducible first | exact HB.out | apply below_alloc | apply pw_below_drewN | apply below_drew1 | refine below_set ?_ GE222.out) | exact HB.out)⟩⟩
    · rw [if_neg c5] at H
      have c5b0 : decide (1000 < (l0_0.length : Int)) = false := decide_eq_false c5
      have c5b1 : decide (1000 < l0_0.length) = false := decide_eq_false (by omega)
      clear c5
      (first | rw [c5b0] | (simp only [i64_w, i32_w]; rw [c5b0]) | skip)
      by_cases c7 : (l0_1.length : Int) > 1000
      · rw [if_pos c7] at H
        have c7b0 : decide (1000 < (l0_1.length : Int)) = true := decide_eq_true c7
        have c7b1 : decide (1000 < l0_1.length) = true := decide_eq_true (by omega)
        clear c7
        have H' := Aside0.mk H
        clear H
        have hcz8_0 : w4.cell? ⟨gb222, 0, none⟩ = some (.slice A0_0 l0_0.length c0_0) := (blk_cell BK222.out 0).trans rfl
        have hcz8_1 : w4.cell? ⟨gb222, 1, none⟩ = some (.slice A0_1 l0_1.length c0_1) := (blk_cell BK222.out 1).trans rfl
        have hfz8_0 := blk_frozen BK222.out 0
        have hfz8_1 := blk_frozen BK222.out 1
        go_wp2
        go_meet
        case rel => exact ⟨_, (true), (by first | rfl | (simp; done) | (simp [*]; done)), H', ⟨by first | omega | exact Nat.le_refl _⟩, ⟨by (with_reducible repeat (first | refine blk_drewN ?_ _ | refine blk_drew ?_ | refine blk_alloc ?_ _)); exact BK222.out⟩, ⟨by repeat (first | (with_reducible first | exact HB.out | apply below_alloc | apply pw_below_drewN | apply below_drew1 | refine below_set ?_ GE222.out) | exact HB.out)⟩⟩
      · rw [if_neg c7] at H
        have c7b0 : decide (1000 < (l0_1.length : Int)) = false := decide_eq_false c7
        have c7b1 : decide (1000 < l0_1.length) = false := decide_eq_false (by omega)
        clear c7
        have H' := Aside0.mk H
        clear H
        have hcz9_0 : w4.cell? ⟨gb222, 0, none⟩ = some (.slice A0_0 l0_0.length c0_0) := (blk_cell BK222.out 0).trans rfl
        have hcz9_1 : w4.cell? ⟨gb222, 1, none⟩ = some (.slice A0_1 l0_1.length c0_1) := (blk_cell BK222.out 1).trans rfl
        have hfz9_0 := blk_frozen BK222.out 0
        have hfz9_1 := blk_frozen BK222.out 1
        go_wp2
        go_meet
        case rel => exact ⟨_, (decide ((l1.length : Int) > 1000)), (by first | rfl | (simp; done) | (simp [*]; done)), H', ⟨by first | omega | exact Nat.le_refl _⟩, ⟨by (with_reducible repeat (first | refine blk_drewN ?_ _ | refine blk_drew ?_ | refine blk_alloc ?_ _)); exact BK222.out⟩, ⟨by repeat (first | (with_reducible first | exact HB.out | apply below_alloc | apply pw_below_drewN | apply below_drew1 | refine below_set ?_ GE222.out) | exact HB.out)⟩⟩
  case rest =>
    clear HC3
    try clear c1
    try clear p2
    try clear c5
    try clear c5b0
    try clear c5b1
    try clear c7
    try clear c7b0
    try clear c7b1
    try clear hcz6_0
    try clear hcz6_1
    try clear hcz8_0
    try clear hcz8_1
    try clear hcz9_0
    try clear hcz9_1
    try clear hfz6_0
    try clear hfz6_1
    try clear hfz8_0
    try clear hfz8_1
    try clear hfz9_0
    try clear hfz9_1
    obtain ⟨kq, x20_2, rfl, HA, HJ2, BK222, HB⟩ := hcut
    cases kq with
    | zero => exact absurd HA.out (by simp [malthouselaw08_fair.j0])
    | succ kj2 =>
      have H := HA.out
      clear HA
      simp only [malthouselaw08_fair.j0] at H
      by_cases c10 : x20_2 = true
      · subst c10
        have H1 : (some false) = some r := by rw [if_pos rfl] at H; exact H
        clear H
        have H := H1
        clear H1
        obtain rfl := Option.some.inj H
        go_wp2
        go_ret
        exact ⟨by first | rfl | (simp [errW_none, errW_some] <;> rfl) | (simp [*, errW_none, errW_some] <;> rfl), by repeat (first | (with_reducible first | exact HB.out | apply below_alloc | apply pw_below_drewN | apply below_drew1 | refine below_set ?_ GE222.out) | exact HB.out)⟩
      · replace c10 := Bool.eq_false_iff.mpr c10
        subst c10
        have H1 : (malthouselaw08_fair.l0 kj2 l1 0) = some r := by rw [if_neg (show ¬ (false = true) by decide)] at H; exact H
        clear H
        have H := H1
        clear H1
        have H' := Aside0.mk H
        clear H
        go_wp2
        go_loopg [5] kj2 (fun kq v5 w' => ∃ (x5_2 : Int), v5 = .int .i64 x5_2 ∧ Aside0 (malthouselaw08_fair.l0 kq l1 x5_2 = some r) ∧ Aside0 (kq ≤ kj2) ∧ Aside0 (w'.heap[gb222]? = some (.cells #[(.slice A0_0 l0_0.length c0_0), (.slice A0_1 l0_1.length c0_1)] 28 (0, 0))) ∧ Aside0 (Below w.heap.size w w'))
        case atStart => exact ⟨(0), (by first | rfl | (simp; done) | (simp [*]; done)), H', ⟨Nat.le_refl _⟩, ⟨by (with_reducible repeat (first | refine blk_drewN ?_ _ | refine blk_drew ?_ | refine blk_alloc ?_ _)); exact BK222.out⟩, ⟨by repeat (first | (with_reducible first | exact HB.out | apply below_alloc | apply pw_below_drewN | apply below_drew1 | refine below_set ?_ GE222.out) | exact HB.out)⟩⟩
        case round =>
          clear H'
          try clear c1
          try clear p2
          try clear c5
          try clear c5b0
          try clear c5b1
          try clear c7
          try clear c7b0
          try clear c7b1
          try clear c10
          try clear hcz6_0
          try clear hcz6_1
          try clear hcz8_0
          try clear hcz8_1
          try clear hcz9_0
          try clear hcz9_1
          try clear hfz6_0
          try clear hfz6_1
          try clear hfz8_0
          try clear hfz8_1
          try clear hfz9_0
          try clear hfz9_1
          try clear p2
          obtain ⟨x5_2, rfl, HA, HK2, BK222, HB⟩ := hrel
          cases gk with
          | zero => exact absurd HA.out (by simp [malthouselaw08_fair.l0])
          | succ k2 =>
            have H := HA.out
            clear HA
            simp only [malthouselaw08_fair.l0] at H
            by_cases c11 : x5_2 < (l1.length : Int)
            · rw [if_pos c11] at H
              have c11b0 : decide (x5_2 < (l1.length : Int)) = true := decide_eq_true c11
              clear c11
              by_cases c12 : 0 ≤ x5_2
              · rw [if_pos c12] at H
                have c12b0 : decide (0 ≤ x5_2) = true := decide_eq_true c12
                clear c12
                by_cases c13 : (((rd_T46 l1 x5_2).f0).size : Int) > 200
                · rw [if_pos c13] at H
                  have c13b0 : decide (200 < (((rd_T46 l1 x5_2).f0).size : Int)) = true := decide_eq_true c13
                  have c13b1 : decide (200 < ((rd_T46 l1 x5_2).f0).size) = true := decide_eq_true (by omega)
                  clear c13
                  obtain rfl := Option.some.inj H
                  have p223 : 0 ≤ (x5_2 : Int) := of_decide_eq_true (by first | (with_reducible assumption) | assumption)
                  have q223 : x5_2 < (l1.length : Int) := of_decide_eq_true (by first | (with_reducible assumption) | assumption)
                  obtain ⟨ad223, e223, hx223_0, hx223_1⟩ := at_T46 HR1.out x5_2 p223 q223
                  cases e223
                  replace hx223_0 := (HB.out.cell (World.block_lt_of_cell? w _ hx223_0)).trans hx223_0
                  replace hx223_1 := (HB.out.cell (World.block_lt_of_cell? w _ hx223_1)).trans hx223_1
                  replace p223 := eq_true p223
                  replace q223 := eq_true q223
                  go_wp2
                  go_ret
                  exact ⟨by first | rfl | (simp [errW_none, errW_some] <;> rfl) | (simp [*, errW_none, errW_some] <;> rfl), by repeat (first | (with_reducible first | exact HB.out | apply below_alloc | apply pw_below_drewN | apply below_drew1 | refine below_set ?_ GE222.out) | exact HB.out)⟩
                · rw [if_neg c13] at H
                  have c13b0 : decide (200 < (((rd_T46 l1 x5_2).f0).size : Int)) = false := decide_eq_false c13
                  have c13b1 : decide (200 < ((rd_T46 l1 x5_2).f0).size) = false := decide_eq_false (by omega)
                  clear c13
                  have H' := Aside0.mk H
                  clear H
                  have p223 : 0 ≤ (x5_2 : Int) := of_decide_eq_true (by first | (with_reducible assumption) | assumption)
                  have q223 : x5_2 < (l1.length : Int) := of_decide_eq_true (by first | (with_reducible assumption) | assumption)
                  obtain ⟨ad223, e223, hx223_0, hx223_1⟩ := at_T46 HR1.out x5_2 p223 q223
                  cases e223
                  replace hx223_0 := (HB.out.cell (World.block_lt_of_cell? w _ hx223_0)).trans hx223_0
                  replace hx223_1 := (HB.out.cell (World.block_lt_of_cell? w _ hx223_1)).trans hx223_1
                  replace p223 := eq_true p223
                  replace q223 := eq_true q223
                  go_wp2
                  go_roundg k2
                  case measure => have := HJ2.out; have := HK2.out; omega
                  case rel => exact ⟨(wrap64 (x5_2 + 1)), (by first | rfl | (simp; done) | (simp [*]; done)), H', ⟨by have := HJ2.out; have := HK2.out; omega⟩, ⟨by (with_reducible repeat (first | refine blk_drewN ?_ _ | refine blk_drew ?_ | refine blk_alloc ?_ _)); exact BK222.out⟩, ⟨by repeat (first | (with_reducible first | exact HB.out | apply below_alloc | apply pw_below_drewN | apply below_drew1 | refine below_set ?_ GE222.out) | exact HB.out)⟩⟩
              · rw [if_neg c12] at H
                exact absurd H (by simp)
            · rw [if_neg c11] at H
              have c11b0 : decide (x5_2 < (l1.length : Int)) = false := decide_eq_false c11
              clear c11
              obtain rfl := Option.some.inj H
              go_wp2
              go_ret
              exact ⟨by first | rfl | (simp [errW_none, errW_some] <;> rfl) | (simp [*, errW_none, errW_some] <;> rfl), by repeat (first | (with_reducible first | exact HB.out | apply below_alloc | apply pw_below_drewN | apply below_drew1 | refine below_set ?_ GE222.out) | exact HB.out)⟩
end Go.Proofs.YtbmdhmmahmdccaaDoor.Print
/-! ### ECopy -/
namespace Go.Proofs.YtbmdhmmahmdccaaDoor.Print
open Go.RowKit Go.Proofs.YtbmdhmmahmdccaaDoorW.PrintWords Go.Proofs.YtbmdhmmahmdccaaDoorW.PrintLast Go.Proofs.YtbmdhmmahmdccaaDoorW.PrintMore
set_option linter.unusedSimpArgs false
set_option linter.unusedVariables false
def malthouseref08_Copy.f (l0_0 : List Int) (l0_1 : List Bool) : Option (List Int × List Bool) := if l0_0.length ≤ 100000000000 ∧ l0_1.length ≤ 100000000000 then some (l0_0, l0_1) else none
set_option maxHeartbeats 8000000 in
set_option maxRecDepth 100000 in
theorem malthouseref08_Copy.calls (A0_0 : Option Addr) (c0_0 : Nat) (l0_0 : List Int) (A0_1 : Option Addr) (c0_1 : Nat) (l0_1 : List Bool) (r1 : List Int) (r2 : List Bool) (w : World) (hr0_0 : Kd.C (Kd.int .i64) w A0_0 l0_0.length l0_0) (hc0_0 : l0_0.length ≤ c0_0) (hr0_1 : Kd.C Kd.bool w A0_1 l0_1.length l0_1) (hc0_1 : l0_1.length ≤ c0_1) (h : malthouseref08_Copy.f l0_0 l0_1 = some (r1, r2)) :
    Calls Tryd.prog 19 #[.agg #[.slice A0_0 l0_0.length c0_0, .slice A0_1 l0_1.length c0_1]] w fun e w' => ∃ v0_ v1_ : Value, e = .returned (.agg #[v0_, v1_]) ∧ Kd.R (Kd.int .i64) 3 w' w.heap.size (fun _ => True) v0_ r1 ∧ Kd.R Kd.bool 4 w' w.heap.size (fun _ => True) v1_ r2 ∧ Below w.heap.size w w' := by
  unfold malthouseref08_Copy.f at h
  split at h
  case isFalse => cases h
  rename_i hl
  obtain ⟨rfl, rfl⟩ := Prod.mk.inj (Option.some.inj h)
  clear h
  obtain ⟨n0, hn0, ha0, ho0⟩ := Kd.C_flat hr0_0
  obtain ⟨n1, hn1, ha1, ho1⟩ := Kd.C_flat hr0_1
  have HL0 := Lib.hid (show n0.length = l0_0.length * 1 from hn0.1)
  have HL1 := Lib.hid (show n1.length = l0_1.length * 1 from hn1.1)
  have HN0 := Lib.hid hn0
  have HN1 := Lib.hid hn1
  have HA0 := Lib.hid ha0
  have HA1 := Lib.hid ha1
  have HO0 := Lib.hid ho0
  have HO1 := Lib.hid ho1
  have hu := Tryd.underlying28
  clear hr0_0 hr0_1 hn0 hn1 ha0 ha1 ho0 ho1
  generalize hm0 : l0_0.length = m0 at *
  generalize hm1 : l0_1.length = m1 at *
  have HM0 := Lib.hid hm0
  have HM1 := Lib.hid hm1
  clear hm0 hm1
  go_enter Tryd.func19, Tryd.ntmps19
  go_wp2
  have HB0 := Lib.hid (show Below w.heap.size w ((w.alloc (.cells #[.slice A0_0 m0 c0_0, .slice A0_1 m1 c0_1] 28)).alloc (.cells #[.slice none 0 0, .slice none 0 0] 28)) from ((Below.refl _ _).alloc (Nat.le_refl _) _).alloc (by simp) _)
  have HX1 := Lib.hid (show ((w.alloc (.cells #[.slice A0_0 m0 c0_0, .slice A0_1 m1 c0_1] 28)).alloc (.cells #[.slice none 0 0, .slice none 0 0] 28)).heap[w.heap.size]? = some (.cells #[.slice A0_0 m0 c0_0, .slice A0_1 m1 c0_1] 28 (0, 0)) from (Below.heap_alloc _ _ _ (by simp)).trans (heap_alloc_new w _))
  have HX2 := Lib.hid (show ((w.alloc (.cells #[.slice A0_0 m0 c0_0, .slice A0_1 m1 c0_1] 28)).alloc (.cells #[.slice none 0 0, .slice none 0 0] 28)).heap[w.heap.size + 1]? = some (.cells #[.slice none 0 0, .slice none 0 0] 28 (0, 0)) from by
    have := heap_alloc_new (w.alloc (.cells #[.slice A0_0 m0 c0_0, .slice A0_1 m1 c0_1] 28)) (.cells #[.slice none 0 0, .slice none 0 0] 28)
    simpa using this)
  have HS0 := Lib.hid (show w.heap.size + 2 ≤ ((w.alloc (.cells #[.slice A0_0 m0 c0_0, .slice A0_1 m1 c0_1] 28)).alloc (.cells #[.slice none 0 0, .slice none 0 0] 28)).heap.size by simp)
  generalize (w.alloc (.cells #[.slice A0_0 m0 c0_0, .slice A0_1 m1 c0_1] 28)).alloc (.cells #[.slice none 0 0, .slice none 0 0] 28) = W0 at *
  generalize hb : w.heap.size = b at *
  have HBB := Lib.hid hb
  clear hb
  refine L.grow_start [] 7 ((0, true, false) :: (1, true, false) :: (3, true, false) :: (4, true, false) :: (2, false, true) :: (5, false, true) :: (6, true, true) :: (7, false, true) :: []) (by kernel_rfl) (([], [1], some 3) :: ([0], [3], some 4) :: ([1], [4], some 5) :: ([], [1], some 6) :: ([3], [6], some 7) :: ([4, 2], [7], some 8) :: ([2, 5], [5, 8], some 9) :: ([6, 5, 0, 1, 2, 3, 4, 5, 6], [2, 9], none) :: []) (by kernel_rfl) (by kernel_rfl) (n := 8) rfl (by kernel_rfl) (fun _ _ _ _ _ h => h) (fun wg hog => ?_)
  refine L.growe_start (N := 10) (by rfl) ?_
  have e0 : ∀ w', Only [] wg w' → w'.cell? ⟨b, 0, none⟩ = some (.slice A0_0 m0 c0_0) := fun w' k => (cell_of_row w' b 0 _ _ _ ((hog.trans k).heap HX1.out (by simp))).trans rfl
  have e1 : ∀ w', Only [] wg w' → w'.cell? ⟨b, 1, none⟩ = some (.slice A0_1 m1 c0_1) := fun w' k => (cell_of_row w' b 1 _ _ _ ((hog.trans k).heap HX1.out (by simp))).trans rfl
  have HOG := Lib.hid hog
  clear hog
  iterate 4 (first | (refine L.ge_off rfl rfl rfl (by rfl) ?_) | (refine L.ge_move rfl rfl rfl (by rfl) rfl (by simp [L.evE, L.lk, Act.eval]; rfl) ?_) | (refine L.ge_pick rfl rfl rfl (by rfl) rfl (by simp [L.evE, L.lk, Act.eval]; rfl) (by simp [L.evE, L.lk, Act.eval]; rfl) ?_) | (refine L.ge_val rfl rfl rfl (by rfl) (by intro w' hw'; simp [execOp, L.evE, L.lk, Act.eval]; go_simp; rfl) ?_))
  have HBG := Lib.hid (show Below w.heap.size w wg from below_then (by rw [HBB.out]; exact HB0.out) (by have := HS0.out; have := HBB.out; omega) HOG.out.nil_below)
  refine ge_append_row rfl rfl rfl (by rfl) _ _ _ rfl b 3 1 8 (.int .i64 0) Tryd.underlying25 info3 rfl (by omega) (.slice none 0 0) 0 [] (by simp [L.evE, L.lk, Act.eval]) (ownsRow_nil _ _ _ _) A0_0 m0 c0_0 n0 (by simp [L.evE, L.lk, Act.eval]) HL0.out (fun hp => by obtain ⟨ad, h1, h2⟩ := HA0.out hp; exact ⟨ad, h1, h2.below HBG.out⟩) HO0.out (by unfold maxLen; omega) (by omega) (by have := HS0.out; have := HOG.out.size; omega) ?_
  intro A2 c2 w2 hown2 ho2 hk2
  refine ⟨ho2.mono (by simp [Value.ownBlock]), ?_⟩
  have HW2 := Lib.hid hown2
  have HO2 := Lib.hid (show Only [] wg w2 from ho2.mono (by simp [Value.ownBlock]))
  have HK2 := Lib.hid hk2
  clear hown2 ho2 hk2
  have HB2 := Lib.hid (show Below w.heap.size w w2 from below_then HBG.out HBG.out.size HO2.out.nil_below)
  refine ge_append_row rfl rfl rfl (by rfl) _ _ _ rfl b 4 1 1 (.bool false) Tryd.underlying26 info4 rfl (by omega) (.slice none 0 0) 0 [] (by simp [L.evE, L.lk, Act.eval]) (ownsRow_nil _ _ _ _) A0_1 m1 c0_1 n1 (by simp [L.evE, L.lk, Act.eval]) HL1.out (fun hp => by obtain ⟨ad, h1, h2⟩ := HA1.out hp; exact ⟨ad, h1, h2.below HB2.out⟩) HO1.out (by unfold maxLen; omega) (by omega) (by have := HS0.out; have := HOG.out.size; have := HO2.out.size; omega) ?_
  intro A3 c3 w3 hown3 ho3 hk3
  refine ⟨ho3.mono (by simp [Value.ownBlock]), ?_⟩
  have HW3 := Lib.hid hown3
  have HO3 := Lib.hid (show Only [] w2 w3 from ho3.mono (by simp [Value.ownBlock]))
  have HK3 := Lib.hid hk3
  clear hown3 ho3 hk3
  iterate 1 (first | (refine L.ge_off rfl rfl rfl (by rfl) ?_) | (refine L.ge_move rfl rfl rfl (by rfl) rfl (by simp [L.evE, L.lk, Act.eval]; rfl) ?_) | (refine L.ge_pick rfl rfl rfl (by rfl) rfl (by simp [L.evE, L.lk, Act.eval]; rfl) (by simp [L.evE, L.lk, Act.eval]; rfl) ?_) | (refine L.ge_val rfl rfl rfl (by rfl) (by intro w' hw'; simp [execOp, L.evE, L.lk, Act.eval]; go_simp; rfl) ?_))
  have HX3 := Lib.hid ((HOG.out.trans (HO2.out.trans HO3.out)).heap HX2.out (by simp))
  refine ge_last_row rfl rfl (by rfl) _ _ _ rfl (b + 1) #[.slice A2 (0 + m0) c2, .slice A3 (0 + m1) c3] (by simp [L.evE, L.lk, Act.eval]) (by simp [L.evE, L.lk, Act.eval]) 28 _ HX3.out (by kernel_rfl) (by rfl) (by simp [Value.oneCell']) ?_
  intro w4 hrow4 ho4
  simp only [L.puts, Act.put, goInt, List.setIfInBounds_toArray, List.set_cons_zero, List.set_cons_succ]
  have HO4 := Lib.hid ho4
  have k0 := cell_of_row w4 (b + 1) 0 _ _ _ hrow4.out
  have k1 := cell_of_row w4 (b + 1) 1 _ _ _ hrow4.out
  simp only [List.getElem?_toArray, List.getElem?_cons_zero, List.getElem?_cons_succ, Nat.zero_add] at k0 k1
  clear ho4
  go_wp2
  have hw2 := HW2.out
  have hw3 := HW3.out
  rw [Nat.zero_add, List.nil_append] at hw2 hw3
  have hlt2 : ∀ k, (Value.slice A2 m0 c2).ownBlock = some k → b ≤ k ∧ k < w2.heap.size := fun k hk => ownsRow_lt hw2 hk
  have hne2 : ∀ k, (Value.slice A2 m0 c2).ownBlock = some k → k ≠ b + 1 := fun k hk => by
    have := HK2.out k (by rw [Nat.zero_add]; exact hk)
    have h5 := HS0.out
    have h6 := HOG.out.size
    have h7 := HBB.out
    simp [Value.ownBlock] at this
    omega
  have hne3 : ∀ k, (Value.slice A3 m1 c3).ownBlock = some k → k ≠ b + 1 := fun k hk => by
    have := HK3.out k (by rw [Nat.zero_add]; exact hk)
    have h5 := HS0.out
    have h6 := HOG.out.size
    have h7 := HO2.out.size
    have h8 := HBB.out
    simp [Value.ownBlock] at this
    omega
  have f2 := ownsRow_only (ownsRow_only hw2 HO3.out (by simp)) HO4.out (fun k hk => by simpa using hne2 k hk)
  have f3 := ownsRow_only hw3 HO4.out (fun k hk => by simpa using hne3 k hk)
  have hB : Below w.heap.size w w4 := by
    refine ⟨?_, ?_, ?_, ?_, ?_⟩
    · rw [HO4.out.os, HO3.out.os]; exact HB2.out.os
    · rw [HO4.out.tape, HO3.out.tape]; exact HB2.out.tape
    · rw [HO4.out.output, HO3.out.output]; exact HB2.out.output
    · exact Nat.le_trans HB2.out.size (Nat.le_trans HO3.out.size HO4.out.size)
    · intro k hk
      rw [HO4.out.block k (Nat.lt_of_lt_of_le hk (Nat.le_trans HB2.out.size HO3.out.size)) (by have := HBB.out; simp; omega), HO3.out.block k (Nat.lt_of_lt_of_le hk HB2.out.size) (by simp)]
      exact HB2.out.block k hk
  refine bodyPost_ret (v := .agg #[.slice A2 m0 c2, .slice A3 m1 c3]) (by simp [results, Tryd.results19, go_sem, k0, k1]) rfl ⟨_, _, rfl, ?_, ?_, hB⟩
  · rw [HBB.out]
    refine Kd.R_of_own (news := n0) (fun x cs h => h) HN0.out ?_
    rw [HM0.out]
    exact f2
  · rw [HBB.out]
    refine Kd.R_of_own (news := n1) (fun x cs h => h) HN1.out ?_
    rw [HM1.out]
    exact f3
end Go.Proofs.YtbmdhmmahmdccaaDoor.Print
/-! ### ERefRight -/
namespace Go.Proofs.YtbmdhmmahmdccaaDoor.Print
open Go.RowKit Go.Proofs.YtbmdhmmahmdccaaDoorW.PrintWords Go.Proofs.YtbmdhmmahmdccaaDoorW.PrintLast Go.Proofs.YtbmdhmmahmdccaaDoorW.PrintMore
set_option linter.unusedSimpArgs false
set_option linter.unusedVariables false
def malthouseref08_Right.f (l0 : List S48) (l1_0 : List Int) (l1_1 : List Bool) : Option Bool := if okTags l0 ∧ l1_0.length ≤ 1000000000 ∧ l1_1.length ≤ 1000000000 then some (rightB l0 l1_0 l1_1) else none
set_option maxHeartbeats 8000000 in
set_option maxRecDepth 100000 in
theorem malthouseref08_Right.calls (A0 : Option Addr) (c0 : Nat) (l0 : List S48) (A1_0 : Option Addr) (c1_0 : Nat) (l1_0 : List Int) (A1_1 : Option Addr) (c1_1 : Nat) (l1_1 : List Bool) (r : Bool) (w : World) (hr0 : Kd.C k48 w A0 l0.length l0) (hc0 : l0.length ≤ c0) (hr1_0 : Kd.C (Kd.int .i64) w A1_0 l1_0.length l1_0) (hc1_0 : l1_0.length ≤ c1_0) (hr1_1 : Kd.C Kd.bool w A1_1 l1_1.length l1_1) (hc1_1 : l1_1.length ≤ c1_1) (h : malthouseref08_Right.f l0 l1_0 l1_1 = some r) :
    Calls Tryd.prog 28 #[.slice A0 l0.length c0, .agg #[.slice A1_0 l1_0.length c1_0, .slice A1_1 l1_1.length c1_1]] w fun e w' => e = .returned (.bool r) ∧ Below w.heap.size w w' := by
  unfold malthouseref08_Right.f at h
  split at h
  case isFalse => cases h
  rename_i hok
  obtain ⟨hok, hl0, hl1⟩ := hok
  obtain rfl := Option.some.inj h
  clear h
  obtain ⟨V, hV⟩ : ∃ V, V = rightB l0 l1_0 l1_1 := ⟨_, rfl⟩
  rw [← hV]
  have HV := Lib.hid hV
  have HR := Lib.hid hr0
  have HR0 := Lib.hid hr1_0
  have HR1 := Lib.hid hr1_1
  have HOK := Lib.hid hok
  have hll := hok.1
  have hu := Tryd.underlying48
  have hu2 := Tryd.underlying28
  clear hV hr0 hr1_0 hr1_1 hok
  have HB0 := Lib.hid (show Below w.heap.size w (w.alloc (.cells #[.slice A1_0 l1_0.length c1_0, .slice A1_1 l1_1.length c1_1] 28)) from (Below.refl _ _).alloc (Nat.le_refl _) _)
  have HX0 := Lib.hid (heap_alloc_new w (.cells #[.slice A1_0 l1_0.length c1_0, .slice A1_1 l1_1.length c1_1] 28))
  obtain ⟨ch, hch⟩ : ∃ ch, ch = checkZ l0 := ⟨_, rfl⟩
  have HCH := Lib.hid hch
  clear hch
  have hcheck : ∀ W, Below w.heap.size w W → Calls Tryd.prog 15 #[.slice A0 l0.length c0] W fun e w' => e = .returned (.int .i64 ch) ∧ Below W.heap.size W w' := fun W hb => by
    rw [HCH.out]
    exact malthouseref08_Check.calls (3 * l0.length + longest l0 + 21) A0 c0 l0 (checkZ l0) W (Kd.C_below HR.out hb) hc0 (ref_check_is l0 HOK.out _ (by omega))
  have HC := Lib.hid hcheck
  clear hcheck
  by_cases h1 : ch = 0
  · by_cases h2 : l1_0.length = l0.length
    · by_cases h3 : l1_1.length = l0.length
      · have hv := HV.out
        unfold rightB at hv
        rw [← HCH.out, h1, h2, h3] at hv
        simp only [beq_self_eq_true, Bool.true_and] at hv
        have HV1 := Lib.hid hv
        have HC1 := Lib.hid (show ∀ t ∈ l0, t.f2 ≤ t.f3 from fun t ht => by obtain ⟨j, hj, rfl⟩ := List.getElem_of_mem ht; exact ((check_ok (l := l0) (by rw [← HCH.out]; exact h1)).2 j hj).1)
        have HH2 := Lib.hid h2
        have HH3 := Lib.hid h3
        rw [h2, h3] at HB0 HX0 ⊢
        subst h1
        clear HV hv h2 h3
        generalize hm : l0.length = m at *
        have HM := Lib.hid hm
        clear hm
        go_enter Tryd.func28, Tryd.ntmps28
        go_wp2_with (go_at_call 15; refine (HC.out _ HB0.out).mono ?_; rintro e w1 ⟨rfl, hb1⟩; have HX1 := Lib.hid ((hb1.block _ (by simp)).trans HX0.out); have HB1 := Lib.hid (below_then HB0.out HB0.out.size hb1); clear hb1; have d0 : w1.cell? ⟨w.heap.size, 0, none⟩ = some (.slice A1_0 m c1_0) := (cell_of_row w1 w.heap.size 0 _ _ _ HX1.out).trans rfl; have d1 : w1.cell? ⟨w.heap.size, 1, none⟩ = some (.slice A1_1 m c1_1) := (cell_of_row w1 w.heap.size 1 _ _ _ HX1.out).trans rfl)
        clear d0 d1
        go_loopw [5] (fun i wr => ∃ k : Nat, k ≤ m ∧ i = .int .i64 k ∧ Hid (V = rightFrom l0 l1_0 l1_1 (m - k) k) ∧ Hid (wr.heap[w.heap.size]? = some (.cells #[.slice A1_0 m c1_0, .slice A1_1 m c1_1] 28 (0, 0))) ∧ Hid (Below w.heap.size w wr)) (fun i _ => m - (intOf i).toNat)
        case atStart => exact ⟨0, by omega, rfl, HV1, HX1, HB1⟩
        case round =>
          obtain ⟨k, hk, rfl, hv, hx, hbw⟩ := hrel
          clear HX1 HB1
          by_cases hlt : k < m
          · have hlt' : (k : Int) < m := by omega
            have hk0 : (0 : Int) ≤ k := by omega
            have hbel : Below w.heap.size w wr := hbw.out
            obtain ⟨ad, cs, rfl, _, hK, hcs⟩ := Kd.C_cells (Kd.C_below HR.out hbel) k (by rw [HM.out]; exact hlt)
            obtain rfl := k48_open hK
            obtain ⟨a0, rfl, hi0⟩ := Kd.int_at (Kd.C_below HR0.out hbel) k (by rw [HH2.out]; exact hlt)
            obtain ⟨a1, rfl, hi1⟩ := Kd.bool_at (Kd.C_below HR1.out hbel) k (by rw [HH3.out]; exact hlt)
            have hn := rightFrom_next l0 l1_0 l1_1 m k HM.out hlt
            have hv' := hv.out
            rw [hn] at hv'
            have HV2 := Lib.hid hv'
            have HCS := Lib.hid (show CellsAt wr (ad.add (k * 4)) _ from hcs)
            have HI0 := Lib.hid hi0
            have HI1 := Lib.hid hi1
            have HX := Lib.hid hx.out
            clear hcs hK hn hv hv' hi0 hi1 hx hbel
            have hlohi := HC1.out (l0[k]'(by rw [HM.out]; exact hlt)) (List.getElem_mem _)
            generalize l0[k]'(by rw [HM.out]; exact hlt) = t at *
            generalize l1_0.getD k 0 = v at *
            generalize l1_1.getD k false = bd at *
            have HLH := Lib.hid hlohi
            clear hlohi
            go_wp2
            refine L.grow_start [] 30 ((0, true, false) :: (1, true, false) :: (2, true, false) :: (3, true, false) :: (4, true, false) :: (5, true, false) :: (6, true, false) :: (7, true, false) :: (8, true, false) :: (10, true, false) :: (11, true, false) :: (12, true, false) :: (13, true, false) :: (14, true, false) :: (9, false, true) :: (15, true, true) :: (16, true, true) :: (17, true, false) :: (18, true, true) :: (19, true, true) :: (20, true, true) :: (21, true, true) :: (22, true, true) :: (23, true, false) :: (24, true, false) :: (25, true, true) :: (26, true, true) :: (27, true, true) :: (28, true, true) :: (29, true, true) :: []) (by kernel_rfl) (([], [0], some 31) :: ([], [5], some 32) :: ([0, 1], [31, 32], some 33) :: ([2], [33], some 34) :: ([], [3], some 35) :: ([4], [35], some 36) :: ([], [5], some 37) :: ([5, 6], [36, 37], some 38) :: ([7], [38], some 39) :: ([3, 8], [34, 39], some 40) :: ([], [3], some 41) :: ([10], [41], some 42) :: ([], [5], some 43) :: ([11, 12], [42, 43], some 44) :: ([13], [44], some 45) :: ([9, 14], [40, 45], some 46) :: ([15, 9], [46], some 47) :: ([16], [0, 47], some 48) :: ([16], [5, 47], some 49) :: ([17, 18, 16], [48, 49, 47], some 50) :: ([19, 16], [50, 47], some 51) :: ([20, 16], [51, 47], some 52) :: ([21, 16, 16], [52, 47], some 53) :: ([22], [3, 53], some 54) :: ([23, 22], [54, 53], some 55) :: ([22], [5, 53], some 56) :: ([24, 25, 22], [55, 56, 53], some 57) :: ([26, 22], [57, 53], some 58) :: ([22, 27, 16], [53, 58, 47], some 59) :: ([16, 28], [47, 59], some 60) :: []) (by kernel_rfl) (by kernel_rfl) (n := 30) rfl (by kernel_rfl) (fun _ _ _ _ _ h => h) (fun wg hog => ?_)
            refine L.growe_start (N := 61) (by rfl) ?_
            have e0 : ∀ w', Only [] wg w' → w'.cell? ⟨w.heap.size, 0, none⟩ = some (.slice (some a0) m c1_0) := fun w' q => (cell_of_row w' w.heap.size 0 _ _ _ ((hog.trans q).heap HX.out (by simp))).trans rfl
            have e1 : ∀ w', Only [] wg w' → w'.cell? ⟨w.heap.size, 1, none⟩ = some (.slice (some a1) m c1_1) := fun w' q => (cell_of_row w' w.heap.size 1 _ _ _ ((hog.trans q).heap HX.out (by simp))).trans rfl
            have f0 : ∀ w', Only [] wg w' → w'.cell? (ad.add (k * 4)) = some (.string t.f0) := fun w' q => cellsAt_head (HCS.out.only (hog.trans q) (by simp)) rfl
            have f1 : ∀ w', Only [] wg w' → w'.cell? ⟨(ad.add (k * 4)).block, (ad.add (k * 4)).off + 1, none⟩ = some (.bool t.f1) := fun w' q => cellsAt_field (HCS.out.only (hog.trans q) (by simp)) 1 (by omega) rfl
            have f2 : ∀ w', Only [] wg w' → w'.cell? ⟨(ad.add (k * 4)).block, (ad.add (k * 4)).off + 2, none⟩ = some (.int .i64 t.f2) := fun w' q => cellsAt_field (HCS.out.only (hog.trans q) (by simp)) 2 (by omega) rfl
            have f3 : ∀ w', Only [] wg w' → w'.cell? ⟨(ad.add (k * 4)).block, (ad.add (k * 4)).off + 3, none⟩ = some (.int .i64 t.f3) := fun w' q => cellsAt_field (HCS.out.only (hog.trans q) (by simp)) 3 (by omega) rfl
            have g0 : ∀ w', Only [] wg w' → w'.cell? (a0.add k) = some (.int .i64 v) := fun w' q => (hog.trans q).cell HI0.out (by simp)
            have g1 : ∀ w', Only [] wg w' → w'.cell? (a1.add k) = some (.bool bd) := fun w' q => (hog.trans q).cell HI1.out (by simp)
            have HOG := Lib.hid hog
            clear hog
            iterate 14 (first | (refine L.ge_off rfl rfl rfl (by rfl) ?_) | (refine L.ge_move rfl rfl rfl (by rfl) rfl (by simp [L.evE, L.lk, Act.eval]; rfl) ?_) | (refine L.ge_pick rfl rfl rfl (by rfl) rfl (by simp [L.evE, L.lk, Act.eval]; rfl) (by simp [L.evE, L.lk, Act.eval]; rfl) ?_) | (refine L.ge_val rfl rfl rfl (by rfl) (by intro w' hw'; simp [execOp, L.evE, L.lk, Act.eval]; go_simp; rfl) ?_))
            refine L.ge_call rfl rfl rfl (by rfl) rfl (by simp [L.evE, L.lk, Act.eval]; rfl) (by go_simp) ?_
            obtain ⟨y, hy⟩ : ∃ y, y = nearT t v := ⟨_, rfl⟩
            have HY := Lib.hid hy
            refine (malthouseref08_Near.calls t.f0 t.f1 t.f2 t.f3 v y wg (by rw [hy]; exact near_is HLH.out v)).mono ?_
            clear hy
            rintro e w3 ⟨rfl, hb3⟩
            refine ⟨_, rfl, Only.of_below hb3, ?_⟩
            have HO3 := Lib.hid (Only.of_below hb3)
            have e0 : ∀ w', Only [] w3 w' → w'.cell? ⟨w.heap.size, 0, none⟩ = some (.slice (some a0) m c1_0) := fun w' q => e0 w' (HO3.out.trans q)
            have e1 : ∀ w', Only [] w3 w' → w'.cell? ⟨w.heap.size, 1, none⟩ = some (.slice (some a1) m c1_1) := fun w' q => e1 w' (HO3.out.trans q)
            have f1 : ∀ w', Only [] w3 w' → w'.cell? ⟨(ad.add (k * 4)).block, (ad.add (k * 4)).off + 1, none⟩ = some (.bool t.f1) := fun w' q => f1 w' (HO3.out.trans q)
            have g0 : ∀ w', Only [] w3 w' → w'.cell? (a0.add k) = some (.int .i64 v) := fun w' q => g0 w' (HO3.out.trans q)
            have g1 : ∀ w', Only [] w3 w' → w'.cell? (a1.add k) = some (.bool bd) := fun w' q => g1 w' (HO3.out.trans q)
            have HB3 := Lib.hid (below_then hbw.out hbw.out.size (HOG.out.trans HO3.out).nil_below)
            have HX3 := Lib.hid ((HOG.out.trans HO3.out).heap HX.out (by simp))
            clear hb3
            have hra : rightAt t v bd = (!(y != v) && !(t.f1 && bd)) := by
              unfold rightAt
              rw [HY.out]
              simp [bne]
            have hv2 := HV2.out
            rw [hra] at hv2
            have HV3 := Lib.hid hv2
            clear HV2 hv2 hra HY HCS
            generalize ht1 : t.f1 = o at *
            clear ht1
            cases hyb : (y != v) <;> cases o <;> cases bd
            all_goals
              iterate 15 (first | (refine L.ge_off rfl rfl rfl (by rfl) ?_) | (refine L.ge_move rfl rfl rfl (by rfl) rfl (by simp [L.evE, L.lk, Act.eval]; rfl) ?_) | (refine L.ge_pick rfl rfl rfl (by rfl) rfl (by simp [L.evE, L.lk, Act.eval]; rfl) (by simp [L.evE, L.lk, Act.eval]; rfl) ?_) | (refine L.ge_val rfl rfl rfl (by rfl) (by intro w' hw'; simp [execOp, L.evE, L.lk, Act.eval]; go_simp; rfl) ?_))
              refine L.ge_done ?_
              simp only [L.puts, Act.put, goInt, List.setIfInBounds_toArray, List.set_cons_zero, List.set_cons_succ]
              have hv3 := HV3.out
              rw [hyb] at hv3
              simp only [Bool.not_true, Bool.not_false, Bool.and_true, Bool.and_false, Bool.true_and, Bool.false_and] at hv3
              have HV4 := Lib.hid hv3
              clear HV3 hv3
              go_wp2
              first
                | (go_roundw
                   case rel => exact ⟨k + 1, by omega, by go_num, HV4, HX3, HB3⟩
                   case measure => simp [intOf]; omega)
                | (go_ret
                   exact ⟨by rw [HV4.out]; rfl, HB3.out⟩)
          · obtain rfl : k = m := by omega
            have hv' := hv.out
            rw [Nat.sub_self] at hv'
            have HV2 := Lib.hid hv'
            clear hv hv'
            go_wp2
            go_ret
            exact ⟨by rw [HV2.out]; rfl, hbw.out⟩
      · have hv := HV.out
        unfold rightB at hv
        have hb3 : (l1_1.length == l0.length) = false := by simpa using h3
        have hb3' : ((l1_1.length : Int) != l0.length) = true := by rw [bne_iff_ne]; omega
        rw [hb3, Bool.and_false, Bool.false_and] at hv
        have HV1 := Lib.hid hv
        have HH2 := Lib.hid h2
        have hb2' : ((l1_0.length : Int) != l0.length) = false := by rw [bne_eq_false_iff_eq]; omega
        have HC1 := Lib.hid h1
        subst h1
        clear HV hv h2 h3 hb3
        go_enter Tryd.func28, Tryd.ntmps28
        go_wp2_with (go_at_call 15; refine (HC.out _ HB0.out).mono ?_; rintro e w1 ⟨rfl, hb1⟩; have HX1 := Lib.hid ((hb1.block _ (by simp)).trans HX0.out); have HB1 := Lib.hid (below_then HB0.out HB0.out.size hb1); clear hb1; have d0 : w1.cell? ⟨w.heap.size, 0, none⟩ = some (.slice A1_0 l1_0.length c1_0) := (cell_of_row w1 w.heap.size 0 _ _ _ HX1.out).trans rfl; have d1 : w1.cell? ⟨w.heap.size, 1, none⟩ = some (.slice A1_1 l1_1.length c1_1) := (cell_of_row w1 w.heap.size 1 _ _ _ HX1.out).trans rfl)
        go_ret
        exact ⟨by rw [HV1.out]; rfl, HB1.out⟩
    · have hv := HV.out
      unfold rightB at hv
      have hb2 : (l1_0.length == l0.length) = false := by simpa using h2
      have hb2' : ((l1_0.length : Int) != l0.length) = true := by rw [bne_iff_ne]; omega
      rw [hb2, Bool.and_false, Bool.false_and, Bool.false_and] at hv
      have HV1 := Lib.hid hv
      subst h1
      clear HV hv h2 hb2
      go_enter Tryd.func28, Tryd.ntmps28
      go_wp2_with (go_at_call 15; refine (HC.out _ HB0.out).mono ?_; rintro e w1 ⟨rfl, hb1⟩; have HX1 := Lib.hid ((hb1.block _ (by simp)).trans HX0.out); have HB1 := Lib.hid (below_then HB0.out HB0.out.size hb1); clear hb1; have d0 : w1.cell? ⟨w.heap.size, 0, none⟩ = some (.slice A1_0 l1_0.length c1_0) := (cell_of_row w1 w.heap.size 0 _ _ _ HX1.out).trans rfl; have d1 : w1.cell? ⟨w.heap.size, 1, none⟩ = some (.slice A1_1 l1_1.length c1_1) := (cell_of_row w1 w.heap.size 1 _ _ _ HX1.out).trans rfl)
      go_ret
      exact ⟨by rw [HV1.out]; rfl, HB1.out⟩
  · have hv := HV.out
    unfold rightB at hv
    have hb1 : (checkZ l0 == 0) = false := by rw [← HCH.out]; simpa using h1
    have hb1' : (ch != 0) = true := by simpa using h1
    rw [hb1, Bool.false_and, Bool.false_and, Bool.false_and] at hv
    have HV1 := Lib.hid hv
    clear HV hv h1 hb1
    go_enter Tryd.func28, Tryd.ntmps28
    go_wp2_with (go_at_call 15; refine (HC.out _ HB0.out).mono ?_; rintro e w1 ⟨rfl, hb1⟩; have HB1 := Lib.hid (below_then HB0.out HB0.out.size hb1); clear hb1)
    go_ret
    exact ⟨by rw [HV1.out]; rfl, HB1.out⟩
end Go.Proofs.YtbmdhmmahmdccaaDoor.Print
