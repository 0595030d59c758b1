import Derived.Test.YtghpmpjoedbpcaaDoorJd3
import Derived.Below
import Derived.ChangeOld
import Derived.LaidLaws
import Derived.LaidOnce
import Derived.Lay
import Derived.Lib.LaidU8T
import Derived.OpenShut
import Derived.PinnedBridge
import Derived.ProofKit
import Derived.SevenTiedAt
import Derived.Shelf.Lay
import Derived.ShutString
import Derived.SizedLaws
import Derived.Test.YtghpmpjoedbpcaaDoorCards
import Derived.Test.YtghpmpjoedbpcaaDoorProg
import Derived.Test.YtghpmpjoedbpcaaDoorRows
import Derived.Test.YtghpmpjoedbpcaaDoorTie
import Derived.WalkKit
set_option linter.unusedVariables false
set_option linter.unusedSimpArgs false
namespace Go.Proofs.YtghpmpjoedbpcaaDoorW.PrintWords
end Go.Proofs.YtghpmpjoedbpcaaDoorW.PrintWords
namespace Go.Proofs.YtghpmpjoedbpcaaDoorW.PrintLast
end Go.Proofs.YtghpmpjoedbpcaaDoorW.PrintLast
namespace Go.Proofs.YtghpmpjoedbpcaaDoorW.PrintMore
end Go.Proofs.YtghpmpjoedbpcaaDoorW.PrintMore
/-! ### JRClose -/
namespace Go.Proofs.YtghpmpjoedbpcaaDoor.Print
open Go.RowKit Go.Proofs.YtghpmpjoedbpcaaDoorW.PrintWords Go.Proofs.YtghpmpjoedbpcaaDoorW.PrintLast Go.Proofs.YtghpmpjoedbpcaaDoorW.PrintMore
set_option linter.unusedSimpArgs false
set_option linter.unusedVariables false
theorem row_ne {w : World} {base : Nat} {e : TypeId} {size : Nat} {v : Value} {n : Nat} {xs : List Value} (h : w.ownsRow base e size v n xs) {g : Nat} {cs : Array Value} {t : TypeId} {f : Nat × Nat} (hg : w.heap[g]? = some (.cells cs t f)) (ht : t ≠ e) : v.ownBlock ≠ some g := by
  intro hk
  rcases h.2 with ⟨rfl, _⟩ | ⟨g', cap, cur, rfl, _, hg', _⟩
  · cases hk
  · obtain rfl : g' = g := by simpa [Value.ownBlock] using hk
    rw [hg'] at hg
    injection hg with hg
    injection hg with h1 h2 h3
    exact ht h2.symm
theorem rows_apart {w : World} {base base' : Nat} {e e' : TypeId} {size size' : Nat} {v v' : Value} {n n' : Nat} {xs xs' : List Value} (h : w.ownsRow base e size v n xs) (h' : w.ownsRow base' e' size' v' n' xs') (ht : e ≠ e') : ∀ k, v.ownBlock = some k → v'.ownBlock ≠ some k := by
  intro k hk
  rcases h.2 with ⟨rfl, _⟩ | ⟨g', cap, cur, rfl, _, hg', _⟩
  · cases hk
  · obtain rfl : g' = k := by simpa [Value.ownBlock] using hk
    exact row_ne h' hg' ht
theorem fill_one3 (z a b c : Value) (hz : z.cells.size = 3) (h1 : (Value.agg #[a, b, c]).cells = #[a, b, c]) : Instr.fill (fun i => some (i * 3, 3)) ((Array.range (1 * 3)).map (z.cells[· % z.cells.size]!)) [(0, .agg #[a, b, c])] = some #[a, b, c] := by
  generalize hA : ((Array.range (1 * 3)).map (z.cells[· % z.cells.size]!)) = arr
  have h2 : arr.size = 3 := by rw [← hA]; simp
  match arr, h2 with
  | ⟨[x, y, u]⟩, _ => simp [Instr.fill, Value.cells]
set_option maxHeartbeats 8000000 in
set_option maxRecDepth 100000 in
theorem rclose_calls (A0 : Option Addr) (c0 : Nat) (A1 : Option Addr) (c1 : Nat) (j : Jn) (b : Int) (w : World) (h0 : j.l.length ≤ c0 ∧ Kd.C k27 w A0 j.l.length j.l) (h1 : j.q.length ≤ c1 ∧ Kd.C k35 w A1 j.q.length j.q) (hj : Lt j) :
    Calls Tryd.prog 22 #[.agg #[.slice A0 j.l.length c0, .slice A1 j.q.length c1, .int .i64 j.g], .int .i64 b] w fun x w' => ∃ v, x = .returned (.tuple #[v, .int .i64 (closeJ j b).2]) ∧ JR w' w.heap.size v (closeJ j b).1.l (closeJ j b).1.q (closeJ j b).1.g ∧ Below w.heap.size w w' := by
  obtain ⟨R, hR⟩ : ∃ R, R = closeJ j b := ⟨_, rfl⟩
  rw [← hR]
  have HRR := Lib.hid hR
  have HA := Lib.hid h0
  have HB := Lib.hid h1
  have HJ := Lib.hid hj
  clear hR h0 h1 hj
  go_enter Tryd.func22, Tryd.ntmps22
  go_wp2_with (go_at_call 28; refine (fun (h : Hid _) => h.out) ?_)
  refine Lib.hid ?_
  have HX0 := Lib.hid (show ((w.alloc (.cells #[.slice A0 j.l.length c0, .slice A1 j.q.length c1, .int .i64 j.g] 25)).alloc (.cells #[.slice none 0 0, .slice none 0 0, .int .i64 0] 25)).heap[w.heap.size]? = some (.cells #[.slice A0 j.l.length c0, .slice A1 j.q.length c1, .int .i64 j.g] 25 (0, 0)) from
    (((Only.refl [] (w.alloc (.cells #[.slice A0 j.l.length c0, .slice A1 j.q.length c1, .int .i64 j.g] 25))).alloc _).heap (heap_alloc_new w _) (by simp)))
  have HX1 := Lib.hid (show ((w.alloc (.cells #[.slice A0 j.l.length c0, .slice A1 j.q.length c1, .int .i64 j.g] 25)).alloc (.cells #[.slice none 0 0, .slice none 0 0, .int .i64 0] 25)).heap[w.heap.size + 1]? = some (.cells #[.slice none 0 0, .slice none 0 0, .int .i64 0] 25 (0, 0)) from by
    have := heap_alloc_new (w.alloc (.cells #[.slice A0 j.l.length c0, .slice A1 j.q.length c1, .int .i64 j.g] 25)) (.cells #[.slice none 0 0, .slice none 0 0, .int .i64 0] 25)
    rw [show (w.alloc (.cells #[.slice A0 j.l.length c0, .slice A1 j.q.length c1, .int .i64 j.g] 25)).heap.size = w.heap.size + 1 by simp] at this
    exact this)
  have HO0 := Lib.hid (((Only.refl [] w).alloc (.cells #[.slice A0 j.l.length c0, .slice A1 j.q.length c1, .int .i64 j.g] 25)).alloc (.cells #[.slice none 0 0, .slice none 0 0, .int .i64 0] 25))
  generalize (w.alloc (.cells #[.slice A0 j.l.length c0, .slice A1 j.q.length c1, .int .i64 j.g] 25)).alloc (.cells #[.slice none 0 0, .slice none 0 0, .int .i64 0] 25) = W0 at *
  generalize hb : w.heap.size = wb at *
  have HBB := Lib.hid hb
  clear hb
  refine (rright_calls A0 c0 A1 c1 j W0 ⟨HA.out.1, Kd.C_below HA.out.2 HO0.out.nil_below⟩ ⟨HB.out.1, Kd.C_below HB.out.2 HO0.out.nil_below⟩ HJ.out).mono ?_
  rintro x W4 ⟨rfl, hb4⟩
  have HZ0 := Lib.hid ((Only.of_below hb4).heap HX0.out (by simp))
  have HZ1 := Lib.hid ((Only.of_below hb4).heap HX1.out (by simp))
  have HW4 := Lib.hid (HO0.out.trans (Only.of_below hb4))
  clear hb4 HX0 HX1 HO0
  unfold closeJ at HRR
  cases hr : rightJ j.l j.q j.g
  · have HR0 := Lib.hid (HRR.out.trans (if_pos (.inl hr)))
    clear hr HRR
    go_wp2_with (first
      | (with_reducible refine wpList_store_new rfl 25 (.tmp 4) (.tmp 21) rfl (wb + 1) #[.slice none 0 0, .slice none 0 0, .int .i64 0] rfl rfl 25 _ HZ1.out (size3_25 _ _ _) rfl (by simp [Value.oneCell']) ?_; intro w9 hh9 ho9))
    refine bodyPost_ret (results_row rfl _ _ (wb + 1) _ _ _ _ rfl hh9.out Tryd.underlying25 rfl (size3_25 _ _ _)) rfl ?_
    rw [HR0.out]
    exact ⟨_, rfl, jr_zero _ _, (((HW4.out.mono (T := [wb + 1]) (by simp)).trans ho9).pop (by rw [HBB.out]; omega)).nil_below⟩
  by_cases hb1 : b < 1
  · have HR0 := Lib.hid (HRR.out.trans (if_pos (.inr (by unfold wi; simp; omega))))
    clear hr HRR
    go_wp2_with (first
      | (with_reducible refine wpList_store_new rfl 25 (.tmp 4) (.tmp 21) rfl (wb + 1) #[.slice none 0 0, .slice none 0 0, .int .i64 0] rfl rfl 25 _ HZ1.out (size3_25 _ _ _) rfl (by simp [Value.oneCell']) ?_; intro w9 hh9 ho9))
    refine bodyPost_ret (results_row rfl _ _ (wb + 1) _ _ _ _ rfl hh9.out Tryd.underlying25 rfl (size3_25 _ _ _)) rfl ?_
    rw [HR0.out]
    exact ⟨_, rfl, jr_zero _ _, (((HW4.out.mono (T := [wb + 1]) (by simp)).trans ho9).pop (by rw [HBB.out]; omega)).nil_below⟩
  by_cases hb9 : 1099511627776 < b
  · have HR0 := Lib.hid (HRR.out.trans (if_pos (.inr (by unfold wi; simp; omega))))
    clear hr HRR
    go_wp2_with (first
      | (with_reducible refine wpList_store_new rfl 25 (.tmp 4) (.tmp 21) rfl (wb + 1) #[.slice none 0 0, .slice none 0 0, .int .i64 0] rfl rfl 25 _ HZ1.out (size3_25 _ _ _) rfl (by simp [Value.oneCell']) ?_; intro w9 hh9 ho9))
    refine bodyPost_ret (results_row rfl _ _ (wb + 1) _ _ _ _ rfl hh9.out Tryd.underlying25 rfl (size3_25 _ _ _)) rfl ?_
    rw [HR0.out]
    exact ⟨_, rfl, jr_zero _ _, (((HW4.out.mono (T := [wb + 1]) (by simp)).trans ho9).pop (by rw [HBB.out]; omega)).nil_below⟩
  replace HRR := Lib.hid (HRR.out.trans (if_neg (by rw [hr]; unfold wi; simp; omega)))
  obtain ⟨hL, hBt, hRi, hG, hU, hE9, hOd⟩ := right_parts hr
  have HRI := Lib.hid ((rising_pair j.q).1 hRi)
  clear hL hBt hRi hG hU hE9 hOd hr
  have HPL := Lib.hid (malthouseref18_Place.calls 10000 A0 c0 j.l A1 c1 j.q j.g b _ W4 (Kd.C_below HA.out.2 HW4.out.nil_below) HA.out.1 (Kd.C_below HB.out.2 HW4.out.nil_below) HB.out.1 (ref_place_is j.l j.q j.g b 10000 HJ.out.2.1 HRI.out (by omega)))
  generalize hpr : (if placeB j.q b = true then (placeI j.q b : Int) else -1) = pr at *
  have HPR := Lib.hid hpr
  clear hpr
  go_wp2_with (first
    | (with_reducible refine wpList_load_at rfl 25 (.tmp 2) rfl ⟨wb, 0, none⟩ rfl _ _ (cellsAt_row HZ0.out) Tryd.underlying25 rfl (by kernel_rfl) ?_)
    | (go_at_call 40; refine HPL.out.mono ?_; rintro x W6 ⟨rfl, hb6⟩; refine (fun (h : Hid _) => h.out) ?_))
  refine Lib.hid ?_
  have h6 := Only.of_below hb6
  have HV0 := Lib.hid (h6.heap HZ0.out (by simp))
  have HV1 := Lib.hid (h6.heap HZ1.out (by simp))
  have HW6 := Lib.hid (HW4.out.trans h6)
  clear h6 hb6 HZ0 HZ1 HW4 HPL
  cases hpb : placeB j.q b
  · have hp1 : pr = -1 := by rw [← HPR.out, hpb]; rfl
    subst hp1
    have HR0 := Lib.hid (HRR.out.trans (if_pos hpb))
    clear hpb HRR
    go_wp2_with (first
      | (with_reducible refine wpList_store_new rfl 25 (.tmp 4) (.tmp 26) rfl (wb + 1) #[.slice none 0 0, .slice none 0 0, .int .i64 0] rfl rfl 25 _ HV1.out (size3_25 _ _ _) rfl (by simp [Value.oneCell']) ?_; intro w9 hh9 ho9))
    refine bodyPost_ret (results_row rfl _ _ (wb + 1) _ _ _ _ rfl hh9.out Tryd.underlying25 rfl (size3_25 _ _ _)) rfl ?_
    rw [HR0.out]
    exact ⟨_, rfl, jr_zero _ _, (((HW6.out.mono (T := [wb + 1]) (by simp)).trans ho9).pop (by rw [HBB.out]; omega)).nil_below⟩
  have hp1 : pr = (placeI j.q b : Int) := by rw [← HPR.out, hpb]; rfl
  subst hp1
  replace HRR := Lib.hid (HRR.out.trans (if_neg (by rw [hpb]; simp)))
  rw [← accC_all HRI.out hpb] at HRR
  clear HPR hpb
  have hp0 : (0 : Int) ≤ placeI j.q b := by omega
  generalize placeI j.q b = pi at *
  have HCO := Lib.hid (copied_calls A0 c0 A1 c1 j W6 ⟨HA.out.1, Kd.C_below HA.out.2 HW6.out.nil_below⟩ ⟨HB.out.1, Kd.C_below HB.out.2 HW6.out.nil_below⟩ (by have := HJ.out.1; omega) (by have := HJ.out.2.1; omega))
  go_wp2_with (first
    | (with_reducible refine wpList_load_at rfl 25 (.tmp 2) rfl ⟨wb, 0, none⟩ rfl _ _ (cellsAt_row HV0.out) Tryd.underlying25 rfl (by kernel_rfl) ?_)
    | (go_at_call 42; refine HCO.out.mono ?_; rintro x W7 ⟨v7, rfl, hjr, hb7⟩; obtain ⟨F0, m0, F1, m1, rfl, q0, q1⟩ := hjr; refine (fun (h : Hid _) => h.out) ?_))
  refine Lib.hid ?_
  have hal : Only [] W7 (W7.alloc (.cells #[.slice F0 j.l.length m0, .slice F1 j.q.length m1, .int .i64 j.g] 25)) := (Only.refl [] W7).alloc _
  have hoo := (Only.of_below hb7).trans hal
  have HU0 := Lib.hid (hoo.heap HV0.out (by simp))
  have HU1 := Lib.hid (hoo.heap HV1.out (by simp))
  have HW8 := Lib.hid (HW6.out.trans hoo)
  have HK8 := Lib.hid (heap_alloc_new W7 (.cells #[.slice F0 j.l.length m0, .slice F1 j.q.length m1, .int .i64 j.g] 25))
  have HL8 := Lib.hid (ownsRow_only q0 hal (by simp))
  have HWB := Lib.hid (show wb + 1 < W6.heap.size from heap_lt HV1.out)
  have HWK := Lib.hid (show W6.heap.size ≤ W7.heap.size from (Only.of_below hb7).size)
  have HNL := Lib.hid (show (Value.slice F0 j.l.length m0).ownBlock ≠ some W7.heap.size from fun h => by have := (ownsRow_lt q0 h).2; omega)
  have HB6 := Lib.hid (show w.heap.size ≤ W6.heap.size from HW6.out.size)
  clear hal hoo q0 q1 hb7 HCO HV0 HV1 HW6
  go_wp2_with (first
    | (with_reducible refine wpList_store_in rfl 23 (.tmp 29) (.const (.slice none 0 0)) rfl W7.heap.size 1 _ rfl rfl [.slice none 0 0] rfl 25 [.slice F0 j.l.length m0, .slice F1 j.q.length m1, .int .i64 j.g] HK8.out (by kernel_rfl) (by simp) (by simp [Value.oneCell']) ?_; intro W9 hr9 ho9; refine (fun (h : Hid _) => h.out) ?_))
  refine Lib.hid ?_
  try simp only [Act.put, goInt, List.setIfInBounds_toArray, List.set_cons_zero, List.set_cons_succ]
  have hr9' : W9.heap[W7.heap.size]? = some (.cells #[.slice F0 j.l.length m0, .slice none 0 0, .int .i64 j.g] 25 (0, 0)) := hr9.out
  have HK9 := Lib.hid hr9'
  have hwk := HWK.out
  have hwb := HWB.out
  have HU0b := Lib.hid (ho9.out.heap HU0.out (by simp; omega))
  have HU1b := Lib.hid (ho9.out.heap HU1.out (by simp; omega))
  have HL9 := Lib.hid (ownsRow_only HL8.out ho9.out (fun k hk h => by simp at h; subst h; exact HNL.out hk))
  have HW9 := Lib.hid (HW8.out.then ho9.out (fun k hk => .inr (by simp at hk; subst hk; have := HBB.out; omega)))
  have HKB := Lib.hid (show W6.heap.size ≤ W7.heap.size from hwk)
  clear hr9' hr9 ho9 HU0 HU1 HL8 HW8 HK8 hwk hwb HNL
  generalize W7.heap.size = kb at *
  go_wp2
  go_loopw [8] (fun si wr => ∃ (i : Nat) (A7 : Option Addr) (c7 : Nat), si = .int .i64 i ∧ i ≤ j.q.length ∧ Hid (wr.heap[kb]? = some (.cells #[.slice F0 j.l.length m0, .slice A7 (accC j.q b i).length c7, .int .i64 j.g] 25 (0, 0))) ∧ Hid (wr.heap[wb]? = some (.cells #[.slice A0 j.l.length c0, .slice A1 j.q.length c1, .int .i64 j.g] 25 (0, 0))) ∧ Hid (wr.heap[wb + 1]? = some (.cells #[.slice none 0 0, .slice none 0 0, .int .i64 0] 25 (0, 0))) ∧ Hid (wr.ownsRow W6.heap.size 27 6 (.slice F0 j.l.length m0) j.l.length (eRow j.l)) ∧ Hid (wr.ownsRow W6.heap.size 35 3 (.slice A7 (accC j.q b i).length c7) (accC j.q b i).length (qRow (accC j.q b i))) ∧ Hid (Only [] w wr)) (fun si _ => j.q.length - (intOf si).toNat)
  case atStart => exact ⟨0, none, 0, rfl, by omega, by rw [accC_zero]; exact HK9, HU0b, HU1b, HL9, by rw [accC_zero]; exact Lib.hid (ownsRow_nil _ _ _ _), HW9⟩
  case round =>
    clear HK9 HU0b HU1b HL9 HW9
    obtain ⟨i, A7, c7, rfl, hil, HK, HU0, HY, HL, HQ, HW⟩ := hrel
    have hqn := HJ.out.2.1
    have z1 : wr.cell? ⟨wb, 1, none⟩ = some (.slice A1 j.q.length c1) := (cell_of_row wr wb 1 _ _ _ HU0.out).trans rfl
    by_cases hlt : i < j.q.length
    · have hlt' : (i : Int) < j.q.length := by omega
      have hi0 : (0 : Int) ≤ i := by omega
      obtain ⟨adq, rfl, hcs⟩ := C_q_at HB.out.2 i hlt
      have HCQ := Lib.hid (show CellsAt w (adq.add (i * 3)) [.int .i64 j.q[i].f0, .int .i64 j.q[i].f1, .int .i64 j.q[i].f2] from hcs)
      clear hcs
      by_cases hqb : j.q[i].f0 = b
      · have HAC := Lib.hid (accC_same hlt hqb)
        have y0 : wr.cell? (adq.add (i * 3)) = some (.int .i64 b) := by have := (HCQ.out.below HW.out.nil_below) 0 _ rfl; rw [Go.Deep.add_add, Nat.add_zero] at this; rw [hqb] at this; exact this
        go_wp2
        go_roundw
        case rel => exact ⟨i + 1, A7, c7, by go_num, by omega, by rw [HAC.out]; exact HK, HU0, HY, HL, by rw [HAC.out]; exact HQ, HW⟩
        case measure => simp [intOf]; omega
      · have HAM := Lib.hid (accC_more hlt hqb)
        have HAL := Lib.hid (accC_le j.q b i)
        generalize accC j.q b i = ac at *
        generalize j.q[i] = x at *
        have y0 : wr.cell? (adq.add (i * 3)) = some (.int .i64 x.f0) := by have := (HCQ.out.below HW.out.nil_below) 0 _ rfl; rwa [Go.Deep.add_add, Nat.add_zero] at this
        have q5 : (x.f0 == b) = false := by rw [beq_eq_false_iff_ne]; exact hqb
        go_wp2_with fail
        clear y0 z1
        refine L.grow_start (Value.slice A7 ac.length c7).ownBlock.toList 10 ((0, true, false) :: (1, true, false) :: (2, true, false) :: (3, true, false) :: (4, true, true) :: (5, true, true) :: (6, true, true) :: (7, false, true) :: (8, false, true) :: (9, true, true) :: (10, false, true) :: []) (by kernel_rfl) (([], [7], some 45) :: ([0], [45], some 46) :: ([], [2], some 47) :: ([2], [47], some 48) :: ([], [8], some 49) :: ([3, 4], [48, 49], some 50) :: ([5], [50], some 51) :: ([6], [51], some 52) :: ([1, 7], [46, 52], some 53) :: ([0, 1, 2, 3, 4, 5, 6, 7, 8], [7], some 54) :: ([9, 8, 8, 0, 1, 2, 3, 4, 5, 6, 7, 8], [54, 53], none) :: []) (by kernel_rfl) (by kernel_rfl) (n := 11) rfl (by kernel_rfl) (fun _ _ _ _ _ h => h) (fun wg hog => ?_)
        refine L.growe_start (N := 56) (by rfl) ?_
        have HKg := Lib.hid (hog.heap HK.out (by simp))
        have HUg := Lib.hid (hog.heap HU0.out (by simp))
        have HYg := Lib.hid (hog.heap HY.out (by simp))
        have HLg := Lib.hid (ownsRow_only HL.out hog (by simp))
        have HQg := Lib.hid (ownsRow_only HQ.out hog (by simp))
        have HWg := Lib.hid (HW.out.trans hog)
        have hs6 : W6.heap.size ≤ wg.heap.size := by have := heap_lt HKg.out; have := HKB.out; omega
        clear hog HK HU0 HY HL HQ HW
        have hml : ∀ k, k ∈ (Value.slice A7 ac.length c7).ownBlock.toList → (Value.slice A7 ac.length c7).ownBlock = some k := fun k hk => by simpa using hk
        have hkn : kb ∉ (Value.slice A7 ac.length c7).ownBlock.toList := fun h => row_ne HQg.out HKg.out (by decide) (hml _ h)
        have hun : wb ∉ (Value.slice A7 ac.length c7).ownBlock.toList := fun h => row_ne HQg.out HUg.out (by decide) (hml _ h)
        have hyn : wb + 1 ∉ (Value.slice A7 ac.length c7).ownBlock.toList := fun h => row_ne HQg.out HYg.out (by decide) (hml _ h)
        have hSw : ∀ k, k ∈ (Value.slice A7 ac.length c7).ownBlock.toList → W6.heap.size ≤ k := fun k hk => (ownsRow_lt HQg.out (hml _ hk)).1
        have HML := Lib.hid hml
        have HKN := Lib.hid hkn
        have HYN := Lib.hid hyn
        have HSW := Lib.hid hSw
        have HS6 := Lib.hid hs6
        have e0 : ∀ w', Only (Value.slice A7 ac.length c7).ownBlock.toList wg w' → w'.cell? ⟨kb, 1, none⟩ = some (.slice A7 ac.length c7) := fun w' k => (cell_of_row w' kb 1 _ _ _ (k.heap HKg.out HKN.out)).trans rfl
        have HUN := Lib.hid hun
        have e1 : ∀ w', Only (Value.slice A7 ac.length c7).ownBlock.toList wg w' → w'.cell? ⟨wb, 1, none⟩ = some (.slice (some adq) j.q.length c1) := fun w' k => (cell_of_row w' wb 1 _ _ _ (k.heap HUg.out HUN.out)).trans rfl
        clear hml hkn hun hyn hSw hs6
        iterate 6 (first | (refine L.ge_off rfl rfl rfl (by rfl) ?_) | (refine L.ge_move rfl rfl rfl (by rfl) rfl (by simp [L.evE, L.lk, Act.eval]; rfl) ?_) | (refine L.ge_pick rfl rfl rfl (by rfl) rfl (by simp [L.evE, L.lk, Act.eval]; rfl) (by simp [L.evE, L.lk, Act.eval]; rfl) ?_) | (refine L.ge_val rfl rfl rfl (by rfl) (by intro w' hw'; simp [execOp, L.evE, L.lk, Act.eval]; go_simp; rfl) ?_))
        refine ge_load_at rfl rfl rfl (by rfl) _ _ rfl (adq.add (i * 3)) (by simp [L.evE, L.lk, Act.eval]) _ _ (fun w' k => HCQ.out.below (HWg.out.then k (fun k hk => .inr (Nat.le_trans HB6.out (HSW.out k hk)))).nil_below) Tryd.underlying35 rfl (by kernel_rfl) ?_
        clear e1
        refine ge_one rfl rfl rfl (by rfl) _ (.tmp 51) rfl 35 Tryd.underlying23 (.agg #[.int .i64 0, .int .i64 0, .int .i64 0]) 3 24 info35 (by omega) (by omega) #[.int .i64 x.f0, .int .i64 x.f1, .int .i64 x.f2] (by have h := fill_one3 (.agg #[.int .i64 0, .int .i64 0, .int .i64 0]) (.int .i64 x.f0) (.int .i64 x.f1) (.int .i64 x.f2) rfl rfl; simpa [L.evE, L.lk, Act.eval] using h) ?_
        have HPN := Lib.hid (heap_alloc_new wg (.cells #[.int .i64 x.f0, .int .i64 x.f1, .int .i64 x.f2] 35))
        have hal : Only [] wg (wg.alloc (.cells #[.int .i64 x.f0, .int .i64 x.f1, .int .i64 x.f2] 35)) := (Only.refl [] wg).alloc _
        have HOW := Lib.hid (ownsRow_only HQg.out hal (by simp))
        have HALo := Lib.hid hal
        clear hal e0
        refine ge_append_row rfl rfl rfl (by rfl) (.tmp 46) (.tmp 52) 23 rfl W6.heap.size 35 3 24 (.agg #[.int .i64 0, .int .i64 0, .int .i64 0]) Tryd.underlying23 info35 rfl (by omega) (.slice A7 ac.length c7) ac.length (qRow ac) (by simp [L.evE, L.lk, Act.eval]) HOW.out (some ⟨wg.heap.size, 0, none⟩) 1 1 [.int .i64 x.f0, .int .i64 x.f1, .int .i64 x.f2] (by simp [L.evE, L.lk, Act.eval]) rfl (fun _ => ⟨_, rfl, cellsAt_row HPN.out⟩) (by simp [Value.oneCell']) (by have := HAL.out; unfold maxLen; omega) (by have := HAL.out; omega) (Nat.le_trans HS6.out HALo.out.size) ?_
        intro A8 c8 w8 hb8 ho8 hk8
        refine ⟨ho8, ?_⟩
        have HB8 := Lib.hid (show w8.ownsRow W6.heap.size 35 3 (.slice A8 (ac.length + 1) c8) (ac.length + 1) (qRow (ac ++ [x])) by rw [qRow_append]; exact hb8)
        have HO8 := Lib.hid (HALo.out.mono (T := (Value.slice A7 ac.length c7).ownBlock.toList) (by simp) |>.trans ho8)
        clear hb8 ho8 hk8 HPN HOW HALo
        have HK8 := Lib.hid (HO8.out.heap HKg.out HKN.out)
        (first | (refine L.ge_off rfl rfl rfl (by rfl) ?_) | (refine L.ge_move rfl rfl rfl (by rfl) rfl (by simp [L.evE, L.lk, Act.eval]; rfl) ?_) | (refine L.ge_pick rfl rfl rfl (by rfl) rfl (by simp [L.evE, L.lk, Act.eval]; rfl) (by simp [L.evE, L.lk, Act.eval]; rfl) ?_) | (refine L.ge_val rfl rfl rfl (by rfl) (by intro w' hw'; simp [execOp, L.evE, L.lk, Act.eval]; go_simp; rfl) ?_))
        refine ge_last_in rfl rfl (by rfl) _ (.tmp 54) (.tmp 53) rfl kb 1 (.slice A8 (ac.length + 1) c8) (by simp [L.evE, L.lk, Act.eval]) (by simp [L.evE, L.lk, Act.eval]) [.slice A8 (ac.length + 1) c8] rfl 25 [.slice F0 j.l.length m0, .slice A7 ac.length c7, .int .i64 j.g] HK8.out (by kernel_rfl) (by simp) (by simp [Value.oneCell']) ?_
        intro w9 hr9 ho9
        simp only [L.puts, Act.put, goInt, List.setIfInBounds_toArray, List.set_cons_zero, List.set_cons_succ]
        have HK9 := Lib.hid (show w9.heap[kb]? = some (.cells #[.slice F0 j.l.length m0, .slice A8 (ac.length + 1) c8, .int .i64 j.g] 25 (0, 0)) from hr9.out)
        have HU9 := Lib.hid (ho9.out.heap (HO8.out.heap HUg.out HUN.out) (by have := HKB.out; have := HWB.out; simp; omega))
        have HY9 := Lib.hid (ho9.out.heap (HO8.out.heap HYg.out HYN.out) (by have := HKB.out; have := HWB.out; simp; omega))
        have HL9 := Lib.hid (ownsRow_only (ownsRow_only HLg.out HO8.out (fun k hk h => rows_apart HLg.out HQg.out (by decide) k hk (HML.out k h))) ho9.out (fun k hk h => by simp at h; subst h; exact row_ne HLg.out HKg.out (by decide) hk))
        have HQ9 := Lib.hid (ownsRow_only HB8.out ho9.out (fun k hk h => by simp at h; subst h; exact row_ne HB8.out HK8.out (by decide) hk))
        have HW9 := Lib.hid ((HWg.out.then HO8.out (fun k hk => .inr (Nat.le_trans HB6.out (HSW.out k hk)))).then ho9.out (fun k hk => .inr (by simp at hk; subst hk; exact Nat.le_trans HB6.out HKB.out)))
        have hln : (ac ++ [x]).length = ac.length + 1 := by simp
        clear hr9 ho9 HO8 HB8 HK8 HKg HUg HYg HLg HQg HWg
        go_wp2
        go_roundw
        case rel => exact ⟨i + 1, A8, c8, by go_num, by omega, by rw [HAM.out, hln]; exact HK9, HU9, HY9, HL9, by rw [HAM.out, hln]; exact HQ9, HW9⟩
        case measure => simp [intOf]; omega
    · obtain rfl : i = j.q.length := by omega
      have hlt' : ¬ (j.q.length : Int) < j.q.length := by omega
      go_wp2_with (first
        | (with_reducible refine wpList_load_at rfl 25 (.tmp 7) rfl ⟨kb, 0, none⟩ rfl _ _ (cellsAt_row HK.out) Tryd.underlying25 rfl (by kernel_rfl) ?_)
        | (with_reducible refine wpList_store_new rfl 25 (.tmp 4) (.tmp 55) rfl (wb + 1) #[.slice F0 j.l.length m0, .slice A7 (accC j.q b j.q.length).length c7, .int .i64 j.g] rfl rfl 25 _ HY.out (size3_25 _ _ _) rfl (by simp [Value.oneCell']) ?_; intro w9 hh9 ho9; have Hh9 := Lib.hid hh9.out; have Ho9 := Lib.hid ho9; clear hh9 ho9; refine (fun (h : Hid _) => h.out) ?_))
      refine Lib.hid ?_
      try simp only [Act.put, goInt, List.setIfInBounds_toArray, List.set_cons_zero, List.set_cons_succ]
      go_wp2
      have ho9 := Ho9.out
      refine bodyPost_ret (results_row rfl _ _ (wb + 1) _ _ _ _ rfl Hh9.out Tryd.underlying25 rfl (size3_25 _ _ _)) rfl ?_
      rw [HRR.out]
      have f2 := ownsRow_only HL.out ho9 (fun k hk h => by simp at h; subst h; have := (ownsRow_lt HL.out hk).1; have := HWB.out; omega)
      have f3 := ownsRow_only HQ.out ho9 (fun k hk h => by simp at h; subst h; have := (ownsRow_lt HQ.out hk).1; have := HWB.out; omega)
      exact ⟨_, rfl, ⟨F0, m0, A7, c7, rfl, ownsRow_mono f2 HB6.out, ownsRow_mono f3 HB6.out⟩, (HW.out.then ho9 (fun k hk => .inr (by simp at hk; subst hk; have := HBB.out; omega))).nil_below⟩
end Go.Proofs.YtghpmpjoedbpcaaDoor.Print
/-! ### JROpen -/
namespace Go.Proofs.YtghpmpjoedbpcaaDoor.Print
open Go.RowKit Go.Proofs.YtghpmpjoedbpcaaDoorW.PrintWords Go.Proofs.YtghpmpjoedbpcaaDoorW.PrintLast Go.Proofs.YtghpmpjoedbpcaaDoorW.PrintMore
set_option linter.unusedSimpArgs false
set_option linter.unusedVariables false
theorem accO_le (q : List S35) (x : S35) (i : Nat) : (accO q x i).length ≤ q.length + 1 := by
  unfold accO
  split
  · rw [List.length_take]; omega
  · simp only [List.length_append, List.length_cons, List.length_take, List.length_drop]; omega
theorem at_lt {q : List S35} {b : Int} {i : Nat} (hi : i < q.length) (h : i < placeI q b) : q[i].f0 < b := place_lt q b _ (by rw [List.mem_take_iff_getElem]; exact ⟨i, by omega, rfl⟩)
theorem at_gt {q : List S35} {b : Int} {i : Nat} (hr : (q.map (·.f0)).Pairwise (· < ·)) (hp : placeB q b = false) (hi : i < q.length) (h : placeI q b ≤ i) : b < q[i].f0 :=
  place_gt q b hr hp _ (by rw [List.mem_drop_iff_getElem]; exact ⟨i - placeI q b, by omega, by congr 1; omega⟩)
set_option maxHeartbeats 8000000 in
set_option maxRecDepth 100000 in
theorem ropen_calls (A0 : Option Addr) (c0 : Nat) (A1 : Option Addr) (c1 : Nat) (j : Jn) (b n : Int) (w : World) (h0 : j.l.length ≤ c0 ∧ Kd.C k27 w A0 j.l.length j.l) (h1 : j.q.length ≤ c1 ∧ Kd.C k35 w A1 j.q.length j.q) (hj : Lt j) :
    Calls Tryd.prog 20 #[.agg #[.slice A0 j.l.length c0, .slice A1 j.q.length c1, .int .i64 j.g], .int .i64 b, .int .i64 n] w fun x w' => ∃ v, x = .returned (.tuple #[v, .int .i64 (openJ j b n).2]) ∧ JR w' w.heap.size v (openJ j b n).1.l (openJ j b n).1.q (openJ j b n).1.g ∧ Below w.heap.size w w' := by
  obtain ⟨R, hR⟩ : ∃ R, R = openJ j b n := ⟨_, rfl⟩
  rw [← hR]
  have HRR := Lib.hid hR
  have HA := Lib.hid h0
  have HB := Lib.hid h1
  have HJ := Lib.hid hj
  clear hR h0 h1 hj
  go_enter Tryd.func20, Tryd.ntmps20
  go_wp2_with (go_at_call 28; refine (fun (h : Hid _) => h.out) ?_)
  refine Lib.hid ?_
  have HX0 := Lib.hid (show ((w.alloc (.cells #[.slice A0 j.l.length c0, .slice A1 j.q.length c1, .int .i64 j.g] 25)).alloc (.cells #[.slice none 0 0, .slice none 0 0, .int .i64 0] 25)).heap[w.heap.size]? = some (.cells #[.slice A0 j.l.length c0, .slice A1 j.q.length c1, .int .i64 j.g] 25 (0, 0)) from
    (((Only.refl [] (w.alloc (.cells #[.slice A0 j.l.length c0, .slice A1 j.q.length c1, .int .i64 j.g] 25))).alloc _).heap (heap_alloc_new w _) (by simp)))
  have HX1 := Lib.hid (show ((w.alloc (.cells #[.slice A0 j.l.length c0, .slice A1 j.q.length c1, .int .i64 j.g] 25)).alloc (.cells #[.slice none 0 0, .slice none 0 0, .int .i64 0] 25)).heap[w.heap.size + 1]? = some (.cells #[.slice none 0 0, .slice none 0 0, .int .i64 0] 25 (0, 0)) from by
    have := heap_alloc_new (w.alloc (.cells #[.slice A0 j.l.length c0, .slice A1 j.q.length c1, .int .i64 j.g] 25)) (.cells #[.slice none 0 0, .slice none 0 0, .int .i64 0] 25)
    rw [show (w.alloc (.cells #[.slice A0 j.l.length c0, .slice A1 j.q.length c1, .int .i64 j.g] 25)).heap.size = w.heap.size + 1 by simp] at this
    exact this)
  have HO0 := Lib.hid (((Only.refl [] w).alloc (.cells #[.slice A0 j.l.length c0, .slice A1 j.q.length c1, .int .i64 j.g] 25)).alloc (.cells #[.slice none 0 0, .slice none 0 0, .int .i64 0] 25))
  generalize (w.alloc (.cells #[.slice A0 j.l.length c0, .slice A1 j.q.length c1, .int .i64 j.g] 25)).alloc (.cells #[.slice none 0 0, .slice none 0 0, .int .i64 0] 25) = W0 at *
  generalize hb : w.heap.size = wb at *
  have HBB := Lib.hid hb
  clear hb
  refine (rright_calls A0 c0 A1 c1 j W0 ⟨HA.out.1, Kd.C_below HA.out.2 HO0.out.nil_below⟩ ⟨HB.out.1, Kd.C_below HB.out.2 HO0.out.nil_below⟩ HJ.out).mono ?_
  rintro x W4 ⟨rfl, hb4⟩
  have HZ0 := Lib.hid ((Only.of_below hb4).heap HX0.out (by simp))
  have HZ1 := Lib.hid ((Only.of_below hb4).heap HX1.out (by simp))
  have HW4 := Lib.hid (HO0.out.trans (Only.of_below hb4))
  clear hb4 HX0 HX1 HO0
  unfold openJ at HRR
  cases hr : rightJ j.l j.q j.g
  · have HR0 := Lib.hid (HRR.out.trans (if_pos (.inl hr)))
    clear hr HRR
    go_wp2_with (first
      | (with_reducible refine wpList_store_new rfl 25 (.tmp 6) (.tmp 32) rfl (wb + 1) #[.slice none 0 0, .slice none 0 0, .int .i64 0] rfl rfl 25 _ HZ1.out (size3_25 _ _ _) rfl (by simp [Value.oneCell']) ?_; intro w9 hh9 ho9))
    refine bodyPost_ret (results_row rfl _ _ (wb + 1) _ _ _ _ rfl hh9.out Tryd.underlying25 rfl (size3_25 _ _ _)) rfl ?_
    rw [HR0.out]
    exact ⟨_, rfl, jr_zero _ _, (((HW4.out.mono (T := [wb + 1]) (by simp)).trans ho9).pop (by rw [HBB.out]; omega)).nil_below⟩
  by_cases hb1 : b < 1
  · have HR0 := Lib.hid (HRR.out.trans (if_pos (.inr (.inl (by unfold wi; simp; omega)))))
    clear hr HRR
    go_wp2_with (first
      | (with_reducible refine wpList_store_new rfl 25 (.tmp 6) (.tmp 32) rfl (wb + 1) #[.slice none 0 0, .slice none 0 0, .int .i64 0] rfl rfl 25 _ HZ1.out (size3_25 _ _ _) rfl (by simp [Value.oneCell']) ?_; intro w9 hh9 ho9))
    refine bodyPost_ret (results_row rfl _ _ (wb + 1) _ _ _ _ rfl hh9.out Tryd.underlying25 rfl (size3_25 _ _ _)) rfl ?_
    rw [HR0.out]
    exact ⟨_, rfl, jr_zero _ _, (((HW4.out.mono (T := [wb + 1]) (by simp)).trans ho9).pop (by rw [HBB.out]; omega)).nil_below⟩
  by_cases hb9 : 1099511627776 < b
  · have HR0 := Lib.hid (HRR.out.trans (if_pos (.inr (.inl (by unfold wi; simp; omega)))))
    clear hr HRR
    go_wp2_with (first
      | (with_reducible refine wpList_store_new rfl 25 (.tmp 6) (.tmp 32) rfl (wb + 1) #[.slice none 0 0, .slice none 0 0, .int .i64 0] rfl rfl 25 _ HZ1.out (size3_25 _ _ _) rfl (by simp [Value.oneCell']) ?_; intro w9 hh9 ho9))
    refine bodyPost_ret (results_row rfl _ _ (wb + 1) _ _ _ _ rfl hh9.out Tryd.underlying25 rfl (size3_25 _ _ _)) rfl ?_
    rw [HR0.out]
    exact ⟨_, rfl, jr_zero _ _, (((HW4.out.mono (T := [wb + 1]) (by simp)).trans ho9).pop (by rw [HBB.out]; omega)).nil_below⟩
  by_cases hn1 : n < 1
  · have HR0 := Lib.hid (HRR.out.trans (if_pos (.inr (.inr (.inl hn1)))))
    clear hr HRR
    go_wp2_with (first
      | (with_reducible refine wpList_store_new rfl 25 (.tmp 6) (.tmp 32) rfl (wb + 1) #[.slice none 0 0, .slice none 0 0, .int .i64 0] rfl rfl 25 _ HZ1.out (size3_25 _ _ _) rfl (by simp [Value.oneCell']) ?_; intro w9 hh9 ho9))
    refine bodyPost_ret (results_row rfl _ _ (wb + 1) _ _ _ _ rfl hh9.out Tryd.underlying25 rfl (size3_25 _ _ _)) rfl ?_
    rw [HR0.out]
    exact ⟨_, rfl, jr_zero _ _, (((HW4.out.mono (T := [wb + 1]) (by simp)).trans ho9).pop (by rw [HBB.out]; omega)).nil_below⟩
  by_cases hn9 : 40 < n
  · have HR0 := Lib.hid (HRR.out.trans (if_pos (.inr (.inr (.inr hn9)))))
    clear hr HRR
    go_wp2_with (first
      | (with_reducible refine wpList_store_new rfl 25 (.tmp 6) (.tmp 32) rfl (wb + 1) #[.slice none 0 0, .slice none 0 0, .int .i64 0] rfl rfl 25 _ HZ1.out (size3_25 _ _ _) rfl (by simp [Value.oneCell']) ?_; intro w9 hh9 ho9))
    refine bodyPost_ret (results_row rfl _ _ (wb + 1) _ _ _ _ rfl hh9.out Tryd.underlying25 rfl (size3_25 _ _ _)) rfl ?_
    rw [HR0.out]
    exact ⟨_, rfl, jr_zero _ _, (((HW4.out.mono (T := [wb + 1]) (by simp)).trans ho9).pop (by rw [HBB.out]; omega)).nil_below⟩
  replace HRR := Lib.hid (HRR.out.trans (if_neg (by rw [hr]; unfold wi; simp; omega)))
  obtain ⟨hL, hBt, hRi, hG, hU, hE9, hOd⟩ := right_parts hr
  have HRI := Lib.hid ((rising_pair j.q).1 hRi)
  have HLO := Lib.hid hL
  clear hL hBt hRi hG hU hE9 hOd hr
  have HPL := Lib.hid (malthouseref18_Place.calls 10000 A0 c0 j.l A1 c1 j.q j.g b _ W4 (Kd.C_below HA.out.2 HW4.out.nil_below) HA.out.1 (Kd.C_below HB.out.2 HW4.out.nil_below) HB.out.1 (ref_place_is j.l j.q j.g b 10000 HJ.out.2.1 HRI.out (by omega)))
  generalize hpr : (if placeB j.q b = true then (placeI j.q b : Int) else -1) = pr at *
  have HPR := Lib.hid hpr
  clear hpr
  go_wp2_with (first
    | (with_reducible refine wpList_load_at rfl 25 (.tmp 3) rfl ⟨wb, 0, none⟩ rfl _ _ (cellsAt_row HZ0.out) Tryd.underlying25 rfl (by kernel_rfl) ?_)
    | (go_at_call 40; refine HPL.out.mono ?_; rintro x W6 ⟨rfl, hb6⟩; refine (fun (h : Hid _) => h.out) ?_))
  refine Lib.hid ?_
  have h6 := Only.of_below hb6
  have HV0 := Lib.hid (h6.heap HZ0.out (by simp))
  have HV1 := Lib.hid (h6.heap HZ1.out (by simp))
  have HW6 := Lib.hid (HW4.out.trans h6)
  clear h6 hb6 HZ0 HZ1 HW4 HPL
  cases hpb : placeB j.q b
  rotate_left
  · have hp1 : pr = (placeI j.q b : Int) := by rw [← HPR.out, hpb]; rfl
    subst hp1
    have hp0 : (0 : Int) ≤ placeI j.q b := by omega
    have HR0 := Lib.hid (HRR.out.trans (if_pos hpb))
    clear hpb HRR HPR
    go_wp2_with (first
      | (with_reducible refine wpList_store_new rfl 25 (.tmp 6) (.tmp 37) rfl (wb + 1) #[.slice none 0 0, .slice none 0 0, .int .i64 0] rfl rfl 25 _ HV1.out (size3_25 _ _ _) rfl (by simp [Value.oneCell']) ?_; intro w9 hh9 ho9))
    refine bodyPost_ret (results_row rfl _ _ (wb + 1) _ _ _ _ rfl hh9.out Tryd.underlying25 rfl (size3_25 _ _ _)) rfl ?_
    rw [HR0.out]
    exact ⟨_, rfl, jr_zero _ _, (((HW6.out.mono (T := [wb + 1]) (by simp)).trans ho9).pop (by rw [HBB.out]; omega)).nil_below⟩
  have hp1 : pr = -1 := by rw [← HPR.out, hpb]; rfl
  subst hp1
  replace HRR := Lib.hid (HRR.out.trans (if_neg (by rw [hpb]; simp)))
  have HPB := Lib.hid hpb
  clear HPR hpb
  have HSU := Lib.hid (malthouseref18_sum.calls 10000 A0 c0 j.l A1 c1 j.q j.g (usedZ j.l j.q) W6 (Kd.C_below HA.out.2 HW6.out.nil_below) HA.out.1 (Kd.C_below HB.out.2 HW6.out.nil_below) HB.out.1 (ref_sum_is j.l j.q j.g 10000 HJ.out.1 HJ.out.2.1 HLO.out (by have := HJ.out.2.1; omega)))
  have huz : 0 ≤ usedZ j.l j.q ∧ usedZ j.l j.q ≤ 121 := by rw [usedZ_tot j HLO.out]; have := sumLeft_ge j.q HLO.out; unfold mn tot; split <;> omega
  obtain ⟨huz0, huz9⟩ := huz
  generalize usedZ j.l j.q = uz at *
  go_wp2_with (first
    | (with_reducible refine wpList_load_at rfl 25 (.tmp 3) rfl ⟨wb, 0, none⟩ rfl _ _ (cellsAt_row HV0.out) Tryd.underlying25 rfl (by kernel_rfl) ?_)
    | (go_at_call 41; refine HSU.out.mono ?_; rintro x W5 ⟨rfl, hb5⟩; refine (fun (h : Hid _) => h.out) ?_))
  refine Lib.hid ?_
  have h5 := Only.of_below hb5
  replace HV0 := Lib.hid (h5.heap HV0.out (by simp))
  replace HV1 := Lib.hid (h5.heap HV1.out (by simp))
  replace HW6 := Lib.hid (HW6.out.trans h5)
  clear h5 hb5 HSU
  by_cases hbig : 120 < uz + n
  · have HR0 := Lib.hid (HRR.out.trans (if_pos hbig))
    clear HRR
    go_wp2_with (first
      | (with_reducible refine wpList_store_new rfl 25 (.tmp 6) (.tmp 43) rfl (wb + 1) #[.slice none 0 0, .slice none 0 0, .int .i64 0] rfl rfl 25 _ HV1.out (size3_25 _ _ _) rfl (by simp [Value.oneCell']) ?_; intro w9 hh9 ho9))
    refine bodyPost_ret (results_row rfl _ _ (wb + 1) _ _ _ _ rfl hh9.out Tryd.underlying25 rfl (size3_25 _ _ _)) rfl ?_
    rw [HR0.out]
    exact ⟨_, rfl, jr_zero _ _, (((HW6.out.mono (T := [wb + 1]) (by simp)).trans ho9).pop (by rw [HBB.out]; omega)).nil_below⟩
  replace HRR := Lib.hid (HRR.out.trans (if_neg hbig))
  have HCO := Lib.hid (copied_calls A0 c0 A1 c1 j W5 ⟨HA.out.1, Kd.C_below HA.out.2 HW6.out.nil_below⟩ ⟨HB.out.1, Kd.C_below HB.out.2 HW6.out.nil_below⟩ (by have := HJ.out.1; omega) (by have := HJ.out.2.1; omega))
  go_wp2_with (first
    | (with_reducible refine wpList_load_at rfl 25 (.tmp 3) rfl ⟨wb, 0, none⟩ rfl _ _ (cellsAt_row HV0.out) Tryd.underlying25 rfl (by kernel_rfl) ?_)
    | (go_at_call 42; refine HCO.out.mono ?_; rintro x W7 ⟨v7, rfl, hjr, hb7⟩; obtain ⟨F0, m0, F1, m1, rfl, q0, q1⟩ := hjr; refine (fun (h : Hid _) => h.out) ?_))
  refine Lib.hid ?_
  have hal : Only [] W7 (W7.alloc (.cells #[.slice F0 j.l.length m0, .slice F1 j.q.length m1, .int .i64 j.g] 25)) := (Only.refl [] W7).alloc _
  have hoo := (Only.of_below hb7).trans hal
  have HU0 := Lib.hid (hoo.heap HV0.out (by simp))
  have HU1 := Lib.hid (hoo.heap HV1.out (by simp))
  have HW8 := Lib.hid (HW6.out.trans hoo)
  have HK8 := Lib.hid (heap_alloc_new W7 (.cells #[.slice F0 j.l.length m0, .slice F1 j.q.length m1, .int .i64 j.g] 25))
  have HL8 := Lib.hid (ownsRow_only q0 hal (by simp))
  have HWB := Lib.hid (show wb + 1 < W5.heap.size from heap_lt HV1.out)
  have HWK := Lib.hid (show W5.heap.size ≤ W7.heap.size from (Only.of_below hb7).size)
  have HNL := Lib.hid (show (Value.slice F0 j.l.length m0).ownBlock ≠ some W7.heap.size from fun h => by have := (ownsRow_lt q0 h).2; omega)
  have HB6 := Lib.hid (show w.heap.size ≤ W5.heap.size from HW6.out.size)
  clear hal hoo q0 q1 hb7 HCO HV0 HV1 HW6
  go_wp2_with (first
    | (with_reducible refine wpList_store_in rfl 23 (.tmp 46) (.const (.slice none 0 0)) rfl W7.heap.size 1 _ rfl rfl [.slice none 0 0] rfl 25 [.slice F0 j.l.length m0, .slice F1 j.q.length m1, .int .i64 j.g] HK8.out (by kernel_rfl) (by simp) (by simp [Value.oneCell']) ?_; intro W9 hr9 ho9; refine (fun (h : Hid _) => h.out) ?_))
  refine Lib.hid ?_
  try simp only [Act.put, goInt, List.setIfInBounds_toArray, List.set_cons_zero, List.set_cons_succ]
  have hr9' : W9.heap[W7.heap.size]? = some (.cells #[.slice F0 j.l.length m0, .slice none 0 0, .int .i64 j.g] 25 (0, 0)) := hr9.out
  have HK9 := Lib.hid hr9'
  have hwk := HWK.out
  have hwb := HWB.out
  have HU0b := Lib.hid (ho9.out.heap HU0.out (by simp; omega))
  have HU1b := Lib.hid (ho9.out.heap HU1.out (by simp; omega))
  have HL9 := Lib.hid (ownsRow_only HL8.out ho9.out (fun k hk h => by simp at h; subst h; exact HNL.out hk))
  have HW9 := Lib.hid (HW8.out.then ho9.out (fun k hk => .inr (by simp at hk; subst hk; have := HBB.out; omega)))
  have HKB := Lib.hid (show W5.heap.size ≤ W7.heap.size from hwk)
  clear hr9' hr9 ho9 HU0 HU1 HL8 HW8 HK8 hwk hwb HNL
  generalize W7.heap.size = kb at *
  go_wp2
  go_loopw [10, 11] (fun sf si wr => ∃ (f : Bool) (i : Nat) (A7 : Option Addr) (c7 : Nat), sf = .bool f ∧ si = .int .i64 i ∧ i ≤ j.q.length ∧ Hid (f = decide (placeI j.q b < i)) ∧ Hid (wr.heap[kb]? = some (.cells #[.slice F0 j.l.length m0, .slice A7 (accO j.q ⟨b, n, 0⟩ i).length c7, .int .i64 j.g] 25 (0, 0))) ∧ Hid (wr.heap[wb]? = some (.cells #[.slice A0 j.l.length c0, .slice A1 j.q.length c1, .int .i64 j.g] 25 (0, 0))) ∧ Hid (wr.heap[wb + 1]? = some (.cells #[.slice none 0 0, .slice none 0 0, .int .i64 0] 25 (0, 0))) ∧ Hid (wr.ownsRow W5.heap.size 27 6 (.slice F0 j.l.length m0) j.l.length (eRow j.l)) ∧ Hid (wr.ownsRow W5.heap.size 35 3 (.slice A7 (accO j.q ⟨b, n, 0⟩ i).length c7) (accO j.q ⟨b, n, 0⟩ i).length (qRow (accO j.q ⟨b, n, 0⟩ i))) ∧ Hid (Only [] w wr)) (fun _ si _ => j.q.length - (intOf si).toNat)
  case atStart => exact ⟨false, 0, none, 0, rfl, rfl, by omega, Lib.hid (by simp), by rw [accO_zero]; exact HK9, HU0b, HU1b, HL9, by rw [accO_zero]; exact Lib.hid (ownsRow_nil _ _ _ _), HW9⟩
  case round =>
    clear HK9 HU0b HU1b HL9 HW9
    obtain ⟨f, i, A7, c7, rfl, rfl, hil, HF, HK, HU0, HY, HL, HQ, HW⟩ := hrel
    have hqn := HJ.out.2.1
    have z1 : wr.cell? ⟨wb, 1, none⟩ = some (.slice A1 j.q.length c1) := (cell_of_row wr wb 1 _ _ _ HU0.out).trans rfl
    have HAL := Lib.hid (accO_le j.q ⟨b, n, 0⟩ i)
    by_cases hlt : i < j.q.length
    · have hlt' : (i : Int) < j.q.length := by omega
      have hi0 : (0 : Int) ≤ i := by omega
      obtain ⟨adq, rfl, hcs⟩ := C_q_at HB.out.2 i hlt
      have HCQ := Lib.hid (show CellsAt w (adq.add (i * 3)) [.int .i64 j.q[i].f0, .int .i64 j.q[i].f1, .int .i64 j.q[i].f2] from hcs)
      clear hcs
      have y0 : wr.cell? (adq.add (i * 3)) = some (.int .i64 j.q[i].f0) := by have := (HCQ.out.below HW.out.nil_below) 0 _ rfl; rwa [Go.Deep.add_add, Nat.add_zero] at this
      rcases Nat.lt_trichotomy i (placeI j.q b) with hp | hp | hp
      · have HF1 := Lib.hid (show f = false from by rw [HF.out]; simp; omega)
        obtain rfl := HF1.out
        clear HF1 HF
        have HAM := Lib.hid (accO_before (x := ⟨b, n, 0⟩) hlt hp)
        have HFN := Lib.hid (show (false : Bool) = decide (placeI j.q b < i + 1) from by simp; omega)
        have hqb : ¬ b < j.q[i].f0 := by have := at_lt hlt hp; omega
        clear hp
        generalize accO j.q ⟨b, n, 0⟩ i = ac at *
        generalize j.q[i] = x at *
        go_wp2_with fail
        clear y0 z1 hqb
        refine L.grow_start (Value.slice A7 ac.length c7).ownBlock.toList 10 ((0, true, false) :: (1, true, false) :: (2, true, false) :: (3, true, false) :: (4, true, true) :: (5, true, true) :: (6, true, true) :: (7, false, true) :: (8, false, true) :: (9, true, true) :: (10, false, true) :: []) (by kernel_rfl) (([], [9], some 74) :: ([0], [74], some 75) :: ([], [3], some 76) :: ([2], [76], some 77) :: ([], [11], some 78) :: ([3, 4], [77, 78], some 79) :: ([5], [79], some 80) :: ([6], [80], some 81) :: ([1, 7], [75, 81], some 82) :: ([0, 1, 2, 3, 4, 5, 6, 7, 8], [9], some 83) :: ([9, 8, 8, 0, 1, 2, 3, 4, 5, 6, 7, 8], [83, 82], none) :: []) (by kernel_rfl) (by kernel_rfl) (n := 11) rfl (by kernel_rfl) (fun _ _ _ _ _ h => h) (fun wg hog => ?_)
        refine L.growe_start (N := 95) (by rfl) ?_
        have HKg := Lib.hid (hog.heap HK.out (by simp))
        have HUg := Lib.hid (hog.heap HU0.out (by simp))
        have HYg := Lib.hid (hog.heap HY.out (by simp))
        have HLg := Lib.hid (ownsRow_only HL.out hog (by simp))
        have HQg := Lib.hid (ownsRow_only HQ.out hog (by simp))
        have HWg := Lib.hid (HW.out.trans hog)
        have hs6 : W5.heap.size ≤ wg.heap.size := by have := heap_lt HKg.out; have := HKB.out; omega
        clear hog HK HU0 HY HL HQ HW
        have hml : ∀ k, k ∈ (Value.slice A7 ac.length c7).ownBlock.toList → (Value.slice A7 ac.length c7).ownBlock = some k := fun k hk => by simpa using hk
        have hkn : kb ∉ (Value.slice A7 ac.length c7).ownBlock.toList := fun h => row_ne HQg.out HKg.out (by decide) (hml _ h)
        have hun : wb ∉ (Value.slice A7 ac.length c7).ownBlock.toList := fun h => row_ne HQg.out HUg.out (by decide) (hml _ h)
        have hyn : wb + 1 ∉ (Value.slice A7 ac.length c7).ownBlock.toList := fun h => row_ne HQg.out HYg.out (by decide) (hml _ h)
        have hSw : ∀ k, k ∈ (Value.slice A7 ac.length c7).ownBlock.toList → W5.heap.size ≤ k := fun k hk => (ownsRow_lt HQg.out (hml _ hk)).1
        have HML := Lib.hid hml
        have HKN := Lib.hid hkn
        have HYN := Lib.hid hyn
        have HSW := Lib.hid hSw
        have HS6 := Lib.hid hs6
        have e0 : ∀ w', Only (Value.slice A7 ac.length c7).ownBlock.toList wg w' → w'.cell? ⟨kb, 1, none⟩ = some (.slice A7 ac.length c7) := fun w' k => (cell_of_row w' kb 1 _ _ _ (k.heap HKg.out HKN.out)).trans rfl
        have HUN := Lib.hid hun
        have e1 : ∀ w', Only (Value.slice A7 ac.length c7).ownBlock.toList wg w' → w'.cell? ⟨wb, 1, none⟩ = some (.slice (some adq) j.q.length c1) := fun w' k => (cell_of_row w' wb 1 _ _ _ (k.heap HUg.out HUN.out)).trans rfl
        clear hml hkn hun hyn hSw hs6
        iterate 6 (first | (refine L.ge_off rfl rfl rfl (by rfl) ?_) | (refine L.ge_move rfl rfl rfl (by rfl) rfl (by simp [L.evE, L.lk, Act.eval]; rfl) ?_) | (refine L.ge_pick rfl rfl rfl (by rfl) rfl (by simp [L.evE, L.lk, Act.eval]; rfl) (by simp [L.evE, L.lk, Act.eval]; rfl) ?_) | (refine L.ge_val rfl rfl rfl (by rfl) (by intro w' hw'; simp [execOp, L.evE, L.lk, Act.eval]; go_simp; rfl) ?_))
        refine ge_load_at rfl rfl rfl (by rfl) _ _ rfl (adq.add (i * 3)) (by simp [L.evE, L.lk, Act.eval]) _ _ (fun w' k => HCQ.out.below (HWg.out.then k (fun k hk => .inr (Nat.le_trans HB6.out (HSW.out k hk)))).nil_below) Tryd.underlying35 rfl (by kernel_rfl) ?_
        clear e1
        refine ge_one rfl rfl rfl (by rfl) _ (.tmp 80) rfl 35 Tryd.underlying23 (.agg #[.int .i64 0, .int .i64 0, .int .i64 0]) 3 24 info35 (by omega) (by omega) #[.int .i64 x.f0, .int .i64 x.f1, .int .i64 x.f2] (by have h := fill_one3 (.agg #[.int .i64 0, .int .i64 0, .int .i64 0]) (.int .i64 x.f0) (.int .i64 x.f1) (.int .i64 x.f2) rfl rfl; simpa [L.evE, L.lk, Act.eval] using h) ?_
        have HPN := Lib.hid (heap_alloc_new wg (.cells #[.int .i64 x.f0, .int .i64 x.f1, .int .i64 x.f2] 35))
        have hal : Only [] wg (wg.alloc (.cells #[.int .i64 x.f0, .int .i64 x.f1, .int .i64 x.f2] 35)) := (Only.refl [] wg).alloc _
        have HOW := Lib.hid (ownsRow_only HQg.out hal (by simp))
        have HALo := Lib.hid hal
        clear hal e0
        refine ge_append_row rfl rfl rfl (by rfl) (.tmp 75) (.tmp 81) 23 rfl W5.heap.size 35 3 24 (.agg #[.int .i64 0, .int .i64 0, .int .i64 0]) Tryd.underlying23 info35 rfl (by omega) (.slice A7 ac.length c7) ac.length (qRow ac) (by simp [L.evE, L.lk, Act.eval]) HOW.out (some ⟨wg.heap.size, 0, none⟩) 1 1 [.int .i64 x.f0, .int .i64 x.f1, .int .i64 x.f2] (by simp [L.evE, L.lk, Act.eval]) rfl (fun _ => ⟨_, rfl, cellsAt_row HPN.out⟩) (by simp [Value.oneCell']) (by have := HAL.out; unfold maxLen; omega) (by have := HAL.out; omega) (Nat.le_trans HS6.out HALo.out.size) ?_
        intro A8 c8 w8 hb8 ho8 hk8
        refine ⟨ho8, ?_⟩
        have HB8 := Lib.hid (show w8.ownsRow W5.heap.size 35 3 (.slice A8 (ac.length + 1) c8) (ac.length + 1) (qRow (ac ++ [x])) by rw [qRow_append]; exact hb8)
        have HO8 := Lib.hid (HALo.out.mono (T := (Value.slice A7 ac.length c7).ownBlock.toList) (by simp) |>.trans ho8)
        clear hb8 ho8 hk8 HPN HOW HALo
        have HK8 := Lib.hid (HO8.out.heap HKg.out HKN.out)
        (first | (refine L.ge_off rfl rfl rfl (by rfl) ?_) | (refine L.ge_move rfl rfl rfl (by rfl) rfl (by simp [L.evE, L.lk, Act.eval]; rfl) ?_) | (refine L.ge_pick rfl rfl rfl (by rfl) rfl (by simp [L.evE, L.lk, Act.eval]; rfl) (by simp [L.evE, L.lk, Act.eval]; rfl) ?_) | (refine L.ge_val rfl rfl rfl (by rfl) (by intro w' hw'; simp [execOp, L.evE, L.lk, Act.eval]; go_simp; rfl) ?_))
        refine ge_last_in rfl rfl (by rfl) _ (.tmp 83) (.tmp 82) rfl kb 1 (.slice A8 (ac.length + 1) c8) (by simp [L.evE, L.lk, Act.eval]) (by simp [L.evE, L.lk, Act.eval]) [.slice A8 (ac.length + 1) c8] rfl 25 [.slice F0 j.l.length m0, .slice A7 ac.length c7, .int .i64 j.g] HK8.out (by kernel_rfl) (by simp) (by simp [Value.oneCell']) ?_
        intro w9 hr9 ho9
        simp only [L.puts, Act.put, goInt, List.setIfInBounds_toArray, List.set_cons_zero, List.set_cons_succ]
        have HK9 := Lib.hid (show w9.heap[kb]? = some (.cells #[.slice F0 j.l.length m0, .slice A8 (ac.length + 1) c8, .int .i64 j.g] 25 (0, 0)) from hr9.out)
        have HU9 := Lib.hid (ho9.out.heap (HO8.out.heap HUg.out HUN.out) (by have := HKB.out; have := HWB.out; simp; omega))
        have HY9 := Lib.hid (ho9.out.heap (HO8.out.heap HYg.out HYN.out) (by have := HKB.out; have := HWB.out; simp; omega))
        have HL9 := Lib.hid (ownsRow_only (ownsRow_only HLg.out HO8.out (fun k hk h => rows_apart HLg.out HQg.out (by decide) k hk (HML.out k h))) ho9.out (fun k hk h => by simp at h; subst h; exact row_ne HLg.out HKg.out (by decide) hk))
        have HQ9 := Lib.hid (ownsRow_only HB8.out ho9.out (fun k hk h => by simp at h; subst h; exact row_ne HB8.out HK8.out (by decide) hk))
        have HW9 := Lib.hid ((HWg.out.then HO8.out (fun k hk => .inr (Nat.le_trans HB6.out (HSW.out k hk)))).then ho9.out (fun k hk => .inr (by simp at hk; subst hk; exact Nat.le_trans HB6.out HKB.out)))
        have hln : (ac ++ [x]).length = ac.length + 1 := by simp
        clear hr9 ho9 HO8 HB8 HK8 HKg HUg HYg HLg HQg HWg
        go_wp2
        go_roundw
        case rel => exact ⟨false, i + 1, A8, c8, rfl, by go_num, by omega, HFN, by rw [HAM.out, hln]; exact HK9, HU9, HY9, HL9, by rw [HAM.out, hln]; exact HQ9, HW9⟩
        case measure => simp [intOf]; omega
      · have HF1 := Lib.hid (show f = false from by rw [HF.out]; simp; omega)
        obtain rfl := HF1.out
        clear HF1 HF
        have HAM := Lib.hid (accO_at (x := ⟨b, n, 0⟩) hlt hp)
        have HFN := Lib.hid (show (true : Bool) = decide (placeI j.q b < i + 1) from by simp; omega)
        have hqb : b < j.q[i].f0 := at_gt HRI.out HPB.out hlt (by omega)
        clear hp
        generalize accO j.q ⟨b, n, 0⟩ i = ac at *
        generalize j.q[i] = x at *
        have k1 : wr.cell? ⟨kb, 1, none⟩ = some (.slice A7 ac.length c7) := (cell_of_row wr kb 1 _ _ _ HK.out).trans rfl
        go_wp2_with (first
          | (with_reducible refine wpList_one rfl 23 (.tmp 70) rfl 35 Tryd.underlying23 (.agg #[.int .i64 0, .int .i64 0, .int .i64 0]) 3 24 info35 (by omega) (by omega) (.agg #[.int .i64 b, .int .i64 n, .int .i64 0]) rfl #[.int .i64 b, .int .i64 n, .int .i64 0] (fill_one3 (.agg #[.int .i64 0, .int .i64 0, .int .i64 0]) _ _ _ rfl rfl) ?_; refine (fun (h : Hid _) => h.out) ?_))
        refine Lib.hid ?_
        try simp only [Act.put, goInt, List.setIfInBounds_toArray, List.set_cons_zero, List.set_cons_succ]
        clear k1
        have hal : Only [] wr (wr.alloc (.cells #[.int .i64 b, .int .i64 n, .int .i64 0] 35)) := (Only.refl [] wr).alloc _
        have HNE := Lib.hid (heap_alloc_new wr (.cells #[.int .i64 b, .int .i64 n, .int .i64 0] 35))
        have HSZ := Lib.hid (show W5.heap.size ≤ (wr.alloc (.cells #[.int .i64 b, .int .i64 n, .int .i64 0] 35)).heap.size from by have h1 := hal.size; have h2 := heap_lt HK.out; have h3 := HKB.out; omega)
        replace HK := Lib.hid (hal.heap HK.out (by simp))
        replace HU0 := Lib.hid (hal.heap HU0.out (by simp))
        replace HY := Lib.hid (hal.heap HY.out (by simp))
        replace HL := Lib.hid (ownsRow_only HL.out hal (by simp))
        replace HQ := Lib.hid (ownsRow_only HQ.out hal (by simp))
        replace HW := Lib.hid (HW.out.trans hal)
        clear hal
        generalize wr.alloc (.cells #[.int .i64 b, .int .i64 n, .int .i64 0] 35) = wa at *
        generalize wr.heap.size = nb at *
        go_wp2_with (first
          | (at_builtin; refine wpList_append_row rfl _ _ 23 rfl W5.heap.size 35 3 24 (.agg #[.int .i64 0, .int .i64 0, .int .i64 0]) Tryd.underlying23 info35 rfl (by omega) (.slice A7 ac.length c7) ac.length (qRow ac) rfl HQ.out (some ⟨nb, 0, none⟩) 1 1 [.int .i64 b, .int .i64 n, .int .i64 0] rfl rfl (fun _ => ⟨_, rfl, cellsAt_row HNE.out⟩) (by simp [Value.oneCell']) (by have := HAL.out; unfold maxLen; omega) (by have := HAL.out; omega) HSZ.out ?_; intro A5 c5 w6 h2 h3 h4; have H2 := Lib.hid h2; have H3 := Lib.hid h3; clear h2 h3 h4; refine (fun (h : Hid _) => h.out) ?_))
        refine Lib.hid ?_
        try simp only [Act.put, goInt, List.setIfInBounds_toArray, List.set_cons_zero, List.set_cons_succ]
        have hml : ∀ k, k ∈ (Value.slice A7 ac.length c7).ownBlock.toList → (Value.slice A7 ac.length c7).ownBlock = some k := fun k hk => by simpa using hk
        have HQ6 := Lib.hid (show w6.ownsRow W5.heap.size 35 3 (.slice A5 (ac.length + 1) c5) (ac.length + 1) (qRow (ac ++ [⟨b, n, 0⟩])) by rw [qRow_append]; exact H2.out)
        have HL6 := Lib.hid (ownsRow_only HL.out H3.out (fun k hk h => rows_apart HL.out HQ.out (by decide) k hk (hml _ h)))
        have HK6 := Lib.hid (H3.out.heap HK.out (fun h => row_ne HQ.out HK.out (by decide) (hml _ h)))
        have HU6 := Lib.hid (H3.out.heap HU0.out (fun h => row_ne HQ.out HU0.out (by decide) (hml _ h)))
        have HY6 := Lib.hid (H3.out.heap HY.out (fun h => row_ne HQ.out HY.out (by decide) (hml _ h)))
        have HW6 := Lib.hid (HW.out.then H3.out (fun k hk => .inr (Nat.le_trans HB6.out (ownsRow_lt HQ.out (hml _ hk)).1)))
        clear hml H2 H3 HK HU0 HY HL HQ HW HNE HSZ
        go_wp2_with (first
          | (with_reducible refine wpList_store_in rfl 23 (.tmp 73) (.tmp 72) rfl kb 1 _ rfl rfl [.slice A5 (ac.length + 1) c5] rfl 25 [.slice F0 j.l.length m0, .slice A7 ac.length c7, .int .i64 j.g] HK6.out (by kernel_rfl) (by simp) (by simp [Value.oneCell']) ?_; intro ws hr8 ho8; refine (fun (h : Hid _) => h.out) ?_))
        refine Lib.hid ?_
        try simp only [Act.put, goInt, List.setIfInBounds_toArray, List.set_cons_zero, List.set_cons_succ]
        have HK := Lib.hid (show ws.heap[kb]? = some (.cells #[.slice F0 j.l.length m0, .slice A5 (ac.length + 1) c5, .int .i64 j.g] 25 (0, 0)) from hr8.out)
        have HU0 := Lib.hid (ho8.out.heap HU6.out (by have := HKB.out; have := HWB.out; simp; omega))
        have HY := Lib.hid (ho8.out.heap HY6.out (by have := HKB.out; have := HWB.out; simp; omega))
        have HL := Lib.hid (ownsRow_only HL6.out ho8.out (fun k hk h => by simp at h; subst h; exact row_ne HL6.out HK6.out (by decide) hk))
        have HQ := Lib.hid (ownsRow_only HQ6.out ho8.out (fun k hk h => by simp at h; subst h; exact row_ne HQ6.out HK6.out (by decide) hk))
        have HW := Lib.hid (HW6.out.then ho8.out (fun k hk => .inr (by simp at hk; subst hk; exact Nat.le_trans HB6.out HKB.out)))
        clear HK6 HU6 HY6 HL6 HQ6 HW6 hr8 ho8
        clear hqb y0
        have hl2 : (ac ++ [(⟨b, n, 0⟩ : S35)]).length = ac.length + 1 := by simp
        rw [← hl2] at HK HQ
        have HAL2 := Lib.hid (show (ac ++ [(⟨b, n, 0⟩ : S35)]).length ≤ j.q.length + 2 from by rw [hl2]; have := HAL.out; omega)
        clear hl2 HAL
        generalize ac ++ [(⟨b, n, 0⟩ : S35)] = ac2 at *
        go_wp2_with fail
        clear z1
        refine L.grow_start (Value.slice A5 ac2.length c5).ownBlock.toList 10 ((0, true, false) :: (1, true, false) :: (2, true, false) :: (3, true, false) :: (4, true, true) :: (5, true, true) :: (6, true, true) :: (7, false, true) :: (8, false, true) :: (9, true, true) :: (10, false, true) :: []) (by kernel_rfl) (([], [9], some 74) :: ([0], [74], some 75) :: ([], [3], some 76) :: ([2], [76], some 77) :: ([], [11], some 78) :: ([3, 4], [77, 78], some 79) :: ([5], [79], some 80) :: ([6], [80], some 81) :: ([1, 7], [75, 81], some 82) :: ([0, 1, 2, 3, 4, 5, 6, 7, 8], [9], some 83) :: ([9, 8, 8, 0, 1, 2, 3, 4, 5, 6, 7, 8], [83, 82], none) :: []) (by kernel_rfl) (by kernel_rfl) (n := 11) rfl (by kernel_rfl) (fun _ _ _ _ _ h => h) (fun wg hog => ?_)
        refine L.growe_start (N := 95) (by rfl) ?_
        have HKg := Lib.hid (hog.heap HK.out (by simp))
        have HUg := Lib.hid (hog.heap HU0.out (by simp))
        have HYg := Lib.hid (hog.heap HY.out (by simp))
        have HLg := Lib.hid (ownsRow_only HL.out hog (by simp))
        have HQg := Lib.hid (ownsRow_only HQ.out hog (by simp))
        have HWg := Lib.hid (HW.out.trans hog)
        have hs6 : W5.heap.size ≤ wg.heap.size := by have := heap_lt HKg.out; have := HKB.out; omega
        clear hog HK HU0 HY HL HQ HW
        have hml : ∀ k, k ∈ (Value.slice A5 ac2.length c5).ownBlock.toList → (Value.slice A5 ac2.length c5).ownBlock = some k := fun k hk => by simpa using hk
        have hkn : kb ∉ (Value.slice A5 ac2.length c5).ownBlock.toList := fun h => row_ne HQg.out HKg.out (by decide) (hml _ h)
        have hun : wb ∉ (Value.slice A5 ac2.length c5).ownBlock.toList := fun h => row_ne HQg.out HUg.out (by decide) (hml _ h)
        have hyn : wb + 1 ∉ (Value.slice A5 ac2.length c5).ownBlock.toList := fun h => row_ne HQg.out HYg.out (by decide) (hml _ h)
        have hSw : ∀ k, k ∈ (Value.slice A5 ac2.length c5).ownBlock.toList → W5.heap.size ≤ k := fun k hk => (ownsRow_lt HQg.out (hml _ hk)).1
        have HML := Lib.hid hml
        have HKN := Lib.hid hkn
        have HYN := Lib.hid hyn
        have HSW := Lib.hid hSw
        have HS6 := Lib.hid hs6
        have e0 : ∀ w', Only (Value.slice A5 ac2.length c5).ownBlock.toList wg w' → w'.cell? ⟨kb, 1, none⟩ = some (.slice A5 ac2.length c5) := fun w' k => (cell_of_row w' kb 1 _ _ _ (k.heap HKg.out HKN.out)).trans rfl
        have HUN := Lib.hid hun
        have e1 : ∀ w', Only (Value.slice A5 ac2.length c5).ownBlock.toList wg w' → w'.cell? ⟨wb, 1, none⟩ = some (.slice (some adq) j.q.length c1) := fun w' k => (cell_of_row w' wb 1 _ _ _ (k.heap HUg.out HUN.out)).trans rfl
        clear hml hkn hun hyn hSw hs6
        iterate 6 (first | (refine L.ge_off rfl rfl rfl (by rfl) ?_) | (refine L.ge_move rfl rfl rfl (by rfl) rfl (by simp [L.evE, L.lk, Act.eval]; rfl) ?_) | (refine L.ge_pick rfl rfl rfl (by rfl) rfl (by simp [L.evE, L.lk, Act.eval]; rfl) (by simp [L.evE, L.lk, Act.eval]; rfl) ?_) | (refine L.ge_val rfl rfl rfl (by rfl) (by intro w' hw'; simp [execOp, L.evE, L.lk, Act.eval]; go_simp; rfl) ?_))
        refine ge_load_at rfl rfl rfl (by rfl) _ _ rfl (adq.add (i * 3)) (by simp [L.evE, L.lk, Act.eval]) _ _ (fun w' k => HCQ.out.below (HWg.out.then k (fun k hk => .inr (Nat.le_trans HB6.out (HSW.out k hk)))).nil_below) Tryd.underlying35 rfl (by kernel_rfl) ?_
        clear e1
        refine ge_one rfl rfl rfl (by rfl) _ (.tmp 80) rfl 35 Tryd.underlying23 (.agg #[.int .i64 0, .int .i64 0, .int .i64 0]) 3 24 info35 (by omega) (by omega) #[.int .i64 x.f0, .int .i64 x.f1, .int .i64 x.f2] (by have h := fill_one3 (.agg #[.int .i64 0, .int .i64 0, .int .i64 0]) (.int .i64 x.f0) (.int .i64 x.f1) (.int .i64 x.f2) rfl rfl; simpa [L.evE, L.lk, Act.eval] using h) ?_
        have HPN := Lib.hid (heap_alloc_new wg (.cells #[.int .i64 x.f0, .int .i64 x.f1, .int .i64 x.f2] 35))
        have hal : Only [] wg (wg.alloc (.cells #[.int .i64 x.f0, .int .i64 x.f1, .int .i64 x.f2] 35)) := (Only.refl [] wg).alloc _
        have HOW := Lib.hid (ownsRow_only HQg.out hal (by simp))
        have HALo := Lib.hid hal
        clear hal e0
        refine ge_append_row rfl rfl rfl (by rfl) (.tmp 75) (.tmp 81) 23 rfl W5.heap.size 35 3 24 (.agg #[.int .i64 0, .int .i64 0, .int .i64 0]) Tryd.underlying23 info35 rfl (by omega) (.slice A5 ac2.length c5) ac2.length (qRow ac2) (by simp [L.evE, L.lk, Act.eval]) HOW.out (some ⟨wg.heap.size, 0, none⟩) 1 1 [.int .i64 x.f0, .int .i64 x.f1, .int .i64 x.f2] (by simp [L.evE, L.lk, Act.eval]) rfl (fun _ => ⟨_, rfl, cellsAt_row HPN.out⟩) (by simp [Value.oneCell']) (by have := HAL2.out; unfold maxLen; omega) (by have := HAL2.out; omega) (Nat.le_trans HS6.out HALo.out.size) ?_
        intro A8 c8 w8 hb8 ho8 hk8
        refine ⟨ho8, ?_⟩
        have HB8 := Lib.hid (show w8.ownsRow W5.heap.size 35 3 (.slice A8 (ac2.length + 1) c8) (ac2.length + 1) (qRow (ac2 ++ [x])) by rw [qRow_append]; exact hb8)
        have HO8 := Lib.hid (HALo.out.mono (T := (Value.slice A5 ac2.length c5).ownBlock.toList) (by simp) |>.trans ho8)
        clear hb8 ho8 hk8 HPN HOW HALo
        have HK8 := Lib.hid (HO8.out.heap HKg.out HKN.out)
        (first | (refine L.ge_off rfl rfl rfl (by rfl) ?_) | (refine L.ge_move rfl rfl rfl (by rfl) rfl (by simp [L.evE, L.lk, Act.eval]; rfl) ?_) | (refine L.ge_pick rfl rfl rfl (by rfl) rfl (by simp [L.evE, L.lk, Act.eval]; rfl) (by simp [L.evE, L.lk, Act.eval]; rfl) ?_) | (refine L.ge_val rfl rfl rfl (by rfl) (by intro w' hw'; simp [execOp, L.evE, L.lk, Act.eval]; go_simp; rfl) ?_))
        refine ge_last_in rfl rfl (by rfl) _ (.tmp 83) (.tmp 82) rfl kb 1 (.slice A8 (ac2.length + 1) c8) (by simp [L.evE, L.lk, Act.eval]) (by simp [L.evE, L.lk, Act.eval]) [.slice A8 (ac2.length + 1) c8] rfl 25 [.slice F0 j.l.length m0, .slice A5 ac2.length c5, .int .i64 j.g] HK8.out (by kernel_rfl) (by simp) (by simp [Value.oneCell']) ?_
        intro w9 hr9 ho9
        simp only [L.puts, Act.put, goInt, List.setIfInBounds_toArray, List.set_cons_zero, List.set_cons_succ]
        have HK9 := Lib.hid (show w9.heap[kb]? = some (.cells #[.slice F0 j.l.length m0, .slice A8 (ac2.length + 1) c8, .int .i64 j.g] 25 (0, 0)) from hr9.out)
        have HU9 := Lib.hid (ho9.out.heap (HO8.out.heap HUg.out HUN.out) (by have := HKB.out; have := HWB.out; simp; omega))
        have HY9 := Lib.hid (ho9.out.heap (HO8.out.heap HYg.out HYN.out) (by have := HKB.out; have := HWB.out; simp; omega))
        have HL9 := Lib.hid (ownsRow_only (ownsRow_only HLg.out HO8.out (fun k hk h => rows_apart HLg.out HQg.out (by decide) k hk (HML.out k h))) ho9.out (fun k hk h => by simp at h; subst h; exact row_ne HLg.out HKg.out (by decide) hk))
        have HQ9 := Lib.hid (ownsRow_only HB8.out ho9.out (fun k hk h => by simp at h; subst h; exact row_ne HB8.out HK8.out (by decide) hk))
        have HW9 := Lib.hid ((HWg.out.then HO8.out (fun k hk => .inr (Nat.le_trans HB6.out (HSW.out k hk)))).then ho9.out (fun k hk => .inr (by simp at hk; subst hk; exact Nat.le_trans HB6.out HKB.out)))
        have hln : (ac2 ++ [x]).length = ac2.length + 1 := by simp
        clear hr9 ho9 HO8 HB8 HK8 HKg HUg HYg HLg HQg HWg
        go_wp2
        go_roundw
        case rel => exact ⟨true, i + 1, A8, c8, rfl, by go_num, by omega, HFN, by rw [HAM.out, hln]; exact HK9, HU9, HY9, HL9, by rw [HAM.out, hln]; exact HQ9, HW9⟩
        case measure => simp [intOf]; omega
      · have HF1 := Lib.hid (show f = true from by rw [HF.out]; simp; omega)
        obtain rfl := HF1.out
        clear HF1 HF
        have HAM := Lib.hid (accO_behind (x := ⟨b, n, 0⟩) hlt hp)
        have HFN := Lib.hid (show (true : Bool) = decide (placeI j.q b < i + 1) from by simp; omega)
        clear hp
        generalize accO j.q ⟨b, n, 0⟩ i = ac at *
        generalize j.q[i] = x at *
        go_wp2_with fail
        clear y0 z1
        refine L.grow_start (Value.slice A7 ac.length c7).ownBlock.toList 10 ((0, true, false) :: (1, true, false) :: (2, true, false) :: (3, true, false) :: (4, true, true) :: (5, true, true) :: (6, true, true) :: (7, false, true) :: (8, false, true) :: (9, true, true) :: (10, false, true) :: []) (by kernel_rfl) (([], [9], some 74) :: ([0], [74], some 75) :: ([], [3], some 76) :: ([2], [76], some 77) :: ([], [11], some 78) :: ([3, 4], [77, 78], some 79) :: ([5], [79], some 80) :: ([6], [80], some 81) :: ([1, 7], [75, 81], some 82) :: ([0, 1, 2, 3, 4, 5, 6, 7, 8], [9], some 83) :: ([9, 8, 8, 0, 1, 2, 3, 4, 5, 6, 7, 8], [83, 82], none) :: []) (by kernel_rfl) (by kernel_rfl) (n := 11) rfl (by kernel_rfl) (fun _ _ _ _ _ h => h) (fun wg hog => ?_)
        refine L.growe_start (N := 95) (by rfl) ?_
        have HKg := Lib.hid (hog.heap HK.out (by simp))
        have HUg := Lib.hid (hog.heap HU0.out (by simp))
        have HYg := Lib.hid (hog.heap HY.out (by simp))
        have HLg := Lib.hid (ownsRow_only HL.out hog (by simp))
        have HQg := Lib.hid (ownsRow_only HQ.out hog (by simp))
        have HWg := Lib.hid (HW.out.trans hog)
        have hs6 : W5.heap.size ≤ wg.heap.size := by have := heap_lt HKg.out; have := HKB.out; omega
        clear hog HK HU0 HY HL HQ HW
        have hml : ∀ k, k ∈ (Value.slice A7 ac.length c7).ownBlock.toList → (Value.slice A7 ac.length c7).ownBlock = some k := fun k hk => by simpa using hk
        have hkn : kb ∉ (Value.slice A7 ac.length c7).ownBlock.toList := fun h => row_ne HQg.out HKg.out (by decide) (hml _ h)
        have hun : wb ∉ (Value.slice A7 ac.length c7).ownBlock.toList := fun h => row_ne HQg.out HUg.out (by decide) (hml _ h)
        have hyn : wb + 1 ∉ (Value.slice A7 ac.length c7).ownBlock.toList := fun h => row_ne HQg.out HYg.out (by decide) (hml _ h)
        have hSw : ∀ k, k ∈ (Value.slice A7 ac.length c7).ownBlock.toList → W5.heap.size ≤ k := fun k hk => (ownsRow_lt HQg.out (hml _ hk)).1
        have HML := Lib.hid hml
        have HKN := Lib.hid hkn
        have HYN := Lib.hid hyn
        have HSW := Lib.hid hSw
        have HS6 := Lib.hid hs6
        have e0 : ∀ w', Only (Value.slice A7 ac.length c7).ownBlock.toList wg w' → w'.cell? ⟨kb, 1, none⟩ = some (.slice A7 ac.length c7) := fun w' k => (cell_of_row w' kb 1 _ _ _ (k.heap HKg.out HKN.out)).trans rfl
        have HUN := Lib.hid hun
        have e1 : ∀ w', Only (Value.slice A7 ac.length c7).ownBlock.toList wg w' → w'.cell? ⟨wb, 1, none⟩ = some (.slice (some adq) j.q.length c1) := fun w' k => (cell_of_row w' wb 1 _ _ _ (k.heap HUg.out HUN.out)).trans rfl
        clear hml hkn hun hyn hSw hs6
        iterate 6 (first | (refine L.ge_off rfl rfl rfl (by rfl) ?_) | (refine L.ge_move rfl rfl rfl (by rfl) rfl (by simp [L.evE, L.lk, Act.eval]; rfl) ?_) | (refine L.ge_pick rfl rfl rfl (by rfl) rfl (by simp [L.evE, L.lk, Act.eval]; rfl) (by simp [L.evE, L.lk, Act.eval]; rfl) ?_) | (refine L.ge_val rfl rfl rfl (by rfl) (by intro w' hw'; simp [execOp, L.evE, L.lk, Act.eval]; go_simp; rfl) ?_))
        refine ge_load_at rfl rfl rfl (by rfl) _ _ rfl (adq.add (i * 3)) (by simp [L.evE, L.lk, Act.eval]) _ _ (fun w' k => HCQ.out.below (HWg.out.then k (fun k hk => .inr (Nat.le_trans HB6.out (HSW.out k hk)))).nil_below) Tryd.underlying35 rfl (by kernel_rfl) ?_
        clear e1
        refine ge_one rfl rfl rfl (by rfl) _ (.tmp 80) rfl 35 Tryd.underlying23 (.agg #[.int .i64 0, .int .i64 0, .int .i64 0]) 3 24 info35 (by omega) (by omega) #[.int .i64 x.f0, .int .i64 x.f1, .int .i64 x.f2] (by have h := fill_one3 (.agg #[.int .i64 0, .int .i64 0, .int .i64 0]) (.int .i64 x.f0) (.int .i64 x.f1) (.int .i64 x.f2) rfl rfl; simpa [L.evE, L.lk, Act.eval] using h) ?_
        have HPN := Lib.hid (heap_alloc_new wg (.cells #[.int .i64 x.f0, .int .i64 x.f1, .int .i64 x.f2] 35))
        have hal : Only [] wg (wg.alloc (.cells #[.int .i64 x.f0, .int .i64 x.f1, .int .i64 x.f2] 35)) := (Only.refl [] wg).alloc _
        have HOW := Lib.hid (ownsRow_only HQg.out hal (by simp))
        have HALo := Lib.hid hal
        clear hal e0
        refine ge_append_row rfl rfl rfl (by rfl) (.tmp 75) (.tmp 81) 23 rfl W5.heap.size 35 3 24 (.agg #[.int .i64 0, .int .i64 0, .int .i64 0]) Tryd.underlying23 info35 rfl (by omega) (.slice A7 ac.length c7) ac.length (qRow ac) (by simp [L.evE, L.lk, Act.eval]) HOW.out (some ⟨wg.heap.size, 0, none⟩) 1 1 [.int .i64 x.f0, .int .i64 x.f1, .int .i64 x.f2] (by simp [L.evE, L.lk, Act.eval]) rfl (fun _ => ⟨_, rfl, cellsAt_row HPN.out⟩) (by simp [Value.oneCell']) (by have := HAL.out; unfold maxLen; omega) (by have := HAL.out; omega) (Nat.le_trans HS6.out HALo.out.size) ?_
        intro A8 c8 w8 hb8 ho8 hk8
        refine ⟨ho8, ?_⟩
        have HB8 := Lib.hid (show w8.ownsRow W5.heap.size 35 3 (.slice A8 (ac.length + 1) c8) (ac.length + 1) (qRow (ac ++ [x])) by rw [qRow_append]; exact hb8)
        have HO8 := Lib.hid (HALo.out.mono (T := (Value.slice A7 ac.length c7).ownBlock.toList) (by simp) |>.trans ho8)
        clear hb8 ho8 hk8 HPN HOW HALo
        have HK8 := Lib.hid (HO8.out.heap HKg.out HKN.out)
        (first | (refine L.ge_off rfl rfl rfl (by rfl) ?_) | (refine L.ge_move rfl rfl rfl (by rfl) rfl (by simp [L.evE, L.lk, Act.eval]; rfl) ?_) | (refine L.ge_pick rfl rfl rfl (by rfl) rfl (by simp [L.evE, L.lk, Act.eval]; rfl) (by simp [L.evE, L.lk, Act.eval]; rfl) ?_) | (refine L.ge_val rfl rfl rfl (by rfl) (by intro w' hw'; simp [execOp, L.evE, L.lk, Act.eval]; go_simp; rfl) ?_))
        refine ge_last_in rfl rfl (by rfl) _ (.tmp 83) (.tmp 82) rfl kb 1 (.slice A8 (ac.length + 1) c8) (by simp [L.evE, L.lk, Act.eval]) (by simp [L.evE, L.lk, Act.eval]) [.slice A8 (ac.length + 1) c8] rfl 25 [.slice F0 j.l.length m0, .slice A7 ac.length c7, .int .i64 j.g] HK8.out (by kernel_rfl) (by simp) (by simp [Value.oneCell']) ?_
        intro w9 hr9 ho9
        simp only [L.puts, Act.put, goInt, List.setIfInBounds_toArray, List.set_cons_zero, List.set_cons_succ]
        have HK9 := Lib.hid (show w9.heap[kb]? = some (.cells #[.slice F0 j.l.length m0, .slice A8 (ac.length + 1) c8, .int .i64 j.g] 25 (0, 0)) from hr9.out)
        have HU9 := Lib.hid (ho9.out.heap (HO8.out.heap HUg.out HUN.out) (by have := HKB.out; have := HWB.out; simp; omega))
        have HY9 := Lib.hid (ho9.out.heap (HO8.out.heap HYg.out HYN.out) (by have := HKB.out; have := HWB.out; simp; omega))
        have HL9 := Lib.hid (ownsRow_only (ownsRow_only HLg.out HO8.out (fun k hk h => rows_apart HLg.out HQg.out (by decide) k hk (HML.out k h))) ho9.out (fun k hk h => by simp at h; subst h; exact row_ne HLg.out HKg.out (by decide) hk))
        have HQ9 := Lib.hid (ownsRow_only HB8.out ho9.out (fun k hk h => by simp at h; subst h; exact row_ne HB8.out HK8.out (by decide) hk))
        have HW9 := Lib.hid ((HWg.out.then HO8.out (fun k hk => .inr (Nat.le_trans HB6.out (HSW.out k hk)))).then ho9.out (fun k hk => .inr (by simp at hk; subst hk; exact Nat.le_trans HB6.out HKB.out)))
        have hln : (ac ++ [x]).length = ac.length + 1 := by simp
        clear hr9 ho9 HO8 HB8 HK8 HKg HUg HYg HLg HQg HWg
        go_wp2
        go_roundw
        case rel => exact ⟨true, i + 1, A8, c8, rfl, by go_num, by omega, HFN, by rw [HAM.out, hln]; exact HK9, HU9, HY9, HL9, by rw [HAM.out, hln]; exact HQ9, HW9⟩
        case measure => simp [intOf]; omega
    · obtain rfl : i = j.q.length := by omega
      have hlt' : ¬ (j.q.length : Int) < j.q.length := by omega
      have HPL := Lib.hid (placeI_le j.q b)
      cases f with
      | true =>
        have HRO := Lib.hid (accO_all (x := ⟨b, n, 0⟩) (of_decide_eq_true HF.out.symm))
        rw [← HRO.out] at HRR
        clear HRO HF
        generalize accO j.q ⟨b, n, 0⟩ j.q.length = ac at *
        go_wp2_with (first
          | (with_reducible refine wpList_load_at rfl 25 (.tmp 9) rfl ⟨kb, 0, none⟩ rfl _ _ (cellsAt_row HK.out) Tryd.underlying25 rfl (by kernel_rfl) ?_)
          | (with_reducible refine wpList_store_new rfl 25 (.tmp 6) (.tmp 94) rfl (wb + 1) #[.slice F0 j.l.length m0, .slice A7 ac.length c7, .int .i64 j.g] rfl rfl 25 _ HY.out (size3_25 _ _ _) rfl (by simp [Value.oneCell']) ?_; intro w9 hh9 ho9; have Hh9 := Lib.hid hh9.out; have Ho9 := Lib.hid ho9; clear hh9 ho9; refine (fun (h : Hid _) => h.out) ?_))
        refine Lib.hid ?_
        try simp only [Act.put, goInt, List.setIfInBounds_toArray, List.set_cons_zero, List.set_cons_succ]
        go_wp2
        have ho9 := Ho9.out
        refine bodyPost_ret (results_row rfl _ _ (wb + 1) _ _ _ _ rfl Hh9.out Tryd.underlying25 rfl (size3_25 _ _ _)) rfl ?_
        rw [HRR.out]
        have f2 := ownsRow_only HL.out ho9 (fun k hk h => by simp at h; subst h; have := (ownsRow_lt HL.out hk).1; have := HWB.out; omega)
        have f3 := ownsRow_only HQ.out ho9 (fun k hk h => by simp at h; subst h; have := (ownsRow_lt HQ.out hk).1; have := HWB.out; omega)
        exact ⟨_, rfl, ⟨F0, m0, A7, c7, rfl, ownsRow_mono f2 HB6.out, ownsRow_mono f3 HB6.out⟩, (HW.out.then ho9 (fun k hk => .inr (by simp at hk; subst hk; have := HBB.out; omega))).nil_below⟩
      | false =>
        have HRO := Lib.hid (accO_end (x := ⟨b, n, 0⟩) (show placeI j.q b = j.q.length from by have h1 := of_decide_eq_false HF.out.symm; have := HPL.out; omega))
        rw [← HRO.out] at HRR
        clear HRO HF
        generalize accO j.q ⟨b, n, 0⟩ j.q.length = ac at *
        have k1 : wr.cell? ⟨kb, 1, none⟩ = some (.slice A7 ac.length c7) := (cell_of_row wr kb 1 _ _ _ HK.out).trans rfl
        go_wp2_with (first
          | (with_reducible refine wpList_one rfl 23 (.tmp 90) rfl 35 Tryd.underlying23 (.agg #[.int .i64 0, .int .i64 0, .int .i64 0]) 3 24 info35 (by omega) (by omega) (.agg #[.int .i64 b, .int .i64 n, .int .i64 0]) rfl #[.int .i64 b, .int .i64 n, .int .i64 0] (fill_one3 (.agg #[.int .i64 0, .int .i64 0, .int .i64 0]) _ _ _ rfl rfl) ?_; refine (fun (h : Hid _) => h.out) ?_))
        refine Lib.hid ?_
        try simp only [Act.put, goInt, List.setIfInBounds_toArray, List.set_cons_zero, List.set_cons_succ]
        clear k1
        have hal : Only [] wr (wr.alloc (.cells #[.int .i64 b, .int .i64 n, .int .i64 0] 35)) := (Only.refl [] wr).alloc _
        have HNE := Lib.hid (heap_alloc_new wr (.cells #[.int .i64 b, .int .i64 n, .int .i64 0] 35))
        have HSZ := Lib.hid (show W5.heap.size ≤ (wr.alloc (.cells #[.int .i64 b, .int .i64 n, .int .i64 0] 35)).heap.size from by have h1 := hal.size; have h2 := heap_lt HK.out; have h3 := HKB.out; omega)
        replace HK := Lib.hid (hal.heap HK.out (by simp))
        replace HU0 := Lib.hid (hal.heap HU0.out (by simp))
        replace HY := Lib.hid (hal.heap HY.out (by simp))
        replace HL := Lib.hid (ownsRow_only HL.out hal (by simp))
        replace HQ := Lib.hid (ownsRow_only HQ.out hal (by simp))
        replace HW := Lib.hid (HW.out.trans hal)
        clear hal
        generalize wr.alloc (.cells #[.int .i64 b, .int .i64 n, .int .i64 0] 35) = wa at *
        generalize wr.heap.size = nb at *
        go_wp2_with (first
          | (at_builtin; refine wpList_append_row rfl _ _ 23 rfl W5.heap.size 35 3 24 (.agg #[.int .i64 0, .int .i64 0, .int .i64 0]) Tryd.underlying23 info35 rfl (by omega) (.slice A7 ac.length c7) ac.length (qRow ac) rfl HQ.out (some ⟨nb, 0, none⟩) 1 1 [.int .i64 b, .int .i64 n, .int .i64 0] rfl rfl (fun _ => ⟨_, rfl, cellsAt_row HNE.out⟩) (by simp [Value.oneCell']) (by have := HAL.out; unfold maxLen; omega) (by have := HAL.out; omega) HSZ.out ?_; intro A5 c5 w6 h2 h3 h4; have H2 := Lib.hid h2; have H3 := Lib.hid h3; clear h2 h3 h4; refine (fun (h : Hid _) => h.out) ?_))
        refine Lib.hid ?_
        try simp only [Act.put, goInt, List.setIfInBounds_toArray, List.set_cons_zero, List.set_cons_succ]
        have hml : ∀ k, k ∈ (Value.slice A7 ac.length c7).ownBlock.toList → (Value.slice A7 ac.length c7).ownBlock = some k := fun k hk => by simpa using hk
        have HQ6 := Lib.hid (show w6.ownsRow W5.heap.size 35 3 (.slice A5 (ac.length + 1) c5) (ac.length + 1) (qRow (ac ++ [⟨b, n, 0⟩])) by rw [qRow_append]; exact H2.out)
        have HL6 := Lib.hid (ownsRow_only HL.out H3.out (fun k hk h => rows_apart HL.out HQ.out (by decide) k hk (hml _ h)))
        have HK6 := Lib.hid (H3.out.heap HK.out (fun h => row_ne HQ.out HK.out (by decide) (hml _ h)))
        have HU6 := Lib.hid (H3.out.heap HU0.out (fun h => row_ne HQ.out HU0.out (by decide) (hml _ h)))
        have HY6 := Lib.hid (H3.out.heap HY.out (fun h => row_ne HQ.out HY.out (by decide) (hml _ h)))
        have HW6 := Lib.hid (HW.out.then H3.out (fun k hk => .inr (Nat.le_trans HB6.out (ownsRow_lt HQ.out (hml _ hk)).1)))
        clear hml H2 H3 HK HU0 HY HL HQ HW HNE HSZ
        go_wp2_with (first
          | (with_reducible refine wpList_store_in rfl 23 (.tmp 93) (.tmp 92) rfl kb 1 _ rfl rfl [.slice A5 (ac.length + 1) c5] rfl 25 [.slice F0 j.l.length m0, .slice A7 ac.length c7, .int .i64 j.g] HK6.out (by kernel_rfl) (by simp) (by simp [Value.oneCell']) ?_; intro ws hr8 ho8; refine (fun (h : Hid _) => h.out) ?_))
        refine Lib.hid ?_
        try simp only [Act.put, goInt, List.setIfInBounds_toArray, List.set_cons_zero, List.set_cons_succ]
        have HK := Lib.hid (show ws.heap[kb]? = some (.cells #[.slice F0 j.l.length m0, .slice A5 (ac.length + 1) c5, .int .i64 j.g] 25 (0, 0)) from hr8.out)
        have HU0 := Lib.hid (ho8.out.heap HU6.out (by have := HKB.out; have := HWB.out; simp; omega))
        have HY := Lib.hid (ho8.out.heap HY6.out (by have := HKB.out; have := HWB.out; simp; omega))
        have HL := Lib.hid (ownsRow_only HL6.out ho8.out (fun k hk h => by simp at h; subst h; exact row_ne HL6.out HK6.out (by decide) hk))
        have HQ := Lib.hid (ownsRow_only HQ6.out ho8.out (fun k hk h => by simp at h; subst h; exact row_ne HQ6.out HK6.out (by decide) hk))
        have HW := Lib.hid (HW6.out.then ho8.out (fun k hk => .inr (by simp at hk; subst hk; exact Nat.le_trans HB6.out HKB.out)))
        clear HK6 HU6 HY6 HL6 HQ6 HW6 hr8 ho8
        clear z1
        have hl2 : (ac ++ [(⟨b, n, 0⟩ : S35)]).length = ac.length + 1 := by simp
        rw [← hl2] at HK HQ
        clear hl2
        generalize ac ++ [(⟨b, n, 0⟩ : S35)] = ac2 at *
        go_wp2_with (first
          | (with_reducible refine wpList_load_at rfl 25 (.tmp 9) rfl ⟨kb, 0, none⟩ rfl _ _ (cellsAt_row HK.out) Tryd.underlying25 rfl (by kernel_rfl) ?_)
          | (with_reducible refine wpList_store_new rfl 25 (.tmp 6) (.tmp 94) rfl (wb + 1) #[.slice F0 j.l.length m0, .slice A5 ac2.length c5, .int .i64 j.g] rfl rfl 25 _ HY.out (size3_25 _ _ _) rfl (by simp [Value.oneCell']) ?_; intro w9 hh9 ho9; have Hh9 := Lib.hid hh9.out; have Ho9 := Lib.hid ho9; clear hh9 ho9; refine (fun (h : Hid _) => h.out) ?_))
        refine Lib.hid ?_
        try simp only [Act.put, goInt, List.setIfInBounds_toArray, List.set_cons_zero, List.set_cons_succ]
        go_wp2
        have ho9 := Ho9.out
        refine bodyPost_ret (results_row rfl _ _ (wb + 1) _ _ _ _ rfl Hh9.out Tryd.underlying25 rfl (size3_25 _ _ _)) rfl ?_
        rw [HRR.out]
        have f2 := ownsRow_only HL.out ho9 (fun k hk h => by simp at h; subst h; have := (ownsRow_lt HL.out hk).1; have := HWB.out; omega)
        have f3 := ownsRow_only HQ.out ho9 (fun k hk h => by simp at h; subst h; have := (ownsRow_lt HQ.out hk).1; have := HWB.out; omega)
        exact ⟨_, rfl, ⟨F0, m0, A5, c5, rfl, ownsRow_mono f2 HB6.out, ownsRow_mono f3 HB6.out⟩, (HW.out.then ho9 (fun k hk => .inr (by simp at hk; subst hk; have := HBB.out; omega))).nil_below⟩
end Go.Proofs.YtghpmpjoedbpcaaDoor.Print
/-! ### RdKd -/
namespace Go.Proofs.YtghpmpjoedbpcaaDoor
open Go.RowKit Go.Proofs.YtghpmpjoedbpcaaDoorW.PrintWords
/-- A row that came in, its elements turned. -/
theorem C_of_row {α β : Type} {n : Nat} {R : Rd α} {d : Kd β} (g : α → β) {w : World} {A : Option Addr} {xs : List α} (hn : d.sz = n) (hm : xs.length ≤ 9223372036854775807) (hx : rdRow n R w A xs) (hc : ∀ es x, es.length = n → R w es x → d.K w (g x) es) :
    Kd.C d w A (xs.map g).length (xs.map g) := by
  subst hn
  refine ⟨rfl, by rw [List.length_map]; omega, fun h0 => ?_⟩
  rw [List.length_map] at h0
  obtain ⟨ad, es, hA, _, _, _⟩ := hx 0 _ (List.getElem?_eq_getElem h0)
  refine ⟨ad, hA, fun j p hj => ?_⟩
  rw [List.getElem?_map] at hj
  cases hx' : xs[j]? with
  | none => rw [hx'] at hj; simp at hj
  | some x =>
    rw [hx'] at hj
    obtain rfl := Option.some.inj hj
    obtain ⟨ad', es', hA', hl, hcs, hR⟩ := hx j x hx'
    obtain rfl := Option.some.inj (hA.symm.trans hA')
    refine ⟨es', hl, hc es' x hl hR, fun i u hu => ?_⟩
    have := hcs i u hu
    rwa [Go.Deep.add_add] at this
theorem len3 {es : List Value} (h : es.length = 3) : ∃ a b c, es = [a, b, c] := by match es, h with | [a, b, c], _ => exact ⟨a, b, c, rfl⟩
theorem len6 {es : List Value} (h : es.length = 6) : ∃ a b c d e f, es = [a, b, c, d, e, f] := by match es, h with | [a, b, c, d, e, f], _ => exact ⟨a, b, c, d, e, f, rfl⟩
end Go.Proofs.YtghpmpjoedbpcaaDoor
/-! ### JIn -/
namespace Go.Proofs.YtghpmpjoedbpcaaDoor.Print
open Go.RowKit Go.Proofs.YtghpmpjoedbpcaaDoorW.PrintWords Go.Proofs.YtghpmpjoedbpcaaDoorW.PrintLast Go.Proofs.YtghpmpjoedbpcaaDoorW.PrintMore
set_option linter.unusedSimpArgs false
set_option linter.unusedVariables false
abbrev EntR := Int × Int × Int × ByteArray × Int × Int × Unit
def rEnt : Rd EntR := rdPair 1 (rdInt .i64) (rdPair 1 (rdInt .i64) (rdPair 1 (rdInt .i64) (rdPair 1 rdStr (rdPair 1 (rdInt .i64) (rdPair 1 (rdInt .i64) rdUnit)))))
def gEnt (x : EntR) : S27 := ⟨x.1, x.2.1, x.2.2.1, x.2.2.2.1, x.2.2.2.2.1, x.2.2.2.2.2.1⟩
abbrev QuoR := Int × Int × Int × Unit
def rQuo : Rd QuoR := rdPair 1 (rdInt .i64) (rdPair 1 (rdInt .i64) (rdPair 1 (rdInt .i64) rdUnit))
def gQuo (x : QuoR) : S35 := ⟨x.1, x.2.1, x.2.2.1⟩
abbrev OpR := Int × Int × EntR × Unit
def rOp : Rd OpR := rdPair 1 (rdInt .i64) (rdPair 1 (rdInt .i64) (rdPair 6 rEnt rdUnit))
def gOp (x : OpR) : S43 := ⟨x.1, x.2.1, gEnt x.2.2.1⟩
abbrev JnR := List EntR × List QuoR × Int × Unit
def rJn : Rd JnR := rdPair 1 (rdSl 6 56 rEnt) (rdPair 1 (rdSl 3 24 rQuo) (rdPair 1 (rdInt .i64) rdUnit))
section
variable {H : Type} (enc : TypeId × Value → H) (w : World)
theorem ent_opens : Opens enc Tryd.prog w 27 rEnt := opens_struct Tryd.underlying27 (opens_cons rfl (by kernel_rfl) (opens_int Tryd.underlying3) (opens_cons rfl (by kernel_rfl) (opens_int Tryd.underlying3) (opens_cons rfl (by kernel_rfl) (opens_int Tryd.underlying3) (opens_cons rfl (by kernel_rfl) (opens_str Tryd.underlying9) (opens_cons rfl (by kernel_rfl) (opens_int Tryd.underlying3) (opens_cons rfl (by kernel_rfl) (opens_int Tryd.underlying3) opens_nil))))))
theorem quo_opens : Opens enc Tryd.prog w 35 rQuo := opens_struct Tryd.underlying35 (opens_cons rfl (by kernel_rfl) (opens_int Tryd.underlying3) (opens_cons rfl (by kernel_rfl) (opens_int Tryd.underlying3) (opens_cons rfl (by kernel_rfl) (opens_int Tryd.underlying3) opens_nil)))
theorem op_opens : Opens enc Tryd.prog w 43 rOp := opens_struct Tryd.underlying43 (opens_cons rfl (by kernel_rfl) (opens_int Tryd.underlying3) (opens_cons rfl (by kernel_rfl) (opens_int Tryd.underlying3) (opens_cons rfl (by kernel_rfl) (ent_opens enc w) opens_nil)))
theorem jn_opens : Opens enc Tryd.prog w 25 rJn := opens_struct Tryd.underlying25 (opens_cons rfl (by kernel_rfl) (opens_sl Tryd.underlying22 (by kernel_rfl) (by kernel_rfl) (ent_opens enc w)) (opens_cons rfl (by kernel_rfl) (opens_sl Tryd.underlying23 (by kernel_rfl) (by kernel_rfl) (quo_opens enc w)) (opens_cons rfl (by kernel_rfl) (opens_int Tryd.underlying3) opens_nil)))
end
theorem ent_es {w : World} {es : List Value} {x : EntR} (hl : es.length = 6) (h : rEnt w es x) : es = [.int .i64 x.1, .int .i64 x.2.1, .int .i64 x.2.2.1, .string x.2.2.2.1, .int .i64 x.2.2.2.2.1, .int .i64 x.2.2.2.2.2.1] := by
  obtain ⟨a, b, c, d, e, f, rfl⟩ := len6 hl
  obtain ⟨⟨h1, _⟩, ⟨h2, _⟩, ⟨h3, _⟩, ⟨h4, _⟩, ⟨h5, _⟩, ⟨h6, _⟩, _⟩ := h
  simp at h1 h2 h3 h4 h5 h6
  subst h1 h2 h3 h4 h5 h6
  rfl
theorem ent_K {w : World} {es : List Value} {x : EntR} (hl : es.length = 6) (h : rEnt w es x) : k27.K w (gEnt x) es := by
  rw [ent_es hl h]
  exact k27_mk w (gEnt x)
theorem quo_K {w : World} {es : List Value} {x : QuoR} (hl : es.length = 3) (h : rQuo w es x) : k35.K w (gQuo x) es := by
  obtain ⟨a, b, c, rfl⟩ := len3 hl
  obtain ⟨⟨h1, _⟩, ⟨h2, _⟩, ⟨h3, _⟩, _⟩ := h
  simp at h1 h2 h3
  subst h1 h2 h3
  exact k35_mk w (gQuo x)
theorem op_es {w : World} {es : List Value} {x : OpR} (hl : es.length = 8) (h : rOp w es x) : es = [.int .i64 x.1, .int .i64 x.2.1, .int .i64 x.2.2.1.1, .int .i64 x.2.2.1.2.1, .int .i64 x.2.2.1.2.2.1, .string x.2.2.1.2.2.2.1, .int .i64 x.2.2.1.2.2.2.2.1, .int .i64 x.2.2.1.2.2.2.2.2.1] := by
  obtain ⟨⟨h1, _⟩, ⟨h2, _⟩, h3, _⟩ := h
  have h4 := ent_es (by simp; omega) h3
  match es, hl with
  | [a, b, c, d, e, f, g, i], _ =>
    simp at h1 h2 h4
    obtain ⟨e1, e2, e3, e4, e5, e6⟩ := h4
    subst h1 h2 e1 e2 e3 e4 e5 e6
    rfl
theorem C_ents {w : World} {A : Option Addr} {xs : List EntR} (hm : xs.length ≤ 9223372036854775807) (hx : rdRow 6 rEnt w A xs) : Kd.C k27 w A (xs.map gEnt).length (xs.map gEnt) := C_of_row gEnt rfl hm hx (fun _ _ hl h => ent_K hl h)
theorem C_quos {w : World} {A : Option Addr} {xs : List QuoR} (hm : xs.length ≤ 9223372036854775807) (hx : rdRow 3 rQuo w A xs) : Kd.C k35 w A (xs.map gQuo).length (xs.map gQuo) := C_of_row gQuo rfl hm hx (fun _ _ hl h => quo_K hl h)
/-- A journal that came in. -/
theorem jn_in {w : World} {cs : Array Value} {x : JnR} (hz : cs.size = 3) (h : rJn w cs.toList x) : ∃ A0 c0 A1 c1, cs = #[.slice A0 (x.1.map gEnt).length c0, .slice A1 (x.2.1.map gQuo).length c1, .int .i64 x.2.2.1] ∧ ((x.1.map gEnt).length ≤ c0 ∧ Kd.C k27 w A0 (x.1.map gEnt).length (x.1.map gEnt)) ∧ ((x.2.1.map gQuo).length ≤ c1 ∧ Kd.C k35 w A1 (x.2.1.map gQuo).length (x.2.1.map gQuo)) := by
  obtain ⟨⟨A0, c0, e1, hl1, _, hm1, hr1⟩, ⟨A1, c1, e2, hl2, _, hm2, hr2⟩, ⟨e3, _⟩, _⟩ := h
  obtain ⟨a, b, c, e⟩ := len3 (es := cs.toList) (by simpa using hz)
  rw [e] at e1 e2 e3
  simp at e1 e2 e3
  subst e1 e2 e3
  rw [List.length_map, List.length_map]
  have k1 := C_ents (by omega) hr1
  have k2 := C_quos (by omega) hr2
  rw [List.length_map] at k1 k2
  exact ⟨A0, c0, A1, c1, Array.toList_inj.1 e, ⟨hl1, k1⟩, hl2, k2⟩
theorem op_in {w : World} {cs : Array Value} {x : OpR} (hz : cs.size = 8) (h : rOp w cs.toList x) : cs = #[.int .i64 (gOp x).f0, .int .i64 (gOp x).f1, .int .i64 (gOp x).f2.f0, .int .i64 (gOp x).f2.f1, .int .i64 (gOp x).f2.f2, .string (gOp x).f2.f3, .int .i64 (gOp x).f2.f4, .int .i64 (gOp x).f2.f5] :=
  Array.toList_inj.1 (op_es (by simpa using hz) h)
end Go.Proofs.YtghpmpjoedbpcaaDoor.Print
/-! ### Sep -/
namespace Go.Proofs.YtghpmpjoedbpcaaDoor
open Go.RowKit
inductive Res where
  | blk (b : Nat) (t : TypeId) (cs : List Value)
  | row (v : Value) (e : TypeId) (size n : Nat) (xs : List Value)
def Res.block : Res → Option Nat
  | .blk b _ _ => some b
  | .row v _ _ _ _ => v.ownBlock
def Res.holds (w : World) (base : Nat) : Res → Prop
  | .blk b t cs => base ≤ b ∧ w.heap[b]? = some (.cells cs.toArray t (0, 0))
  | .row v e size n xs => w.ownsRow base e size v n xs
theorem Res.holds.lt {w : World} {base : Nat} {r : Res} (h : r.holds w base) {k : Nat} (hk : r.block = some k) : base ≤ k ∧ k < w.heap.size := by
  cases r with
  | blk b t cs =>
    obtain rfl : b = k := by simpa [Res.block] using hk
    exact ⟨h.1, heap_lt h.2⟩
  | row v e size n xs => exact ownsRow_lt h hk
theorem Res.holds.only {S : List Nat} {w w' : World} {base : Nat} {r : Res} (h : r.holds w base) (ho : Only S w w') (hS : ∀ k, r.block = some k → k ∉ S) : r.holds w' base := by
  cases r with
  | blk b t cs => exact ⟨h.1, ho.heap h.2 (hS b rfl)⟩
  | row v e size n xs => exact ownsRow_only h ho hS
/-- Behind the world w0 this is one's own, each apart from each; all that lay in w0 lies as it lay. -/
structure St (w0 : World) (L : List Res) (w : World) : Prop where
  only : Only [] w0 w
  each : ∀ (i : Nat) (r : Res), L[i]? = some r → r.holds w w0.heap.size
  apart : ∀ (i j : Nat) (r s : Res) (k : Nat), L[i]? = some r → L[j]? = some s → r.block = some k → s.block = some k → i = j
section
variable {w0 w w' : World} {L : List Res}
theorem St.of_only (h : Only [] w0 w) : St w0 [] w := ⟨h, by simp, by simp⟩
theorem St.nil (w0 : World) : St w0 [] w0 := .of_only (Only.refl _ _)
theorem St.keep (h : St w0 L w) (ho : Only [] w w') : St w0 L w' := ⟨h.only.trans ho, fun i r hi => (h.each i r hi).only ho (by simp), h.apart⟩
theorem St.below (h : St w0 L w) (hb : Below w.heap.size w w') : St w0 L w' := h.keep (Only.of_below hb)
theorem St.le (h : St w0 L w) : w0.heap.size ≤ w.heap.size := h.only.size
theorem St.lt (h : St w0 L w) {i : Nat} {r : Res} (hi : L[i]? = some r) {k : Nat} (hk : r.block = some k) : w0.heap.size ≤ k ∧ k < w.heap.size := (h.each i r hi).lt hk
theorem St.heap (h : St w0 L w) (i : Nat) {b : Nat} {t : TypeId} {cs : List Value} (hi : L[i]? = some (.blk b t cs)) : w.heap[b]? = some (.cells cs.toArray t (0, 0)) := (h.each i _ hi).2
theorem St.cells (h : St w0 L w) (i : Nat) {b : Nat} {t : TypeId} {cs : List Value} (hi : L[i]? = some (.blk b t cs)) : CellsAt w ⟨b, 0, none⟩ cs := cellsAt_row (h.heap i hi)
theorem St.cell (h : St w0 L w) (i j : Nat) {b : Nat} {t : TypeId} {cs : List Value} {u : Value} (hi : L[i]? = some (.blk b t cs)) (hj : cs[j]? = some u) : w.cell? ⟨b, j, none⟩ = some u := by
  rw [cell_of_row w b j _ _ _ (h.heap i hi), ← Array.getElem?_toList]
  exact hj
theorem St.row (h : St w0 L w) (i : Nat) {v : Value} {e : TypeId} {size n : Nat} {xs : List Value} (hi : L[i]? = some (.row v e size n xs)) : w.ownsRow w0.heap.size e size v n xs := h.each i _ hi
/-- Something new. -/
theorem St.add (h : St w0 L w) (ho : Only [] w w') {r : Res} (hr : r.holds w' w0.heap.size) (hn : ∀ k, r.block = some k → w.heap.size ≤ k) : St w0 (L ++ [r]) w' := by
  have hget : ∀ (i : Nat) (s : Res), (L ++ [r])[i]? = some s → (i < L.length ∧ L[i]? = some s) ∨ (i = L.length ∧ s = r) := by
    intro i s hi
    rw [List.getElem?_append] at hi
    split at hi
    · exact .inl ⟨‹_›, hi⟩
    · have := (List.getElem?_eq_some_iff.1 hi).1
      simp at this
      obtain rfl : i = L.length := by omega
      simp at hi
      exact .inr ⟨rfl, hi.symm⟩
  refine ⟨h.only.trans ho, fun i s hi => ?_, fun i j s t k hi hj hs ht => ?_⟩
  · rcases hget i s hi with ⟨_, h1⟩ | ⟨_, rfl⟩
    · exact (h.each i s h1).only ho (by simp)
    · exact hr
  · rcases hget i s hi with ⟨_, h1⟩ | ⟨h1, rfl⟩ <;> rcases hget j t hj with ⟨_, h2⟩ | ⟨h2, rfl⟩
    · exact h.apart i j s t k h1 h2 hs ht
    · have := (h.lt h1 hs).2; have := hn k ht; omega
    · have := (h.lt h2 ht).2; have := hn k hs; omega
    · omega
theorem St.alloc (h : St w0 L w) (cs : List Value) (t : TypeId) : St w0 (L ++ [.blk w.heap.size t cs]) (w.alloc (.cells cs.toArray t)) :=
  h.add ((Only.refl _ _).alloc _) ⟨h.le, heap_alloc_new w _⟩ (fun k hk => by simp [Res.block] at hk; omega)
/-- One of them is turned. -/
theorem St.set (h : St w0 L w) (i : Nat) {r : Res} (hi : L[i]? = some r) {S : List Nat} (ho : Only S w w') (hS : ∀ k, k ∈ S → r.block = some k) {r' : Res} (hr : r'.holds w' w0.heap.size)
    (hk : ∀ k, r'.block = some k → r.block = some k ∨ w.heap.size ≤ k) : St w0 (L.set i r') w' := by
  have hget : ∀ (j : Nat) (s : Res), (L.set i r')[j]? = some s → (j ≠ i ∧ L[j]? = some s) ∨ (j = i ∧ s = r') := by
    intro j s hj
    rw [List.getElem?_set] at hj
    split at hj
    · rename_i hij
      split at hj
      · exact .inr ⟨hij.symm, (Option.some.inj hj).symm⟩
      · cases hj
    · exact .inl ⟨fun e => by omega, hj⟩
  have hbl : ∀ k, k ∈ S → w0.heap.size ≤ k := fun k hk' => (h.lt hi (hS k hk')).1
  refine ⟨(h.only.then ho (fun k hk' => .inr (hbl k hk'))), fun j s hj => ?_, fun j l s t k hj hl hs ht => ?_⟩
  · rcases hget j s hj with ⟨h1, h2⟩ | ⟨_, rfl⟩
    · exact (h.each j s h2).only ho (fun k hk' hm => h1 (h.apart j i s r k h2 hi hk' (hS k hm)))
    · exact hr
  · rcases hget j s hj with ⟨h1, h2⟩ | ⟨h1, rfl⟩ <;> rcases hget l t hl with ⟨h3, h4⟩ | ⟨h3, rfl⟩
    · exact h.apart j l s t k h2 h4 hs ht
    · rcases hk k ht with h5 | h5
      · exact (h1 (h.apart j i s r k h2 hi hs h5)).elim
      · have := (h.lt h2 hs).2; omega
    · rcases hk k hs with h5 | h5
      · exact (h3 (h.apart l i t r k h4 hi ht h5)).elim
      · have := (h.lt h4 ht).2; omega
    · omega
theorem St.store (h : St w0 L w) (i : Nat) {b : Nat} {t : TypeId} {cs cs' : List Value} (hi : L[i]? = some (.blk b t cs)) (ho : Only [b] w w') (hg : w'.heap[b]? = some (.cells cs'.toArray t (0, 0))) : St w0 (L.set i (.blk b t cs')) w' :=
  h.set i hi ho (fun k hk => by simp at hk; simp [Res.block, hk]) (r' := .blk b t cs') ⟨(h.each i _ hi).1, hg⟩ (fun k hk => .inl hk)
/-- Some of them, in another order. -/
theorem St.pick (h : St w0 L w) {L' : List Res} (f : Nat → Nat) (hf : ∀ i j, i < L'.length → j < L'.length → f i = f j → i = j) (hL : ∀ i r, L'[i]? = some r → L[f i]? = some r) : St w0 L' w :=
  ⟨h.only, fun i r hi => h.each _ r (hL i r hi), fun i j r s k hi hj hr hs => hf i j (List.getElem?_eq_some_iff.1 hi).1 (List.getElem?_eq_some_iff.1 hj).1 (h.apart _ _ r s k (hL i r hi) (hL j s hj) hr hs)⟩
/-- The same where all are told: the places by a function that `decide` looks at. -/
theorem St.pickN (h : St w0 L w) {L' : List Res} (n : Nat) (hn : L'.length = n) (f : Nat → Nat) (hf : ∀ i, i < n → ∀ j, j < n → f i = f j → i = j) (hL : ∀ i r, L'[i]? = some r → L[f i]? = some r) : St w0 L' w :=
  h.pick f (fun i j hi hj e => hf i (hn ▸ hi) j (hn ▸ hj) e) hL
theorem St.take (h : St w0 L w) (n : Nat) : St w0 (L.take n) w := by
  refine h.pick id (fun _ _ _ _ e => e) (fun i r hi => ?_)
  rw [List.getElem?_take] at hi
  split at hi
  · exact hi
  · cases hi
/-- The world by a letter. -/
theorem St.calls {P : Program} {f : FuncId} {args : Array Value} {R : Ending → World → Prop} (h : St w0 L w) (k : ∀ W, St w0 L W → Calls P f args W R) : Calls P f args w R := k w h
end
end Go.Proofs.YtghpmpjoedbpcaaDoor
/-! ### LP -/
namespace Go.Proofs.YtghpmpjoedbpcaaDoor
open Go Go.RowKit
namespace L
section
variable {P : Program} {ops : Array Oper} {Q : Exit → Act → World → Prop} {md : Region.Mode}
theorem wp_turn {o : Oper} {a : Act} {w : World} {K K' : Act → World → Prop} {Q Q' : Exit → Act → World → Prop} (h : ∀ a w, K a w → K' a w) (hq : ∀ e a w, e ≠ .normal → Q e a w → Q' e a w)
    (hh : o.wp P a w K Q) : o.wp P a w K' Q' := by
  unfold Oper.wp at *
  generalize (execOp a.eval o).run P w = r at *
  cases r with
  | ok n w' =>
    cases n <;> simp only [Oper.upon] at hh ⊢ <;>
      first
        | exact h _ _ hh
        | exact Calls.mono hh (fun e w'' he => by
            cases e with
            | returned v => exact h _ _ he
            | panicked c => exact hq _ _ _ (by simp) he
            | outgrown => obtain ⟨a0, w0, h0⟩ := he; exact ⟨a0, w0, hq _ _ _ (by simp) h0⟩)
        | exact Rows.mono hh (fun _ _ he => h _ _ he)
  | halt x w' => cases x <;> simp only [Oper.upon] at hh ⊢ <;> first | exact hq _ _ _ (by simp) hh | exact hh
inductive Plan where
  | fin (T : List (Nat × Bool × Bool))
  | fork (T : List (Nat × Bool × Bool)) (i : Nat) (p : Plan) (k : Nat) (q : Plan)
def Plan.list : Plan → List (Nat × Bool × Bool)
  | .fin T => T
  | .fork T _ _ _ _ => T
def Plan.len : Plan → Nat
  | .fin T => T.length
  | .fork T _ p _ _ => T.length + (p.len + 1)
def behind : List (Nat × Bool × Bool) → List Bool → List Bool
  | [], l => l
  | (i, _, _) :: r, l => behind r (l.set i true)
def rowsX (tab : List Row) (n z : Nat) : List (Nat × Bool × Bool) → List Bool → Bool
  | [], _ => true
  | (i, f, c) :: r, l =>
    readyT tab l i && (!f || (i != z && (match tab[i]? with | some x => freeT tab l i x tab 0 | none => false))) && (!c || aloneT tab l i n) && rowsX tab n z r (l.set i true)
def planT (tab : List Row) (n z : Nat) : Plan → List Bool → Bool
  | .fin T, l => rowsT tab n z T l
  | .fork T i p k q, l => rowsX tab n z T l && readyT tab (behind T l) i && readyT tab (behind T l) k && ((List.range n).all fun j => j == i || j == k || !readyT tab (behind T l) j) &&
      planT tab n z p ((behind T l).set i true) && planT tab n z q ((behind T l).set k true) && (p.len == q.len)
def planQ (P : Program) (ops : Array Oper) (Q : Exit → Act → World → Prop) (S : List Nat) (z : Nat) : Plan → Exit → Act → World → Prop
  | .fin _ => Q
  | .fork _ i p k q => fun e a w => match e with
    | .normal => GrowL P ops (planQ P ops Q S z p) S z ((i, false, true) :: p.list) a w ∧ GrowL P ops (planQ P ops Q S z q) S z ((k, false, true) :: q.list) a w
    | e => Q e a w
theorem planQ_exits {S : List Nat} {z : Nat} : ∀ (p : Plan) (e : Exit) (a : Act) (w : World), e ≠ .normal → planQ P ops Q S z p e a w → Q e a w
  | .fin _, _, _, _, _, h => h
  | .fork _ _ _ _ _, e, a, w, he, h => by
    unfold planQ at h
    cases e <;> first | exact absurd rfl he | exact h
theorem grow_list {S : List Nat} {z : Nat} (hz : LastOp md ops z) (hsel : Region.noSelect ops = true) (hQ : ∀ c (a : Act) d v w, Q (.panic c) (a.put d v) w → Q (.panic c) a w) {Q' : Exit → Act → World → Prop} (hq : ∀ e a w, e ≠ .normal → Q' e a w → Q e a w) (fuel : Nat) :
    ∀ (T : List (Nat × Bool × Bool)) (l : List Bool), rowsX (tabOf md ops) ops.size z T l = true → Closed md ops l.toArray →
      (∀ a w, Closed md ops (behind T l).toArray → Q' .normal a w → wpGrow P md ops Q S z fuel (behind T l).toArray a w) → ∀ a w, GrowL P ops Q' S z T a w → wpGrow P md ops Q S z (T.length + fuel) l.toArray a w
  | [], l, _, hcl, hF, a, w, h => by
    rw [List.length_nil, Nat.zero_add]
    exact hF a w hcl h
  | (i, f, c) :: r, l, hT, hcl, hF, a, w, h => by
    simp only [rowsX, Bool.and_eq_true, Bool.or_eq_true, Bool.not_eq_true'] at hT
    obtain ⟨⟨⟨hrd, hf⟩, hc⟩, hr⟩ := hT
    obtain ⟨oi, hi, h⟩ := h
    have hcl' : Closed md ops (l.set i true).toArray := by
      have := hcl.add ((readyT_spec l i).1 hrd)
      simpa using this
    have hset : l.toArray.setIfInBounds i true = (l.set i true).toArray := by simp
    rw [List.length_cons, show r.length + 1 + fuel = (r.length + fuel) + 1 by omega]
    rcases h with ⟨hft, v, hy, hg⟩ | ⟨hct, hw, hwp⟩
    · have hfr := hf.resolve_left (by rw [hft]; simp)
      have htab : (tabOf md ops)[i]? = some (rowOf md ops oi) := by unfold tabOf; rw [List.getElem?_map, Array.getElem?_toList, hi]; rfl
      rw [htab] at hfr
      simp only [bne_iff_ne, ne_eq] at hfr
      refine wpGrow_first hz hfr.1 hi (Region.noSelect_spec hsel) (fun c a w => hQ c a _ _ w) (r.length + fuel) _ a w hcl (fun j oj hj hne hun hno => ?_) ((readyT_spec l i).1 hrd) hy ?_
      · have htj : (tabOf md ops)[j]? = some (rowOf md ops oj) := by unfold tabOf; rw [List.getElem?_map, Array.getElem?_toList, hj]; rfl
        have hl : l.getD j true = false := by simpa [List.getD_eq_getElem?_getD] using hun
        rcases freeT_spec _ l i _ _ 0 hfr.2 j _ htj with h1 | h1 | h1 | h1
        · exact absurd (by omega) hne
        · rw [Nat.zero_add, hl] at h1; cases h1
        · exfalso
          simp only [rowOf, List.contains_iff_mem, List.mem_map, List.mem_filter] at h1
          obtain ⟨e, ⟨he, hb⟩, heq⟩ := h1
          exact hno e (by simpa using he) hb heq
        · exact apartT_spec h1
      · rw [hset]
        exact grow_list hz hsel hQ hq fuel r _ hr hcl' hF _ _ hg
    · have hal := hc.resolve_left (by rw [hct]; simp)
      refine ⟨fun h0 => ?_, fun j hj => ?_⟩
      · have := (readyT_spec l i).1 hrd
        rw [h0] at this
        cases this
      · have hji : j = i := by
          simp only [aloneT, List.all_eq_true, List.mem_range, Bool.or_eq_true, beq_iff_eq, Bool.not_eq_true'] at hal
          rcases hal j (ready_lt hj) with h1 | h1
          · exact h1
          · rw [(readyT_spec l j).2 hj] at h1; cases h1
        subst hji
        rw [hset]
        unfold wpOp
        simp only [hi, hw, if_true]
        exact .inl (wp_turn (fun a' w' h => ⟨h.1, grow_list hz hsel hQ hq fuel r _ hr hcl' hF _ _ h.2⟩) hq hwp)
theorem grow_plan {S : List Nat} {z : Nat} (hz : LastOp md ops z) (hsel : Region.noSelect ops = true) (hQ : ∀ c (a : Act) d v w, Q (.panic c) (a.put d v) w → Q (.panic c) a w) :
    ∀ (p : Plan) (l : List Bool), planT (tabOf md ops) ops.size z p l = true → Closed md ops l.toArray → ∀ a w, GrowL P ops (planQ P ops Q S z p) S z p.list a w → wpGrow P md ops Q S z p.len l.toArray a w
  | .fin T, l, hT, hcl, a, w, h => grow_of_rows hz hsel hQ T l hT hcl a w h
  | .fork T i p k q, l, hT, hcl, a, w, h => by
    simp only [planT, Bool.and_eq_true, beq_iff_eq, List.all_eq_true, List.mem_range, Bool.or_eq_true, Bool.not_eq_true'] at hT
    obtain ⟨⟨⟨⟨⟨⟨hX, hi⟩, hk⟩, hall⟩, hp⟩, hq⟩, hlen⟩ := hT
    refine grow_list hz hsel hQ (planQ_exits (.fork T i p k q)) (p.len + 1) T l hX hcl (fun a w hcl2 hN => ?_) a w h
    have step : ∀ (j : Nat) (r : Plan), readyT (tabOf md ops) (behind T l) j = true → planT (tabOf md ops) ops.size z r ((behind T l).set j true) = true → r.len = p.len →
        (∀ (l : List Bool), planT (tabOf md ops) ops.size z r l = true → Closed md ops l.toArray → ∀ a w, GrowL P ops (planQ P ops Q S z r) S z r.list a w → wpGrow P md ops Q S z r.len l.toArray a w) →
        GrowL P ops (planQ P ops Q S z r) S z ((j, false, true) :: r.list) a w → wpOp P ops Q j (fun a' w' => (j = z ∨ Only S w w') ∧ wpGrow P md ops Q S z p.len ((behind T l).toArray.setIfInBounds j true) a' w') a w := by
      intro j r hrd hr hle ih hg
      obtain ⟨oj, hoj, h⟩ := hg
      have hcl' : Closed md ops ((behind T l).set j true).toArray := by
        have := hcl2.add ((readyT_spec _ j).1 hrd)
        simpa using this
      have hset : (behind T l).toArray.setIfInBounds j true = ((behind T l).set j true).toArray := by simp
      rcases h with ⟨hft, _⟩ | ⟨_, hw, hwp⟩
      · cases hft
      · rw [hset, ← hle]
        unfold wpOp
        simp only [hoj, hw, if_true]
        exact .inl (wp_turn (fun a' w' h => ⟨h.1, ih _ hr hcl' _ _ h.2⟩) (planQ_exits r) hwp)
    refine ⟨fun h0 => ?_, fun j hj => ?_⟩
    · have := (readyT_spec _ i).1 hi
      rw [h0] at this
      cases this
    · rcases hall j (ready_lt hj) with (h | h) | h
      · subst h; exact step j p hi hp rfl (grow_plan hz hsel hQ p) hN.1
      · subst h; exact step j q hk hq hlen.symm (grow_plan hz hsel hQ q) hN.2
      · rw [(readyT_spec _ j).2 hj] at h; cases h
theorem grow_startP (S : List Nat) (z : Nat) (p : Plan) {id : Nat} {a : Act} {w : World} (hm : P.follows .mixedOrders = true)
    (tab : List Row) (htab : tabOf .any ops = tab) (hs : Region.noSelect ops = true) {n : Nat} (hn : ops.size = n) (hT : (lastT (plains ops) tab n z && planT tab n z p (List.replicate n false) && p.len == n) = true)
    (hQ : ∀ c (a : Act) t v w, Q (.panic c) (a.put (some t) v) w → Q (.panic c) a w)
    (h : ∀ w1, Only [] w w1 → GrowL P ops (planQ P ops Q S z p) S z p.list a w1) : (Code.region id ops true).wp P Q a w := by
  subst htab
  subst hn
  simp only [Bool.and_eq_true, beq_iff_eq] at hT
  obtain ⟨⟨hla, hpl⟩, hle⟩ := hT
  have ho : Only [] w { w with drawn := w.drawn + 1 } := ⟨rfl, rfl, rfl, Nat.le_refl _, fun _ _ _ => rfl⟩
  have hQ' : ∀ c (a : Act) (d : Option Tmp) v w, Q (.panic c) (a.put d v) w → Q (.panic c) a w := fun c a d v w h => by cases d with | none => exact h | some t => exact hQ c a t v w h
  refine wp_region_any hm (wpAny_of_grow (S := S) (z := z) _ _ _ _ ?_)
  have := grow_plan (S := S) (z := z) (lastT_spec hla) hs hQ' p _ hpl (fun j oj _ hl => by exfalso; rw [Array.getD_eq_getD_getElem?, List.getElem?_toArray, List.getElem?_replicate] at hl; split at hl <;> simp at hl) a _ (h _ ho)
  rw [hle, List.toArray_replicate] at this
  exact this
theorem ge_forkP {S : List Nat} {z : Nat} {T : List (Nat × Bool × Bool)} {i k : Nat} {p q : Plan} {a : Act} {w : World} {N : Nat} {env : List (Nat × Value)} (h1 : GrowE P ops (planQ P ops Q S z p) S z ((i, false, true) :: p.list) a N env w)
    (h2 : GrowE P ops (planQ P ops Q S z q) S z ((k, false, true) :: q.list) a N env w) : GrowE P ops (planQ P ops Q S z (.fork T i p k q)) S z [] a N env w :=
  fun hN he => ⟨h1 hN he, h2 hN he⟩
end
end L
end Go.Proofs.YtghpmpjoedbpcaaDoor
/-! ### JWalk6 -/
namespace Go.Proofs.YtghpmpjoedbpcaaDoor.Print
open Go.RowKit Go.Proofs.YtghpmpjoedbpcaaDoorW.PrintWords Go.Proofs.YtghpmpjoedbpcaaDoorW.PrintLast Go.Proofs.YtghpmpjoedbpcaaDoorW.PrintMore
set_option linter.unusedSimpArgs false
set_option linter.unusedVariables false
def Len (j : Jn) : Prop := j.l.length ≤ 400 ∧ j.q.length ≤ 400
theorem Len.zero : Len zJn := ⟨by decide, by decide⟩
theorem open_len {j : Jn} (h : j.l.length ≤ 300 ∧ j.q.length ≤ 300) (b n : Int) : Len (openJ j b n).1 := by
  unfold openJ
  split
  · exact Len.zero
  split
  · exact Len.zero
  split
  · exact Len.zero
  · refine ⟨by show j.l.length ≤ 400; omega, ?_⟩
    show (j.q.take (placeI j.q b) ++ _ :: j.q.drop (placeI j.q b)).length ≤ 400
    simp only [List.length_append, List.length_cons, List.length_take, List.length_drop]
    omega
theorem close_len {j : Jn} (h : j.l.length ≤ 300 ∧ j.q.length ≤ 300) (b : Int) : Len (closeJ j b).1 := by
  unfold closeJ
  split
  · exact Len.zero
  split
  · exact Len.zero
  · refine ⟨by show j.l.length ≤ 400; omega, ?_⟩
    show (j.q.take (placeI j.q b) ++ j.q.drop (placeI j.q b + 1)).length ≤ 400
    simp only [List.length_append, List.length_take, List.length_drop]
    omega
theorem add_len' {j : Jn} (h : j.l.length ≤ 300 ∧ j.q.length ≤ 300) (e : S27) : Len (addJ j e).1 := by
  have := add_len j e h.1 h.2
  exact ⟨by omega, by omega⟩
theorem trim_len {j : Jn} (h : j.l.length ≤ 300 ∧ j.q.length ≤ 300) (n : Int) : Len (trimJ j n).1 := by
  unfold trimJ
  split
  · exact Len.zero
  split
  · exact Len.zero
  · refine ⟨?_, by show j.q.length ≤ 400; omega⟩
    show (j.l.drop n.toNat).length ≤ 400
    rw [List.length_drop]
    omega
theorem note_len {j : Jn} (h : j.l.length ≤ 300 ∧ j.q.length ≤ 300) (e : S27) : Len (noteJ j e).1 := by
  have h1 := add_len' h e
  unfold noteJ
  split
  · split
    · refine ⟨by show j.l.length ≤ 400; omega, ?_⟩
      show (lostAt j.q _).length ≤ 400
      unfold lostAt
      simp only [List.length_set]
      omega
    · exact ⟨by show j.l.length ≤ 400; omega, by show j.q.length ≤ 400; omega⟩
  · exact h1
theorem cut_hid {G T : Prop} (h : Hid T → G) (hT : T) : G := h (Lib.hid hT)
theorem ent_cells {w : World} {b : Nat} {x0 x1 : Value} {cs : List Value} (h : CellsAt w ⟨b, 0, none⟩ (x0 :: x1 :: cs)) : CellsAt w ⟨b, 2, none⟩ cs := fun k v hk => by
  have h1 := h (2 + k) v (by rw [show 2 + k = k + 1 + 1 by omega]; simpa using hk)
  rw [← Go.Deep.add_add] at h1
  have e : (⟨b, 0, none⟩ : Addr).add 2 = ⟨b, 2, none⟩ := by simp [Addr.add]
  rw [e] at h1
  exact h1
/-- A journal that can be read. -/
def CJ (w : World) (A0 : Option Addr) (c0 : Nat) (A1 : Option Addr) (c1 : Nat) (j : Jn) : Prop := (j.l.length ≤ c0 ∧ Kd.C k27 w A0 j.l.length j.l) ∧ (j.q.length ≤ c1 ∧ Kd.C k35 w A1 j.q.length j.q)
theorem CJ.only {w w' : World} {A0 : Option Addr} {c0 : Nat} {A1 : Option Addr} {c1 : Nat} {j : Jn} (h : CJ w A0 c0 A1 c1 j) (ho : Only [] w w') : CJ w' A0 c0 A1 c1 j :=
  ⟨⟨h.1.1, Kd.C_below h.1.2 ho.nil_below⟩, h.2.1, Kd.C_below h.2.2 ho.nil_below⟩
theorem CJ.of {w : World} {base : Nat} {A0 : Option Addr} {c0 : Nat} {A1 : Option Addr} {c1 : Nat} {j : Jn} (h0 : w.ownsRow base 27 6 (.slice A0 j.l.length c0) j.l.length (eRow j.l)) (h1 : w.ownsRow base 35 3 (.slice A1 j.q.length c1) j.q.length (qRow j.q)) : CJ w A0 c0 A1 c1 j := ⟨own_e_reads h0, own_q_reads h1⟩
theorem same_at {w : World} {A0 : Option Addr} {c0 : Nat} {A1 : Option Addr} {c1 : Nat} {B0 : Option Addr} {d0 : Nat} {B1 : Option Addr} {d1 : Nat} {j : Jn} (h : CJ w A0 c0 A1 c1 j) (k : CJ w B0 d0 B1 d1 j) (hl : Len j) :
    Calls Tryd.prog 12 #[.agg #[.slice A0 j.l.length c0, .slice A1 j.q.length c1, .int .i64 j.g], .agg #[.slice B0 j.l.length d0, .slice B1 j.q.length d1, .int .i64 j.g]] w fun e w' => e = .returned (.bool true) ∧ Below w.heap.size w w' := by
  obtain ⟨l, q, g⟩ := j
  have h1 : l.length ≤ 400 := hl.1
  have h2 : q.length ≤ 400 := hl.2
  exact malthouseref18_Same.calls 10000 A0 c0 l A1 c1 q g B0 d0 l B1 d1 q g true w h.1.2 h.1.1 h.2.2 h.2.1 k.1.2 k.1.1 k.2.2 k.2.1 (same_refl _ _ _ _ (by omega) (by omega) (by omega))
set_option maxHeartbeats 16000000 in
set_option maxRecDepth 100000 in
theorem does_any (A0 : Option Addr) (c0 : Nat) (A1 : Option Addr) (c1 : Nat) (j : Jn) (o : S43) (w : World) (h0 : j.l.length ≤ c0 ∧ Kd.C k27 w A0 j.l.length j.l) (h1 : j.q.length ≤ c1 ∧ Kd.C k35 w A1 j.q.length j.q) (hT : Tabs w) (he : o.f2.f3.size ≤ 140737488351232) :
    Calls Tryd.prog 6 #[.agg #[.slice A0 j.l.length c0, .slice A1 j.q.length c1, .int .i64 j.g], .agg #[.int .i64 o.f0, .int .i64 o.f1, .int .i64 o.f2.f0, .int .i64 o.f2.f1, .int .i64 o.f2.f2, .string o.f2.f3, .int .i64 o.f2.f4, .int .i64 o.f2.f5]] w fun x w' => x = .returned (.bool true) ∧ Below w.heap.size w w' := by
  have HC := Lib.hid (show CJ w A0 c0 A1 c1 j from ⟨h0, h1⟩)
  have HT := Lib.hid hT
  clear h0 h1 hT
  have HAW := Lib.hid (fun (W : World) (hW : Tabs W) => malthouselaw18_awake.calls true W hW rfl)
  go_enter Tryd.func6, Tryd.ntmps6
  go_wp2_with (go_at_call 8; refine (fun (h : Hid _) => h.out) ?_)
  refine Lib.hid ?_
  have HS := Lib.hid (((St.nil w).alloc [.slice A0 j.l.length c0, .slice A1 j.q.length c1, .int .i64 j.g] 25).alloc [.int .i64 o.f0, .int .i64 o.f1, .int .i64 o.f2.f0, .int .i64 o.f2.f1, .int .i64 o.f2.f2, .string o.f2.f3, .int .i64 o.f2.f4, .int .i64 o.f2.f5] 43)
  simp only [World.size_alloc, List.nil_append, List.cons_append, List.append_assoc] at HS
  generalize hb : w.heap.size = wb at *
  clear hb
  refine HS.out.calls ?_
  clear HS
  intro W0 hs
  refine (HAW.out W0 (HT.out.below hs.only.nil_below)).mono ?_
  rintro x W1 ⟨rfl, hb1⟩
  have HS := Lib.hid (hs.below hb1)
  clear hs hb1 HAW
  have HLI := Lib.hid (malthouseref18_Light.calls 1000 A0 c0 j.l A1 c1 j.q j.g (lightB j.l j.q) W1 (HC.out.only HS.out.only).1.2 HC.out.1.1 (HC.out.only HS.out.only).2.2 HC.out.2.1 (light_is _ _ _ _ (by omega)))
  have G0 := Lib.hid (HS.out.cells 0 rfl)
  go_wp2_with (first
    | (with_reducible refine wpList_load_at rfl 25 (.tmp 2) rfl ⟨wb, 0, none⟩ rfl _ _ G0.out Tryd.underlying25 rfl (by kernel_rfl) ?_)
    | (go_at_call 9; refine HLI.out.mono ?_; rintro x W2 ⟨rfl, hb2⟩; refine (fun (h : Hid _) => h.out) ?_))
  refine Lib.hid ?_
  replace HS := Lib.hid (HS.out.below hb2)
  clear hb2 HLI G0
  cases hli : lightB j.l j.q
  · clear hli
    go_wp2
    go_ret
    exact ⟨rfl, HS.out.only.nil_below⟩
  obtain ⟨hok, hn0, hn1, hnm⟩ := lightB_ok j.g hli
  have HJ := Lib.hid (show Jok j from hok)
  have HLT := Lib.hid (show Lt j from ⟨by omega, by omega, hnm⟩)
  have HLN := Lib.hid (show j.l.length ≤ 300 ∧ j.q.length ≤ 300 from ⟨hn0, hn1⟩)
  clear hli hok hnm
  have y3 := HS.out.cell 1 5 rfl rfl
  by_cases hes : 200 < o.f2.f3.size
  · have hes' : (200 : Int) < o.f2.f3.size := by omega
    go_wp2
    go_ret
    exact ⟨rfl, HS.out.only.nil_below⟩
  have hes' : (o.f2.f3.size : Int) ≤ 200 := by omega
  have HES := Lib.hid (show o.f2.f3.size ≤ 200 from by omega)
  go_wp2_with fail
  clear y3 hes hes'
  apply cut_hid
  intro HK
  refine L.grow_startP [] 10 (.fork ((0, true, false) :: (1, true, false) :: (3, true, false) :: (4, true, false) :: (6, true, false) :: (7, true, false) :: []) 2 (.fork ([]) 5 (.fin ((8, true, false) :: (9, false, true) :: (10, false, true) :: [])) 9 (.fin ((5, false, true) :: (8, true, true) :: (10, false, true) :: []))) 9 (.fin ((2, false, true) :: (5, false, true) :: (8, true, true) :: (10, false, true) :: []))) (by kernel_rfl) (([], [2], some 52) :: ([0], [52], some 53) :: ([1], [53], some 54) :: ([], [2], some 55) :: ([3], [55], some 56) :: ([4, 2], [56], some 57) :: ([], [2], some 58) :: ([6], [58], some 59) :: ([2, 5, 7], [54, 57, 59], some 60) :: ([], [], some 7) :: ([9, 8, 5, 0, 1, 2, 3, 4, 5, 6, 7, 8, 9], [7, 60], none) :: []) (by kernel_rfl) (by kernel_rfl) (n := 11) rfl (by kernel_rfl) (fun _ _ _ _ _ h => h) (fun wg hog => ?_)
  refine L.growe_start (N := 226) (by rfl) ?_
  replace HS := Lib.hid (HS.out.keep hog)
  clear hog
  have e0 : ∀ w', Only [] wg w' → w'.cell? ⟨wb, 0, none⟩ = some (.slice A0 j.l.length c0) := fun w' k => (HS.out.keep k).cell 0 0 rfl rfl
  have e1 : ∀ w', Only [] wg w' → w'.cell? ⟨wb, 1, none⟩ = some (.slice A1 j.q.length c1) := fun w' k => (HS.out.keep k).cell 0 1 rfl rfl
  have e2 : ∀ w', Only [] wg w' → w'.cell? ⟨wb, 2, none⟩ = some (.int .i64 j.g) := fun w' k => (HS.out.keep k).cell 0 2 rfl rfl
  iterate 6 (first | (refine L.ge_off rfl rfl rfl (by rfl) ?_) | (refine L.ge_move rfl rfl rfl (by rfl) rfl (by simp [L.evE, L.lk, Act.eval]; rfl) ?_) | (refine L.ge_pick rfl rfl rfl (by rfl) rfl (by simp [L.evE, L.lk, Act.eval]; rfl) (by simp [L.evE, L.lk, Act.eval]; rfl) ?_) | (refine L.ge_val rfl rfl rfl (by rfl) (by intro w' hw'; simp [execOp, L.evE, L.lk, Act.eval]; go_simp; rfl) ?_))
  clear e0 e1 e2
  refine L.ge_forkP ?_ ?_
  · refine ge_append_row rfl rfl rfl (by rfl) _ _ _ rfl w.heap.size 27 6 56 (.agg #[.int .i64 0, .int .i64 0, .int .i64 0, .string ⟨#[]⟩, .int .i64 0, .int .i64 0]) Tryd.underlying22 info27 rfl (by omega) (.slice none 0 0) 0 [] (by simp [L.evE, L.lk, Act.eval]) (ownsRow_nil _ _ _ _) A0 j.l.length c0 (eRow j.l) (by simp [L.evE, L.lk, Act.eval]) (eRow_length _) (flat_e (HC.out.only HS.out.only).1.2) (eRow_one _) (by unfold maxLen; omega) (by omega) HS.out.le ?_
    intro B0 d0 we hown hoe hke
    rw [Nat.zero_add] at *
    refine ⟨hoe.mono (by simp [Value.ownBlock]), ?_⟩
    replace HS := Lib.hid (HS.out.add (hoe.mono (by simp [Value.ownBlock])) (r := .row (.slice B0 j.l.length d0) 27 6 j.l.length (eRow j.l)) (by rw [List.nil_append] at hown; exact hown) (fun k hk => (hke k hk).resolve_left (by simp [Value.ownBlock])))
    simp only [List.cons_append, List.nil_append] at HS
    clear hown hoe hke
    refine L.ge_forkP ?_ ?_
    · refine ge_append_row rfl rfl rfl (by rfl) _ _ _ rfl w.heap.size 35 3 24 (.agg #[.int .i64 0, .int .i64 0, .int .i64 0]) Tryd.underlying23 info35 rfl (by omega) (.slice none 0 0) 0 [] (by simp [L.evE, L.lk, Act.eval]) (ownsRow_nil _ _ _ _) A1 j.q.length c1 (qRow j.q) (by simp [L.evE, L.lk, Act.eval]) (qRow_length _) (flat_q (HC.out.only HS.out.only).2.2) (qRow_one _) (by unfold maxLen; omega) (by omega) HS.out.le ?_
      intro B1 d1 wq hown hoe hke
      rw [Nat.zero_add] at *
      refine ⟨hoe.mono (by simp [Value.ownBlock]), ?_⟩
      replace HS := Lib.hid (HS.out.add (hoe.mono (by simp [Value.ownBlock])) (r := .row (.slice B1 j.q.length d1) 35 3 j.q.length (qRow j.q)) (by rw [List.nil_append] at hown; exact hown) (fun k hk => (hke k hk).resolve_left (by simp [Value.ownBlock])))
      simp only [List.cons_append, List.nil_append] at HS
      clear hown hoe hke
      (first | (refine L.ge_off rfl rfl rfl (by rfl) ?_) | (refine L.ge_move rfl rfl rfl (by rfl) rfl (by simp [L.evE, L.lk, Act.eval]; rfl) ?_) | (refine L.ge_pick rfl rfl rfl (by rfl) rfl (by simp [L.evE, L.lk, Act.eval]; rfl) (by simp [L.evE, L.lk, Act.eval]; rfl) ?_) | (refine L.ge_val rfl rfl rfl (by rfl) (by intro w' hw'; simp [execOp, L.evE, L.lk, Act.eval]; go_simp; rfl) ?_))
      refine L.ge_mem rfl rfl rfl (by rfl) (w' := wq.alloc (.cells #[.slice none 0 0, .slice none 0 0, .int .i64 0] 25)) (v := .pointer (some ⟨wq.heap.size, 0, none⟩)) (by simp [execOp, L.evE, L.lk, Act.eval]; go_simp) ((Only.refl _ _).alloc _) ?_
      replace HS := Lib.hid (HS.out.alloc [.slice none 0 0, .slice none 0 0, .int .i64 0] 25)
      simp only [List.cons_append, List.nil_append] at HS
      generalize wq.heap.size = nb at *
      refine ge_last_in rfl rfl (by rfl) _ (.tmp 7) (.tmp 60) rfl nb 0 (.agg #[.slice B0 j.l.length d0, .slice B1 j.q.length d1, .int .i64 j.g]) (by simp [L.evE, L.lk, Act.eval]) (by simp [L.evE, L.lk, Act.eval]) [.slice B0 j.l.length d0, .slice B1 j.q.length d1, .int .i64 j.g] rfl 25 [.slice none 0 0, .slice none 0 0, .int .i64 0] (HS.out.heap 4 rfl) (by kernel_rfl) (by simp) (by simp [Value.oneCell']) ?_
      intro w4 hr4 ho4
      simp only [L.puts, Act.put, goInt, List.setIfInBounds_toArray, List.set_cons_zero, List.set_cons_succ]
      replace HS := Lib.hid (HS.out.store 4 (cs' := [.slice B0 j.l.length d0, .slice B1 j.q.length d1, .int .i64 j.g]) rfl ho4.out hr4.out)
      simp only [List.set_cons_succ, List.set_cons_zero] at HS
      clear hr4 ho4
      replace HS := Lib.hid (HS.out.pickN (L' := [.blk wb 25 [.slice A0 j.l.length c0, .slice A1 j.q.length c1, .int .i64 j.g], .blk (wb + 1) 43 [.int .i64 o.f0, .int .i64 o.f1, .int .i64 o.f2.f0, .int .i64 o.f2.f1, .int .i64 o.f2.f2, .string o.f2.f3, .int .i64 o.f2.f4, .int .i64 o.f2.f5], .blk nb 25 [.slice B0 j.l.length d0, .slice B1 j.q.length d1, .int .i64 j.g], .row (.slice B0 j.l.length d0) 27 6 j.l.length (eRow j.l), .row (.slice B1 j.q.length d1) 35 3 j.q.length (qRow j.q)]) 5 rfl (fun i => match i with | 0 => 0 | 1 => 1 | 2 => 4 | 3 => 2 | _ => 3) (by decide) (by intro i r hi; match i, hi with | 0, hi => exact hi | 1, hi => exact hi | 2, hi => exact hi | 3, hi => exact hi | 4, hi => exact hi))
      revert w4; revert d1; revert B1; revert d0; revert B0; revert nb
      exact HK.out
    · refine L.ge_mem rfl rfl rfl (by rfl) (w' := we.alloc (.cells #[.slice none 0 0, .slice none 0 0, .int .i64 0] 25)) (v := .pointer (some ⟨we.heap.size, 0, none⟩)) (by simp [execOp, L.evE, L.lk, Act.eval]; go_simp) ((Only.refl _ _).alloc _) ?_
      replace HS := Lib.hid (HS.out.alloc [.slice none 0 0, .slice none 0 0, .int .i64 0] 25)
      simp only [List.cons_append, List.nil_append] at HS
      generalize we.heap.size = nb at *
      refine ge_append_row rfl rfl rfl (by rfl) _ _ _ rfl w.heap.size 35 3 24 (.agg #[.int .i64 0, .int .i64 0, .int .i64 0]) Tryd.underlying23 info35 rfl (by omega) (.slice none 0 0) 0 [] (by simp [L.evE, L.lk, Act.eval]) (ownsRow_nil _ _ _ _) A1 j.q.length c1 (qRow j.q) (by simp [L.evE, L.lk, Act.eval]) (qRow_length _) (flat_q (HC.out.only HS.out.only).2.2) (qRow_one _) (by unfold maxLen; omega) (by omega) HS.out.le ?_
      intro B1 d1 wq hown hoe hke
      rw [Nat.zero_add] at *
      refine ⟨hoe.mono (by simp [Value.ownBlock]), ?_⟩
      replace HS := Lib.hid (HS.out.add (hoe.mono (by simp [Value.ownBlock])) (r := .row (.slice B1 j.q.length d1) 35 3 j.q.length (qRow j.q)) (by rw [List.nil_append] at hown; exact hown) (fun k hk => (hke k hk).resolve_left (by simp [Value.ownBlock])))
      simp only [List.cons_append, List.nil_append] at HS
      clear hown hoe hke
      (first | (refine L.ge_off rfl rfl rfl (by rfl) ?_) | (refine L.ge_move rfl rfl rfl (by rfl) rfl (by simp [L.evE, L.lk, Act.eval]; rfl) ?_) | (refine L.ge_pick rfl rfl rfl (by rfl) rfl (by simp [L.evE, L.lk, Act.eval]; rfl) (by simp [L.evE, L.lk, Act.eval]; rfl) ?_) | (refine L.ge_val rfl rfl rfl (by rfl) (by intro w' hw'; simp [execOp, L.evE, L.lk, Act.eval]; go_simp; rfl) ?_))
      refine ge_last_in rfl rfl (by rfl) _ (.tmp 7) (.tmp 60) rfl nb 0 (.agg #[.slice B0 j.l.length d0, .slice B1 j.q.length d1, .int .i64 j.g]) (by simp [L.evE, L.lk, Act.eval]) (by simp [L.evE, L.lk, Act.eval]) [.slice B0 j.l.length d0, .slice B1 j.q.length d1, .int .i64 j.g] rfl 25 [.slice none 0 0, .slice none 0 0, .int .i64 0] (HS.out.heap 3 rfl) (by kernel_rfl) (by simp) (by simp [Value.oneCell']) ?_
      intro w4 hr4 ho4
      simp only [L.puts, Act.put, goInt, List.setIfInBounds_toArray, List.set_cons_zero, List.set_cons_succ]
      replace HS := Lib.hid (HS.out.store 3 (cs' := [.slice B0 j.l.length d0, .slice B1 j.q.length d1, .int .i64 j.g]) rfl ho4.out hr4.out)
      simp only [List.set_cons_succ, List.set_cons_zero] at HS
      clear hr4 ho4
      replace HS := Lib.hid (HS.out.pickN (L' := [.blk wb 25 [.slice A0 j.l.length c0, .slice A1 j.q.length c1, .int .i64 j.g], .blk (wb + 1) 43 [.int .i64 o.f0, .int .i64 o.f1, .int .i64 o.f2.f0, .int .i64 o.f2.f1, .int .i64 o.f2.f2, .string o.f2.f3, .int .i64 o.f2.f4, .int .i64 o.f2.f5], .blk nb 25 [.slice B0 j.l.length d0, .slice B1 j.q.length d1, .int .i64 j.g], .row (.slice B0 j.l.length d0) 27 6 j.l.length (eRow j.l), .row (.slice B1 j.q.length d1) 35 3 j.q.length (qRow j.q)]) 5 rfl (fun i => match i with | 0 => 0 | 1 => 1 | 2 => 3 | 3 => 2 | _ => 4) (by decide) (by intro i r hi; match i, hi with | 0, hi => exact hi | 1, hi => exact hi | 2, hi => exact hi | 3, hi => exact hi | 4, hi => exact hi))
      revert w4; revert d1; revert B1; revert d0; revert B0; revert nb
      exact HK.out
  · refine L.ge_mem rfl rfl rfl (by rfl) (w' := wg.alloc (.cells #[.slice none 0 0, .slice none 0 0, .int .i64 0] 25)) (v := .pointer (some ⟨wg.heap.size, 0, none⟩)) (by simp [execOp, L.evE, L.lk, Act.eval]; go_simp) ((Only.refl _ _).alloc _) ?_
    replace HS := Lib.hid (HS.out.alloc [.slice none 0 0, .slice none 0 0, .int .i64 0] 25)
    simp only [List.cons_append, List.nil_append] at HS
    generalize wg.heap.size = nb at *
    refine ge_append_row rfl rfl rfl (by rfl) _ _ _ rfl w.heap.size 27 6 56 (.agg #[.int .i64 0, .int .i64 0, .int .i64 0, .string ⟨#[]⟩, .int .i64 0, .int .i64 0]) Tryd.underlying22 info27 rfl (by omega) (.slice none 0 0) 0 [] (by simp [L.evE, L.lk, Act.eval]) (ownsRow_nil _ _ _ _) A0 j.l.length c0 (eRow j.l) (by simp [L.evE, L.lk, Act.eval]) (eRow_length _) (flat_e (HC.out.only HS.out.only).1.2) (eRow_one _) (by unfold maxLen; omega) (by omega) HS.out.le ?_
    intro B0 d0 we hown hoe hke
    rw [Nat.zero_add] at *
    refine ⟨hoe.mono (by simp [Value.ownBlock]), ?_⟩
    replace HS := Lib.hid (HS.out.add (hoe.mono (by simp [Value.ownBlock])) (r := .row (.slice B0 j.l.length d0) 27 6 j.l.length (eRow j.l)) (by rw [List.nil_append] at hown; exact hown) (fun k hk => (hke k hk).resolve_left (by simp [Value.ownBlock])))
    simp only [List.cons_append, List.nil_append] at HS
    clear hown hoe hke
    refine ge_append_row rfl rfl rfl (by rfl) _ _ _ rfl w.heap.size 35 3 24 (.agg #[.int .i64 0, .int .i64 0, .int .i64 0]) Tryd.underlying23 info35 rfl (by omega) (.slice none 0 0) 0 [] (by simp [L.evE, L.lk, Act.eval]) (ownsRow_nil _ _ _ _) A1 j.q.length c1 (qRow j.q) (by simp [L.evE, L.lk, Act.eval]) (qRow_length _) (flat_q (HC.out.only HS.out.only).2.2) (qRow_one _) (by unfold maxLen; omega) (by omega) HS.out.le ?_
    intro B1 d1 wq hown hoe hke
    rw [Nat.zero_add] at *
    refine ⟨hoe.mono (by simp [Value.ownBlock]), ?_⟩
    replace HS := Lib.hid (HS.out.add (hoe.mono (by simp [Value.ownBlock])) (r := .row (.slice B1 j.q.length d1) 35 3 j.q.length (qRow j.q)) (by rw [List.nil_append] at hown; exact hown) (fun k hk => (hke k hk).resolve_left (by simp [Value.ownBlock])))
    simp only [List.cons_append, List.nil_append] at HS
    clear hown hoe hke
    (first | (refine L.ge_off rfl rfl rfl (by rfl) ?_) | (refine L.ge_move rfl rfl rfl (by rfl) rfl (by simp [L.evE, L.lk, Act.eval]; rfl) ?_) | (refine L.ge_pick rfl rfl rfl (by rfl) rfl (by simp [L.evE, L.lk, Act.eval]; rfl) (by simp [L.evE, L.lk, Act.eval]; rfl) ?_) | (refine L.ge_val rfl rfl rfl (by rfl) (by intro w' hw'; simp [execOp, L.evE, L.lk, Act.eval]; go_simp; rfl) ?_))
    refine ge_last_in rfl rfl (by rfl) _ (.tmp 7) (.tmp 60) rfl nb 0 (.agg #[.slice B0 j.l.length d0, .slice B1 j.q.length d1, .int .i64 j.g]) (by simp [L.evE, L.lk, Act.eval]) (by simp [L.evE, L.lk, Act.eval]) [.slice B0 j.l.length d0, .slice B1 j.q.length d1, .int .i64 j.g] rfl 25 [.slice none 0 0, .slice none 0 0, .int .i64 0] (HS.out.heap 2 rfl) (by kernel_rfl) (by simp) (by simp [Value.oneCell']) ?_
    intro w4 hr4 ho4
    simp only [L.puts, Act.put, goInt, List.setIfInBounds_toArray, List.set_cons_zero, List.set_cons_succ]
    replace HS := Lib.hid (HS.out.store 2 (cs' := [.slice B0 j.l.length d0, .slice B1 j.q.length d1, .int .i64 j.g]) rfl ho4.out hr4.out)
    simp only [List.set_cons_succ, List.set_cons_zero] at HS
    clear hr4 ho4
    replace HS := Lib.hid (HS.out.pickN (L' := [.blk wb 25 [.slice A0 j.l.length c0, .slice A1 j.q.length c1, .int .i64 j.g], .blk (wb + 1) 43 [.int .i64 o.f0, .int .i64 o.f1, .int .i64 o.f2.f0, .int .i64 o.f2.f1, .int .i64 o.f2.f2, .string o.f2.f3, .int .i64 o.f2.f4, .int .i64 o.f2.f5], .blk nb 25 [.slice B0 j.l.length d0, .slice B1 j.q.length d1, .int .i64 j.g], .row (.slice B0 j.l.length d0) 27 6 j.l.length (eRow j.l), .row (.slice B1 j.q.length d1) 35 3 j.q.length (qRow j.q)]) 5 rfl (fun i => match i with | 0 => 0 | 1 => 1 | 2 => 2 | 3 => 3 | _ => 4) (by decide) (by intro i r hi; match i, hi with | 0, hi => exact hi | 1, hi => exact hi | 2, hi => exact hi | 3, hi => exact hi | 4, hi => exact hi))
    revert w4; revert d1; revert B1; revert d0; revert B0; revert nb
    exact HK.out
  intro nb B0 d0 B1 d1 W3 HS
  rename_i K hK
  refine hK _ _ ?_
  clear hK
  have HOW := Lib.hid (CJ.of (j := j) (HS.out.row 3 rfl) (HS.out.row 4 rfl))
  have HP := Lib.hid (fun W (h : Only [] w W) => open_calls A0 c0 A1 c1 j o.f2.f1 o.f1 W (HC.out.only h).1 (HC.out.only h).2 (HT.out.below h.nil_below) HJ.out)
  have HQ := Lib.hid (fun W (h : CJ W B0 d0 B1 d1 j) => ropen_calls B0 d0 B1 d1 j o.f2.f1 o.f1 W h.1 h.2 HLT.out)
  have HN := Lib.hid (open_len HLN.out o.f2.f1 o.f1)
  generalize openJ j o.f2.f1 o.f1 = R at HP HQ HN
  obtain ⟨⟨la, qa, ga⟩, ea⟩ := R
  dsimp only at HP HQ HN
  have G0 := Lib.hid (HS.out.cells 0 rfl)
  have o3 := HS.out.cell 1 3 rfl rfl
  have o1 := HS.out.cell 1 1 rfl rfl
  go_wp2_with (first
    | (with_reducible refine wpList_load_at rfl 25 (.tmp 2) rfl ⟨wb, 0, none⟩ rfl _ _ G0.out Tryd.underlying25 rfl (by kernel_rfl) ?_)
    | (go_at_call 19; refine (HP.out _ HS.out.only).mono ?_; rintro x W4 ⟨v4, rfl, hjr, hb4⟩; obtain ⟨E0, k0, E1, k1, rfl, q0, q1⟩ := hjr; refine (fun (h : Hid _) => h.out) ?_))
  refine Lib.hid ?_
  try clear o1
  try clear o3
  try clear GE
  clear G0 HP
  have HA := Lib.hid (CJ.of (j := ⟨la, qa, ga⟩) q0 q1)
  replace HS := Lib.hid ((HS.out.below hb4).alloc [.slice E0 la.length k0, .slice E1 qa.length k1, .int .i64 ga] 25)
  simp only [List.cons_append, List.nil_append] at HS
  have H4 := Lib.hid ((Only.refl [] W4).alloc (.cells #[.slice E0 la.length k0, .slice E1 qa.length k1, .int .i64 ga] 25))
  clear q0 q1 hb4
  have G0 := Lib.hid (HS.out.cells 2 rfl)
  have o3 := HS.out.cell 1 3 rfl rfl
  have o1 := HS.out.cell 1 1 rfl rfl
  go_wp2_with (first
    | (with_reducible refine wpList_load_at rfl 25 (.tmp 7) rfl ⟨nb, 0, none⟩ rfl _ _ G0.out Tryd.underlying25 rfl (by kernel_rfl) ?_)
    | (go_at_call 20; refine (HQ.out _ (CJ.of (j := j) (HS.out.row 3 rfl) (HS.out.row 4 rfl))).mono ?_; rintro x W5 ⟨v5, rfl, hjr, hb5⟩; obtain ⟨F0, m0, F1, m1, rfl, q0, q1⟩ := hjr; refine (fun (h : Hid _) => h.out) ?_))
  refine Lib.hid ?_
  try clear o1
  try clear o3
  try clear GE
  clear G0 HQ
  have h5 := (Only.of_below hb5).trans ((Only.refl [] W5).alloc (.cells #[.slice F0 la.length m0, .slice F1 qa.length m1, .int .i64 ga] 25))
  have HB := Lib.hid ((CJ.of (j := ⟨la, qa, ga⟩) q0 q1).only ((Only.refl [] W5).alloc (.cells #[.slice F0 la.length m0, .slice F1 qa.length m1, .int .i64 ga] 25)))
  replace HA := Lib.hid (HA.out.only (H4.out.trans h5))
  replace HS := Lib.hid ((HS.out.below hb5).alloc [.slice F0 la.length m0, .slice F1 qa.length m1, .int .i64 ga] 25)
  simp only [List.cons_append, List.nil_append] at HS
  clear q0 q1 hb5 h5 H4
  have G0 := Lib.hid (HS.out.cells 5 rfl)
  have G1 := Lib.hid (HS.out.cells 6 rfl)
  go_wp2_with (first
    | (with_reducible refine wpList_load_at rfl 25 (.tmp 8) rfl ⟨W4.heap.size, 0, none⟩ rfl _ _ G0.out Tryd.underlying25 rfl (by kernel_rfl) ?_)
    | (with_reducible refine wpList_load_at rfl 25 (.tmp 10) rfl ⟨W5.heap.size, 0, none⟩ rfl _ _ G1.out Tryd.underlying25 rfl (by kernel_rfl) ?_)
    | (go_at_call 12; refine (same_at HA.out HB.out HN.out).mono ?_; rintro x W6 ⟨rfl, hb6⟩; refine (fun (h : Hid _) => h.out) ?_))
  refine Lib.hid ?_
  replace HS := Lib.hid ((HS.out.below hb6).take 5)
  simp only [List.take_succ_cons, List.take_zero] at HS
  clear G0 G1 HA HB hb6 HN
  have HP := Lib.hid (fun W (h : Only [] w W) => close_calls A0 c0 A1 c1 j o.f2.f1 W (HC.out.only h).1 (HC.out.only h).2 (HT.out.below h.nil_below) HJ.out)
  have HQ := Lib.hid (fun W (h : CJ W B0 d0 B1 d1 j) => rclose_calls B0 d0 B1 d1 j o.f2.f1 W h.1 h.2 HLT.out)
  have HN := Lib.hid (close_len HLN.out o.f2.f1)
  generalize closeJ j o.f2.f1 = R at HP HQ HN
  obtain ⟨⟨la, qa, ga⟩, ea⟩ := R
  dsimp only at HP HQ HN
  have G0 := Lib.hid (HS.out.cells 0 rfl)
  have o3 := HS.out.cell 1 3 rfl rfl
  go_wp2_with (first
    | (with_reducible refine wpList_load_at rfl 25 (.tmp 2) rfl ⟨wb, 0, none⟩ rfl _ _ G0.out Tryd.underlying25 rfl (by kernel_rfl) ?_)
    | (go_at_call 21; refine (HP.out _ HS.out.only).mono ?_; rintro x W4 ⟨v4, rfl, hjr, hb4⟩; obtain ⟨E0, k0, E1, k1, rfl, q0, q1⟩ := hjr; refine (fun (h : Hid _) => h.out) ?_))
  refine Lib.hid ?_
  try clear o1
  try clear o3
  try clear GE
  clear G0 HP
  have HA := Lib.hid (CJ.of (j := ⟨la, qa, ga⟩) q0 q1)
  replace HS := Lib.hid ((HS.out.below hb4).alloc [.slice E0 la.length k0, .slice E1 qa.length k1, .int .i64 ga] 25)
  simp only [List.cons_append, List.nil_append] at HS
  have H4 := Lib.hid ((Only.refl [] W4).alloc (.cells #[.slice E0 la.length k0, .slice E1 qa.length k1, .int .i64 ga] 25))
  clear q0 q1 hb4
  have G0 := Lib.hid (HS.out.cells 2 rfl)
  have o3 := HS.out.cell 1 3 rfl rfl
  go_wp2_with (first
    | (with_reducible refine wpList_load_at rfl 25 (.tmp 7) rfl ⟨nb, 0, none⟩ rfl _ _ G0.out Tryd.underlying25 rfl (by kernel_rfl) ?_)
    | (go_at_call 22; refine (HQ.out _ (CJ.of (j := j) (HS.out.row 3 rfl) (HS.out.row 4 rfl))).mono ?_; rintro x W5 ⟨v5, rfl, hjr, hb5⟩; obtain ⟨F0, m0, F1, m1, rfl, q0, q1⟩ := hjr; refine (fun (h : Hid _) => h.out) ?_))
  refine Lib.hid ?_
  try clear o1
  try clear o3
  try clear GE
  clear G0 HQ
  have h5 := (Only.of_below hb5).trans ((Only.refl [] W5).alloc (.cells #[.slice F0 la.length m0, .slice F1 qa.length m1, .int .i64 ga] 25))
  have HB := Lib.hid ((CJ.of (j := ⟨la, qa, ga⟩) q0 q1).only ((Only.refl [] W5).alloc (.cells #[.slice F0 la.length m0, .slice F1 qa.length m1, .int .i64 ga] 25)))
  replace HA := Lib.hid (HA.out.only (H4.out.trans h5))
  replace HS := Lib.hid ((HS.out.below hb5).alloc [.slice F0 la.length m0, .slice F1 qa.length m1, .int .i64 ga] 25)
  simp only [List.cons_append, List.nil_append] at HS
  clear q0 q1 hb5 h5 H4
  have G0 := Lib.hid (HS.out.cells 5 rfl)
  have G1 := Lib.hid (HS.out.cells 6 rfl)
  go_wp2_with (first
    | (with_reducible refine wpList_load_at rfl 25 (.tmp 13) rfl ⟨W4.heap.size, 0, none⟩ rfl _ _ G0.out Tryd.underlying25 rfl (by kernel_rfl) ?_)
    | (with_reducible refine wpList_load_at rfl 25 (.tmp 15) rfl ⟨W5.heap.size, 0, none⟩ rfl _ _ G1.out Tryd.underlying25 rfl (by kernel_rfl) ?_)
    | (go_at_call 12; refine (same_at HA.out HB.out HN.out).mono ?_; rintro x W6 ⟨rfl, hb6⟩; refine (fun (h : Hid _) => h.out) ?_))
  refine Lib.hid ?_
  replace HS := Lib.hid ((HS.out.below hb6).take 5)
  simp only [List.take_succ_cons, List.take_zero] at HS
  clear G0 G1 HA HB hb6 HN
  have HP := Lib.hid (fun W (h : Only [] w W) => add_calls A0 c0 A1 c1 j o.f2 W (HC.out.only h).1 (HC.out.only h).2 (HT.out.below h.nil_below) HJ.out (by have := HES.out; omega))
  have HQ := Lib.hid (fun W (h : CJ W B0 d0 B1 d1 j) => radd_calls B0 d0 B1 d1 j o.f2 W h.1 h.2 HLT.out HES.out)
  have HN := Lib.hid (add_len' HLN.out o.f2)
  generalize addJ j o.f2 = R at HP HQ HN
  obtain ⟨⟨la, qa, ga⟩, ea⟩ := R
  dsimp only at HP HQ HN
  have G0 := Lib.hid (HS.out.cells 0 rfl)
  have GE := Lib.hid (show CellsAt _ ⟨wb + 1, 2, none⟩ [.int .i64 o.f2.f0, .int .i64 o.f2.f1, .int .i64 o.f2.f2, .string o.f2.f3, .int .i64 o.f2.f4, .int .i64 o.f2.f5] from ent_cells (HS.out.cells 1 rfl))

  go_wp2_with (first
    | (with_reducible refine wpList_load_at rfl 25 (.tmp 2) rfl ⟨wb, 0, none⟩ rfl _ _ G0.out Tryd.underlying25 rfl (by kernel_rfl) ?_)
    | (with_reducible refine wpList_load_at rfl 27 (.tmp 105) rfl ⟨wb + 1, 2, none⟩ rfl _ _ GE.out Tryd.underlying27 rfl (by kernel_rfl) ?_)
    | (go_at_call 10; refine (HP.out _ HS.out.only).mono ?_; rintro x W4 ⟨v4, rfl, hjr, hb4⟩; obtain ⟨E0, k0, E1, k1, rfl, q0, q1⟩ := hjr; refine (fun (h : Hid _) => h.out) ?_))
  refine Lib.hid ?_
  try clear o1
  try clear o3
  try clear GE
  clear G0 HP
  have HA := Lib.hid (CJ.of (j := ⟨la, qa, ga⟩) q0 q1)
  replace HS := Lib.hid ((HS.out.below hb4).alloc [.slice E0 la.length k0, .slice E1 qa.length k1, .int .i64 ga] 25)
  simp only [List.cons_append, List.nil_append] at HS
  have H4 := Lib.hid ((Only.refl [] W4).alloc (.cells #[.slice E0 la.length k0, .slice E1 qa.length k1, .int .i64 ga] 25))
  clear q0 q1 hb4
  have G0 := Lib.hid (HS.out.cells 2 rfl)
  have GE := Lib.hid (show CellsAt _ ⟨wb + 1, 2, none⟩ [.int .i64 o.f2.f0, .int .i64 o.f2.f1, .int .i64 o.f2.f2, .string o.f2.f3, .int .i64 o.f2.f4, .int .i64 o.f2.f5] from ent_cells (HS.out.cells 1 rfl))

  go_wp2_with (first
    | (with_reducible refine wpList_load_at rfl 25 (.tmp 7) rfl ⟨nb, 0, none⟩ rfl _ _ G0.out Tryd.underlying25 rfl (by kernel_rfl) ?_)
    | (with_reducible refine wpList_load_at rfl 27 (.tmp 112) rfl ⟨wb + 1, 2, none⟩ rfl _ _ GE.out Tryd.underlying27 rfl (by kernel_rfl) ?_)
    | (go_at_call 23; refine (HQ.out _ (CJ.of (j := j) (HS.out.row 3 rfl) (HS.out.row 4 rfl))).mono ?_; rintro x W5 ⟨v5, rfl, hjr, hb5⟩; obtain ⟨F0, m0, F1, m1, rfl, q0, q1⟩ := hjr; refine (fun (h : Hid _) => h.out) ?_))
  refine Lib.hid ?_
  try clear o1
  try clear o3
  try clear GE
  clear G0 HQ
  have h5 := (Only.of_below hb5).trans ((Only.refl [] W5).alloc (.cells #[.slice F0 la.length m0, .slice F1 qa.length m1, .int .i64 ga] 25))
  have HB := Lib.hid ((CJ.of (j := ⟨la, qa, ga⟩) q0 q1).only ((Only.refl [] W5).alloc (.cells #[.slice F0 la.length m0, .slice F1 qa.length m1, .int .i64 ga] 25)))
  replace HA := Lib.hid (HA.out.only (H4.out.trans h5))
  replace HS := Lib.hid ((HS.out.below hb5).alloc [.slice F0 la.length m0, .slice F1 qa.length m1, .int .i64 ga] 25)
  simp only [List.cons_append, List.nil_append] at HS
  clear q0 q1 hb5 h5 H4
  have G0 := Lib.hid (HS.out.cells 5 rfl)
  have G1 := Lib.hid (HS.out.cells 6 rfl)
  go_wp2_with (first
    | (with_reducible refine wpList_load_at rfl 25 (.tmp 18) rfl ⟨W4.heap.size, 0, none⟩ rfl _ _ G0.out Tryd.underlying25 rfl (by kernel_rfl) ?_)
    | (with_reducible refine wpList_load_at rfl 25 (.tmp 20) rfl ⟨W5.heap.size, 0, none⟩ rfl _ _ G1.out Tryd.underlying25 rfl (by kernel_rfl) ?_)
    | (go_at_call 12; refine (same_at HA.out HB.out HN.out).mono ?_; rintro x W6 ⟨rfl, hb6⟩; refine (fun (h : Hid _) => h.out) ?_))
  refine Lib.hid ?_
  replace HS := Lib.hid ((HS.out.below hb6).take 5)
  simp only [List.take_succ_cons, List.take_zero] at HS
  clear G0 G1 HA HB hb6 HN
  have HP := Lib.hid (fun W (h : Only [] w W) => note_calls A0 c0 A1 c1 j o.f2 W (HC.out.only h).1 (HC.out.only h).2 (HT.out.below h.nil_below) HJ.out (by have := HES.out; omega))
  have HQ := Lib.hid (fun W (h : CJ W B0 d0 B1 d1 j) => rnote_calls B0 d0 B1 d1 j o.f2 W h.1 h.2 HLT.out HES.out)
  have HN := Lib.hid (note_len HLN.out o.f2)
  generalize noteJ j o.f2 = R at HP HQ HN
  obtain ⟨⟨la, qa, ga⟩, ea⟩ := R
  dsimp only at HP HQ HN
  have G0 := Lib.hid (HS.out.cells 0 rfl)
  have GE := Lib.hid (show CellsAt _ ⟨wb + 1, 2, none⟩ [.int .i64 o.f2.f0, .int .i64 o.f2.f1, .int .i64 o.f2.f2, .string o.f2.f3, .int .i64 o.f2.f4, .int .i64 o.f2.f5] from ent_cells (HS.out.cells 1 rfl))

  go_wp2_with (first
    | (with_reducible refine wpList_load_at rfl 25 (.tmp 2) rfl ⟨wb, 0, none⟩ rfl _ _ G0.out Tryd.underlying25 rfl (by kernel_rfl) ?_)
    | (with_reducible refine wpList_load_at rfl 27 (.tmp 122) rfl ⟨wb + 1, 2, none⟩ rfl _ _ GE.out Tryd.underlying27 rfl (by kernel_rfl) ?_)
    | (go_at_call 11; refine (HP.out _ HS.out.only).mono ?_; rintro x W4 ⟨v4, rfl, hjr, hb4⟩; obtain ⟨E0, k0, E1, k1, rfl, q0, q1⟩ := hjr; refine (fun (h : Hid _) => h.out) ?_))
  refine Lib.hid ?_
  try clear o1
  try clear o3
  try clear GE
  clear G0 HP
  have HA := Lib.hid (CJ.of (j := ⟨la, qa, ga⟩) q0 q1)
  replace HS := Lib.hid ((HS.out.below hb4).alloc [.slice E0 la.length k0, .slice E1 qa.length k1, .int .i64 ga] 25)
  simp only [List.cons_append, List.nil_append] at HS
  have H4 := Lib.hid ((Only.refl [] W4).alloc (.cells #[.slice E0 la.length k0, .slice E1 qa.length k1, .int .i64 ga] 25))
  clear q0 q1 hb4
  have G0 := Lib.hid (HS.out.cells 2 rfl)
  have GE := Lib.hid (show CellsAt _ ⟨wb + 1, 2, none⟩ [.int .i64 o.f2.f0, .int .i64 o.f2.f1, .int .i64 o.f2.f2, .string o.f2.f3, .int .i64 o.f2.f4, .int .i64 o.f2.f5] from ent_cells (HS.out.cells 1 rfl))

  go_wp2_with (first
    | (with_reducible refine wpList_load_at rfl 25 (.tmp 7) rfl ⟨nb, 0, none⟩ rfl _ _ G0.out Tryd.underlying25 rfl (by kernel_rfl) ?_)
    | (with_reducible refine wpList_load_at rfl 27 (.tmp 129) rfl ⟨wb + 1, 2, none⟩ rfl _ _ GE.out Tryd.underlying27 rfl (by kernel_rfl) ?_)
    | (go_at_call 24; refine (HQ.out _ (CJ.of (j := j) (HS.out.row 3 rfl) (HS.out.row 4 rfl))).mono ?_; rintro x W5 ⟨v5, rfl, hjr, hb5⟩; obtain ⟨F0, m0, F1, m1, rfl, q0, q1⟩ := hjr; refine (fun (h : Hid _) => h.out) ?_))
  refine Lib.hid ?_
  try clear o1
  try clear o3
  try clear GE
  clear G0 HQ
  have h5 := (Only.of_below hb5).trans ((Only.refl [] W5).alloc (.cells #[.slice F0 la.length m0, .slice F1 qa.length m1, .int .i64 ga] 25))
  have HB := Lib.hid ((CJ.of (j := ⟨la, qa, ga⟩) q0 q1).only ((Only.refl [] W5).alloc (.cells #[.slice F0 la.length m0, .slice F1 qa.length m1, .int .i64 ga] 25)))
  replace HA := Lib.hid (HA.out.only (H4.out.trans h5))
  replace HS := Lib.hid ((HS.out.below hb5).alloc [.slice F0 la.length m0, .slice F1 qa.length m1, .int .i64 ga] 25)
  simp only [List.cons_append, List.nil_append] at HS
  clear q0 q1 hb5 h5 H4
  have G0 := Lib.hid (HS.out.cells 5 rfl)
  have G1 := Lib.hid (HS.out.cells 6 rfl)
  go_wp2_with (first
    | (with_reducible refine wpList_load_at rfl 25 (.tmp 23) rfl ⟨W4.heap.size, 0, none⟩ rfl _ _ G0.out Tryd.underlying25 rfl (by kernel_rfl) ?_)
    | (with_reducible refine wpList_load_at rfl 25 (.tmp 25) rfl ⟨W5.heap.size, 0, none⟩ rfl _ _ G1.out Tryd.underlying25 rfl (by kernel_rfl) ?_)
    | (go_at_call 12; refine (same_at HA.out HB.out HN.out).mono ?_; rintro x W6 ⟨rfl, hb6⟩; refine (fun (h : Hid _) => h.out) ?_))
  refine Lib.hid ?_
  replace HS := Lib.hid ((HS.out.below hb6).take 5)
  simp only [List.take_succ_cons, List.take_zero] at HS
  clear G0 G1 HA HB hb6 HN
  have HP := Lib.hid (fun W (h : Only [] w W) => trim_calls A0 c0 A1 c1 j o.f1 W (HC.out.only h).1 (HC.out.only h).2 (HT.out.below h.nil_below) HJ.out)
  have HQ := Lib.hid (fun W (h : CJ W B0 d0 B1 d1 j) => rtrim_calls B0 d0 B1 d1 j o.f1 W h.1 h.2 HLT.out)
  have HN := Lib.hid (trim_len HLN.out o.f1)
  generalize trimJ j o.f1 = R at HP HQ HN
  obtain ⟨⟨la, qa, ga⟩, ea⟩ := R
  dsimp only at HP HQ HN
  have G0 := Lib.hid (HS.out.cells 0 rfl)
  have o1 := HS.out.cell 1 1 rfl rfl
  go_wp2_with (first
    | (with_reducible refine wpList_load_at rfl 25 (.tmp 2) rfl ⟨wb, 0, none⟩ rfl _ _ G0.out Tryd.underlying25 rfl (by kernel_rfl) ?_)
    | (go_at_call 25; refine (HP.out _ HS.out.only).mono ?_; rintro x W4 ⟨v4, rfl, hjr, hb4⟩; obtain ⟨E0, k0, E1, k1, rfl, q0, q1⟩ := hjr; refine (fun (h : Hid _) => h.out) ?_))
  refine Lib.hid ?_
  try clear o1
  try clear o3
  try clear GE
  clear G0 HP
  have HA := Lib.hid (CJ.of (j := ⟨la, qa, ga⟩) q0 q1)
  replace HS := Lib.hid ((HS.out.below hb4).alloc [.slice E0 la.length k0, .slice E1 qa.length k1, .int .i64 ga] 25)
  simp only [List.cons_append, List.nil_append] at HS
  have H4 := Lib.hid ((Only.refl [] W4).alloc (.cells #[.slice E0 la.length k0, .slice E1 qa.length k1, .int .i64 ga] 25))
  clear q0 q1 hb4
  have G0 := Lib.hid (HS.out.cells 2 rfl)
  have o1 := HS.out.cell 1 1 rfl rfl
  go_wp2_with (first
    | (with_reducible refine wpList_load_at rfl 25 (.tmp 7) rfl ⟨nb, 0, none⟩ rfl _ _ G0.out Tryd.underlying25 rfl (by kernel_rfl) ?_)
    | (go_at_call 26; refine (HQ.out _ (CJ.of (j := j) (HS.out.row 3 rfl) (HS.out.row 4 rfl))).mono ?_; rintro x W5 ⟨v5, rfl, hjr, hb5⟩; obtain ⟨F0, m0, F1, m1, rfl, q0, q1⟩ := hjr; refine (fun (h : Hid _) => h.out) ?_))
  refine Lib.hid ?_
  try clear o1
  try clear o3
  try clear GE
  clear G0 HQ
  have h5 := (Only.of_below hb5).trans ((Only.refl [] W5).alloc (.cells #[.slice F0 la.length m0, .slice F1 qa.length m1, .int .i64 ga] 25))
  have HB := Lib.hid ((CJ.of (j := ⟨la, qa, ga⟩) q0 q1).only ((Only.refl [] W5).alloc (.cells #[.slice F0 la.length m0, .slice F1 qa.length m1, .int .i64 ga] 25)))
  replace HA := Lib.hid (HA.out.only (H4.out.trans h5))
  replace HS := Lib.hid ((HS.out.below hb5).alloc [.slice F0 la.length m0, .slice F1 qa.length m1, .int .i64 ga] 25)
  simp only [List.cons_append, List.nil_append] at HS
  clear q0 q1 hb5 h5 H4
  have G0 := Lib.hid (HS.out.cells 5 rfl)
  have G1 := Lib.hid (HS.out.cells 6 rfl)
  go_wp2_with (first
    | (with_reducible refine wpList_load_at rfl 25 (.tmp 28) rfl ⟨W4.heap.size, 0, none⟩ rfl _ _ G0.out Tryd.underlying25 rfl (by kernel_rfl) ?_)
    | (with_reducible refine wpList_load_at rfl 25 (.tmp 30) rfl ⟨W5.heap.size, 0, none⟩ rfl _ _ G1.out Tryd.underlying25 rfl (by kernel_rfl) ?_)
    | (go_at_call 12; refine (same_at HA.out HB.out HN.out).mono ?_; rintro x W6 ⟨rfl, hb6⟩; refine (fun (h : Hid _) => h.out) ?_))
  refine Lib.hid ?_
  replace HS := Lib.hid ((HS.out.below hb6).take 5)
  simp only [List.take_succ_cons, List.take_zero] at HS
  clear G0 G1 HA HB hb6 HN
  go_wp2_with fail
  refine L.grow_start [] 12 ((0, true, false) :: (1, true, false) :: (2, true, false) :: (3, true, false) :: (5, true, false) :: (6, true, false) :: (7, true, false) :: (8, true, false) :: (4, false, true) :: (9, false, true) :: (10, false, true) :: (11, true, true) :: []) (by kernel_rfl) (([], [2], some 154) :: ([], [3], some 155) :: ([1], [155], some 156) :: ([2], [156], some 157) :: ([0, 3], [154, 157], some 158) :: ([], [7], some 159) :: ([], [3], some 160) :: ([6], [160], some 161) :: ([7], [161], some 162) :: ([5, 8, 4], [159, 162], some 163) :: ([4, 9, 9], [158, 163], some 164) :: ([10, 10, 0, 1, 2, 3, 4, 5, 6, 7, 8, 9, 10], [164], some 33) :: []) (by kernel_rfl) (by kernel_rfl) (n := 12) rfl (by kernel_rfl) (fun _ _ _ _ _ h => h) (fun wg hog => ?_)
  refine L.growe_start (N := 226) (by rfl) ?_
  replace HS := Lib.hid (HS.out.keep hog)
  clear hog
  have e3 : ∀ w', Only [] wg w' → w'.cell? ⟨wb + 1, 3, none⟩ = some (.int .i64 o.f2.f1) := fun w' k => (HS.out.keep k).cell 1 3 rfl rfl
  refine ge_load_at rfl rfl rfl (by rfl) _ _ rfl ⟨wb, 0, none⟩ (by simp [L.evE, L.lk, Act.eval]) _ _ (fun w' k => (HS.out.keep k).cells 0 rfl) Tryd.underlying25 rfl (by kernel_rfl) ?_
  iterate 3 (first | (refine L.ge_off rfl rfl rfl (by rfl) ?_) | (refine L.ge_move rfl rfl rfl (by rfl) rfl (by simp [L.evE, L.lk, Act.eval]; rfl) ?_) | (refine L.ge_pick rfl rfl rfl (by rfl) rfl (by simp [L.evE, L.lk, Act.eval]; rfl) (by simp [L.evE, L.lk, Act.eval]; rfl) ?_) | (refine L.ge_val rfl rfl rfl (by rfl) (by intro w' hw'; simp [execOp, L.evE, L.lk, Act.eval]; go_simp; rfl) ?_))
  refine ge_load_at rfl rfl rfl (by rfl) _ _ rfl ⟨nb, 0, none⟩ (by simp [L.evE, L.lk, Act.eval]) _ _ (fun w' k => (HS.out.keep k).cells 2 rfl) Tryd.underlying25 rfl (by kernel_rfl) ?_
  iterate 3 (first | (refine L.ge_off rfl rfl rfl (by rfl) ?_) | (refine L.ge_move rfl rfl rfl (by rfl) rfl (by simp [L.evE, L.lk, Act.eval]; rfl) ?_) | (refine L.ge_pick rfl rfl rfl (by rfl) rfl (by simp [L.evE, L.lk, Act.eval]; rfl) (by simp [L.evE, L.lk, Act.eval]; rfl) ?_) | (refine L.ge_val rfl rfl rfl (by rfl) (by intro w' hw'; simp [execOp, L.evE, L.lk, Act.eval]; go_simp; rfl) ?_))
  clear e3
  have HLF := Lib.hid (show (ofJ j o.f2.f1).length ≤ 300 from by unfold ofJ; split; exact Nat.zero_le _; exact Nat.le_trans (List.length_filter_le _ _) HLN.out.1)
  refine L.ge_call rfl rfl rfl (by rfl) rfl (by simp [L.evE, L.lk, Act.eval]; rfl) (by go_simp) ?_
  refine (of_calls A0 c0 A1 c1 j o.f2.f1 wg (HC.out.only HS.out.only).1 (HC.out.only HS.out.only).2 (HT.out.below HS.out.only.nil_below) HJ.out).mono ?_
  rintro e w1 ⟨v1, rfl, hown, hb1⟩
  obtain ⟨E0, k0, rfl⟩ := slice_of_own hown
  refine ⟨_, rfl, Only.of_below hb1, ?_⟩
  have HE1 := Lib.hid (own_e_reads hown)
  replace HS := Lib.hid (HS.out.below hb1)
  clear hown hb1
  have HW := Lib.hid (CJ.of (j := j) (HS.out.row 3 rfl) (HS.out.row 4 rfl))
  refine L.ge_call rfl rfl rfl (by rfl) rfl (by simp [L.evE, L.lk, Act.eval]; rfl) (by go_simp) ?_
  refine (malthouseref18_Of.calls 10000 B0 d0 j.l B1 d1 j.q j.g o.f2.f1 (ofJ j o.f2.f1) w1 HW.out.1.2 HW.out.1.1 HW.out.2.2 HW.out.2.1 (ref_of_is j.l j.q j.g o.f2.f1 10000 HLT.out.1 HLT.out.2.1 HLT.out.2.2 (by omega))).mono ?_
  rintro e w2 ⟨v2, rfl, hR, hb2⟩
  obtain ⟨F0, m0, rfl, hF⟩ := Kd.R_reads hR
  refine ⟨_, rfl, Only.of_below hb2, ?_⟩
  replace HE1 := Lib.hid (And.intro HE1.out.1 (Kd.C_below HE1.out.2 hb2))
  replace HS := Lib.hid (HS.out.below hb2)
  have HF := Lib.hid hF
  clear hR hF hb2 HW
  generalize ofJ j o.f2.f1 = lf at *
  refine L.ge_call rfl rfl rfl (by rfl) rfl (by simp [L.evE, L.lk, Act.eval]; rfl) (by go_simp) ?_
  refine (malthouseref18_Entries.calls 1000 E0 k0 lf F0 m0 lf true w2 HE1.out.2 HE1.out.1 HF.out.2 HF.out.1 (entries_refl _ _ (by have := HLF.out; omega) (by have := HLF.out; omega))).mono ?_
  rintro e w3 ⟨rfl, hd3⟩
  refine ⟨_, rfl, Only.of_below hd3.below, ?_⟩
  replace HS := Lib.hid (HS.out.below hd3.below)
  clear hd3 HE1 HF HLF
  iterate 1 (first | (refine L.ge_off rfl rfl rfl (by rfl) ?_) | (refine L.ge_move rfl rfl rfl (by rfl) rfl (by simp [L.evE, L.lk, Act.eval]; rfl) ?_) | (refine L.ge_pick rfl rfl rfl (by rfl) rfl (by simp [L.evE, L.lk, Act.eval]; rfl) (by simp [L.evE, L.lk, Act.eval]; rfl) ?_) | (refine L.ge_val rfl rfl rfl (by rfl) (by intro w' hw'; simp [execOp, L.evE, L.lk, Act.eval]; go_simp; rfl) ?_))
  refine L.ge_done ?_
  simp only [L.puts, Act.put, goInt, List.setIfInBounds_toArray, List.set_cons_zero, List.set_cons_succ]
  rename_i K hK
  refine hK _ _ ?_
  clear hK
  have G0 := Lib.hid (HS.out.cells 0 rfl)
  have G1 := Lib.hid (HS.out.cells 2 rfl)
  have HW := Lib.hid (CJ.of (j := j) (HS.out.row 3 rfl) (HS.out.row 4 rfl))
  go_wp2_with (first
    | (with_reducible refine wpList_load_at rfl 25 (.tmp 2) rfl ⟨wb, 0, none⟩ rfl _ _ G0.out Tryd.underlying25 rfl (by kernel_rfl) ?_)
    | (with_reducible refine wpList_load_at rfl 25 (.tmp 7) rfl ⟨nb, 0, none⟩ rfl _ _ G1.out Tryd.underlying25 rfl (by kernel_rfl) ?_)
    | (go_at_call 12; refine (same_at (HC.out.only HS.out.only) HW.out ⟨Nat.le_trans HLN.out.1 (by omega), Nat.le_trans HLN.out.2 (by omega)⟩).mono ?_; rintro x W6 ⟨rfl, hb6⟩; refine (fun (h : Hid _) => h.out) ?_))
  refine Lib.hid ?_
  replace HS := Lib.hid (HS.out.below hb6)
  clear G0 G1 HW hb6
  go_wp2_with fail
  refine L.grow_start [] 59 ((0, true, true) :: (1, true, true) :: (2, true, true) :: (3, true, true) :: (4, true, true) :: (5, true, true) :: (6, true, true) :: (7, true, true) :: (8, true, true) :: (9, true, true) :: (10, true, true) :: (11, true, true) :: (12, true, true) :: (13, true, true) :: (14, true, true) :: (15, true, true) :: (16, true, true) :: (17, true, true) :: (18, true, true) :: (19, true, true) :: (20, true, false) :: (21, true, true) :: (22, true, true) :: (23, true, true) :: (24, true, true) :: (25, true, false) :: (26, true, true) :: (27, true, true) :: (28, true, true) :: (29, true, true) :: (30, true, false) :: (31, true, true) :: (32, true, true) :: (33, true, true) :: (34, true, true) :: (35, true, false) :: (36, true, true) :: (37, true, true) :: (38, true, true) :: (39, true, true) :: (40, true, false) :: (41, true, true) :: (42, true, true) :: (43, true, true) :: (44, true, true) :: (45, true, false) :: (47, true, false) :: (46, true, true) :: (48, true, true) :: (49, true, true) :: (50, true, true) :: (51, true, true) :: (52, true, false) :: (54, true, false) :: (53, true, true) :: (55, true, true) :: (56, true, true) :: (57, true, true) :: (58, true, true) :: []) (by kernel_rfl) (([], [12], some 168) :: ([0], [168], some 169) :: ([1], [17, 169], some 170) :: ([1, 2], [169, 170], some 171) :: ([3, 1], [171], some 172) :: ([4], [22, 172], some 173) :: ([4, 5], [172, 173], some 174) :: ([6, 4], [174], some 175) :: ([7], [27, 175], some 176) :: ([7, 8], [175, 176], some 177) :: ([9, 7], [177], some 178) :: ([10], [32, 178], some 179) :: ([10, 11], [178, 179], some 180) :: ([12, 10], [180], some 181) :: ([13], [33, 181], some 182) :: ([13, 14], [181, 182], some 183) :: ([15, 13], [183], some 184) :: ([16], [34, 184], some 185) :: ([16, 17], [184, 185], some 186) :: ([18, 16], [186], some 187) :: ([19], [9, 187], some 188) :: ([19], [11, 187], some 189) :: ([20, 21, 19], [188, 189, 187], some 190) :: ([19, 22], [187, 190], some 191) :: ([23, 19], [191], some 192) :: ([24], [14, 192], some 193) :: ([24], [16, 192], some 194) :: ([25, 26, 24], [193, 194, 192], some 195) :: ([24, 27], [192, 195], some 196) :: ([28, 24], [196], some 197) :: ([29], [19, 197], some 198) :: ([29], [21, 197], some 199) :: ([30, 31, 29], [198, 199, 197], some 200) :: ([29, 32], [197, 200], some 201) :: ([33, 29], [201], some 202) :: ([34], [24, 202], some 203) :: ([34], [26, 202], some 204) :: ([35, 36, 34], [203, 204, 202], some 205) :: ([34, 37], [202, 205], some 206) :: ([38, 34], [206], some 207) :: ([39], [29, 207], some 208) :: ([39], [31, 207], some 209) :: ([40, 41, 39], [208, 209, 207], some 210) :: ([39, 42], [207, 210], some 211) :: ([43, 39], [211], some 212) :: ([44], [2, 212], some 213) :: ([45, 44, 44], [213, 212], some 214) :: ([44], [7, 212], some 215) :: ([47, 46, 44], [215, 212], some 216) :: ([46, 48, 44], [214, 216, 212], some 217) :: ([44, 49], [212, 217], some 218) :: ([50, 48], [218], some 219) :: ([51], [2, 219], some 220) :: ([52, 51, 51], [220, 219], some 221) :: ([51], [7, 219], some 222) :: ([54, 53, 51], [222, 219], some 223) :: ([53, 55, 51], [221, 223, 219], some 224) :: ([51, 56], [219, 224], some 225) :: ([57, 55, 0, 1, 2, 3, 4, 5, 6, 7, 8, 9, 10, 11, 12, 13, 14, 15, 16, 17, 18, 19, 20, 21, 22, 23, 24, 25, 26, 27, 28, 29, 30, 31, 32, 33, 34, 35, 36, 37, 38, 39, 40, 41, 42, 43, 44, 45, 46, 47, 48, 49, 50, 51, 52, 53, 54, 55, 56, 57], [225], some 4) :: []) (by kernel_rfl) (by kernel_rfl) (n := 59) rfl (by kernel_rfl) (fun _ _ _ _ _ h => h) (fun wg hog => ?_)
  refine L.growe_start (N := 226) (by rfl) ?_
  replace HS := Lib.hid (HS.out.keep hog)
  clear hog
  iterate 45 (first | (refine L.ge_off rfl rfl rfl (by rfl) ?_) | (refine L.ge_move rfl rfl rfl (by rfl) rfl (by simp [L.evE, L.lk, Act.eval]; rfl) ?_) | (refine L.ge_pick rfl rfl rfl (by rfl) rfl (by simp [L.evE, L.lk, Act.eval]; rfl) (by simp [L.evE, L.lk, Act.eval]; rfl) ?_) | (refine L.ge_val rfl rfl rfl (by rfl) (by intro w' hw'; simp [execOp, L.evE, L.lk, Act.eval]; go_simp; rfl) ?_))
  refine ge_load_at rfl rfl rfl (by rfl) _ _ rfl ⟨wb, 0, none⟩ (by simp [L.evE, L.lk, Act.eval]) _ _ (fun w' k => (HS.out.keep k).cells 0 rfl) Tryd.underlying25 rfl (by kernel_rfl) ?_
  refine ge_load_at rfl rfl rfl (by rfl) _ _ rfl ⟨nb, 0, none⟩ (by simp [L.evE, L.lk, Act.eval]) _ _ (fun w' k => (HS.out.keep k).cells 2 rfl) Tryd.underlying25 rfl (by kernel_rfl) ?_
  refine L.ge_call rfl rfl rfl (by rfl) rfl (by simp [L.evE, L.lk, Act.eval]; rfl) (by go_simp) ?_
  refine (right_calls A0 c0 A1 c1 j wg (HC.out.only HS.out.only).1 (HC.out.only HS.out.only).2 (HT.out.below HS.out.only.nil_below) HJ.out).mono ?_
  rintro e w1 ⟨rfl, hb1⟩
  refine ⟨_, rfl, Only.of_below hb1, ?_⟩
  replace HS := Lib.hid (HS.out.below hb1)
  clear hb1
  have HW := Lib.hid (CJ.of (j := j) (HS.out.row 3 rfl) (HS.out.row 4 rfl))
  refine L.ge_call rfl rfl rfl (by rfl) rfl (by simp [L.evE, L.lk, Act.eval]; rfl) (by go_simp) ?_
  refine (rright_calls B0 d0 B1 d1 j w1 HW.out.1 HW.out.2 HLT.out).mono ?_
  rintro e w2 ⟨rfl, hb2⟩
  refine ⟨_, rfl, Only.of_below hb2, ?_⟩
  replace HS := Lib.hid (HS.out.below hb2)
  clear hb2 HW
  iterate 3 (first | (refine L.ge_off rfl rfl rfl (by rfl) ?_) | (refine L.ge_move rfl rfl rfl (by rfl) rfl (by simp [L.evE, L.lk, Act.eval]; rfl) ?_) | (refine L.ge_pick rfl rfl rfl (by rfl) rfl (by simp [L.evE, L.lk, Act.eval]; rfl) (by simp [L.evE, L.lk, Act.eval]; rfl) ?_) | (refine L.ge_val rfl rfl rfl (by rfl) (by intro w' hw'; simp [execOp, L.evE, L.lk, Act.eval]; go_simp; rfl) ?_))
  refine ge_load_at rfl rfl rfl (by rfl) _ _ rfl ⟨wb, 0, none⟩ (by simp [L.evE, L.lk, Act.eval]) _ _ (fun w' k => (HS.out.keep k).cells 0 rfl) Tryd.underlying25 rfl (by kernel_rfl) ?_
  refine ge_load_at rfl rfl rfl (by rfl) _ _ rfl ⟨nb, 0, none⟩ (by simp [L.evE, L.lk, Act.eval]) _ _ (fun w' k => (HS.out.keep k).cells 2 rfl) Tryd.underlying25 rfl (by kernel_rfl) ?_
  refine L.ge_call rfl rfl rfl (by rfl) rfl (by simp [L.evE, L.lk, Act.eval]; rfl) (by go_simp) ?_
  refine (journal_Used.calls A0 c0 j.l A1 c1 j.q j.g _ w2 (HC.out.only HS.out.only).1.2 HC.out.1.1 (HC.out.only HS.out.only).2.2 HC.out.2.1 (HT.out.below HS.out.only.nil_below) (if_pos HJ.out)).mono ?_
  rintro e w3 ⟨rfl, hb3⟩
  refine ⟨_, rfl, Only.of_below hb3, ?_⟩
  replace HS := Lib.hid (HS.out.below hb3)
  clear hb3
  have HW := Lib.hid (CJ.of (j := j) (HS.out.row 3 rfl) (HS.out.row 4 rfl))
  refine L.ge_call rfl rfl rfl (by rfl) rfl (by simp [L.evE, L.lk, Act.eval]; rfl) (by go_simp) ?_
  refine (malthouseref18_Used.calls 10000 B0 d0 j.l B1 d1 j.q j.g (usedJ j.l j.q j.g) w3 HW.out.1.2 HW.out.1.1 HW.out.2.2 HW.out.2.1 (ref_used_is j.l j.q j.g 10000 HLT.out.1 HLT.out.2.1 HLT.out.2.2 (by omega))).mono ?_
  rintro e w4 ⟨rfl, hb4⟩
  refine ⟨_, rfl, Only.of_below hb4, ?_⟩
  replace HS := Lib.hid (HS.out.below hb4)
  clear hb4 HW
  iterate 3 (first | (refine L.ge_off rfl rfl rfl (by rfl) ?_) | (refine L.ge_move rfl rfl rfl (by rfl) rfl (by simp [L.evE, L.lk, Act.eval]; rfl) ?_) | (refine L.ge_pick rfl rfl rfl (by rfl) rfl (by simp [L.evE, L.lk, Act.eval]; rfl) (by simp [L.evE, L.lk, Act.eval]; rfl) ?_) | (refine L.ge_val rfl rfl rfl (by rfl) (by intro w' hw'; simp [execOp, L.evE, L.lk, Act.eval]; go_simp; rfl) ?_))
  refine L.ge_done ?_
  simp only [L.puts, Act.put, goInt, List.setIfInBounds_toArray, List.set_cons_zero, List.set_cons_succ]
  go_wp2
  go_ret
  exact ⟨rfl, HS.out.only.nil_below⟩
end Go.Proofs.YtghpmpjoedbpcaaDoor.Print
/-! ### JWalk6b -/
namespace Go.Proofs.YtghpmpjoedbpcaaDoor.Print
open Go.RowKit Go.Proofs.YtghpmpjoedbpcaaDoorW.PrintWords Go.Proofs.YtghpmpjoedbpcaaDoorW.PrintLast Go.Proofs.YtghpmpjoedbpcaaDoorW.PrintMore
set_option linter.unusedVariables false
theorem journalDoes_walk (cs0 : Array Value) (y0 : JnR) (cs1 : Array Value) (y1 : OpR) (w : World) (hz0 : cs0.size = Tryd.prog.cellsOf 25) (r0 : rJn w (Value.agg cs0).cells.toList y0) (hz1 : cs1.size = Tryd.prog.cellsOf 43) (r1 : rOp w (Value.agg cs1).cells.toList y1) (hT : Tabs w) :
    Calls Tryd.prog 6 #[.agg cs0, .agg cs1] w fun e w' => e = .returned (.bool true) ∧ Below w.heap.size w w' := by
  obtain ⟨A0, c0, A1, c1, rfl, h0, h1⟩ := jn_in (hz0.trans (by kernel_rfl)) r0
  have hs : (gOp y1).f2.f3.size ≤ 140737488351232 := r1.2.2.1.2.2.2.1.2
  obtain rfl := op_in (hz1.trans (by kernel_rfl)) r1
  exact does_any A0 c0 A1 c1 ⟨y0.1.map gEnt, y0.2.1.map gQuo, y0.2.2.1⟩ (gOp y1) w h0 h1 hT hs
end Go.Proofs.YtghpmpjoedbpcaaDoor.Print
/-! ### JournalDoesRow -/
namespace Go.Proofs.YtghpmpjoedbpcaaDoor.journalDoes
open Go.ChangeShapes Go.WideShapes Go.ChangeAt Go.RowKit Go.Shelf Go.Lib Go.Proofs.YtghpmpjoedbpcaaDoor.Print
open Go.ChangeMaps (open_string shut_string)
set_option linter.unusedVariables false
set_option linter.unusedSimpArgs false
theorem own : ownKnob Tryd.prog.godebug = none := by kernel_rfl
theorem laidOut : laidOutB Tryd.prog = true := by kernel_rfl
set_option maxRecDepth 100000 in
theorem lifted (os : Os) (started : os.Started) (H : Type) (enc : TypeId × Value → H) :
    ReturnsInHanded {} Tryd.checked os 6 .any (fun w args => (Rows.journalDoesSpec.pre enc Tryd.prog Tryd.f6 [] false w args ∧ laidMetH Tryd.prog Rows.journalDoesRow.laid w) ∧ sizedMet enc Tryd.prog Tryd.f6 (OpenSpec.ofChange Rows.journalDoesSpec) false w args) (Rows.journalDoesSpec.post enc Tryd.prog Tryd.f6 false true false false) := by
  refine returnsInHanded_of_change_and (C := Tryd.checked) (X := fun w _ => laidMetH Tryd.prog Rows.journalDoesRow.laid w) (fun _ _ _ hh h => h.of_heap hh) own started (by kernel_rfl) Tryd.func6
    (ChangeSpec.witness_shaped (enc := enc) (C := Tryd.checked) (os := os) (X := fun w _ => laidMetH Tryd.prog Rows.journalDoesRow.laid w) false (World.laidAll Tryd.prog os Rows.journalDoesRow.laid) #[.agg #[.slice none 0 0, .slice none 0 0, .int .i64 0], .agg #[.int .i64 0, .int .i64 0, .int .i64 0, .int .i64 0, .int .i64 0, .string ByteArray.empty, .int .i64 0, .int .i64 0]] 8 (World.laidAll_os _ _ _)
      (World.shaped_of_ZipB (by kernel_rfl) (by kernel_rfl)) (by kernel_rfl) (by kernel_rfl) (by kernel_rfl)
      (by rw [MakeChecks.laidMetH_plain _ _ _ (by kernel_rfl)]; exact laidMet_laidAll _ (by kernel_rfl) (by kernel_rfl))) ?_
  intro W base args ds gs before hval0 hW hcnd hsz0 hL0 _
  have hL : laidMet Tryd.prog Rows.journalDoesRow.laid W := by
    have h := hL0
    rw [MakeChecks.laidMetH_plain _ _ _ (by kernel_rfl)] at h
    exact h
  have hT : Tabs W := utf8Tabs_of_readsT (U8Types.of196 Tryd.laysValid) ⟨by kernel_rfl, by kernel_rfl, by kernel_rfl, by kernel_rfl, by kernel_rfl, by kernel_rfl, by kernel_rfl⟩ (Pinned.utf8First_eq ▸ Lib.laidMet.reads hL (.tail _ (.head _))) ((show Rows.laid_unicode_utf8_acceptRanges = acceptData from rfl) ▸ Lib.laidMet.reads hL (.head _))
  have hsz : (DataW.weightsEach Tryd.prog (Tryd.f6.params.toList ++ Rows.journalDoesSpec.plain.varTypes Tryd.prog) (ds ++ gs)).all (· ≤ reachBytes) = true := hsz0
  have hval : ∀ (j : Nat) t v, Tryd.f6.params[j]? = some t → args[j]? = some v → Value.okWide Tryd.prog W .any base t v := hval0
  have hW' := hW
  obtain ⟨p, q, hA0, hV, rfl, hfz, hnd⟩ := hW
  have hA : DataW.TrodAll enc Tryd.prog W 0 (fun _ => true) true Tryd.f6.params.toList args.toList ds p := hA0
  rw [Tryd.params6] at hA hval hsz
  obtain ⟨v0, vs0, d0, ds0, p0, q0, hargs, rfl, rfl, h0, r0⟩ := trodAll_cons hA
  obtain ⟨v1, vs1, d1, ds1, p1, q1, rfl, rfl, rfl, h1, r1⟩ := trodAll_cons r0
  obtain ⟨rfl, rfl, rfl⟩ := trodAll_nil r1
  obtain rfl : args = #[v0, v1] := by cases args; simp_all
  obtain ⟨rfl, rfl⟩ := trodVars_none hV
  have k0 := h0
  have lt0 : ∀ x ∈ p0, x.block < W.heap.size := by obtain ⟨m, hm⟩ := k0; exact DataW.trod_lt m _ _ _ hm
  obtain ⟨y0, r0_⟩ := opens_arg (jn_opens enc W) h0 (weights_each hsz (j := 0) (t := 25) rfl rfl)
  obtain ⟨cs0, rfl, hz0⟩ := okWide_struct Tryd.underlying25 (hval 0 25 v0 rfl rfl)
  have k1 := h1
  have lt1 : ∀ x ∈ p1, x.block < W.heap.size := by obtain ⟨m, hm⟩ := k1; exact DataW.trod_lt m _ _ _ hm
  obtain ⟨y1, r1_⟩ := opens_arg (op_opens enc W) h1 (weights_each hsz (j := 1) (t := 43) rfl rfl)
  obtain ⟨cs1, rfl, hz1⟩ := okWide_struct Tryd.underlying43 (hval 1 43 v1 rfl rfl)
  clear hA0 hval0 hsz0 hsz
  refine (journalDoes_walk cs0 y0 cs1 y1 W hz0 r0_ hz1 r1_ hT).mono fun e W' ⟨he, bel⟩ => ?_
  subst he
  exact ⟨_, rfl, _, _, _, [], _, [], hW', trodAll_mk1 (shut_bool Tryd.underlying4 _), (trodAll_cons_mk (Below.trod laidOut (by kernel_rfl) (of_decide_eq_true (by kernel_rfl)) k0 bel lt0) (trodAll_cons_mk (Below.trod laidOut (by kernel_rfl) (of_decide_eq_true (by kernel_rfl)) k1 bel lt1) trodAll_mk0)), rfl, bel.frame _, fun h => by cases h⟩
theorem over : Rows.journalDoesRow.holds Tryd.pinned (OpenSpec.ofChange Rows.journalDoesSpec) :=
  OpenClaim.holds_of_wide 6 Tryd.f6 rfl rfl rfl rfl rfl rfl rfl ⟨rfl, rfl, rfl, rfl, rfl⟩ rfl rfl rfl rfl rfl (by kernel_rfl) Tryd.func6 (by kernel_rfl)
    (of_decide_eq_true (by kernel_rfl)) (by unfold Func.isWrapper; first | (rw [if_pos (by decide +kernel)]; kernel_rfl) | (rw [if_neg (by decide +kernel)]; exact ⟨rfl, rfl⟩))
    (fun os started H enc _ => lifted os started H enc)
theorem card_holds : Claim7.holds Tryd.pinned (.plain (OpenSpec.ofChange Rows.journalDoesSpec)) Rows.journalDoesCard :=
  Claim7.holds_tied_plain_at .later [] [.data, .pinned] true (true, "b05b6b16aa0a1809f215307a8c3ea1b8c622546458a6b2d8f18a7b1e1b2adb12") false over (fun _ h => by cases h) (by kernel_rfl) (fun _ h => by cases h) journalDoes_row_tie rfl ⟨rfl, rfl⟩ (by kernel_rfl) rfl
    (fun f fn hf hfn => by
      obtain rfl : f = 6 := Option.some.inj ((show Tryd.prog.funcNamed "malthouse/malthouselaw18.JournalDoes" = some 6 by kernel_rfl).symm.trans hf) |>.symm
      obtain rfl : fn = Tryd.f6 := (Option.some.inj (Tryd.func6.symm.trans hfn)).symm
      exact ⟨by kernel_rfl, fun j t ht => by
        rw [Tryd.params6] at ht
        have hm : t ∈ [25, 43] := by simpa using Array.mem_of_getElem? ht
        have hall : ([25, 43].all fun u => !Tryd.prog.wantsStandIn u) = true := by kernel_rfl
        exact (show Tryd.prog.wantsStandIn t = false by simpa using List.all_eq_true.1 hall t hm)⟩)
    (by kernel_rfl)
theorem proved : Rows.JournalDoesCardSaid := card_holds
#print axioms proved
end Go.Proofs.YtghpmpjoedbpcaaDoor.journalDoes
namespace Go.Proofs.YtghpmpjoedbpcaaDoor
/-- The card, under a short name, for the claim. -/
theorem journalDoes_holds : Rows.JournalDoesCardSaid := journalDoes.proved
end Go.Proofs.YtghpmpjoedbpcaaDoor
