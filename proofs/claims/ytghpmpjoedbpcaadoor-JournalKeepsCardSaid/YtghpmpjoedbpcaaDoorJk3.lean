import Derived.Test.YtghpmpjoedbpcaaDoorJk2
import Derived.Below
import Derived.ChangeOld
import Derived.LaidLaws
import Derived.LaidOnce
import Derived.Lay
import Derived.Lib.LaidU8T
import Derived.OpenShut
import Derived.PinnedBridge
import Derived.ProofKit
import Derived.SevenTiedAt
import Derived.Shelf.Lay
import Derived.ShutString
import Derived.SizedLaws
import Derived.Test.YtghpmpjoedbpcaaDoorCards
import Derived.Test.YtghpmpjoedbpcaaDoorRows
import Derived.Test.YtghpmpjoedbpcaaDoorTie
import Derived.WalkKit
set_option linter.unusedVariables false
set_option linter.unusedSimpArgs false
namespace Go.Proofs.YtghpmpjoedbpcaaDoorW.PrintWords
end Go.Proofs.YtghpmpjoedbpcaaDoorW.PrintWords
namespace Go.Proofs.YtghpmpjoedbpcaaDoorW.PrintLast
end Go.Proofs.YtghpmpjoedbpcaaDoorW.PrintLast
namespace Go.Proofs.YtghpmpjoedbpcaaDoorW.PrintMore
end Go.Proofs.YtghpmpjoedbpcaaDoorW.PrintMore
/-! ### JWalk5 -/
namespace Go.Proofs.YtghpmpjoedbpcaaDoor.Print
open Go.RowKit Go.Proofs.YtghpmpjoedbpcaaDoorW.PrintWords Go.Proofs.YtghpmpjoedbpcaaDoorW.PrintLast Go.Proofs.YtghpmpjoedbpcaaDoorW.PrintMore
set_option linter.unusedSimpArgs false
set_option linter.unusedVariables false
attribute [local go_sem high] eqA27
theorem wrap_in {x : Int} (h0 : 0 ≤ x) (h9 : x ≤ 4611686018427387904) : IntKind.i64.wrap x = x := by
  unfold IntKind.wrap
  simp [IntKind.bits, IntKind.signed]
  omega
theorem cut_in {G T : Prop} (h : T → G) (hT : T) : G := h hT
theorem ownsRow_ne {w : World} {base : Nat} {e : TypeId} {size : Nat} {v : Value} {n : Nat} {xs : List Value} (h : w.ownsRow base e size v n xs) {g : Nat} {cs : Array Value} {t : TypeId} {f : Nat × Nat} (hg : w.heap[g]? = some (.cells cs t f)) (ht : t ≠ e) {k : Nat} (hk : v.ownBlock = some k) : k ≠ g := by
  rintro rfl
  rcases h.2 with ⟨rfl, _⟩ | ⟨g', cap, cur, rfl, _, hg', _⟩
  · cases hk
  · obtain rfl : g' = k := by simpa [Value.ownBlock] using hk
    rw [hg'] at hg
    injection hg with hg
    injection hg with h1 h2 h3
    exact ht h2.symm
theorem Own.past {w w' : World} {base : Nat} {A0 : Option Addr} {c0 : Nat} {A1 : Option Addr} {c1 : Nat} {j : Jn} (h : Own w base A0 c0 A1 c1 j) {g : Nat} {cs : Array Value} {f : Nat × Nat} (hg : w.heap[g]? = some (.cells cs 25 f)) (ho : Only [g] w w') : Own w' base A0 c0 A1 c1 j :=
  ⟨ownsRow_only h.l ho (fun k hk hS => by simp at hS; subst hS; exact ownsRow_ne h.l hg (by decide) hk rfl), ownsRow_only h.q ho (fun k hk hS => by simp at hS; subst hS; exact ownsRow_ne h.q hg (by decide) hk rfl)⟩
set_option maxHeartbeats 8000000 in
set_option maxRecDepth 100000 in
theorem keeps_any (A0 : Option Addr) (c0 : Nat) (l0 : List S43) (w : World) (h0 : l0.length ≤ c0 ∧ Kd.C k43 w A0 l0.length l0) (hT : Tabs w) :
    Calls Tryd.prog 5 #[.slice A0 l0.length c0] w fun x w' => x = .returned (.bool true) ∧ Below w.heap.size w w' := by
  have HA := Lib.hid h0
  have HT := Lib.hid hT
  clear h0 hT
  have HAW := Lib.hid (malthouselaw18_awake.calls true w HT.out rfl)
  go_enter Tryd.func5, Tryd.ntmps5
  go_wp2_with (go_at_call 8; refine HAW.out.mono ?_; rintro x W1 ⟨rfl, hb1⟩; have HO1 := Lib.hid (Only.of_below hb1); clear hb1; refine (fun (h : Hid _) => h.out) ?_)
  refine Lib.hid ?_
  have HF0 := Lib.hid (malthouselaw18_few.calls 1000 A0 c0 l0 200 (fewB l0) W1 (Kd.C_below HA.out.2 HO1.out.nil_below) HA.out.1 (few_is _ _ (by omega)))
  go_wp2_with (go_at_call 16; refine HF0.out.mono ?_; rintro x W2 ⟨rfl, hb2⟩; have HO2 := Lib.hid (HO1.out.trans (Only.of_below hb2.below)); clear hb2; refine (fun (h : Hid _) => h.out) ?_)
  refine Lib.hid ?_
  clear HAW HF0 HO1
  cases hf0 : fewB l0
  · clear hf0
    go_wp2
    go_ret
    exact ⟨rfl, HO2.out.nil_below⟩
  obtain ⟨hn0, hs0⟩ := few_ok hf0
  have HS0 := Lib.hid hs0
  clear hs0 hf0
  go_wp2
  have HV0 := Lib.hid (heap_alloc_new W2 (.cells #[.slice none 0 0, .slice none 0 0, .int .i64 0] 25))
  have HW0 := Lib.hid (HO2.out.trans ((Only.refl [] W2).alloc (.cells #[.slice none 0 0, .slice none 0 0, .int .i64 0] 25)))
  have HVB := Lib.hid (show w.heap.size ≤ W2.heap.size from HO2.out.size)
  generalize W2.alloc (.cells #[.slice none 0 0, .slice none 0 0, .int .i64 0] 25) = W4 at *
  generalize W2.heap.size = vb at *
  go_loopw [6, 7, 8, 9, 10] (fun si _ _ _ _ wr => ∃ (i : Nat) (j : Jn) (E0 : Option Addr) (k0 : Nat) (E1 : Option Addr) (k1 : Nat), si = .int .i64 i ∧ i ≤ l0.length ∧ Hid (Way i j) ∧ Hid (wr.heap[vb]? = some (.cells #[.slice E0 j.l.length k0, .slice E1 j.q.length k1, .int .i64 j.g] 25 (0, 0))) ∧ Hid (Own wr (vb + 1) E0 k0 E1 k1 j) ∧ Hid (Only [] w wr)) (fun si _ _ _ _ _ => l0.length - (intOf si).toNat)
  case atStart => exact ⟨0, zJn, none, 0, none, 0, rfl, by omega, Lib.hid way_zero, HV0, Lib.hid ⟨ownsRow_nil _ _ _ _, ownsRow_nil _ _ _ _⟩, HW0⟩
  case round =>
    clear HV0 HW0
    obtain ⟨i, j, E0, k0, E1, k1, rfl, hil, HWY, hrow, hown, hw⟩ := hrel
    by_cases hlt : i < l0.length
    · have hlt' : (i : Int) < l0.length := by omega
      have hi0 : (0 : Int) ≤ i := by omega
      obtain ⟨ad, rfl, hcs⟩ := C_o_at HA.out.2 i hlt
      have HX := Lib.hid (HS0.out _ (List.getElem_mem hlt))
      have HC := Lib.hid hcs
      clear hcs
      generalize l0[i] = x at *
      have HDO := Lib.hid (fun W (hW : Only [] wr W) => done_any (vb + 1) E0 k0 E1 k1 j x W (hown.out.only hW (by simp)) (by have := heap_lt (hW.heap hrow.out (by simp)); omega) (HT.out.below (hw.out.trans hW).nil_below) (HWY.out.ok (by omega)) HX.out)
      obtain ⟨hwy, hst⟩ := done_step HWY.out HX.out
      have HLN := Lib.hid (show j.l.length ≤ 120 from by have := HWY.out.f.len; omega)
      have HJG := Lib.hid (show 0 ≤ j.g ∧ j.g ≤ 1099511627776 from by have := HWY.out.f.g; unfold wi at this; simpa using this)
      clear HWY
      generalize doneJ j x = Re at *
      obtain ⟨R, er⟩ := Re
      have HWY : Hid (Way (i + 1) R) := Lib.hid hwy
      have HST : Hid (Step j x R er) := Lib.hid hst
      clear hwy hst
      go_wp2_with fail
      apply cut_in
      intro HK
      refine L.grow_start2 [] 10 ((0, true, false) :: (1, true, false) :: (2, true, false) :: (3, true, false) :: (4, true, false) :: []) ((5, false, true) :: (6, true, false) :: (7, true, false) :: (8, true, false) :: (9, false, true) :: (10, false, true) :: (11, true, true) :: []) ((9, false, true) :: (5, false, true) :: (6, true, true) :: (7, true, false) :: (8, true, false) :: (10, false, true) :: (11, true, true) :: []) (by kernel_rfl) (([], [5], some 29) :: ([], [0], some 30) :: ([], [6], some 31) :: ([1, 2], [30, 31], some 32) :: ([3], [32], some 33) :: ([0, 4], [29, 33], some 34) :: ([5], [34], some 28) :: ([6], [28], some 35) :: ([6], [28], some 36) :: ([], [], some 7) :: ([9, 7, 5, 0, 1, 2, 3, 4, 5, 6, 7, 9], [7, 35], none) :: ([8, 10, 0, 1, 2, 3, 4, 5, 6, 7, 8, 9, 10], [36], some 8) :: []) (by kernel_rfl) (by kernel_rfl) (n := 12) rfl (by kernel_rfl) (fun _ _ _ _ _ h => h) (fun wg hog => ?_)
      refine L.growe_start (N := 170) (by rfl) ?_
      have HSwg := Lib.hid hog
      have HRg := Lib.hid (hog.heap hrow.out (by simp))
      have HAg := Lib.hid (show CellsAt wg (ad.add (i * 8)) [.int .i64 x.f0, .int .i64 x.f1, .int .i64 x.f2.f0, .int .i64 x.f2.f1, .int .i64 x.f2.f2, .string x.f2.f3, .int .i64 x.f2.f4, .int .i64 x.f2.f5] from HC.out.only (hw.out.trans hog) (by simp))
      clear hog
      refine ge_load_at rfl rfl rfl (by rfl) _ _ rfl ⟨vb, 0, none⟩ (by simp [L.evE, L.lk, Act.eval]) _ _ (fun w' k => (cellsAt_row HRg.out).only k (by simp)) Tryd.underlying25 rfl (by kernel_rfl) ?_
      iterate 3 (first | (refine L.ge_off rfl rfl rfl (by rfl) ?_) | (refine L.ge_move rfl rfl rfl (by rfl) rfl (by simp [L.evE, L.lk, Act.eval]; rfl) ?_) | (refine L.ge_pick rfl rfl rfl (by rfl) rfl (by simp [L.evE, L.lk, Act.eval]; rfl) (by simp [L.evE, L.lk, Act.eval]; rfl) ?_) | (refine L.ge_val rfl rfl rfl (by rfl) (by intro w' hw'; simp [execOp, L.evE, L.lk, Act.eval]; go_simp; rfl) ?_))
      refine ge_load_at rfl rfl rfl (by rfl) _ _ rfl (ad.add (i * 8)) (by simp [L.evE, L.lk, Act.eval]) _ _ (fun w' k => HAg.out.only k (by simp)) Tryd.underlying43 rfl (by kernel_rfl) ?_
      clear HRg HAg
      refine L.ge_fork ?_ ?_
      · refine L.ge_call rfl rfl rfl (by rfl) rfl (by simp [L.evE, L.lk, Act.eval]; rfl) (by go_simp) ?_
        refine (HDO.out wg HSwg.out).mono ?_
        rintro e w2 ⟨F0, m0, F1, m1, rfl, hown2, hb2⟩
        refine ⟨_, rfl, Only.of_below hb2, ?_⟩
        have HP2 := Lib.hid hown2
        have HS2 := Lib.hid (HSwg.out.trans (Only.of_below hb2))
        clear hown2 hb2
        iterate 3 (first | (refine L.ge_off rfl rfl rfl (by rfl) ?_) | (refine L.ge_move rfl rfl rfl (by rfl) rfl (by simp [L.evE, L.lk, Act.eval]; rfl) ?_) | (refine L.ge_pick rfl rfl rfl (by rfl) rfl (by simp [L.evE, L.lk, Act.eval]; rfl) (by simp [L.evE, L.lk, Act.eval]; rfl) ?_) | (refine L.ge_val rfl rfl rfl (by rfl) (by intro w' hw'; simp [execOp, L.evE, L.lk, Act.eval]; go_simp; rfl) ?_))
        refine L.ge_mem (v := .pointer (some ⟨w2.heap.size, 0, none⟩)) (w' := w2.alloc (.cells #[.slice none 0 0, .slice none 0 0, .int .i64 0] 25)) rfl rfl rfl (by rfl) (by simp [execOp, L.evE, L.lk, Act.eval]; go_simp) ((Only.refl [] w2).alloc _) ?_
        have HK2 := Lib.hid (heap_alloc_new w2 (.cells #[.slice none 0 0, .slice none 0 0, .int .i64 0] 25))
        have HKB := Lib.hid (show vb < w2.heap.size from heap_lt (HS2.out.heap hrow.out (by simp)))
        have HS4 := Lib.hid (HS2.out.trans ((Only.refl [] w2).alloc (.cells #[.slice none 0 0, .slice none 0 0, .int .i64 0] 25)))
        replace HP2 := Lib.hid (HP2.out.only ((Only.refl [] w2).alloc (.cells #[.slice none 0 0, .slice none 0 0, .int .i64 0] 25)) (by simp))
        generalize w2.alloc (.cells #[.slice none 0 0, .slice none 0 0, .int .i64 0] 25) = w4 at *
        refine ge_write_in rfl rfl (by rfl) _ (.tmp 7) (.tmp 35) rfl w2.heap.size 0 (.agg #[.slice F0 R.l.length m0, .slice F1 R.q.length m1, .int .i64 R.g]) (by simp [L.evE, L.lk, Act.eval]) (by simp [L.evE, L.lk, Act.eval]) [.slice F0 R.l.length m0, .slice F1 R.q.length m1, .int .i64 R.g] rfl 25 [.slice none 0 0, .slice none 0 0, .int .i64 0] HK2.out (by kernel_rfl) (by simp) (by simp [Value.oneCell']) ?_
        intro w3 hr3 ho3
        (first | (refine L.ge_off rfl rfl rfl (by rfl) ?_) | (refine L.ge_move rfl rfl rfl (by rfl) rfl (by simp [L.evE, L.lk, Act.eval]; rfl) ?_) | (refine L.ge_pick rfl rfl rfl (by rfl) rfl (by simp [L.evE, L.lk, Act.eval]; rfl) (by simp [L.evE, L.lk, Act.eval]; rfl) ?_) | (refine L.ge_val rfl rfl rfl (by rfl) (by intro w' hw'; simp [execOp, L.evE, L.lk, Act.eval]; go_simp; rfl) ?_))
        refine L.ge_done ?_
        simp only [L.puts, Act.put, goInt, List.setIfInBounds_toArray, List.set_cons_zero, List.set_cons_succ]
        have HKB3 := Lib.hid (show vb < w2.heap.size from HKB.out)
        have HKN3 := Lib.hid (show w.heap.size ≤ w2.heap.size from by have := HKB.out; have := HVB.out; omega)
        have HK3 : Hid (w3.heap[w2.heap.size]? = some (.cells #[.slice F0 R.l.length m0, .slice F1 R.q.length m1, .int .i64 R.g] 25 (0, 0))) := hr3
        have HR3 := Lib.hid (ho3.out.heap (HS4.out.heap hrow.out (by simp)) (by have := HKB.out; simp; omega))
        have HO3 := Lib.hid ((hown.out.only HS4.out (by simp)).past HK2.out ho3.out)
        have HP3 := Lib.hid (HP2.out.past HK2.out ho3.out)
        have HW3 := Lib.hid ((hw.out.trans HS4.out).then ho3.out (fun k hk => .inr (by simp at hk; subst hk; have := HKB.out; have := HVB.out; omega)))
        clear hr3 ho3 HK2 HS4 HP2 HS2 HKB
        generalize w2.heap.size = kb at *
        revert HKB3 HKN3 HK3 HR3 HO3 HP3 HW3
        revert w3
        revert kb
        revert m1
        revert F1
        revert m0
        revert F0
        exact HK
      · refine L.ge_mem (v := .pointer (some ⟨wg.heap.size, 0, none⟩)) (w' := wg.alloc (.cells #[.slice none 0 0, .slice none 0 0, .int .i64 0] 25)) rfl rfl rfl (by rfl) (by simp [execOp, L.evE, L.lk, Act.eval]; go_simp) ((Only.refl [] wg).alloc _) ?_
        have HKA := Lib.hid (heap_alloc_new wg (.cells #[.slice none 0 0, .slice none 0 0, .int .i64 0] 25))
        have HKB := Lib.hid (show vb < wg.heap.size from heap_lt (HSwg.out.heap hrow.out (by simp)))
        have HSw4 := Lib.hid (HSwg.out.trans ((Only.refl [] wg).alloc (.cells #[.slice none 0 0, .slice none 0 0, .int .i64 0] 25)))
        generalize wg.alloc (.cells #[.slice none 0 0, .slice none 0 0, .int .i64 0] 25) = w4 at *
        refine L.ge_call rfl rfl rfl (by rfl) rfl (by simp [L.evE, L.lk, Act.eval]; rfl) (by go_simp) ?_
        refine (HDO.out w4 HSw4.out).mono ?_
        rintro e w2 ⟨F0, m0, F1, m1, rfl, hown2, hb2⟩
        refine ⟨_, rfl, Only.of_below hb2, ?_⟩
        have HP2 := Lib.hid hown2
        have HS2 := Lib.hid (HSw4.out.trans (Only.of_below hb2))
        have HK2 := Lib.hid ((Only.of_below hb2).heap HKA.out (by simp))
        clear hown2 hb2
        iterate 3 (first | (refine L.ge_off rfl rfl rfl (by rfl) ?_) | (refine L.ge_move rfl rfl rfl (by rfl) rfl (by simp [L.evE, L.lk, Act.eval]; rfl) ?_) | (refine L.ge_pick rfl rfl rfl (by rfl) rfl (by simp [L.evE, L.lk, Act.eval]; rfl) (by simp [L.evE, L.lk, Act.eval]; rfl) ?_) | (refine L.ge_val rfl rfl rfl (by rfl) (by intro w' hw'; simp [execOp, L.evE, L.lk, Act.eval]; go_simp; rfl) ?_))
        refine ge_write_in rfl rfl (by rfl) _ (.tmp 7) (.tmp 35) rfl wg.heap.size 0 (.agg #[.slice F0 R.l.length m0, .slice F1 R.q.length m1, .int .i64 R.g]) (by simp [L.evE, L.lk, Act.eval]) (by simp [L.evE, L.lk, Act.eval]) [.slice F0 R.l.length m0, .slice F1 R.q.length m1, .int .i64 R.g] rfl 25 [.slice none 0 0, .slice none 0 0, .int .i64 0] HK2.out (by kernel_rfl) (by simp) (by simp [Value.oneCell']) ?_
        intro w3 hr3 ho3
        (first | (refine L.ge_off rfl rfl rfl (by rfl) ?_) | (refine L.ge_move rfl rfl rfl (by rfl) rfl (by simp [L.evE, L.lk, Act.eval]; rfl) ?_) | (refine L.ge_pick rfl rfl rfl (by rfl) rfl (by simp [L.evE, L.lk, Act.eval]; rfl) (by simp [L.evE, L.lk, Act.eval]; rfl) ?_) | (refine L.ge_val rfl rfl rfl (by rfl) (by intro w' hw'; simp [execOp, L.evE, L.lk, Act.eval]; go_simp; rfl) ?_))
        refine L.ge_done ?_
        simp only [L.puts, Act.put, goInt, List.setIfInBounds_toArray, List.set_cons_zero, List.set_cons_succ]
        have HKB3 := Lib.hid (show vb < wg.heap.size from HKB.out)
        have HKN3 := Lib.hid (show w.heap.size ≤ wg.heap.size from by have := HKB.out; have := HVB.out; omega)
        have HK3 : Hid (w3.heap[wg.heap.size]? = some (.cells #[.slice F0 R.l.length m0, .slice F1 R.q.length m1, .int .i64 R.g] 25 (0, 0))) := hr3
        have HR3 := Lib.hid (ho3.out.heap (HS2.out.heap hrow.out (by simp)) (by have := HKB.out; simp; omega))
        have HO3 := Lib.hid ((hown.out.only HS2.out (by simp)).past HK2.out ho3.out)
        have HP3 := Lib.hid (HP2.out.past HK2.out ho3.out)
        have HW3 := Lib.hid ((hw.out.trans HS2.out).then ho3.out (fun k hk => .inr (by simp at hk; subst hk; have := HKB.out; have := HVB.out; omega)))
        clear hr3 ho3 HK2 HSw4 HKA HP2 HS2 HKB
        generalize wg.heap.size = kb at *
        revert HKB3 HKN3 HK3 HR3 HO3 HP3 HW3
        revert w3
        revert kb
        revert m1
        revert F1
        revert m0
        revert F0
        exact HK
      intro F0 m0 F1 m1 kb w3 HR3 HO3 HP3 HW3 HKB HKN HK3
      clear hrow hown HDO
      have HUB := Lib.hid (show 0 ≤ tot R ∧ tot R ≤ 120 ∧ (R.l.length : Int) ≤ tot R from by have := HWY.out.f.t; have := sumLeft_ge R.q HWY.out.f.left; unfold tot at *; omega)
      have HRT := Lib.hid (fun W (hW : Only [] w3 W) => right_calls F0 m0 F1 m1 R W (HP3.out.only hW (by simp)).rl (HP3.out.only hW (by simp)).rq (HT.out.below (HW3.out.trans hW).nil_below) (HWY.out.ok (by omega)))
      rw [(fine_iff R).2 HWY.out.f] at HRT
      have HUS := Lib.hid (fun W (hW : Only [] w3 W) => journal_Used.calls F0 m0 R.l F1 m1 R.q R.g (tot R) W (HP3.out.only hW (by simp)).rl.2 (HP3.out.only hW (by simp)).rl.1 (HP3.out.only hW (by simp)).rq.2 (HP3.out.only hW (by simp)).rq.1 (HT.out.below (HW3.out.trans hW).nil_below) ((if_pos (HWY.out.ok (by omega))).trans (by unfold usedJ; rw [if_pos ((fine_iff R).2 HWY.out.f), HWY.out.f.used])))
      generalize tot R = u at *
      go_wp2_with fail
      refine L.grow_start [] 16 ((0, true, true) :: (1, false, true) :: (2, true, true) :: (3, true, true) :: (4, true, true) :: (5, true, true) :: (6, true, true) :: (7, true, true) :: (8, true, true) :: (9, true, false) :: (11, true, false) :: (12, true, false) :: (13, true, false) :: (10, true, true) :: (14, true, true) :: (15, true, true) :: []) (by kernel_rfl) (([], [7], some 37) :: ([0], [37], some 38) :: ([1], [38], some 39) :: ([2, 1], [39], some 40) :: ([3], [7, 40], some 41) :: ([4, 3, 3], [41, 40], some 42) :: ([5, 3], [42, 40], some 43) :: ([3, 6], [40, 43], some 44) :: ([7, 5], [44], some 45) :: ([8], [7, 45], some 46) :: ([9, 8, 8], [46, 45], some 47) :: ([8], [7, 45], some 48) :: ([11, 8], [48, 45], some 49) :: ([12, 8], [49, 45], some 50) :: ([10, 13, 8], [47, 50, 45], some 51) :: ([8, 14], [45, 51], some 52) :: []) (by kernel_rfl) (by kernel_rfl) (n := 16) rfl (by kernel_rfl) (fun _ _ _ _ _ h => h) (fun wg hog => ?_)
      refine L.growe_start (N := 170) (by rfl) ?_
      have HS4 := Lib.hid hog
      clear hog
      refine ge_load_at rfl rfl rfl (by rfl) _ _ rfl ⟨kb, 0, none⟩ (by simp [L.evE, L.lk, Act.eval]) _ _ (fun w' k => (cellsAt_row HK3.out).only (HS4.out.trans k) (by simp)) Tryd.underlying25 rfl (by kernel_rfl) ?_
      refine L.ge_call rfl rfl rfl (by rfl) rfl (by simp [L.evE, L.lk, Act.eval]; rfl) (by go_simp) ?_
      refine (HRT.out _ HS4.out).mono ?_
      rintro e W5 ⟨rfl, hb5⟩
      refine ⟨_, rfl, Only.of_below hb5, ?_⟩
      have HS5 := Lib.hid (HS4.out.trans (Only.of_below hb5))
      clear hb5
      iterate 2 (first | (refine L.ge_off rfl rfl rfl (by rfl) ?_) | (refine L.ge_move rfl rfl rfl (by rfl) rfl (by simp [L.evE, L.lk, Act.eval]; rfl) ?_) | (refine L.ge_pick rfl rfl rfl (by rfl) rfl (by simp [L.evE, L.lk, Act.eval]; rfl) (by simp [L.evE, L.lk, Act.eval]; rfl) ?_) | (refine L.ge_val rfl rfl rfl (by rfl) (by intro w' hw'; simp [execOp, L.evE, L.lk, Act.eval]; go_simp; rfl) ?_))
      refine ge_load_at rfl rfl rfl (by rfl) _ _ rfl ⟨kb, 0, none⟩ (by simp [L.evE, L.lk, Act.eval]) _ _ (fun w' k => (cellsAt_row HK3.out).only (HS5.out.trans k) (by simp)) Tryd.underlying25 rfl (by kernel_rfl) ?_
      refine L.ge_call rfl rfl rfl (by rfl) rfl (by simp [L.evE, L.lk, Act.eval]; rfl) (by go_simp) ?_
      refine (HUS.out _ HS5.out).mono ?_
      rintro e W6 ⟨rfl, hb6⟩
      refine ⟨_, rfl, Only.of_below hb6, ?_⟩
      have HS6 := Lib.hid (HS5.out.trans (Only.of_below hb6))
      clear hb6
      have hu3 : ¬ (120 : Int) < u := by have := HUB.out; omega
      have hu4 : ¬ u < (R.l.length : Int) := by have := HUB.out; omega
      iterate 3 (first | (refine L.ge_off rfl rfl rfl (by rfl) ?_) | (refine L.ge_move rfl rfl rfl (by rfl) rfl (by simp [L.evE, L.lk, Act.eval]; rfl) ?_) | (refine L.ge_pick rfl rfl rfl (by rfl) rfl (by simp [L.evE, L.lk, Act.eval]; rfl) (by simp [L.evE, L.lk, Act.eval]; rfl) ?_) | (refine L.ge_val rfl rfl rfl (by rfl) (by intro w' hw'; simp [execOp, L.evE, L.lk, Act.eval]; go_simp; rfl) ?_))
      refine ge_load_at rfl rfl rfl (by rfl) _ _ rfl ⟨kb, 0, none⟩ (by simp [L.evE, L.lk, Act.eval]) _ _ (fun w' k => (cellsAt_row HK3.out).only (HS6.out.trans k) (by simp)) Tryd.underlying25 rfl (by kernel_rfl) ?_
      have z0 : ∀ w', Only [] W6 w' → w'.cell? ⟨kb, 0, none⟩ = some (.slice F0 R.l.length m0) := fun w' h => (cell_of_row w' kb 0 _ _ _ ((HS6.out.trans h).heap HK3.out (by simp))).trans rfl
      iterate 3 (first | (refine L.ge_off rfl rfl rfl (by rfl) ?_) | (refine L.ge_move rfl rfl rfl (by rfl) rfl (by simp [L.evE, L.lk, Act.eval]; rfl) ?_) | (refine L.ge_pick rfl rfl rfl (by rfl) rfl (by simp [L.evE, L.lk, Act.eval]; rfl) (by simp [L.evE, L.lk, Act.eval]; rfl) ?_) | (refine L.ge_val rfl rfl rfl (by rfl) (by intro w' hw'; simp [execOp, L.evE, L.lk, Act.eval]; go_simp; rfl) ?_))
      refine L.ge_call rfl rfl rfl (by rfl) rfl (by simp [L.evE, L.lk, Act.eval]; rfl) (by go_simp) ?_
      refine (HUS.out _ HS6.out).mono ?_
      rintro e W7 ⟨rfl, hb7⟩
      refine ⟨_, rfl, Only.of_below hb7, ?_⟩
      have HS7 := Lib.hid (HS6.out.trans (Only.of_below hb7))
      clear hb7
      clear z0
      iterate 2 (first | (refine L.ge_off rfl rfl rfl (by rfl) ?_) | (refine L.ge_move rfl rfl rfl (by rfl) rfl (by simp [L.evE, L.lk, Act.eval]; rfl) ?_) | (refine L.ge_pick rfl rfl rfl (by rfl) rfl (by simp [L.evE, L.lk, Act.eval]; rfl) (by simp [L.evE, L.lk, Act.eval]; rfl) ?_) | (refine L.ge_val rfl rfl rfl (by rfl) (by intro w' hw'; simp [execOp, L.evE, L.lk, Act.eval]; go_simp; rfl) ?_))
      refine L.ge_done ?_
      simp only [L.puts, Act.put, goInt, List.setIfInBounds_toArray, List.set_cons_zero, List.set_cons_succ]
      have HK7 := Lib.hid (HS7.out.heap HK3.out (by simp))
      have HR7 := Lib.hid (HS7.out.heap HR3.out (by simp))
      have HO7 := Lib.hid (HO3.out.only HS7.out (by simp))
      have HP7 := Lib.hid (HP3.out.only HS7.out (by simp))
      have HW7 := Lib.hid (HW3.out.trans HS7.out)
      clear HS4 HS5 HS6 HS7 HK3 HR3 HO3 HP3 HW3
      clear hu3 hu4 HRT HUS HUB
      by_cases ht : x.f0 = 4 ∧ er = 0
      · as_aux_lemma =>
        obtain ⟨hx4, he0⟩ := ht
        obtain ⟨hn0, hn1, hl, hg⟩ := HST.out.tr hx4 he0
        have HC7 := Lib.hid (show CellsAt W7 (ad.add (i * 8)) [.int .i64 x.f0, .int .i64 x.f1, .int .i64 x.f2.f0, .int .i64 x.f2.f1, .int .i64 x.f2.f2, .string x.f2.f3, .int .i64 x.f2.f4, .int .i64 x.f2.f5] from HC.out.only HW7.out (by simp))
        obtain ⟨k, hk⟩ : ∃ k : Nat, x.f1 = (k : Int) := ⟨x.f1.toNat, by omega⟩
        rw [hk] at hn1 hg hl HC7
        rw [hx4] at HC7
        have hkn : k ≤ j.l.length := by omega
        have hl' : R.l = j.l.drop k := by rw [hl]; simp
        obtain ⟨hjg0, hjg9⟩ := HJG.out
        have hk9 : k ≤ 120 := by have := HLN.out; omega
        have HEN := Lib.hid (show ∀ W, Only [] W7 W → Calls Tryd.prog 13 #[.slice F0 R.l.length m0, .slice (cutN E0 k k0 6) (j.l.length - k) (k0 - k)] W fun e w' => e = .returned (.bool true) ∧ Below W.heap.size W w' from fun W h => by
          have p := (HP7.out.only h (by simp)).rl
          have q := (HO7.out.only h (by simp)).rl
          have q2 := Kd.C_drop (k := k27) (c := k0) q.2 hkn q.1
          rw [← hl'] at q2
          have ee : j.l.length - k = R.l.length := by rw [hl', List.length_drop]
          rw [ee]
          refine (malthouseref18_Entries.calls 1000 F0 m0 R.l (cutN E0 k k0 6) (k0 - k) R.l true W p.2 p.1 q2 (by have := q.1; omega) (entries_refl _ _ (by have := HLN.out; omega) (by have := HLN.out; omega))).mono ?_
          rintro e w' ⟨he, hd⟩
          exact ⟨he, hd.below⟩)
        have HGK := Lib.hid (show (R.g : Int) = j.g + k from hg)
        clear hl hl' hk hg hx4 hn0
        subst he0
        have c0 : W7.cell? (ad.add (i * 8)) = some (.int .i64 4) := by have := HC7.out 0 _ rfl; rwa [Go.Deep.add_add, Nat.add_zero] at this
        go_wp2_with fail
        clear c0
        refine L.grow_start [] 12 ((0, true, false) :: (1, true, false) :: (2, true, false) :: (3, true, false) :: (4, true, false) :: (5, true, true) :: (6, true, true) :: (7, true, true) :: (8, true, true) :: (9, true, true) :: (10, false, true) :: (11, true, true) :: []) (by kernel_rfl) (([], [7], some 63) :: ([0], [63], some 64) :: ([], [5], some 65) :: ([2], [65], some 66) :: ([], [0], some 67) :: ([], [6], some 68) :: ([4, 5], [67, 68], some 69) :: ([6], [69], some 70) :: ([7], [70], some 71) :: ([3, 8], [66, 71], some 72) :: ([1, 9], [64, 72], some 73) :: ([10, 10, 0, 1, 2, 3, 4, 5, 6, 7, 8, 9, 10], [73], some 9) :: []) (by kernel_rfl) (by kernel_rfl) (n := 12) rfl (by kernel_rfl) (fun _ _ _ _ _ h => h) (fun wg hog => ?_)
        have HS8 := Lib.hid hog
        clear hog
        refine L.growe_start (N := 170) (by rfl) ?_
        have zkb0 : ∀ w', Only [] wg w' → w'.cell? ⟨kb, 0, none⟩ = some (.slice F0 R.l.length m0) := fun w' h => (cell_of_row w' kb 0 _ _ _ ((HS8.out.trans h).heap HK7.out (by simp))).trans rfl
        have zvb0 : ∀ w', Only [] wg w' → w'.cell? ⟨vb, 0, none⟩ = some (.slice E0 j.l.length k0) := fun w' h => (cell_of_row w' vb 0 _ _ _ ((HS8.out.trans h).heap HR7.out (by simp))).trans rfl
        have zx1 : ∀ w', Only [] wg w' → w'.cell? ⟨(ad.add (i * 8)).block, (ad.add (i * 8)).off + 1, none⟩ = some (.int .i64 k) := fun w' h => by rw [← add_field _ _ 1 (by omega)]; have := (HC7.out.only (HS8.out.trans h) (by simp)) 1 _ rfl; rwa [Go.Deep.add_add] at this
        iterate 9 (first | (refine L.ge_off rfl rfl rfl (by rfl) ?_) | (refine L.ge_move rfl rfl rfl (by rfl) rfl (by simp [L.evE, L.lk, Act.eval]; rfl) ?_) | (refine L.ge_pick rfl rfl rfl (by rfl) rfl (by simp [L.evE, L.lk, Act.eval]; rfl) (by simp [L.evE, L.lk, Act.eval]; rfl) ?_) | (refine L.ge_val rfl rfl rfl (by rfl) (by intro w' hw'; simp [execOp, L.evE, L.lk, Act.eval]; go_simp; rfl) ?_))
        refine ge_cutN rfl rfl rfl (by rfl) _ _ _ _ _ rfl 27 6 Tryd.underlying22 (by kernel_rfl) E0 j.l.length k0 (by simp [L.evE, L.lk, Act.eval]) k j.l.length k0 (fun w' => by simp only [L.evE, L.lk, Act.eval, Option.map_some, Option.map_none]; exact bounds_l w' _ _ _ _ k rfl hkn) ?_
        refine L.ge_call rfl rfl rfl (by rfl) rfl (by simp [L.evE, L.lk, Act.eval]; rfl) (by go_simp) ?_
        refine (HEN.out _ HS8.out).mono ?_
        rintro e W9 ⟨rfl, hb9⟩
        refine ⟨_, rfl, Only.of_below hb9, ?_⟩
        have HS9 := Lib.hid (HS8.out.trans (Only.of_below hb9))
        clear hb9
        (first | (refine L.ge_off rfl rfl rfl (by rfl) ?_) | (refine L.ge_move rfl rfl rfl (by rfl) rfl (by simp [L.evE, L.lk, Act.eval]; rfl) ?_) | (refine L.ge_pick rfl rfl rfl (by rfl) rfl (by simp [L.evE, L.lk, Act.eval]; rfl) (by simp [L.evE, L.lk, Act.eval]; rfl) ?_) | (refine L.ge_val rfl rfl rfl (by rfl) (by intro w' hw'; simp [execOp, L.evE, L.lk, Act.eval]; go_simp; rfl) ?_))
        refine L.ge_done ?_
        simp only [L.puts, Act.put, goInt, List.setIfInBounds_toArray, List.set_cons_zero, List.set_cons_succ]
        clear zkb0 zvb0 zx1 HEN
        go_wp2_with fail
        refine L.grow_start [] 15 ((0, true, true) :: (1, true, true) :: (2, true, true) :: (3, true, false) :: (4, true, false) :: (5, true, false) :: (6, true, false) :: (7, true, false) :: (8, true, true) :: (9, true, true) :: (10, true, true) :: (11, true, true) :: (12, true, true) :: (13, true, true) :: (14, true, true) :: []) (by kernel_rfl) (([], [9], some 74) :: ([0], [74], some 75) :: ([1], [75], some 76) :: ([2], [7, 76], some 77) :: ([3, 2], [77, 76], some 78) :: ([2], [5, 76], some 79) :: ([5, 2], [79, 76], some 80) :: ([2], [0, 76], some 81) :: ([2], [6, 76], some 82) :: ([7, 8, 2], [81, 82, 76], some 83) :: ([9, 2], [83, 76], some 84) :: ([10, 2], [84, 76], some 85) :: ([6, 11, 2], [80, 85, 76], some 86) :: ([4, 12, 2], [78, 86, 76], some 87) :: ([2, 13], [76, 87], some 88) :: []) (by kernel_rfl) (by kernel_rfl) (n := 15) rfl (by kernel_rfl) (fun _ _ _ _ _ h => h) (fun wh hoh => ?_)
        replace HS9 := Lib.hid (HS9.out.trans hoh)
        clear hoh
        refine L.growe_start (N := 170) (by rfl) ?_
        have zkb2 : ∀ w', Only [] wh w' → w'.cell? ⟨kb, 2, none⟩ = some (.int .i64 (j.g + k)) := fun w' h => (cell_of_row w' kb 2 _ _ _ ((HS9.out.trans h).heap HK7.out (by simp))).trans (by rw [HGK.out]; rfl)
        have zvb2 : ∀ w', Only [] wh w' → w'.cell? ⟨vb, 2, none⟩ = some (.int .i64 j.g) := fun w' h => (cell_of_row w' vb 2 _ _ _ ((HS9.out.trans h).heap HR7.out (by simp))).trans rfl
        have zx1 : ∀ w', Only [] wh w' → w'.cell? ⟨(ad.add (i * 8)).block, (ad.add (i * 8)).off + 1, none⟩ = some (.int .i64 k) := fun w' h => by rw [← add_field _ _ 1 (by omega)]; have := (HC7.out.only (HS9.out.trans h) (by simp)) 1 _ rfl; rwa [Go.Deep.add_add] at this
        have hwr : IntKind.i64.wrap (j.g + (k : Int)) = j.g + k := wrap_in (by omega) (by omega)
        iterate 15 (first | (refine L.ge_off rfl rfl rfl (by rfl) ?_) | (refine L.ge_move rfl rfl rfl (by rfl) rfl (by simp [L.evE, L.lk, Act.eval, hwr]; rfl) ?_) | (refine L.ge_pick rfl rfl rfl (by rfl) rfl (by simp [L.evE, L.lk, Act.eval, hwr]; rfl) (by simp [L.evE, L.lk, Act.eval, hwr]; rfl) ?_) | (refine L.ge_val rfl rfl rfl (by rfl) (by intro w' hw'; simp [execOp, L.evE, L.lk, Act.eval, hwr]; go_simp; rfl) ?_))
        clear hwr
        refine L.ge_done ?_
        simp only [L.puts, Act.put, goInt, List.setIfInBounds_toArray, List.set_cons_zero, List.set_cons_succ]
        have HK8 := Lib.hid (HS9.out.heap HK7.out (by simp))
        have HR8 := Lib.hid (HS9.out.heap HR7.out (by simp))
        have HP8 := Lib.hid (HP7.out.only HS9.out (by simp))
        have HW8 := Lib.hid (HW7.out.trans HS9.out)
        clear zkb2 zvb2 zx1 HS8 HS9
        go_wp2_with (first
          | (with_reducible refine wpList_load_at rfl 25 (.tmp 7) rfl ⟨kb, 0, none⟩ rfl _ _ (cellsAt_row HK8.out) Tryd.underlying25 rfl (by kernel_rfl) ?_)
          | (with_reducible refine wpList_store_new rfl 25 (.tmp 5) (.tmp 89) rfl vb #[.slice F0 R.l.length m0, .slice F1 R.q.length m1, .int .i64 R.g] rfl rfl 25 _ HR8.out (size3_25 _ _ _) rfl (by simp [Value.oneCell']) ?_; intro W9 hh ho; have HR9 := Lib.hid hh.out; have HOs := Lib.hid ho; clear hh ho))
        go_roundw
        case rel => exact ⟨i + 1, R, F0, m0, F1, m1, by go_num, by omega, HWY, HR9, Lib.hid (HP8.out.only HOs.out (fun k hk => .inl (by simp at hk; omega))), Lib.hid (HW8.out.then HOs.out (fun k hk => .inr (by simp at hk; subst hk; have := HVB.out; omega)))⟩
        case measure => simp [intOf]; omega
      · obtain ⟨hge, hor⟩ := HST.out.ot ht
        have HGE := Lib.hid hge
        rcases hor with hsm | hap
        · have HTK := Lib.hid (show R.l.take j.l.length = j.l by rw [hsm, List.take_length])
          have HNR := Lib.hid (show j.l.length ≤ R.l.length by rw [hsm]; omega)
          have HN1 := Lib.hid (show R.l.length ≤ j.l.length + 1 by rw [hsm]; omega)
          have HN2 := Lib.hid (show ¬ j.l.length < R.l.length by rw [hsm]; omega)
          by_cases hx2 : x.f0 = 2
          · have HE0 : Hid (er ≠ 0) := Lib.hid (fun h => by have := HST.out.ad hx2 h; rw [hsm] at this; simpa using congrArg List.length this)
            clear hge hsm ht
            as_aux_lemma =>
            have HC7 := Lib.hid (show CellsAt W7 (ad.add (i * 8)) [.int .i64 x.f0, .int .i64 x.f1, .int .i64 x.f2.f0, .int .i64 x.f2.f1, .int .i64 x.f2.f2, .string x.f2.f3, .int .i64 x.f2.f4, .int .i64 x.f2.f5] from HC.out.only HW7.out (by simp))
            have HEN := Lib.hid (show ∀ W, Only [] W7 W → Calls Tryd.prog 13 #[.slice (cutN F0 0 m0 6) (j.l.length - 0) (m0 - 0), .slice E0 j.l.length k0] W fun e w' => e = .returned (.bool true) ∧ Below W.heap.size W w' from fun W h => by
              have p := (HP7.out.only h (by simp)).rl
              have q := (HO7.out.only h (by simp)).rl
              have p1 := Kd.C_take (k := k27) (m := j.l.length) p.2 HNR.out
              rw [HTK.out] at p1
              have p2 := Kd.C_drop (k := k27) (c := m0) (m := 0) p1 (by omega) (by have := p.1; have := HNR.out; omega)
              refine (malthouseref18_Entries.calls 1000 (cutN F0 0 m0 6) m0 j.l E0 k0 j.l true W p2 (by have := p.1; have := HNR.out; omega) q.2 q.1 (entries_refl _ _ (by have := HLN.out; omega) (by have := HLN.out; omega))).mono ?_
              rintro e w' ⟨he, hd⟩
              exact ⟨he, hd.below⟩)
            rw [hx2] at HC7
            have c0 : W7.cell? (ad.add (i * 8)) = some (.int .i64 2) := by have := HC7.out 0 _ rfl; rwa [Go.Deep.add_add, Nat.add_zero] at this
            have a0 : W7.cell? ⟨kb, 0, none⟩ = some (.slice F0 R.l.length m0) := (cell_of_row W7 kb 0 _ _ _ HK7.out).trans rfl
            have a2 : W7.cell? ⟨kb, 2, none⟩ = some (.int .i64 j.g) := (cell_of_row W7 kb 2 _ _ _ HK7.out).trans (by rw [← HGE.out]; rfl)
            have b0 : W7.cell? ⟨vb, 0, none⟩ = some (.slice E0 j.l.length k0) := (cell_of_row W7 vb 0 _ _ _ HR7.out).trans rfl
            have b2 : W7.cell? ⟨vb, 2, none⟩ = some (.int .i64 j.g) := (cell_of_row W7 vb 2 _ _ _ HR7.out).trans rfl
            have q1 : ¬ (R.l.length : Int) < j.l.length := by have := HNR.out; omega
            have q2 : ¬ (j.l.length : Int) + 1 < R.l.length := by have := HN1.out; omega
            have q3 : j.l.length ≤ 120 := HLN.out
            go_wp2_with fail
            clear c0 a0 a2 b0 b2 q1 q2
            refine L.grow_start [] 10 ((0, true, false) :: (1, true, false) :: (2, true, false) :: (3, true, false) :: (4, true, false) :: (5, true, false) :: (6, true, true) :: (7, true, true) :: (8, false, true) :: (9, true, true) :: []) (by kernel_rfl) (([], [7], some 114) :: ([0], [114], some 115) :: ([], [5], some 116) :: ([2], [116], some 117) :: ([3], [117], some 118) :: ([1, 4], [115, 118], some 119) :: ([], [5], some 120) :: ([6], [120], some 121) :: ([5, 7], [119, 121], some 122) :: ([8, 8, 0, 1, 2, 3, 4, 5, 6, 7, 8], [122], some 10) :: []) (by kernel_rfl) (by kernel_rfl) (n := 10) rfl (by kernel_rfl) (fun _ _ _ _ _ h => h) (fun wg hog => ?_)
            have HS8 := Lib.hid hog
            clear hog
            refine L.growe_start (N := 170) (by rfl) ?_
            have zkb0 : ∀ w', Only [] wg w' → w'.cell? ⟨kb, 0, none⟩ = some (.slice F0 R.l.length m0) := fun w' h => (cell_of_row w' kb 0 _ _ _ ((HS8.out.trans h).heap HK7.out (by simp))).trans rfl
            have zvb0 : ∀ w', Only [] wg w' → w'.cell? ⟨vb, 0, none⟩ = some (.slice E0 j.l.length k0) := fun w' h => (cell_of_row w' vb 0 _ _ _ ((HS8.out.trans h).heap HR7.out (by simp))).trans rfl
            iterate 5 (first | (refine L.ge_off rfl rfl rfl (by rfl) ?_) | (refine L.ge_move rfl rfl rfl (by rfl) rfl (by simp [L.evE, L.lk, Act.eval]; rfl) ?_) | (refine L.ge_pick rfl rfl rfl (by rfl) rfl (by simp [L.evE, L.lk, Act.eval]; rfl) (by simp [L.evE, L.lk, Act.eval]; rfl) ?_) | (refine L.ge_val rfl rfl rfl (by rfl) (by intro w' hw'; simp [execOp, L.evE, L.lk, Act.eval]; go_simp; rfl) ?_))
            refine ge_cutN rfl rfl rfl (by rfl) _ _ _ _ _ rfl 27 6 Tryd.underlying22 (by kernel_rfl) F0 R.l.length m0 (by simp [L.evE, L.lk, Act.eval]) 0 j.l.length m0 (fun w' => by simp only [L.evE, L.lk, Act.eval, Option.map_some, Option.map_none]; exact bounds_h w' _ _ _ _ j.l.length rfl (by have := HNR.out; have := HP7.out.rl.1; omega)) ?_
            iterate 2 (first | (refine L.ge_off rfl rfl rfl (by rfl) ?_) | (refine L.ge_move rfl rfl rfl (by rfl) rfl (by simp [L.evE, L.lk, Act.eval]; rfl) ?_) | (refine L.ge_pick rfl rfl rfl (by rfl) rfl (by simp [L.evE, L.lk, Act.eval]; rfl) (by simp [L.evE, L.lk, Act.eval]; rfl) ?_) | (refine L.ge_val rfl rfl rfl (by rfl) (by intro w' hw'; simp [execOp, L.evE, L.lk, Act.eval]; go_simp; rfl) ?_))
            refine L.ge_call rfl rfl rfl (by rfl) rfl (by simp [L.evE, L.lk, Act.eval]; rfl) (by go_simp) ?_
            refine (HEN.out _ HS8.out).mono ?_
            rintro e W9 ⟨rfl, hb9⟩
            refine ⟨_, rfl, Only.of_below hb9, ?_⟩
            have HS9 := Lib.hid (HS8.out.trans (Only.of_below hb9))
            clear hb9
            (first | (refine L.ge_off rfl rfl rfl (by rfl) ?_) | (refine L.ge_move rfl rfl rfl (by rfl) rfl (by simp [L.evE, L.lk, Act.eval]; rfl) ?_) | (refine L.ge_pick rfl rfl rfl (by rfl) rfl (by simp [L.evE, L.lk, Act.eval]; rfl) (by simp [L.evE, L.lk, Act.eval]; rfl) ?_) | (refine L.ge_val rfl rfl rfl (by rfl) (by intro w' hw'; simp [execOp, L.evE, L.lk, Act.eval]; go_simp; rfl) ?_))
            refine L.ge_done ?_
            simp only [L.puts, Act.put, goInt, List.setIfInBounds_toArray, List.set_cons_zero, List.set_cons_succ]
            clear zkb0 zvb0 HEN
            go_wp2_with fail
            refine L.grow_start [] 46 ((0, true, true) :: (1, true, true) :: (2, true, true) :: (3, true, false) :: (4, true, false) :: (5, true, false) :: (6, true, true) :: (7, true, true) :: (8, true, true) :: (9, true, true) :: (10, true, true) :: (11, true, false) :: (12, true, false) :: (13, true, false) :: (14, true, false) :: (15, true, false) :: (16, true, false) :: (17, true, false) :: (18, true, false) :: (19, true, true) :: (20, true, true) :: (21, true, true) :: (22, true, true) :: (23, true, true) :: (24, true, true) :: (25, true, true) :: (26, true, true) :: (27, true, false) :: (28, true, true) :: (29, true, true) :: (30, true, true) :: (31, true, true) :: (32, true, true) :: (33, true, true) :: (34, true, false) :: (35, true, false) :: (36, true, false) :: (37, true, false) :: (38, true, false) :: (39, true, false) :: (40, true, false) :: (41, true, true) :: (42, true, true) :: (43, true, true) :: (44, true, true) :: (45, true, true) :: []) (by kernel_rfl) (([], [10], some 123) :: ([0], [123], some 124) :: ([1], [124], some 125) :: ([2], [7, 125], some 126) :: ([3, 2], [126, 125], some 127) :: ([4, 2], [127, 125], some 128) :: ([2], [5, 125], some 129) :: ([6, 2], [129, 125], some 130) :: ([7, 2], [130, 125], some 131) :: ([5, 8, 2], [128, 131, 125], some 132) :: ([9, 2, 2], [132, 125], some 133) :: ([10], [7, 133], some 134) :: ([11, 10], [134, 133], some 135) :: ([10], [5, 133], some 136) :: ([13, 10], [136, 133], some 137) :: ([14, 10], [137, 133], some 138) :: ([12, 15, 10], [135, 138, 133], some 139) :: ([16, 10], [139, 133], some 140) :: ([10], [0, 133], some 141) :: ([10], [6, 133], some 142) :: ([18, 19, 10], [141, 142, 133], some 143) :: ([20, 10], [143, 133], some 144) :: ([21, 10], [144, 133], some 145) :: ([17, 22, 10], [140, 145, 133], some 146) :: ([10, 23, 2], [133, 146, 125], some 147) :: ([2, 24], [125, 147], some 148) :: ([25, 10], [148], some 149) :: ([26], [0, 149], some 150) :: ([26], [6, 149], some 151) :: ([27, 28, 26], [150, 151, 149], some 152) :: ([29, 26], [152, 149], some 153) :: ([30, 26], [153, 149], some 154) :: ([31, 26], [154, 149], some 155) :: ([32, 26, 26], [155, 149], some 156) :: ([33], [7, 156], some 157) :: ([34, 33], [157, 156], some 158) :: ([35, 33], [158, 156], some 159) :: ([33], [5, 156], some 160) :: ([37, 33], [160, 156], some 161) :: ([38, 33], [161, 156], some 162) :: ([36, 39, 33], [159, 162, 156], some 163) :: ([33], [8, 156], some 164) :: ([41, 33], [164, 156], some 165) :: ([40, 42, 33], [163, 165, 156], some 166) :: ([33, 43, 26], [156, 166, 149], some 167) :: ([26, 44], [149, 167], some 168) :: []) (by kernel_rfl) (by kernel_rfl) (n := 46) rfl (by kernel_rfl) (fun _ _ _ _ _ h => h) (fun wh hoh => ?_)
            replace HS9 := Lib.hid (HS9.out.trans hoh)
            clear hoh
            refine L.growe_start (N := 170) (by rfl) ?_
            have zkb0 : ∀ w', Only [] wh w' → w'.cell? ⟨kb, 0, none⟩ = some (.slice F0 R.l.length m0) := fun w' h => (cell_of_row w' kb 0 _ _ _ ((HS9.out.trans h).heap HK7.out (by simp))).trans rfl
            have zvb0 : ∀ w', Only [] wh w' → w'.cell? ⟨vb, 0, none⟩ = some (.slice E0 j.l.length k0) := fun w' h => (cell_of_row w' vb 0 _ _ _ ((HS9.out.trans h).heap HR7.out (by simp))).trans rfl
            have zx0 : ∀ w', Only [] wh w' → w'.cell? (ad.add (i * 8)) = some (.int .i64 2) := fun w' h => by have := (HC7.out.only (HS9.out.trans h) (by simp)) 0 _ rfl; rwa [Go.Deep.add_add, Nat.add_zero] at this
            have q5 : (er == 0) = false := by rw [beq_eq_false_iff_ne]; exact HE0.out
            have q6 : ¬ (j.l.length : Int) < R.l.length := by have := HN2.out; omega
            iterate 46 (first | (refine L.ge_off rfl rfl rfl (by rfl) ?_) | (refine L.ge_move rfl rfl rfl (by rfl) rfl (by simp [L.evE, L.lk, Act.eval]; rfl) ?_) | (refine L.ge_pick rfl rfl rfl (by rfl) rfl (by simp [L.evE, L.lk, Act.eval]; rfl) (by simp [L.evE, L.lk, Act.eval]; rfl) ?_) | (refine L.ge_val rfl rfl rfl (by rfl) (by intro w' hw'; simp [execOp, L.evE, L.lk, Act.eval]; go_simp; rfl) ?_))
            refine L.ge_done ?_
            simp only [L.puts, Act.put, goInt, List.setIfInBounds_toArray, List.set_cons_zero, List.set_cons_succ]
            have HK8 := Lib.hid (HS9.out.heap HK7.out (by simp))
            have HR8 := Lib.hid (HS9.out.heap HR7.out (by simp))
            have HP8 := Lib.hid (HP7.out.only HS9.out (by simp))
            have HW8 := Lib.hid (HW7.out.trans HS9.out)
            clear zkb0 zvb0 zx0 HS8 HS9
            go_wp2_with (first
              | (with_reducible refine wpList_load_at rfl 25 (.tmp 7) rfl ⟨kb, 0, none⟩ rfl _ _ (cellsAt_row HK8.out) Tryd.underlying25 rfl (by kernel_rfl) ?_)
              | (with_reducible refine wpList_store_new rfl 25 (.tmp 5) (.tmp 169) rfl vb #[.slice F0 R.l.length m0, .slice F1 R.q.length m1, .int .i64 R.g] rfl rfl 25 _ HR8.out (size3_25 _ _ _) rfl (by simp [Value.oneCell']) ?_; intro W9 hh ho; have HR9 := Lib.hid hh.out; have HOs := Lib.hid ho; clear hh ho))
            go_roundw
            case rel => exact ⟨i + 1, R, F0, m0, F1, m1, by go_num, by omega, HWY, HR9, Lib.hid (HP8.out.only HOs.out (fun k hk => .inl (by simp at hk; omega))), Lib.hid (HW8.out.then HOs.out (fun k hk => .inr (by simp at hk; subst hk; have := HVB.out; omega)))⟩
            case measure => simp [intOf]; omega
          · have HX2 := Lib.hid hx2
            by_cases hx4 : x.f0 = 4
            · have HE0 : Hid (er ≠ 0) := Lib.hid (fun h => ht ⟨hx4, h⟩)
              clear hge hsm ht hx2
              as_aux_lemma =>
              have HC7 := Lib.hid (show CellsAt W7 (ad.add (i * 8)) [.int .i64 x.f0, .int .i64 x.f1, .int .i64 x.f2.f0, .int .i64 x.f2.f1, .int .i64 x.f2.f2, .string x.f2.f3, .int .i64 x.f2.f4, .int .i64 x.f2.f5] from HC.out.only HW7.out (by simp))
              have HEN := Lib.hid (show ∀ W, Only [] W7 W → Calls Tryd.prog 13 #[.slice (cutN F0 0 m0 6) (j.l.length - 0) (m0 - 0), .slice E0 j.l.length k0] W fun e w' => e = .returned (.bool true) ∧ Below W.heap.size W w' from fun W h => by
                have p := (HP7.out.only h (by simp)).rl
                have q := (HO7.out.only h (by simp)).rl
                have p1 := Kd.C_take (k := k27) (m := j.l.length) p.2 HNR.out
                rw [HTK.out] at p1
                have p2 := Kd.C_drop (k := k27) (c := m0) (m := 0) p1 (by omega) (by have := p.1; have := HNR.out; omega)
                refine (malthouseref18_Entries.calls 1000 (cutN F0 0 m0 6) m0 j.l E0 k0 j.l true W p2 (by have := p.1; have := HNR.out; omega) q.2 q.1 (entries_refl _ _ (by have := HLN.out; omega) (by have := HLN.out; omega))).mono ?_
                rintro e w' ⟨he, hd⟩
                exact ⟨he, hd.below⟩)
              rw [hx4] at HC7
              have c0 : W7.cell? (ad.add (i * 8)) = some (.int .i64 4) := by have := HC7.out 0 _ rfl; rwa [Go.Deep.add_add, Nat.add_zero] at this
              have a0 : W7.cell? ⟨kb, 0, none⟩ = some (.slice F0 R.l.length m0) := (cell_of_row W7 kb 0 _ _ _ HK7.out).trans rfl
              have a2 : W7.cell? ⟨kb, 2, none⟩ = some (.int .i64 j.g) := (cell_of_row W7 kb 2 _ _ _ HK7.out).trans (by rw [← HGE.out]; rfl)
              have b0 : W7.cell? ⟨vb, 0, none⟩ = some (.slice E0 j.l.length k0) := (cell_of_row W7 vb 0 _ _ _ HR7.out).trans rfl
              have b2 : W7.cell? ⟨vb, 2, none⟩ = some (.int .i64 j.g) := (cell_of_row W7 vb 2 _ _ _ HR7.out).trans rfl
              have q1 : ¬ (R.l.length : Int) < j.l.length := by have := HNR.out; omega
              have q2 : ¬ (j.l.length : Int) + 1 < R.l.length := by have := HN1.out; omega
              have q3 : j.l.length ≤ 120 := HLN.out
              have q4 : (er == 0) = false := by rw [beq_eq_false_iff_ne]; exact HE0.out
              go_wp2_with fail
              clear c0 a0 a2 b0 b2 q1 q2 q4
              refine L.grow_start [] 10 ((0, true, false) :: (1, true, false) :: (2, true, false) :: (3, true, false) :: (4, true, false) :: (5, true, false) :: (6, true, true) :: (7, true, true) :: (8, false, true) :: (9, true, true) :: []) (by kernel_rfl) (([], [7], some 114) :: ([0], [114], some 115) :: ([], [5], some 116) :: ([2], [116], some 117) :: ([3], [117], some 118) :: ([1, 4], [115, 118], some 119) :: ([], [5], some 120) :: ([6], [120], some 121) :: ([5, 7], [119, 121], some 122) :: ([8, 8, 0, 1, 2, 3, 4, 5, 6, 7, 8], [122], some 10) :: []) (by kernel_rfl) (by kernel_rfl) (n := 10) rfl (by kernel_rfl) (fun _ _ _ _ _ h => h) (fun wg hog => ?_)
              have HS8 := Lib.hid hog
              clear hog
              refine L.growe_start (N := 170) (by rfl) ?_
              have zkb0 : ∀ w', Only [] wg w' → w'.cell? ⟨kb, 0, none⟩ = some (.slice F0 R.l.length m0) := fun w' h => (cell_of_row w' kb 0 _ _ _ ((HS8.out.trans h).heap HK7.out (by simp))).trans rfl
              have zvb0 : ∀ w', Only [] wg w' → w'.cell? ⟨vb, 0, none⟩ = some (.slice E0 j.l.length k0) := fun w' h => (cell_of_row w' vb 0 _ _ _ ((HS8.out.trans h).heap HR7.out (by simp))).trans rfl
              iterate 5 (first | (refine L.ge_off rfl rfl rfl (by rfl) ?_) | (refine L.ge_move rfl rfl rfl (by rfl) rfl (by simp [L.evE, L.lk, Act.eval]; rfl) ?_) | (refine L.ge_pick rfl rfl rfl (by rfl) rfl (by simp [L.evE, L.lk, Act.eval]; rfl) (by simp [L.evE, L.lk, Act.eval]; rfl) ?_) | (refine L.ge_val rfl rfl rfl (by rfl) (by intro w' hw'; simp [execOp, L.evE, L.lk, Act.eval]; go_simp; rfl) ?_))
              refine ge_cutN rfl rfl rfl (by rfl) _ _ _ _ _ rfl 27 6 Tryd.underlying22 (by kernel_rfl) F0 R.l.length m0 (by simp [L.evE, L.lk, Act.eval]) 0 j.l.length m0 (fun w' => by simp only [L.evE, L.lk, Act.eval, Option.map_some, Option.map_none]; exact bounds_h w' _ _ _ _ j.l.length rfl (by have := HNR.out; have := HP7.out.rl.1; omega)) ?_
              iterate 2 (first | (refine L.ge_off rfl rfl rfl (by rfl) ?_) | (refine L.ge_move rfl rfl rfl (by rfl) rfl (by simp [L.evE, L.lk, Act.eval]; rfl) ?_) | (refine L.ge_pick rfl rfl rfl (by rfl) rfl (by simp [L.evE, L.lk, Act.eval]; rfl) (by simp [L.evE, L.lk, Act.eval]; rfl) ?_) | (refine L.ge_val rfl rfl rfl (by rfl) (by intro w' hw'; simp [execOp, L.evE, L.lk, Act.eval]; go_simp; rfl) ?_))
              refine L.ge_call rfl rfl rfl (by rfl) rfl (by simp [L.evE, L.lk, Act.eval]; rfl) (by go_simp) ?_
              refine (HEN.out _ HS8.out).mono ?_
              rintro e W9 ⟨rfl, hb9⟩
              refine ⟨_, rfl, Only.of_below hb9, ?_⟩
              have HS9 := Lib.hid (HS8.out.trans (Only.of_below hb9))
              clear hb9
              (first | (refine L.ge_off rfl rfl rfl (by rfl) ?_) | (refine L.ge_move rfl rfl rfl (by rfl) rfl (by simp [L.evE, L.lk, Act.eval]; rfl) ?_) | (refine L.ge_pick rfl rfl rfl (by rfl) rfl (by simp [L.evE, L.lk, Act.eval]; rfl) (by simp [L.evE, L.lk, Act.eval]; rfl) ?_) | (refine L.ge_val rfl rfl rfl (by rfl) (by intro w' hw'; simp [execOp, L.evE, L.lk, Act.eval]; go_simp; rfl) ?_))
              refine L.ge_done ?_
              simp only [L.puts, Act.put, goInt, List.setIfInBounds_toArray, List.set_cons_zero, List.set_cons_succ]
              clear zkb0 zvb0 HEN
              go_wp2_with fail
              refine L.grow_start [] 46 ((0, true, true) :: (1, true, true) :: (2, true, true) :: (3, true, false) :: (4, true, false) :: (5, true, false) :: (6, true, true) :: (7, true, true) :: (8, true, true) :: (9, true, true) :: (10, true, true) :: (11, true, false) :: (12, true, false) :: (13, true, false) :: (14, true, false) :: (15, true, false) :: (16, true, false) :: (17, true, false) :: (18, true, false) :: (19, true, true) :: (20, true, true) :: (21, true, true) :: (22, true, true) :: (23, true, true) :: (24, true, true) :: (25, true, true) :: (26, true, true) :: (27, true, false) :: (28, true, true) :: (29, true, true) :: (30, true, true) :: (31, true, true) :: (32, true, true) :: (33, true, true) :: (34, true, false) :: (35, true, false) :: (36, true, false) :: (37, true, false) :: (38, true, false) :: (39, true, false) :: (40, true, false) :: (41, true, true) :: (42, true, true) :: (43, true, true) :: (44, true, true) :: (45, true, true) :: []) (by kernel_rfl) (([], [10], some 123) :: ([0], [123], some 124) :: ([1], [124], some 125) :: ([2], [7, 125], some 126) :: ([3, 2], [126, 125], some 127) :: ([4, 2], [127, 125], some 128) :: ([2], [5, 125], some 129) :: ([6, 2], [129, 125], some 130) :: ([7, 2], [130, 125], some 131) :: ([5, 8, 2], [128, 131, 125], some 132) :: ([9, 2, 2], [132, 125], some 133) :: ([10], [7, 133], some 134) :: ([11, 10], [134, 133], some 135) :: ([10], [5, 133], some 136) :: ([13, 10], [136, 133], some 137) :: ([14, 10], [137, 133], some 138) :: ([12, 15, 10], [135, 138, 133], some 139) :: ([16, 10], [139, 133], some 140) :: ([10], [0, 133], some 141) :: ([10], [6, 133], some 142) :: ([18, 19, 10], [141, 142, 133], some 143) :: ([20, 10], [143, 133], some 144) :: ([21, 10], [144, 133], some 145) :: ([17, 22, 10], [140, 145, 133], some 146) :: ([10, 23, 2], [133, 146, 125], some 147) :: ([2, 24], [125, 147], some 148) :: ([25, 10], [148], some 149) :: ([26], [0, 149], some 150) :: ([26], [6, 149], some 151) :: ([27, 28, 26], [150, 151, 149], some 152) :: ([29, 26], [152, 149], some 153) :: ([30, 26], [153, 149], some 154) :: ([31, 26], [154, 149], some 155) :: ([32, 26, 26], [155, 149], some 156) :: ([33], [7, 156], some 157) :: ([34, 33], [157, 156], some 158) :: ([35, 33], [158, 156], some 159) :: ([33], [5, 156], some 160) :: ([37, 33], [160, 156], some 161) :: ([38, 33], [161, 156], some 162) :: ([36, 39, 33], [159, 162, 156], some 163) :: ([33], [8, 156], some 164) :: ([41, 33], [164, 156], some 165) :: ([40, 42, 33], [163, 165, 156], some 166) :: ([33, 43, 26], [156, 166, 149], some 167) :: ([26, 44], [149, 167], some 168) :: []) (by kernel_rfl) (by kernel_rfl) (n := 46) rfl (by kernel_rfl) (fun _ _ _ _ _ h => h) (fun wh hoh => ?_)
              replace HS9 := Lib.hid (HS9.out.trans hoh)
              clear hoh
              refine L.growe_start (N := 170) (by rfl) ?_
              have zkb0 : ∀ w', Only [] wh w' → w'.cell? ⟨kb, 0, none⟩ = some (.slice F0 R.l.length m0) := fun w' h => (cell_of_row w' kb 0 _ _ _ ((HS9.out.trans h).heap HK7.out (by simp))).trans rfl
              have zvb0 : ∀ w', Only [] wh w' → w'.cell? ⟨vb, 0, none⟩ = some (.slice E0 j.l.length k0) := fun w' h => (cell_of_row w' vb 0 _ _ _ ((HS9.out.trans h).heap HR7.out (by simp))).trans rfl
              have zx0 : ∀ w', Only [] wh w' → w'.cell? (ad.add (i * 8)) = some (.int .i64 4) := fun w' h => by have := (HC7.out.only (HS9.out.trans h) (by simp)) 0 _ rfl; rwa [Go.Deep.add_add, Nat.add_zero] at this
              have q6 : ¬ (j.l.length : Int) < R.l.length := by have := HN2.out; omega
              iterate 46 (first | (refine L.ge_off rfl rfl rfl (by rfl) ?_) | (refine L.ge_move rfl rfl rfl (by rfl) rfl (by simp [L.evE, L.lk, Act.eval]; rfl) ?_) | (refine L.ge_pick rfl rfl rfl (by rfl) rfl (by simp [L.evE, L.lk, Act.eval]; rfl) (by simp [L.evE, L.lk, Act.eval]; rfl) ?_) | (refine L.ge_val rfl rfl rfl (by rfl) (by intro w' hw'; simp [execOp, L.evE, L.lk, Act.eval]; go_simp; rfl) ?_))
              refine L.ge_done ?_
              simp only [L.puts, Act.put, goInt, List.setIfInBounds_toArray, List.set_cons_zero, List.set_cons_succ]
              have HK8 := Lib.hid (HS9.out.heap HK7.out (by simp))
              have HR8 := Lib.hid (HS9.out.heap HR7.out (by simp))
              have HP8 := Lib.hid (HP7.out.only HS9.out (by simp))
              have HW8 := Lib.hid (HW7.out.trans HS9.out)
              clear zkb0 zvb0 zx0 HS8 HS9
              go_wp2_with (first
                | (with_reducible refine wpList_load_at rfl 25 (.tmp 7) rfl ⟨kb, 0, none⟩ rfl _ _ (cellsAt_row HK8.out) Tryd.underlying25 rfl (by kernel_rfl) ?_)
                | (with_reducible refine wpList_store_new rfl 25 (.tmp 5) (.tmp 169) rfl vb #[.slice F0 R.l.length m0, .slice F1 R.q.length m1, .int .i64 R.g] rfl rfl 25 _ HR8.out (size3_25 _ _ _) rfl (by simp [Value.oneCell']) ?_; intro W9 hh ho; have HR9 := Lib.hid hh.out; have HOs := Lib.hid ho; clear hh ho))
              go_roundw
              case rel => exact ⟨i + 1, R, F0, m0, F1, m1, by go_num, by omega, HWY, HR9, Lib.hid (HP8.out.only HOs.out (fun k hk => .inl (by simp at hk; omega))), Lib.hid (HW8.out.then HOs.out (fun k hk => .inr (by simp at hk; subst hk; have := HVB.out; omega)))⟩
              case measure => simp [intOf]; omega
            · have HX4 := Lib.hid hx4
              clear hge hsm ht hx2 hx4
              as_aux_lemma =>
              have HC7 := Lib.hid (show CellsAt W7 (ad.add (i * 8)) [.int .i64 x.f0, .int .i64 x.f1, .int .i64 x.f2.f0, .int .i64 x.f2.f1, .int .i64 x.f2.f2, .string x.f2.f3, .int .i64 x.f2.f4, .int .i64 x.f2.f5] from HC.out.only HW7.out (by simp))
              have HEN := Lib.hid (show ∀ W, Only [] W7 W → Calls Tryd.prog 13 #[.slice (cutN F0 0 m0 6) (j.l.length - 0) (m0 - 0), .slice E0 j.l.length k0] W fun e w' => e = .returned (.bool true) ∧ Below W.heap.size W w' from fun W h => by
                have p := (HP7.out.only h (by simp)).rl
                have q := (HO7.out.only h (by simp)).rl
                have p1 := Kd.C_take (k := k27) (m := j.l.length) p.2 HNR.out
                rw [HTK.out] at p1
                have p2 := Kd.C_drop (k := k27) (c := m0) (m := 0) p1 (by omega) (by have := p.1; have := HNR.out; omega)
                refine (malthouseref18_Entries.calls 1000 (cutN F0 0 m0 6) m0 j.l E0 k0 j.l true W p2 (by have := p.1; have := HNR.out; omega) q.2 q.1 (entries_refl _ _ (by have := HLN.out; omega) (by have := HLN.out; omega))).mono ?_
                rintro e w' ⟨he, hd⟩
                exact ⟨he, hd.below⟩)
              have c0 : W7.cell? (ad.add (i * 8)) = some (.int .i64 x.f0) := by have := HC7.out 0 _ rfl; rwa [Go.Deep.add_add, Nat.add_zero] at this
              have a0 : W7.cell? ⟨kb, 0, none⟩ = some (.slice F0 R.l.length m0) := (cell_of_row W7 kb 0 _ _ _ HK7.out).trans rfl
              have a2 : W7.cell? ⟨kb, 2, none⟩ = some (.int .i64 j.g) := (cell_of_row W7 kb 2 _ _ _ HK7.out).trans (by rw [← HGE.out]; rfl)
              have b0 : W7.cell? ⟨vb, 0, none⟩ = some (.slice E0 j.l.length k0) := (cell_of_row W7 vb 0 _ _ _ HR7.out).trans rfl
              have b2 : W7.cell? ⟨vb, 2, none⟩ = some (.int .i64 j.g) := (cell_of_row W7 vb 2 _ _ _ HR7.out).trans rfl
              have q1 : ¬ (R.l.length : Int) < j.l.length := by have := HNR.out; omega
              have q2 : ¬ (j.l.length : Int) + 1 < R.l.length := by have := HN1.out; omega
              have q3 : j.l.length ≤ 120 := HLN.out
              have q4 : (x.f0 == 4) = false := by rw [beq_eq_false_iff_ne]; exact HX4.out
              go_wp2_with fail
              clear c0 a0 a2 b0 b2 q1 q2 q4
              refine L.grow_start [] 10 ((0, true, false) :: (1, true, false) :: (2, true, false) :: (3, true, false) :: (4, true, false) :: (5, true, false) :: (6, true, true) :: (7, true, true) :: (8, false, true) :: (9, true, true) :: []) (by kernel_rfl) (([], [7], some 114) :: ([0], [114], some 115) :: ([], [5], some 116) :: ([2], [116], some 117) :: ([3], [117], some 118) :: ([1, 4], [115, 118], some 119) :: ([], [5], some 120) :: ([6], [120], some 121) :: ([5, 7], [119, 121], some 122) :: ([8, 8, 0, 1, 2, 3, 4, 5, 6, 7, 8], [122], some 10) :: []) (by kernel_rfl) (by kernel_rfl) (n := 10) rfl (by kernel_rfl) (fun _ _ _ _ _ h => h) (fun wg hog => ?_)
              have HS8 := Lib.hid hog
              clear hog
              refine L.growe_start (N := 170) (by rfl) ?_
              have zkb0 : ∀ w', Only [] wg w' → w'.cell? ⟨kb, 0, none⟩ = some (.slice F0 R.l.length m0) := fun w' h => (cell_of_row w' kb 0 _ _ _ ((HS8.out.trans h).heap HK7.out (by simp))).trans rfl
              have zvb0 : ∀ w', Only [] wg w' → w'.cell? ⟨vb, 0, none⟩ = some (.slice E0 j.l.length k0) := fun w' h => (cell_of_row w' vb 0 _ _ _ ((HS8.out.trans h).heap HR7.out (by simp))).trans rfl
              iterate 5 (first | (refine L.ge_off rfl rfl rfl (by rfl) ?_) | (refine L.ge_move rfl rfl rfl (by rfl) rfl (by simp [L.evE, L.lk, Act.eval]; rfl) ?_) | (refine L.ge_pick rfl rfl rfl (by rfl) rfl (by simp [L.evE, L.lk, Act.eval]; rfl) (by simp [L.evE, L.lk, Act.eval]; rfl) ?_) | (refine L.ge_val rfl rfl rfl (by rfl) (by intro w' hw'; simp [execOp, L.evE, L.lk, Act.eval]; go_simp; rfl) ?_))
              refine ge_cutN rfl rfl rfl (by rfl) _ _ _ _ _ rfl 27 6 Tryd.underlying22 (by kernel_rfl) F0 R.l.length m0 (by simp [L.evE, L.lk, Act.eval]) 0 j.l.length m0 (fun w' => by simp only [L.evE, L.lk, Act.eval, Option.map_some, Option.map_none]; exact bounds_h w' _ _ _ _ j.l.length rfl (by have := HNR.out; have := HP7.out.rl.1; omega)) ?_
              iterate 2 (first | (refine L.ge_off rfl rfl rfl (by rfl) ?_) | (refine L.ge_move rfl rfl rfl (by rfl) rfl (by simp [L.evE, L.lk, Act.eval]; rfl) ?_) | (refine L.ge_pick rfl rfl rfl (by rfl) rfl (by simp [L.evE, L.lk, Act.eval]; rfl) (by simp [L.evE, L.lk, Act.eval]; rfl) ?_) | (refine L.ge_val rfl rfl rfl (by rfl) (by intro w' hw'; simp [execOp, L.evE, L.lk, Act.eval]; go_simp; rfl) ?_))
              refine L.ge_call rfl rfl rfl (by rfl) rfl (by simp [L.evE, L.lk, Act.eval]; rfl) (by go_simp) ?_
              refine (HEN.out _ HS8.out).mono ?_
              rintro e W9 ⟨rfl, hb9⟩
              refine ⟨_, rfl, Only.of_below hb9, ?_⟩
              have HS9 := Lib.hid (HS8.out.trans (Only.of_below hb9))
              clear hb9
              (first | (refine L.ge_off rfl rfl rfl (by rfl) ?_) | (refine L.ge_move rfl rfl rfl (by rfl) rfl (by simp [L.evE, L.lk, Act.eval]; rfl) ?_) | (refine L.ge_pick rfl rfl rfl (by rfl) rfl (by simp [L.evE, L.lk, Act.eval]; rfl) (by simp [L.evE, L.lk, Act.eval]; rfl) ?_) | (refine L.ge_val rfl rfl rfl (by rfl) (by intro w' hw'; simp [execOp, L.evE, L.lk, Act.eval]; go_simp; rfl) ?_))
              refine L.ge_done ?_
              simp only [L.puts, Act.put, goInt, List.setIfInBounds_toArray, List.set_cons_zero, List.set_cons_succ]
              clear zkb0 zvb0 HEN
              go_wp2_with fail
              refine L.grow_start [] 46 ((0, true, true) :: (1, true, true) :: (2, true, true) :: (3, true, false) :: (4, true, false) :: (5, true, false) :: (6, true, true) :: (7, true, true) :: (8, true, true) :: (9, true, true) :: (10, true, true) :: (11, true, false) :: (12, true, false) :: (13, true, false) :: (14, true, false) :: (15, true, false) :: (16, true, false) :: (17, true, false) :: (18, true, false) :: (19, true, true) :: (20, true, true) :: (21, true, true) :: (22, true, true) :: (23, true, true) :: (24, true, true) :: (25, true, true) :: (26, true, true) :: (27, true, false) :: (28, true, true) :: (29, true, true) :: (30, true, true) :: (31, true, true) :: (32, true, true) :: (33, true, true) :: (34, true, false) :: (35, true, false) :: (36, true, false) :: (37, true, false) :: (38, true, false) :: (39, true, false) :: (40, true, false) :: (41, true, true) :: (42, true, true) :: (43, true, true) :: (44, true, true) :: (45, true, true) :: []) (by kernel_rfl) (([], [10], some 123) :: ([0], [123], some 124) :: ([1], [124], some 125) :: ([2], [7, 125], some 126) :: ([3, 2], [126, 125], some 127) :: ([4, 2], [127, 125], some 128) :: ([2], [5, 125], some 129) :: ([6, 2], [129, 125], some 130) :: ([7, 2], [130, 125], some 131) :: ([5, 8, 2], [128, 131, 125], some 132) :: ([9, 2, 2], [132, 125], some 133) :: ([10], [7, 133], some 134) :: ([11, 10], [134, 133], some 135) :: ([10], [5, 133], some 136) :: ([13, 10], [136, 133], some 137) :: ([14, 10], [137, 133], some 138) :: ([12, 15, 10], [135, 138, 133], some 139) :: ([16, 10], [139, 133], some 140) :: ([10], [0, 133], some 141) :: ([10], [6, 133], some 142) :: ([18, 19, 10], [141, 142, 133], some 143) :: ([20, 10], [143, 133], some 144) :: ([21, 10], [144, 133], some 145) :: ([17, 22, 10], [140, 145, 133], some 146) :: ([10, 23, 2], [133, 146, 125], some 147) :: ([2, 24], [125, 147], some 148) :: ([25, 10], [148], some 149) :: ([26], [0, 149], some 150) :: ([26], [6, 149], some 151) :: ([27, 28, 26], [150, 151, 149], some 152) :: ([29, 26], [152, 149], some 153) :: ([30, 26], [153, 149], some 154) :: ([31, 26], [154, 149], some 155) :: ([32, 26, 26], [155, 149], some 156) :: ([33], [7, 156], some 157) :: ([34, 33], [157, 156], some 158) :: ([35, 33], [158, 156], some 159) :: ([33], [5, 156], some 160) :: ([37, 33], [160, 156], some 161) :: ([38, 33], [161, 156], some 162) :: ([36, 39, 33], [159, 162, 156], some 163) :: ([33], [8, 156], some 164) :: ([41, 33], [164, 156], some 165) :: ([40, 42, 33], [163, 165, 156], some 166) :: ([33, 43, 26], [156, 166, 149], some 167) :: ([26, 44], [149, 167], some 168) :: []) (by kernel_rfl) (by kernel_rfl) (n := 46) rfl (by kernel_rfl) (fun _ _ _ _ _ h => h) (fun wh hoh => ?_)
              replace HS9 := Lib.hid (HS9.out.trans hoh)
              clear hoh
              refine L.growe_start (N := 170) (by rfl) ?_
              have zkb0 : ∀ w', Only [] wh w' → w'.cell? ⟨kb, 0, none⟩ = some (.slice F0 R.l.length m0) := fun w' h => (cell_of_row w' kb 0 _ _ _ ((HS9.out.trans h).heap HK7.out (by simp))).trans rfl
              have zvb0 : ∀ w', Only [] wh w' → w'.cell? ⟨vb, 0, none⟩ = some (.slice E0 j.l.length k0) := fun w' h => (cell_of_row w' vb 0 _ _ _ ((HS9.out.trans h).heap HR7.out (by simp))).trans rfl
              have zx0 : ∀ w', Only [] wh w' → w'.cell? (ad.add (i * 8)) = some (.int .i64 x.f0) := fun w' h => by have := (HC7.out.only (HS9.out.trans h) (by simp)) 0 _ rfl; rwa [Go.Deep.add_add, Nat.add_zero] at this
              have q5 : (x.f0 == 2) = false := by rw [beq_eq_false_iff_ne]; exact HX2.out
              have q6 : ¬ (j.l.length : Int) < R.l.length := by have := HN2.out; omega
              iterate 46 (first | (refine L.ge_off rfl rfl rfl (by rfl) ?_) | (refine L.ge_move rfl rfl rfl (by rfl) rfl (by simp [L.evE, L.lk, Act.eval]; rfl) ?_) | (refine L.ge_pick rfl rfl rfl (by rfl) rfl (by simp [L.evE, L.lk, Act.eval]; rfl) (by simp [L.evE, L.lk, Act.eval]; rfl) ?_) | (refine L.ge_val rfl rfl rfl (by rfl) (by intro w' hw'; simp [execOp, L.evE, L.lk, Act.eval]; go_simp; rfl) ?_))
              refine L.ge_done ?_
              simp only [L.puts, Act.put, goInt, List.setIfInBounds_toArray, List.set_cons_zero, List.set_cons_succ]
              have HK8 := Lib.hid (HS9.out.heap HK7.out (by simp))
              have HR8 := Lib.hid (HS9.out.heap HR7.out (by simp))
              have HP8 := Lib.hid (HP7.out.only HS9.out (by simp))
              have HW8 := Lib.hid (HW7.out.trans HS9.out)
              clear zkb0 zvb0 zx0 HS8 HS9
              go_wp2_with (first
                | (with_reducible refine wpList_load_at rfl 25 (.tmp 7) rfl ⟨kb, 0, none⟩ rfl _ _ (cellsAt_row HK8.out) Tryd.underlying25 rfl (by kernel_rfl) ?_)
                | (with_reducible refine wpList_store_new rfl 25 (.tmp 5) (.tmp 169) rfl vb #[.slice F0 R.l.length m0, .slice F1 R.q.length m1, .int .i64 R.g] rfl rfl 25 _ HR8.out (size3_25 _ _ _) rfl (by simp [Value.oneCell']) ?_; intro W9 hh ho; have HR9 := Lib.hid hh.out; have HOs := Lib.hid ho; clear hh ho))
              go_roundw
              case rel => exact ⟨i + 1, R, F0, m0, F1, m1, by go_num, by omega, HWY, HR9, Lib.hid (HP8.out.only HOs.out (fun k hk => .inl (by simp at hk; omega))), Lib.hid (HW8.out.then HOs.out (fun k hk => .inr (by simp at hk; subst hk; have := HVB.out; omega)))⟩
              case measure => simp [intOf]; omega
        · have HTK := Lib.hid (show R.l.take j.l.length = j.l by rw [hap]; simp)
          have HNR := Lib.hid (show j.l.length ≤ R.l.length by rw [hap]; simp)
          have HN1 := Lib.hid (show R.l.length ≤ j.l.length + 1 by rw [hap]; simp)
          have HN2 := Lib.hid (show j.l.length < R.l.length by rw [hap]; simp)
          have he0 : er = 0 := by
            by_cases h : er = 0
            · exact h
            · have := HST.out.ae h
              rw [this] at hap
              simpa using congrArg List.length hap
          have hk9 : j.l.length < R.l.length := by rw [hap]; simp
          obtain ⟨adF, rfl, hcF⟩ := C_e_at HP7.out.rl.2 j.l.length hk9
          have hat : R.l[j.l.length] = x.f2 := by simp [hap]
          rw [hat] at hcF
          have HFE := Lib.hid (show CellsAt W7 (adF.add (j.l.length * 6)) [.int .i64 x.f2.f0, .int .i64 x.f2.f1, .int .i64 x.f2.f2, .string x.f2.f3, .int .i64 x.f2.f4, .int .i64 x.f2.f5] from hcF)
          have HXE := Lib.hid (show CellsAt W7 ⟨(ad.add (i * 8)).block, (ad.add (i * 8)).off + 2, none⟩ [.int .i64 x.f2.f0, .int .i64 x.f2.f1, .int .i64 x.f2.f2, .string x.f2.f3, .int .i64 x.f2.f4, .int .i64 x.f2.f5] from fun k v hv => by
            have h := (HC.out.only HW7.out (by simp)) (k + 2) v hv
            rw [Nat.add_comm k 2, ← Go.Deep.add_add, add_field _ _ 2 (by omega)] at h
            exact h)
          clear hcF hat
          by_cases hx2 : x.f0 = 2
          · subst he0
            clear hge hap ht hk9
            as_aux_lemma =>
            have HC7 := Lib.hid (show CellsAt W7 (ad.add (i * 8)) [.int .i64 x.f0, .int .i64 x.f1, .int .i64 x.f2.f0, .int .i64 x.f2.f1, .int .i64 x.f2.f2, .string x.f2.f3, .int .i64 x.f2.f4, .int .i64 x.f2.f5] from HC.out.only HW7.out (by simp))
            have HEN := Lib.hid (show ∀ W, Only [] W7 W → Calls Tryd.prog 13 #[.slice (cutN (some adF) 0 m0 6) (j.l.length - 0) (m0 - 0), .slice E0 j.l.length k0] W fun e w' => e = .returned (.bool true) ∧ Below W.heap.size W w' from fun W h => by
              have p := (HP7.out.only h (by simp)).rl
              have q := (HO7.out.only h (by simp)).rl
              have p1 := Kd.C_take (k := k27) (m := j.l.length) p.2 HNR.out
              rw [HTK.out] at p1
              have p2 := Kd.C_drop (k := k27) (c := m0) (m := 0) p1 (by omega) (by have := p.1; have := HNR.out; omega)
              refine (malthouseref18_Entries.calls 1000 (cutN (some adF) 0 m0 6) m0 j.l E0 k0 j.l true W p2 (by have := p.1; have := HNR.out; omega) q.2 q.1 (entries_refl _ _ (by have := HLN.out; omega) (by have := HLN.out; omega))).mono ?_
              rintro e w' ⟨he, hd⟩
              exact ⟨he, hd.below⟩)
            rw [hx2] at HC7
            have c0 : W7.cell? (ad.add (i * 8)) = some (.int .i64 2) := by have := HC7.out 0 _ rfl; rwa [Go.Deep.add_add, Nat.add_zero] at this
            have a0 : W7.cell? ⟨kb, 0, none⟩ = some (.slice (some adF) R.l.length m0) := (cell_of_row W7 kb 0 _ _ _ HK7.out).trans rfl
            have a2 : W7.cell? ⟨kb, 2, none⟩ = some (.int .i64 j.g) := (cell_of_row W7 kb 2 _ _ _ HK7.out).trans (by rw [← HGE.out]; rfl)
            have b0 : W7.cell? ⟨vb, 0, none⟩ = some (.slice E0 j.l.length k0) := (cell_of_row W7 vb 0 _ _ _ HR7.out).trans rfl
            have b2 : W7.cell? ⟨vb, 2, none⟩ = some (.int .i64 j.g) := (cell_of_row W7 vb 2 _ _ _ HR7.out).trans rfl
            have q1 : ¬ (R.l.length : Int) < j.l.length := by have := HNR.out; omega
            have q2 : ¬ (j.l.length : Int) + 1 < R.l.length := by have := HN1.out; omega
            have q3 : j.l.length ≤ 120 := HLN.out
            go_wp2_with fail
            clear c0 a0 a2 b0 b2 q1 q2
            refine L.grow_start [] 10 ((0, true, false) :: (1, true, false) :: (2, true, false) :: (3, true, false) :: (4, true, false) :: (5, true, false) :: (6, true, true) :: (7, true, true) :: (8, false, true) :: (9, true, true) :: []) (by kernel_rfl) (([], [7], some 114) :: ([0], [114], some 115) :: ([], [5], some 116) :: ([2], [116], some 117) :: ([3], [117], some 118) :: ([1, 4], [115, 118], some 119) :: ([], [5], some 120) :: ([6], [120], some 121) :: ([5, 7], [119, 121], some 122) :: ([8, 8, 0, 1, 2, 3, 4, 5, 6, 7, 8], [122], some 10) :: []) (by kernel_rfl) (by kernel_rfl) (n := 10) rfl (by kernel_rfl) (fun _ _ _ _ _ h => h) (fun wg hog => ?_)
            have HS8 := Lib.hid hog
            clear hog
            refine L.growe_start (N := 170) (by rfl) ?_
            have zkb0 : ∀ w', Only [] wg w' → w'.cell? ⟨kb, 0, none⟩ = some (.slice (some adF) R.l.length m0) := fun w' h => (cell_of_row w' kb 0 _ _ _ ((HS8.out.trans h).heap HK7.out (by simp))).trans rfl
            have zvb0 : ∀ w', Only [] wg w' → w'.cell? ⟨vb, 0, none⟩ = some (.slice E0 j.l.length k0) := fun w' h => (cell_of_row w' vb 0 _ _ _ ((HS8.out.trans h).heap HR7.out (by simp))).trans rfl
            iterate 5 (first | (refine L.ge_off rfl rfl rfl (by rfl) ?_) | (refine L.ge_move rfl rfl rfl (by rfl) rfl (by simp [L.evE, L.lk, Act.eval]; rfl) ?_) | (refine L.ge_pick rfl rfl rfl (by rfl) rfl (by simp [L.evE, L.lk, Act.eval]; rfl) (by simp [L.evE, L.lk, Act.eval]; rfl) ?_) | (refine L.ge_val rfl rfl rfl (by rfl) (by intro w' hw'; simp [execOp, L.evE, L.lk, Act.eval]; go_simp; rfl) ?_))
            refine ge_cutN rfl rfl rfl (by rfl) _ _ _ _ _ rfl 27 6 Tryd.underlying22 (by kernel_rfl) (some adF) R.l.length m0 (by simp [L.evE, L.lk, Act.eval]) 0 j.l.length m0 (fun w' => by simp only [L.evE, L.lk, Act.eval, Option.map_some, Option.map_none]; exact bounds_h w' _ _ _ _ j.l.length rfl (by have := HNR.out; have := HP7.out.rl.1; omega)) ?_
            iterate 2 (first | (refine L.ge_off rfl rfl rfl (by rfl) ?_) | (refine L.ge_move rfl rfl rfl (by rfl) rfl (by simp [L.evE, L.lk, Act.eval]; rfl) ?_) | (refine L.ge_pick rfl rfl rfl (by rfl) rfl (by simp [L.evE, L.lk, Act.eval]; rfl) (by simp [L.evE, L.lk, Act.eval]; rfl) ?_) | (refine L.ge_val rfl rfl rfl (by rfl) (by intro w' hw'; simp [execOp, L.evE, L.lk, Act.eval]; go_simp; rfl) ?_))
            refine L.ge_call rfl rfl rfl (by rfl) rfl (by simp [L.evE, L.lk, Act.eval]; rfl) (by go_simp) ?_
            refine (HEN.out _ HS8.out).mono ?_
            rintro e W9 ⟨rfl, hb9⟩
            refine ⟨_, rfl, Only.of_below hb9, ?_⟩
            have HS9 := Lib.hid (HS8.out.trans (Only.of_below hb9))
            clear hb9
            (first | (refine L.ge_off rfl rfl rfl (by rfl) ?_) | (refine L.ge_move rfl rfl rfl (by rfl) rfl (by simp [L.evE, L.lk, Act.eval]; rfl) ?_) | (refine L.ge_pick rfl rfl rfl (by rfl) rfl (by simp [L.evE, L.lk, Act.eval]; rfl) (by simp [L.evE, L.lk, Act.eval]; rfl) ?_) | (refine L.ge_val rfl rfl rfl (by rfl) (by intro w' hw'; simp [execOp, L.evE, L.lk, Act.eval]; go_simp; rfl) ?_))
            refine L.ge_done ?_
            simp only [L.puts, Act.put, goInt, List.setIfInBounds_toArray, List.set_cons_zero, List.set_cons_succ]
            clear zkb0 zvb0 HEN
            go_wp2_with fail
            refine L.grow_start [] 46 ((0, true, true) :: (1, true, true) :: (2, true, true) :: (3, true, false) :: (4, true, false) :: (5, true, false) :: (6, true, true) :: (7, true, true) :: (8, true, true) :: (9, true, true) :: (10, true, true) :: (11, true, false) :: (12, true, false) :: (13, true, false) :: (14, true, false) :: (15, true, false) :: (16, true, false) :: (17, true, false) :: (18, true, false) :: (19, true, true) :: (20, true, true) :: (21, true, true) :: (22, true, true) :: (23, true, true) :: (24, true, true) :: (25, true, true) :: (26, true, true) :: (27, true, false) :: (28, true, true) :: (29, true, true) :: (30, true, true) :: (31, true, true) :: (32, true, true) :: (33, true, true) :: (34, true, false) :: (35, true, false) :: (36, true, false) :: (37, true, false) :: (38, true, false) :: (39, true, false) :: (40, true, false) :: (41, true, true) :: (42, true, true) :: (43, true, true) :: (44, true, true) :: (45, true, true) :: []) (by kernel_rfl) (([], [10], some 123) :: ([0], [123], some 124) :: ([1], [124], some 125) :: ([2], [7, 125], some 126) :: ([3, 2], [126, 125], some 127) :: ([4, 2], [127, 125], some 128) :: ([2], [5, 125], some 129) :: ([6, 2], [129, 125], some 130) :: ([7, 2], [130, 125], some 131) :: ([5, 8, 2], [128, 131, 125], some 132) :: ([9, 2, 2], [132, 125], some 133) :: ([10], [7, 133], some 134) :: ([11, 10], [134, 133], some 135) :: ([10], [5, 133], some 136) :: ([13, 10], [136, 133], some 137) :: ([14, 10], [137, 133], some 138) :: ([12, 15, 10], [135, 138, 133], some 139) :: ([16, 10], [139, 133], some 140) :: ([10], [0, 133], some 141) :: ([10], [6, 133], some 142) :: ([18, 19, 10], [141, 142, 133], some 143) :: ([20, 10], [143, 133], some 144) :: ([21, 10], [144, 133], some 145) :: ([17, 22, 10], [140, 145, 133], some 146) :: ([10, 23, 2], [133, 146, 125], some 147) :: ([2, 24], [125, 147], some 148) :: ([25, 10], [148], some 149) :: ([26], [0, 149], some 150) :: ([26], [6, 149], some 151) :: ([27, 28, 26], [150, 151, 149], some 152) :: ([29, 26], [152, 149], some 153) :: ([30, 26], [153, 149], some 154) :: ([31, 26], [154, 149], some 155) :: ([32, 26, 26], [155, 149], some 156) :: ([33], [7, 156], some 157) :: ([34, 33], [157, 156], some 158) :: ([35, 33], [158, 156], some 159) :: ([33], [5, 156], some 160) :: ([37, 33], [160, 156], some 161) :: ([38, 33], [161, 156], some 162) :: ([36, 39, 33], [159, 162, 156], some 163) :: ([33], [8, 156], some 164) :: ([41, 33], [164, 156], some 165) :: ([40, 42, 33], [163, 165, 156], some 166) :: ([33, 43, 26], [156, 166, 149], some 167) :: ([26, 44], [149, 167], some 168) :: []) (by kernel_rfl) (by kernel_rfl) (n := 46) rfl (by kernel_rfl) (fun _ _ _ _ _ h => h) (fun wh hoh => ?_)
            replace HS9 := Lib.hid (HS9.out.trans hoh)
            clear hoh
            refine L.growe_start (N := 170) (by rfl) ?_
            have zkb0 : ∀ w', Only [] wh w' → w'.cell? ⟨kb, 0, none⟩ = some (.slice (some adF) R.l.length m0) := fun w' h => (cell_of_row w' kb 0 _ _ _ ((HS9.out.trans h).heap HK7.out (by simp))).trans rfl
            have zvb0 : ∀ w', Only [] wh w' → w'.cell? ⟨vb, 0, none⟩ = some (.slice E0 j.l.length k0) := fun w' h => (cell_of_row w' vb 0 _ _ _ ((HS9.out.trans h).heap HR7.out (by simp))).trans rfl
            have zx0 : ∀ w', Only [] wh w' → w'.cell? (ad.add (i * 8)) = some (.int .i64 2) := fun w' h => by have := (HC7.out.only (HS9.out.trans h) (by simp)) 0 _ rfl; rwa [Go.Deep.add_add, Nat.add_zero] at this
            have q6 : (j.l.length : Int) < R.l.length := by have := HN2.out; omega
            iterate 16 (first | (refine L.ge_off rfl rfl rfl (by rfl) ?_) | (refine L.ge_move rfl rfl rfl (by rfl) rfl (by simp [L.evE, L.lk, Act.eval]; rfl) ?_) | (refine L.ge_pick rfl rfl rfl (by rfl) rfl (by simp [L.evE, L.lk, Act.eval]; rfl) (by simp [L.evE, L.lk, Act.eval]; rfl) ?_) | (refine L.ge_val rfl rfl rfl (by rfl) (by intro w' hw'; simp [execOp, L.evE, L.lk, Act.eval]; go_simp; rfl) ?_))
            (first | (refine L.ge_off rfl rfl rfl (by rfl) ?_) | (refine L.ge_move rfl rfl rfl (by rfl) rfl (by simp [L.evE, L.lk, Act.eval]; rfl) ?_) | (refine L.ge_pick rfl rfl rfl (by rfl) rfl (by simp [L.evE, L.lk, Act.eval]; rfl) (by simp [L.evE, L.lk, Act.eval]; rfl) ?_) | (refine L.ge_val rfl rfl rfl (by rfl) (by intro w' hw'; simp [execOp, L.evE, L.lk, Act.eval]; go_simp; rfl) ?_))
            refine ge_load_at rfl rfl rfl (by rfl) _ _ rfl (adF.add (j.l.length * 6)) (by simp [L.evE, L.lk, Act.eval]) _ _ (fun w' k => HFE.out.only (HS9.out.trans k) (by simp)) Tryd.underlying27 rfl (by kernel_rfl) ?_
            iterate 4 (first | (refine L.ge_off rfl rfl rfl (by rfl) ?_) | (refine L.ge_move rfl rfl rfl (by rfl) rfl (by simp [L.evE, L.lk, Act.eval]; rfl) ?_) | (refine L.ge_pick rfl rfl rfl (by rfl) rfl (by simp [L.evE, L.lk, Act.eval]; rfl) (by simp [L.evE, L.lk, Act.eval]; rfl) ?_) | (refine L.ge_val rfl rfl rfl (by rfl) (by intro w' hw'; simp [execOp, L.evE, L.lk, Act.eval]; go_simp; rfl) ?_))
            refine ge_load_at rfl rfl rfl (by rfl) _ _ rfl ⟨(ad.add (i * 8)).block, (ad.add (i * 8)).off + 2, none⟩ (by simp [L.evE, L.lk, Act.eval]) _ _ (fun w' k => HXE.out.only (HS9.out.trans k) (by simp)) Tryd.underlying27 rfl (by kernel_rfl) ?_
            iterate 23 (first | (refine L.ge_off rfl rfl rfl (by rfl) ?_) | (refine L.ge_move rfl rfl rfl (by rfl) rfl (by simp [L.evE, L.lk, Act.eval]; rfl) ?_) | (refine L.ge_pick rfl rfl rfl (by rfl) rfl (by simp [L.evE, L.lk, Act.eval]; rfl) (by simp [L.evE, L.lk, Act.eval]; rfl) ?_) | (refine L.ge_val rfl rfl rfl (by rfl) (by intro w' hw'; simp [execOp, L.evE, L.lk, Act.eval]; go_simp; rfl) ?_))
            refine L.ge_done ?_
            simp only [L.puts, Act.put, goInt, List.setIfInBounds_toArray, List.set_cons_zero, List.set_cons_succ]
            have HK8 := Lib.hid (HS9.out.heap HK7.out (by simp))
            have HR8 := Lib.hid (HS9.out.heap HR7.out (by simp))
            have HP8 := Lib.hid (HP7.out.only HS9.out (by simp))
            have HW8 := Lib.hid (HW7.out.trans HS9.out)
            clear zkb0 zvb0 zx0 HS8 HS9
            go_wp2_with (first
              | (with_reducible refine wpList_load_at rfl 25 (.tmp 7) rfl ⟨kb, 0, none⟩ rfl _ _ (cellsAt_row HK8.out) Tryd.underlying25 rfl (by kernel_rfl) ?_)
              | (with_reducible refine wpList_store_new rfl 25 (.tmp 5) (.tmp 169) rfl vb #[.slice (some adF) R.l.length m0, .slice F1 R.q.length m1, .int .i64 R.g] rfl rfl 25 _ HR8.out (size3_25 _ _ _) rfl (by simp [Value.oneCell']) ?_; intro W9 hh ho; have HR9 := Lib.hid hh.out; have HOs := Lib.hid ho; clear hh ho))
            go_roundw
            case rel => exact ⟨i + 1, R, (some adF), m0, F1, m1, by go_num, by omega, HWY, HR9, Lib.hid (HP8.out.only HOs.out (fun k hk => .inl (by simp at hk; omega))), Lib.hid (HW8.out.then HOs.out (fun k hk => .inr (by simp at hk; subst hk; have := HVB.out; omega)))⟩
            case measure => simp [intOf]; omega
          · have HX2 := Lib.hid hx2
            have HX4 : Hid (x.f0 ≠ 4) := Lib.hid (fun h => ht ⟨h, he0⟩)
            clear hge hap ht hk9 hx2 he0
            as_aux_lemma =>
            have HC7 := Lib.hid (show CellsAt W7 (ad.add (i * 8)) [.int .i64 x.f0, .int .i64 x.f1, .int .i64 x.f2.f0, .int .i64 x.f2.f1, .int .i64 x.f2.f2, .string x.f2.f3, .int .i64 x.f2.f4, .int .i64 x.f2.f5] from HC.out.only HW7.out (by simp))
            have HEN := Lib.hid (show ∀ W, Only [] W7 W → Calls Tryd.prog 13 #[.slice (cutN (some adF) 0 m0 6) (j.l.length - 0) (m0 - 0), .slice E0 j.l.length k0] W fun e w' => e = .returned (.bool true) ∧ Below W.heap.size W w' from fun W h => by
              have p := (HP7.out.only h (by simp)).rl
              have q := (HO7.out.only h (by simp)).rl
              have p1 := Kd.C_take (k := k27) (m := j.l.length) p.2 HNR.out
              rw [HTK.out] at p1
              have p2 := Kd.C_drop (k := k27) (c := m0) (m := 0) p1 (by omega) (by have := p.1; have := HNR.out; omega)
              refine (malthouseref18_Entries.calls 1000 (cutN (some adF) 0 m0 6) m0 j.l E0 k0 j.l true W p2 (by have := p.1; have := HNR.out; omega) q.2 q.1 (entries_refl _ _ (by have := HLN.out; omega) (by have := HLN.out; omega))).mono ?_
              rintro e w' ⟨he, hd⟩
              exact ⟨he, hd.below⟩)
            have c0 : W7.cell? (ad.add (i * 8)) = some (.int .i64 x.f0) := by have := HC7.out 0 _ rfl; rwa [Go.Deep.add_add, Nat.add_zero] at this
            have a0 : W7.cell? ⟨kb, 0, none⟩ = some (.slice (some adF) R.l.length m0) := (cell_of_row W7 kb 0 _ _ _ HK7.out).trans rfl
            have a2 : W7.cell? ⟨kb, 2, none⟩ = some (.int .i64 j.g) := (cell_of_row W7 kb 2 _ _ _ HK7.out).trans (by rw [← HGE.out]; rfl)
            have b0 : W7.cell? ⟨vb, 0, none⟩ = some (.slice E0 j.l.length k0) := (cell_of_row W7 vb 0 _ _ _ HR7.out).trans rfl
            have b2 : W7.cell? ⟨vb, 2, none⟩ = some (.int .i64 j.g) := (cell_of_row W7 vb 2 _ _ _ HR7.out).trans rfl
            have q1 : ¬ (R.l.length : Int) < j.l.length := by have := HNR.out; omega
            have q2 : ¬ (j.l.length : Int) + 1 < R.l.length := by have := HN1.out; omega
            have q3 : j.l.length ≤ 120 := HLN.out
            have q4 : (x.f0 == 4) = false := by rw [beq_eq_false_iff_ne]; exact HX4.out
            go_wp2_with fail
            clear c0 a0 a2 b0 b2 q1 q2 q4
            refine L.grow_start [] 10 ((0, true, false) :: (1, true, false) :: (2, true, false) :: (3, true, false) :: (4, true, false) :: (5, true, false) :: (6, true, true) :: (7, true, true) :: (8, false, true) :: (9, true, true) :: []) (by kernel_rfl) (([], [7], some 114) :: ([0], [114], some 115) :: ([], [5], some 116) :: ([2], [116], some 117) :: ([3], [117], some 118) :: ([1, 4], [115, 118], some 119) :: ([], [5], some 120) :: ([6], [120], some 121) :: ([5, 7], [119, 121], some 122) :: ([8, 8, 0, 1, 2, 3, 4, 5, 6, 7, 8], [122], some 10) :: []) (by kernel_rfl) (by kernel_rfl) (n := 10) rfl (by kernel_rfl) (fun _ _ _ _ _ h => h) (fun wg hog => ?_)
            have HS8 := Lib.hid hog
            clear hog
            refine L.growe_start (N := 170) (by rfl) ?_
            have zkb0 : ∀ w', Only [] wg w' → w'.cell? ⟨kb, 0, none⟩ = some (.slice (some adF) R.l.length m0) := fun w' h => (cell_of_row w' kb 0 _ _ _ ((HS8.out.trans h).heap HK7.out (by simp))).trans rfl
            have zvb0 : ∀ w', Only [] wg w' → w'.cell? ⟨vb, 0, none⟩ = some (.slice E0 j.l.length k0) := fun w' h => (cell_of_row w' vb 0 _ _ _ ((HS8.out.trans h).heap HR7.out (by simp))).trans rfl
            iterate 5 (first | (refine L.ge_off rfl rfl rfl (by rfl) ?_) | (refine L.ge_move rfl rfl rfl (by rfl) rfl (by simp [L.evE, L.lk, Act.eval]; rfl) ?_) | (refine L.ge_pick rfl rfl rfl (by rfl) rfl (by simp [L.evE, L.lk, Act.eval]; rfl) (by simp [L.evE, L.lk, Act.eval]; rfl) ?_) | (refine L.ge_val rfl rfl rfl (by rfl) (by intro w' hw'; simp [execOp, L.evE, L.lk, Act.eval]; go_simp; rfl) ?_))
            refine ge_cutN rfl rfl rfl (by rfl) _ _ _ _ _ rfl 27 6 Tryd.underlying22 (by kernel_rfl) (some adF) R.l.length m0 (by simp [L.evE, L.lk, Act.eval]) 0 j.l.length m0 (fun w' => by simp only [L.evE, L.lk, Act.eval, Option.map_some, Option.map_none]; exact bounds_h w' _ _ _ _ j.l.length rfl (by have := HNR.out; have := HP7.out.rl.1; omega)) ?_
            iterate 2 (first | (refine L.ge_off rfl rfl rfl (by rfl) ?_) | (refine L.ge_move rfl rfl rfl (by rfl) rfl (by simp [L.evE, L.lk, Act.eval]; rfl) ?_) | (refine L.ge_pick rfl rfl rfl (by rfl) rfl (by simp [L.evE, L.lk, Act.eval]; rfl) (by simp [L.evE, L.lk, Act.eval]; rfl) ?_) | (refine L.ge_val rfl rfl rfl (by rfl) (by intro w' hw'; simp [execOp, L.evE, L.lk, Act.eval]; go_simp; rfl) ?_))
            refine L.ge_call rfl rfl rfl (by rfl) rfl (by simp [L.evE, L.lk, Act.eval]; rfl) (by go_simp) ?_
            refine (HEN.out _ HS8.out).mono ?_
            rintro e W9 ⟨rfl, hb9⟩
            refine ⟨_, rfl, Only.of_below hb9, ?_⟩
            have HS9 := Lib.hid (HS8.out.trans (Only.of_below hb9))
            clear hb9
            (first | (refine L.ge_off rfl rfl rfl (by rfl) ?_) | (refine L.ge_move rfl rfl rfl (by rfl) rfl (by simp [L.evE, L.lk, Act.eval]; rfl) ?_) | (refine L.ge_pick rfl rfl rfl (by rfl) rfl (by simp [L.evE, L.lk, Act.eval]; rfl) (by simp [L.evE, L.lk, Act.eval]; rfl) ?_) | (refine L.ge_val rfl rfl rfl (by rfl) (by intro w' hw'; simp [execOp, L.evE, L.lk, Act.eval]; go_simp; rfl) ?_))
            refine L.ge_done ?_
            simp only [L.puts, Act.put, goInt, List.setIfInBounds_toArray, List.set_cons_zero, List.set_cons_succ]
            clear zkb0 zvb0 HEN
            go_wp2_with fail
            refine L.grow_start [] 46 ((0, true, true) :: (1, true, true) :: (2, true, true) :: (3, true, false) :: (4, true, false) :: (5, true, false) :: (6, true, true) :: (7, true, true) :: (8, true, true) :: (9, true, true) :: (10, true, true) :: (11, true, false) :: (12, true, false) :: (13, true, false) :: (14, true, false) :: (15, true, false) :: (16, true, false) :: (17, true, false) :: (18, true, false) :: (19, true, true) :: (20, true, true) :: (21, true, true) :: (22, true, true) :: (23, true, true) :: (24, true, true) :: (25, true, true) :: (26, true, true) :: (27, true, false) :: (28, true, true) :: (29, true, true) :: (30, true, true) :: (31, true, true) :: (32, true, true) :: (33, true, true) :: (34, true, false) :: (35, true, false) :: (36, true, false) :: (37, true, false) :: (38, true, false) :: (39, true, false) :: (40, true, false) :: (41, true, true) :: (42, true, true) :: (43, true, true) :: (44, true, true) :: (45, true, true) :: []) (by kernel_rfl) (([], [10], some 123) :: ([0], [123], some 124) :: ([1], [124], some 125) :: ([2], [7, 125], some 126) :: ([3, 2], [126, 125], some 127) :: ([4, 2], [127, 125], some 128) :: ([2], [5, 125], some 129) :: ([6, 2], [129, 125], some 130) :: ([7, 2], [130, 125], some 131) :: ([5, 8, 2], [128, 131, 125], some 132) :: ([9, 2, 2], [132, 125], some 133) :: ([10], [7, 133], some 134) :: ([11, 10], [134, 133], some 135) :: ([10], [5, 133], some 136) :: ([13, 10], [136, 133], some 137) :: ([14, 10], [137, 133], some 138) :: ([12, 15, 10], [135, 138, 133], some 139) :: ([16, 10], [139, 133], some 140) :: ([10], [0, 133], some 141) :: ([10], [6, 133], some 142) :: ([18, 19, 10], [141, 142, 133], some 143) :: ([20, 10], [143, 133], some 144) :: ([21, 10], [144, 133], some 145) :: ([17, 22, 10], [140, 145, 133], some 146) :: ([10, 23, 2], [133, 146, 125], some 147) :: ([2, 24], [125, 147], some 148) :: ([25, 10], [148], some 149) :: ([26], [0, 149], some 150) :: ([26], [6, 149], some 151) :: ([27, 28, 26], [150, 151, 149], some 152) :: ([29, 26], [152, 149], some 153) :: ([30, 26], [153, 149], some 154) :: ([31, 26], [154, 149], some 155) :: ([32, 26, 26], [155, 149], some 156) :: ([33], [7, 156], some 157) :: ([34, 33], [157, 156], some 158) :: ([35, 33], [158, 156], some 159) :: ([33], [5, 156], some 160) :: ([37, 33], [160, 156], some 161) :: ([38, 33], [161, 156], some 162) :: ([36, 39, 33], [159, 162, 156], some 163) :: ([33], [8, 156], some 164) :: ([41, 33], [164, 156], some 165) :: ([40, 42, 33], [163, 165, 156], some 166) :: ([33, 43, 26], [156, 166, 149], some 167) :: ([26, 44], [149, 167], some 168) :: []) (by kernel_rfl) (by kernel_rfl) (n := 46) rfl (by kernel_rfl) (fun _ _ _ _ _ h => h) (fun wh hoh => ?_)
            replace HS9 := Lib.hid (HS9.out.trans hoh)
            clear hoh
            refine L.growe_start (N := 170) (by rfl) ?_
            have zkb0 : ∀ w', Only [] wh w' → w'.cell? ⟨kb, 0, none⟩ = some (.slice (some adF) R.l.length m0) := fun w' h => (cell_of_row w' kb 0 _ _ _ ((HS9.out.trans h).heap HK7.out (by simp))).trans rfl
            have zvb0 : ∀ w', Only [] wh w' → w'.cell? ⟨vb, 0, none⟩ = some (.slice E0 j.l.length k0) := fun w' h => (cell_of_row w' vb 0 _ _ _ ((HS9.out.trans h).heap HR7.out (by simp))).trans rfl
            have zx0 : ∀ w', Only [] wh w' → w'.cell? (ad.add (i * 8)) = some (.int .i64 x.f0) := fun w' h => by have := (HC7.out.only (HS9.out.trans h) (by simp)) 0 _ rfl; rwa [Go.Deep.add_add, Nat.add_zero] at this
            have q5 : (x.f0 == 2) = false := by rw [beq_eq_false_iff_ne]; exact HX2.out
            have q6 : (j.l.length : Int) < R.l.length := by have := HN2.out; omega
            iterate 16 (first | (refine L.ge_off rfl rfl rfl (by rfl) ?_) | (refine L.ge_move rfl rfl rfl (by rfl) rfl (by simp [L.evE, L.lk, Act.eval]; rfl) ?_) | (refine L.ge_pick rfl rfl rfl (by rfl) rfl (by simp [L.evE, L.lk, Act.eval]; rfl) (by simp [L.evE, L.lk, Act.eval]; rfl) ?_) | (refine L.ge_val rfl rfl rfl (by rfl) (by intro w' hw'; simp [execOp, L.evE, L.lk, Act.eval]; go_simp; rfl) ?_))
            (first | (refine L.ge_off rfl rfl rfl (by rfl) ?_) | (refine L.ge_move rfl rfl rfl (by rfl) rfl (by simp [L.evE, L.lk, Act.eval]; rfl) ?_) | (refine L.ge_pick rfl rfl rfl (by rfl) rfl (by simp [L.evE, L.lk, Act.eval]; rfl) (by simp [L.evE, L.lk, Act.eval]; rfl) ?_) | (refine L.ge_val rfl rfl rfl (by rfl) (by intro w' hw'; simp [execOp, L.evE, L.lk, Act.eval]; go_simp; rfl) ?_))
            refine ge_load_at rfl rfl rfl (by rfl) _ _ rfl (adF.add (j.l.length * 6)) (by simp [L.evE, L.lk, Act.eval]) _ _ (fun w' k => HFE.out.only (HS9.out.trans k) (by simp)) Tryd.underlying27 rfl (by kernel_rfl) ?_
            iterate 4 (first | (refine L.ge_off rfl rfl rfl (by rfl) ?_) | (refine L.ge_move rfl rfl rfl (by rfl) rfl (by simp [L.evE, L.lk, Act.eval]; rfl) ?_) | (refine L.ge_pick rfl rfl rfl (by rfl) rfl (by simp [L.evE, L.lk, Act.eval]; rfl) (by simp [L.evE, L.lk, Act.eval]; rfl) ?_) | (refine L.ge_val rfl rfl rfl (by rfl) (by intro w' hw'; simp [execOp, L.evE, L.lk, Act.eval]; go_simp; rfl) ?_))
            refine ge_load_at rfl rfl rfl (by rfl) _ _ rfl ⟨(ad.add (i * 8)).block, (ad.add (i * 8)).off + 2, none⟩ (by simp [L.evE, L.lk, Act.eval]) _ _ (fun w' k => HXE.out.only (HS9.out.trans k) (by simp)) Tryd.underlying27 rfl (by kernel_rfl) ?_
            iterate 23 (first | (refine L.ge_off rfl rfl rfl (by rfl) ?_) | (refine L.ge_move rfl rfl rfl (by rfl) rfl (by simp [L.evE, L.lk, Act.eval]; rfl) ?_) | (refine L.ge_pick rfl rfl rfl (by rfl) rfl (by simp [L.evE, L.lk, Act.eval]; rfl) (by simp [L.evE, L.lk, Act.eval]; rfl) ?_) | (refine L.ge_val rfl rfl rfl (by rfl) (by intro w' hw'; simp [execOp, L.evE, L.lk, Act.eval]; go_simp; rfl) ?_))
            refine L.ge_done ?_
            simp only [L.puts, Act.put, goInt, List.setIfInBounds_toArray, List.set_cons_zero, List.set_cons_succ]
            have HK8 := Lib.hid (HS9.out.heap HK7.out (by simp))
            have HR8 := Lib.hid (HS9.out.heap HR7.out (by simp))
            have HP8 := Lib.hid (HP7.out.only HS9.out (by simp))
            have HW8 := Lib.hid (HW7.out.trans HS9.out)
            clear zkb0 zvb0 zx0 HS8 HS9
            go_wp2_with (first
              | (with_reducible refine wpList_load_at rfl 25 (.tmp 7) rfl ⟨kb, 0, none⟩ rfl _ _ (cellsAt_row HK8.out) Tryd.underlying25 rfl (by kernel_rfl) ?_)
              | (with_reducible refine wpList_store_new rfl 25 (.tmp 5) (.tmp 169) rfl vb #[.slice (some adF) R.l.length m0, .slice F1 R.q.length m1, .int .i64 R.g] rfl rfl 25 _ HR8.out (size3_25 _ _ _) rfl (by simp [Value.oneCell']) ?_; intro W9 hh ho; have HR9 := Lib.hid hh.out; have HOs := Lib.hid ho; clear hh ho))
            go_roundw
            case rel => exact ⟨i + 1, R, (some adF), m0, F1, m1, by go_num, by omega, HWY, HR9, Lib.hid (HP8.out.only HOs.out (fun k hk => .inl (by simp at hk; omega))), Lib.hid (HW8.out.then HOs.out (fun k hk => .inr (by simp at hk; subst hk; have := HVB.out; omega)))⟩
            case measure => simp [intOf]; omega
    · obtain rfl : i = l0.length := by omega
      have hlt' : ¬ (l0.length : Int) < l0.length := by omega
      go_wp2
      go_ret
      exact ⟨rfl, hw.out.nil_below⟩
end Go.Proofs.YtghpmpjoedbpcaaDoor.Print
/-! ### JWalk5b -/
namespace Go.Proofs.YtghpmpjoedbpcaaDoor.Print
open Go.RowKit Go.Proofs.YtghpmpjoedbpcaaDoorW.PrintWords Go.Proofs.YtghpmpjoedbpcaaDoorW.PrintLast Go.Proofs.YtghpmpjoedbpcaaDoorW.PrintMore
set_option linter.unusedVariables false
theorem journalKeeps_walk (A0 : Option Addr) (cap0 : Nat) (y0 : List OpR) (w : World) (hl0 : y0.length ≤ cap0) (hb0 : cap0 * 72 ≤ 140737488351232) (hr0 : rdRow 8 rOp w A0 y0) (hT : Tabs w) :
    Calls Tryd.prog 5 #[.slice A0 y0.length cap0] w fun e w' => e = .returned (.bool true) ∧ Below w.heap.size w w' := by
  have h := keeps_any A0 cap0 (y0.map gOp) w ⟨by simpa using hl0, C_ops (by omega) hr0⟩ hT
  rw [List.length_map] at h
  exact h
end Go.Proofs.YtghpmpjoedbpcaaDoor.Print
/-! ### JournalKeepsRow -/
namespace Go.Proofs.YtghpmpjoedbpcaaDoor.journalKeeps
open Go.ChangeShapes Go.WideShapes Go.ChangeAt Go.RowKit Go.Shelf Go.Lib Go.Proofs.YtghpmpjoedbpcaaDoor.Print
open Go.ChangeMaps (open_string shut_string)
set_option linter.unusedVariables false
set_option linter.unusedSimpArgs false
theorem own : ownKnob Tryd.prog.godebug = none := by kernel_rfl
theorem laidOut : laidOutB Tryd.prog = true := by kernel_rfl
set_option maxRecDepth 100000 in
theorem lifted (os : Os) (started : os.Started) (H : Type) (enc : TypeId × Value → H) :
    ReturnsInHanded {} Tryd.checked os 5 .any (fun w args => (Rows.journalKeepsSpec.pre enc Tryd.prog Tryd.f5 [] false w args ∧ laidMetH Tryd.prog Rows.journalKeepsRow.laid w) ∧ sizedMet enc Tryd.prog Tryd.f5 (OpenSpec.ofChange Rows.journalKeepsSpec) false w args) (Rows.journalKeepsSpec.post enc Tryd.prog Tryd.f5 false true false false) := by
  refine returnsInHanded_of_change_and (C := Tryd.checked) (X := fun w _ => laidMetH Tryd.prog Rows.journalKeepsRow.laid w) (fun _ _ _ hh h => h.of_heap hh) own started (by kernel_rfl) Tryd.func5
    (ChangeSpec.witness_shaped (enc := enc) (C := Tryd.checked) (os := os) (X := fun w _ => laidMetH Tryd.prog Rows.journalKeepsRow.laid w) false (World.laidAll Tryd.prog os Rows.journalKeepsRow.laid) #[.slice none 0 0] 8 (World.laidAll_os _ _ _)
      (World.shaped_of_ZipB (by kernel_rfl) (by kernel_rfl)) (by kernel_rfl) (by kernel_rfl) (by kernel_rfl)
      (by rw [MakeChecks.laidMetH_plain _ _ _ (by kernel_rfl)]; exact laidMet_laidAll _ (by kernel_rfl) (by kernel_rfl))) ?_
  intro W base args ds gs before hval0 hW hcnd hsz0 hL0 _
  have hL : laidMet Tryd.prog Rows.journalKeepsRow.laid W := by
    have h := hL0
    rw [MakeChecks.laidMetH_plain _ _ _ (by kernel_rfl)] at h
    exact h
  have hT : Tabs W := utf8Tabs_of_readsT (U8Types.of196 Tryd.laysValid) ⟨by kernel_rfl, by kernel_rfl, by kernel_rfl, by kernel_rfl, by kernel_rfl, by kernel_rfl, by kernel_rfl⟩ (Pinned.utf8First_eq ▸ Lib.laidMet.reads hL (.tail _ (.head _))) ((show Rows.laid_unicode_utf8_acceptRanges = acceptData from rfl) ▸ Lib.laidMet.reads hL (.head _))
  have hsz : (DataW.weightsEach Tryd.prog (Tryd.f5.params.toList ++ Rows.journalKeepsSpec.plain.varTypes Tryd.prog) (ds ++ gs)).all (· ≤ reachBytes) = true := hsz0
  have hval : ∀ (j : Nat) t v, Tryd.f5.params[j]? = some t → args[j]? = some v → Value.okWide Tryd.prog W .any base t v := hval0
  have hW' := hW
  obtain ⟨p, q, hA0, hV, rfl, hfz, hnd⟩ := hW
  have hA : DataW.TrodAll enc Tryd.prog W 0 (fun _ => true) true Tryd.f5.params.toList args.toList ds p := hA0
  rw [Tryd.params5] at hA hval hsz
  obtain ⟨v0, vs0, d0, ds0, p0, q0, hargs, rfl, rfl, h0, r0⟩ := trodAll_cons hA
  obtain ⟨rfl, rfl, rfl⟩ := trodAll_nil r0
  obtain rfl : args = #[v0] := by cases args; simp_all
  obtain ⟨rfl, rfl⟩ := trodVars_none hV
  have k0 := h0
  have lt0 : ∀ x ∈ p0, x.block < W.heap.size := by obtain ⟨m, hm⟩ := k0; exact DataW.trod_lt m _ _ _ hm
  obtain ⟨y0, r0_⟩ := opens_arg (ops_opens enc W) h0 (weights_each hsz (j := 0) (t := 39) rfl rfl)
  obtain ⟨A0, len0, cap0, rfl⟩ := okWide_slice Tryd.underlying39 (hval 0 39 v0 rfl rfl)
  obtain ⟨A0_, cap0_, e0, hl0, hb0, hm0, hr0⟩ := r0_
  simp only [Value.cells, List.cons.injEq, Value.slice.injEq, and_true] at e0
  obtain ⟨rfl, rfl, rfl⟩ := e0
  clear hA0 hval0 hsz0 hsz
  refine (journalKeeps_walk A0 cap0 y0 W hl0 hb0 hr0 hT).mono fun e W' ⟨he, bel⟩ => ?_
  subst he
  exact ⟨_, rfl, _, _, _, [], _, [], hW', trodAll_mk1 (shut_bool Tryd.underlying4 _), (trodAll_cons_mk (Below.trod laidOut (by kernel_rfl) (of_decide_eq_true (by kernel_rfl)) k0 bel lt0) trodAll_mk0), rfl, bel.frame _, fun h => by cases h⟩
theorem over : Rows.journalKeepsRow.holds Tryd.pinned (OpenSpec.ofChange Rows.journalKeepsSpec) :=
  OpenClaim.holds_of_wide 5 Tryd.f5 rfl rfl rfl rfl rfl rfl rfl ⟨rfl, rfl, rfl, rfl, rfl⟩ rfl rfl rfl rfl rfl (by kernel_rfl) Tryd.func5 (by kernel_rfl)
    (of_decide_eq_true (by kernel_rfl)) (by unfold Func.isWrapper; first | (rw [if_pos (by decide +kernel)]; kernel_rfl) | (rw [if_neg (by decide +kernel)]; exact ⟨rfl, rfl⟩))
    (fun os started H enc _ => lifted os started H enc)
theorem card_holds : Claim7.holds Tryd.pinned (.plain (OpenSpec.ofChange Rows.journalKeepsSpec)) Rows.journalKeepsCard :=
  Claim7.holds_tied_plain_at .later [] [.data, .pinned] true (true, "b05b6b16aa0a1809f215307a8c3ea1b8c622546458a6b2d8f18a7b1e1b2adb12") false over (fun _ h => by cases h) (by kernel_rfl) (fun _ h => by cases h) journalKeeps_row_tie rfl ⟨rfl, rfl⟩ (by kernel_rfl) rfl
    (fun f fn hf hfn => by
      obtain rfl : f = 5 := Option.some.inj ((show Tryd.prog.funcNamed "malthouse/malthouselaw18.JournalKeeps" = some 5 by kernel_rfl).symm.trans hf) |>.symm
      obtain rfl : fn = Tryd.f5 := (Option.some.inj (Tryd.func5.symm.trans hfn)).symm
      exact ⟨by kernel_rfl, fun j t ht => by
        rw [Tryd.params5] at ht
        have hm : t ∈ [39] := by simpa using Array.mem_of_getElem? ht
        have hall : ([39].all fun u => !Tryd.prog.wantsStandIn u) = true := by kernel_rfl
        exact (show Tryd.prog.wantsStandIn t = false by simpa using List.all_eq_true.1 hall t hm)⟩)
    (by kernel_rfl)
theorem proved : Rows.JournalKeepsCardSaid := card_holds
#print axioms proved
end Go.Proofs.YtghpmpjoedbpcaaDoor.journalKeeps
namespace Go.Proofs.YtghpmpjoedbpcaaDoor
/-- The card, under a short name, for the claim. -/
theorem journalKeeps_holds : Rows.JournalKeepsCardSaid := journalKeeps.proved
end Go.Proofs.YtghpmpjoedbpcaaDoor
