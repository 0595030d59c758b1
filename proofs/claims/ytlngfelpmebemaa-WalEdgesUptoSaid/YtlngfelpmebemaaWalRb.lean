/-
  The document's model of a log behind a group.
-/
import Derived.Test.YtlngfelpmebemaaWalRf
import Derived.Test.YtlngfelpmebemaaRd
namespace Go.Proofs.Ytlngfelpmebemaa
open Go Go.RowKit
set_option linter.unusedSimpArgs false
set_option linter.unusedVariables false
theorem behind_next (M : List (List UInt8)) (xs : List Wr) (k : Nat) (hk : k < xs.length) : behind M (xs.take (k + 1)) = (behind M (xs.take k)).set xs[k].1.toNat xs[k].2 := by
  unfold behind
  rw [List.take_succ_eq_append_getElem hk, List.map_append, putAll_append]
  rfl
theorem txts_set (L : List (List UInt8)) (r : List Value) (t : Nat) (ht : t < L.length) (b : List UInt8) : (txts L ++ r).toArray.setIfInBounds t (txt b) = (txts (L.set t b) ++ r).toArray := by
  unfold txts
  rw [List.setIfInBounds_toArray, List.set_append_left _ _ (by simpa using ht), List.map_set]
set_option maxHeartbeats 8000000 in
set_option maxRecDepth 100000 in
theorem rbehind_any (p m a c : Nat) (mr : List Value) (M : List (List UInt8)) (A : Option Addr) (ca : Nat) (xs : List Wr) (w : World) (hp : 1 ≤ p) (hp9 : p ≤ 10000) (hM : M.length = p) (hr : RightP p xs) (hm : IsMd w m a c mr M) (hA : WritesAt w A xs) :
    Calls Try.prog 18 #[.pointer (some ⟨m, 0, none⟩), .slice A xs.length ca] w fun e w' => ∃ m' a' c' r', e = .returned (.pointer (some ⟨m', 0, none⟩)) ∧ IsMd w' m' a' c' r' (behind M xs) ∧ w.heap.size ≤ m' ∧ w.heap.size ≤ a' ∧ Only [] w w' := by
  have c0 := hm.c0
  have HMD := Lib.hid hm
  have HA := Lib.hid hA
  have HR := Lib.hid hr
  have HML := Lib.hid hM
  have HXL := Lib.hid (right_length hr)
  have HTX := Lib.hid (txts_length M)
  rw [hM] at c0
  clear hm hA hr hM
  go_enter Try.func18, Try.ntmps18
  go_wp2_with (at_builtin; refine wpList_append_row rfl _ _ 56 rfl w.heap.size 9 1 16 (.string ⟨#[]⟩) Try.underlying56 infoStr rfl (by omega) (.slice none 0 0) 0 [] rfl (ownsRow_nil _ _ _ _) (some ⟨a, 0, none⟩) p c (txts M) rfl (by rw [HTX.out, HML.out, Nat.mul_one]) (fun _ => ⟨_, rfl, fun j u hj => cellsAt_row HMD.out.sec j u (by rw [List.getElem?_append_left (List.getElem?_eq_some_iff.1 hj).1]; exact hj)⟩) (txts_one M) (by unfold maxLen; omega) (by omega) (Nat.le_refl _) ?_; intro A2 c2 w2 hown ho hk2; rw [Nat.zero_add, List.nil_append] at hown; rw [Nat.zero_add]; have HW2 := Lib.hid hown; have HO2 := Lib.hid (show Only [] w w2 from ho.mono (by simp [Value.ownBlock])); clear hown ho hk2; refine (fun (h : Hid _) => h.out) ?_)
  refine Lib.hid ?_
  obtain ⟨a2, cur, e1, ha2, hh, hsz, htk⟩ : ∃ a2 cur, A2 = some ⟨a2, 0, none⟩ ∧ w.heap.size ≤ a2 ∧ w2.heap[a2]? = some (.cells cur 9 (0, 0)) ∧ True ∧ cur.toList.take p = txts M := by
    rcases HW2.out.2 with ⟨h9, h10⟩ | ⟨g', cap', cur, e, hg1, hh, hnc, _, hsz, htk⟩
    · injection h9 with _ h9 _
      omega
    · injection e with e _ _
      exact ⟨g', cur, e, hg1, hh, trivial, by simpa using htk⟩
  subst e1
  have HH := Lib.hid (show w2.heap[a2]? = some (.cells (txts (behind M (xs.take 0)) ++ cur.toList.drop p).toArray 9 (0, 0)) from by
    rw [hh, List.take_zero]
    show _ = some (Obj.cells (txts M ++ cur.toList.drop p).toArray _ _)
    rw [← htk, List.take_append_drop])
  have HA2 := Lib.hid ha2
  clear hh htk hsz ha2 c0
  go_wp2
  have HX3 := Lib.hid (heap_alloc_new w2 (.cells #[.slice (some ⟨a2, 0, none⟩) p c2] 58))
  have HH3 := Lib.hid (((Only.refl [] w2).alloc (.cells #[.slice (some ⟨a2, 0, none⟩) p c2] 58)).heap HH.out (by simp))
  have HO3 := Lib.hid (HO2.out.alloc (.cells #[.slice (some ⟨a2, 0, none⟩) p c2] 58))
  have HG := Lib.hid (show w.heap.size ≤ w2.heap.size ∧ a2 < w2.heap.size from ⟨HO2.out.size, heap_lt HH.out⟩)
  generalize w2.alloc (.cells #[.slice (some ⟨a2, 0, none⟩) p c2] 58) = w3 at *
  generalize w2.heap.size = g at *
  generalize cur.toList.drop p = rr at *
  clear HH HO2 HW2
  go_loopw [6] (fun i wr => ∃ (k : Nat), k ≤ xs.length ∧ i = .int .i64 k ∧ Hid (wr.heap[g]? = some (.cells #[.slice (some ⟨a2, 0, none⟩) p c2] 58 (0, 0))) ∧ Hid (wr.heap[a2]? = some (.cells (txts (behind M (xs.take k)) ++ rr).toArray 9 (0, 0))) ∧ Hid (Only [] w wr)) (fun i _ => xs.length - (Go.RowKit.intOf i).toNat)
  case atStart => exact ⟨0, by omega, rfl, HX3, HH3, HO3⟩
  case round =>
    obtain ⟨k, hk, rfl, HX, HS, HO⟩ := hrel
    by_cases hlt : k < xs.length
    · have hlt' : (k : Int) < xs.length := by omega
      have hk0 : (0 : Int) ≤ k := by omega
      have hx9 : xs.length ≤ 10000 := by have := HXL.out; omega
      obtain ⟨ad, B, cap, hAd, hc, hcap, hB⟩ := (HA.out.only HO.out).row k hlt
      have hok := HR.out.1 xs[k] (List.getElem_mem hlt)
      have hnx := behind_next M xs k hlt
      have HBL := Lib.hid (show (behind M (xs.take k)).length = p by rw [behind_length]; exact HML.out)
      obtain ⟨x, hx⟩ : ∃ x, x = xs[k] := ⟨_, rfl⟩
      rw [← hx] at hok hnx hc hcap hB
      clear hx
      obtain ⟨xi, xb⟩ := x
      have hok : 0 ≤ xi ∧ xi < (p : Int) ∧ xb.length = 256 := hok
      obtain ⟨t, rfl⟩ : ∃ t : Nat, xi = t := ⟨xi.toNat, by omega⟩
      have ht : t < p := by omega
      have ht' : (t : Int) < p := by omega
      have ht0 : (0 : Int) ≤ t := by omega
      have HNX := Lib.hid (show behind M (xs.take (k + 1)) = (behind M (xs.take k)).set t xb from by rw [hnx, Int.toNat_natCast])
      have HB := Lib.hid (show BytesAt wr B xb from hB)
      have HC := Lib.hid (show CellsAt wr (ad.add (k * 2)) [.int .i64 (t : Int), .slice B xb.length cap] from hc)
      have HXB := Lib.hid hok.2.2
      subst hAd
      clear hok hnx hc hcap hB
      go_wp2
      refine L.grow_start [] 16 ((0, true, false) :: (1, true, false) :: (2, true, false) :: (3, true, false) :: (4, true, false) :: (5, true, false) :: (6, true, false) :: (7, true, false) :: (8, true, false) :: (9, true, false) :: (10, true, true) :: (11, true, true) :: (12, true, true) :: (13, true, true) :: (14, true, true) :: (15, true, true) :: (16, false, true) :: []) (by kernel_rfl) (([], [5], some 20) :: ([0], [20], some 21) :: ([1], [21], some 22) :: ([2], [22], some 23) :: ([], [1], some 24) :: ([], [6], some 25) :: ([4, 5], [24, 25], some 26) :: ([6], [26], some 27) :: ([7], [27], some 28) :: ([], [1], some 29) :: ([], [6], some 30) :: ([9, 10], [29, 30], some 31) :: ([11], [31], some 32) :: ([12], [32], some 33) :: ([13], [33], some 34) :: ([3, 8, 0, 1, 2, 3, 4, 5, 6, 7, 8, 9, 10, 11, 12, 13, 14], [23, 28], some 35) :: ([15, 14, 0, 1, 2, 3, 4, 5, 6, 7, 8, 9, 10, 11, 12, 13, 14], [35, 34], none) :: []) (by kernel_rfl) (by kernel_rfl) (n := 17) rfl (by kernel_rfl) (fun _ _ _ _ _ h => h) (fun wg hog => ?_)
      refine L.growe_start (N := 37) (by rfl) ?_
      have e0 : ∀ w', Only [] wg w' → w'.cell? ⟨g, 0, none⟩ = some (.slice (some ⟨a2, 0, none⟩) p c2) := fun w' q => (cell_of_row w' g 0 _ _ _ ((hog.trans q).heap HX.out (by simp))).trans rfl
      have f0 : ∀ w', Only [] wg w' → w'.cell? (ad.add (k * 2)) = some (.int .i64 t) := fun w' q => cellsAt_head (HC.out.only (hog.trans q) (by simp)) rfl
      have f1 : ∀ w', Only [] wg w' → w'.cell? ⟨(ad.add (k * 2)).block, (ad.add (k * 2)).off + 1, none⟩ = some (.slice B xb.length cap) := fun w' q => cellsAt_field (HC.out.only (hog.trans q) (by simp)) 1 (by omega) rfl
      have HSG := Lib.hid (hog.heap HS.out (by simp))
      have HXG := Lib.hid (hog.heap HX.out (by simp))
      have HOG := Lib.hid (HO.out.trans hog)
      have HBG := Lib.hid (HB.out.only hog)
      clear hog
      iterate 14 (first | (refine L.ge_off rfl rfl rfl (by rfl) ?_) | (refine L.ge_move rfl rfl rfl (by rfl) rfl (by simp [L.evE, L.lk, Act.eval]; rfl) ?_) | (refine L.ge_pick rfl rfl rfl (by rfl) rfl (by simp [L.evE, L.lk, Act.eval]; rfl) (by simp [L.evE, L.lk, Act.eval]; rfl) ?_) | (refine L.ge_val rfl rfl rfl (by rfl) (by intro w' hw'; simp [execOp, L.evE, L.lk, Act.eval]; go_simp; rfl) ?_))
      refine ge_bytes_string rfl rfl rfl (by rfl) _ _ _ rfl 5 Try.underlying43 Try.underlying5 Try.underlying9 B xb.length cap xb rfl (by simp [L.evE, L.lk, Act.eval]) (fun w' h => HBG.out.only h) ?_
      iterate 1 (first | (refine L.ge_off rfl rfl rfl (by rfl) ?_) | (refine L.ge_move rfl rfl rfl (by rfl) rfl (by simp [L.evE, L.lk, Act.eval]; rfl) ?_) | (refine L.ge_pick rfl rfl rfl (by rfl) rfl (by simp [L.evE, L.lk, Act.eval]; rfl) (by simp [L.evE, L.lk, Act.eval]; rfl) ?_) | (refine L.ge_val rfl rfl rfl (by rfl) (by intro w' hw'; simp [execOp, L.evE, L.lk, Act.eval]; go_simp; rfl) ?_))
      clear e0 f0 f1
      have hcx : ∃ u, wg.cell? ⟨a2, t, none⟩ = some u := ⟨_, (cell_of_row wg a2 t _ _ _ HSG.out).trans (by rw [List.getElem?_toArray, List.getElem?_append_left (by rw [txts_length, HBL.out]; exact ht)]; exact List.getElem?_eq_getElem (by rw [txts_length, HBL.out]; exact ht))⟩
      obtain ⟨u, hcx⟩ := hcx
      have hfx : wg.frozen? ⟨a2, t, none⟩ = false := frozen_of_row wg a2 t _ _ HSG.out
      refine L.ge_last (w' := wg.setCell ⟨a2, t, none⟩ (.string ⟨xb.toArray⟩)) rfl rfl (by rfl) (by simp [execOp, L.evE, L.lk, Act.eval]; go_simp) ?_
      simp only [L.puts, Act.put, goInt, List.setIfInBounds_toArray, List.set_cons_zero, List.set_cons_succ]
      clear hcx hfx
      go_wp2
      go_roundw
      case rel =>
        refine ⟨k + 1, by omega, by go_num, ?_, ?_, Lib.hid (HOG.out.setCell (by right; have := HA2.out; simp; omega) _)⟩
        · exact Lib.hid ((heap_setCell_other _ _ _ _ (by have := HG.out; simp; omega)).trans HXG.out)
        · refine Lib.hid ?_
          rw [heap_setCell_same wg a2 t _ _ _ HSG.out, HNX.out, ← txts_set _ _ _ (by rw [HBL.out]; exact ht)]
          rfl
      case measure => simp [Go.RowKit.intOf]; omega
    · obtain rfl : k = xs.length := by omega
      go_wp2
      go_ret
      have hs := HS.out
      rw [List.take_length] at hs
      exact ⟨g, a2, c2, rr, rfl, ⟨by rw [HX.out, behind_length, HML.out], hs⟩, HG.out.1, HA2.out, HO.out⟩
end Go.Proofs.Ytlngfelpmebemaa
