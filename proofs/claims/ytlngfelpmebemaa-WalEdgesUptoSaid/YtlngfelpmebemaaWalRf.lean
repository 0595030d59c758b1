/-
  The document's model of a log: a new one.
-/
import Derived.Test.YtlngfelpmebemaaWalMl
import Derived.Deep.AppendLies
namespace Go.Proofs.Ytlngfelpmebemaa
open Go Go.RowKit
set_option linter.unusedSimpArgs false
set_option linter.unusedVariables false
theorem infoStr : (Try.prog.info? 9).map (fun i => (i.zero, i.size, i.bytes)) = some (some (.string ⟨#[]⟩), 1, 16) := by kernel_rfl
set_option maxHeartbeats 8000000 in
set_option maxRecDepth 100000 in
theorem rnew_any (n p : Nat) (hp : roomN n = p) (h1 : 1 ≤ p) (hn : n ≤ 2048) (w : World) :
    Calls Try.prog 13 #[.int .i64 n] w fun e w' => ∃ m a c r, e = .returned (.pointer (some ⟨m, 0, none⟩)) ∧ IsMd w' m a c r (List.replicate p (sec 0)) ∧ w.heap.size ≤ m ∧ w.heap.size ≤ a ∧ Only [] w w' := by
  have HRM := Lib.hid (show ∀ W, Calls Try.prog 10 #[.int .i64 (n : Int)] W fun e w' => e = .returned (.int .i64 p) ∧ w' = W from fun W => by
    have := rroom_any (n : Int) (by omega) (by omega) W
    rw [Int.toNat_natCast, hp] at this
    exact this)
  have hp9 : p ≤ 2048 := by
    have := room_fits (S := n)
    rcases Nat.lt_or_ge n 4 with h | h
    · rw [room_zero h] at hp; omega
    · have := (this h).1
      rw [hp] at this
      unfold fits at this
      omega
  obtain ⟨tx, htx⟩ : ∃ tx : ByteArray, txt (sec 0) = .string tx := ⟨_, rfl⟩
  have HTX := Lib.hid htx
  clear htx hp
  go_enter Try.func13, Try.ntmps13
  have h0 : (w.alloc (.cells #[.slice none 0 0] 58)).heap[w.heap.size]? = some (.cells #[.slice none 0 0] 58 (0, 0)) := heap_alloc_new _ _
  have ho0 := (Only.refl [] w).alloc (.cells #[.slice none 0 0] 58)
  have hsz : (w.alloc (.cells #[.slice none 0 0] 58)).heap.size = w.heap.size + 1 := by simp
  have H0 := Lib.hid h0
  have HO0 := Lib.hid ho0
  have HSZ := Lib.hid hsz
  clear h0 ho0 hsz
  go_wp2
  generalize hgg : w.heap.size = g at *
  have HGG := Lib.hid hgg
  clear hgg
  go_loopw [4] (fun i wr => ∃ (k : Nat) (v : Value), k ≤ p ∧ i = .int .i64 k ∧ Hid (wr.heap[g]? = some (.cells #[v] 58 (0, 0))) ∧ Hid (wr.ownsRow (g + 1) 9 1 v k (txts (List.replicate k (sec 0)))) ∧ Hid (Only [] w wr ∧ g < wr.heap.size)) (fun i _ => p - (Go.RowKit.intOf i).toNat)
  case atStart => exact ⟨0, .slice none 0 0, by omega, rfl, H0, World.ownsRow_nil _ _ _ _, HO0.out, by have := HSZ.out; omega⟩
  case round =>
    obtain ⟨k, v, hk, rfl, hI, hR, hO⟩ := hrel
    by_cases hlt : k < p
    · have hlt' : (k : Int) < p := by omega
      go_wp2_with (go_at_call 10; refine (HRM.out _).mono ?_; rintro e w1 ⟨rfl, rfl⟩)
      refine L.grow_start v.ownBlock.toList 10 ((0, true, false) :: (1, true, false) :: (2, true, false) :: (3, true, false) :: (4, true, false) :: (5, false, true) :: (6, false, true) :: (7, false, true) :: (8, true, true) :: (9, true, true) :: (10, false, true) :: []) (by kernel_rfl) (([], [3], some 13) :: ([], [3], some 14) :: ([1], [14], some 15) :: ([2], [15], some 16) :: ([3], [16], some 17) :: ([], [], some 18) :: ([5], [18], some 19) :: ([4, 6, 5], [17, 19], some 20) :: ([0, 0, 1, 2, 3, 4, 5, 6, 7], [13], some 21) :: ([8, 0, 1, 2, 3, 4, 5, 6, 7], [21], some 22) :: ([9, 7, 7, 0, 1, 2, 3, 4, 5, 6, 7], [22, 20], none) :: []) (by kernel_rfl) (by kernel_rfl) (n := 11) rfl (by kernel_rfl) (fun _ _ _ _ _ h => h) (fun wg hog => ?_)
      refine L.growe_start (N := 24) (by rfl) ?_
      have hbl : ∀ k, v.ownBlock = some k → g + 1 ≤ k ∧ k < w1.heap.size := fun q hq => ownsRow_lt hR.out hq
      have hgb : g ∉ v.ownBlock.toList := by
        intro h
        have := hbl g (by simpa using h)
        omega
      have hrow0 := hog.heap hI.out (by simp)
      have e0 : ∀ w', Only v.ownBlock.toList wg w' → w'.cell? ⟨g, 0, none⟩ = some v := fun w' h => by
        have := h.heap hrow0 hgb
        rw [cell_of_row w' g 0 _ _ _ this]
        rfl
      have HBL := Lib.hid hbl
      have HGB := Lib.hid hgb
      have HRW := Lib.hid hrow0
      have HOG := Lib.hid hog
      clear hbl hgb hrow0 hog
      iterate 5 (first | (refine L.ge_off rfl rfl rfl (by rfl) ?_) | (refine L.ge_move rfl rfl rfl (by rfl) rfl (by simp [L.evE, L.lk, Act.eval]; rfl) ?_) | (refine L.ge_pick rfl rfl rfl (by rfl) rfl (by simp [L.evE, L.lk, Act.eval]; rfl) (by simp [L.evE, L.lk, Act.eval]; rfl) ?_) | (refine L.ge_val rfl rfl rfl (by rfl) (by intro w' hw'; simp [execOp, L.evE, L.lk, Act.eval]; go_simp; rfl) ?_))
      clear e0
      refine L.ge_call rfl rfl rfl (by rfl) rfl (by simp [L.evE, L.lk, Act.eval]; rfl) (by go_simp) ?_
      refine (nought_any _).mono ?_
      rintro e wa ⟨rfl, hoa⟩
      refine ⟨.string tx, by rw [HTX.out], hoa.mono (by simp), ?_⟩
      refine L.ge_mem (v := .slice (some ⟨wa.heap.size, 0, none⟩) 1 1) (w' := wa.alloc (.cells #[.string tx] 9)) rfl rfl rfl (by rfl) (by simp [execOp, L.evE, L.lk, Act.eval]; go_simp) ((Only.refl _ _).alloc _) ?_
      have hown1 := ownsRow_only (S := []) (ownsRow_only (S := []) (ownsRow_only (S := []) hR.out HOG.out (by simp)) hoa (by simp)) ((Only.refl [] wa).alloc (.cells #[.string tx] 9)) (by simp)
      have HOA := Lib.hid (HOG.out.trans (hoa.trans ((Only.refl [] wa).alloc (.cells #[.string tx] 9))))
      have hszb : g + 1 ≤ (wa.alloc (.cells #[.string tx] 9)).heap.size := by have := HOA.out.size; have := hO.out.2; omega
      refine L.ge_append rfl rfl (by rfl) (by rfl) _ _ 56 rfl (g + 1) 9 1 16 (.string ⟨#[]⟩) Try.underlying56 infoStr rfl (by omega) v k _ rfl hown1 ⟨wa.heap.size, 0, none⟩ 1 1 [.string tx] (by rfl) (by simp) (cellsAt_row (heap_alloc_new _ _)) (by simp [Value.oneCell']) (by omega) (by unfold maxLen; omega) (by omega) hszb ?_
      intro g2 cap w2 hown2 ho2 hat hlt2
      refine ⟨ho2, ?_⟩
      iterate 2 (first | (refine L.ge_off rfl rfl rfl (by rfl) ?_) | (refine L.ge_move rfl rfl rfl (by rfl) rfl (by simp [L.evE, L.lk, Act.eval]; rfl) ?_) | (refine L.ge_pick rfl rfl rfl (by rfl) rfl (by simp [L.evE, L.lk, Act.eval]; rfl) (by simp [L.evE, L.lk, Act.eval]; rfl) ?_) | (refine L.ge_val rfl rfl rfl (by rfl) (by intro w' hw'; simp [execOp, L.evE, L.lk, Act.eval]; go_simp; rfl) ?_))
      have hrow2 := ho2.heap (HOA.out.heap hI.out (by simp)) HGB.out
      have hcx : ∃ u, w2.cell? ⟨g, 0, none⟩ = some u := ⟨_, (cell_of_row w2 g 0 _ _ _ hrow2).trans rfl⟩
      obtain ⟨u, hcx⟩ := hcx
      have hfx : w2.frozen? ⟨g, 0, none⟩ = false := frozen_of_row w2 g 0 _ _ hrow2
      refine L.ge_last (w' := w2.setCell ⟨g, 0, none⟩ (.slice (some ⟨g2, 0, none⟩) (k + 1) cap)) rfl rfl (by rfl) (by simp [execOp, L.evE, L.lk, Act.eval]; go_simp) ?_
      simp only [L.puts, Act.put, List.setIfInBounds_toArray, List.set_cons_zero, List.set_cons_succ]
      have HR2 := Lib.hid hown2
      have HO2 := Lib.hid ((hO.out.1.trans HOA.out).then ho2 (by intro i hi; right; have := (HBL.out i (by simpa using hi)).1; have := HGG.out; omega))
      have hsz3 := HOA.out.size
      have hsz2 := ho2.size
      have H2 := Lib.hid hrow2
      clear hown2 ho2 hat hrow2 hown1 hoa
      have hO1 := hO.out.2
      go_wp2
      go_roundw
      case rel =>
        refine ⟨k + 1, .slice (some ⟨g2, 0, none⟩) (k + 1) cap, by omega, by go_num, ?_, ?_, ?_, ?_⟩
        · show _ = _
          rw [heap_setCell_same _ g 0 _ _ _ H2.out]; rfl
        · have e : txts (List.replicate (k + 1) (sec 0)) = txts (List.replicate k (sec 0)) ++ [.string tx] := by rw [List.replicate_succ', txts, List.map_append, List.map_singleton, HTX.out]; rfl
          rw [e]
          exact ownsRow_setCell_below HR2.out (by simp) _
        · exact HO2.out.setCell (by right; have := HGG.out; simp; omega) _
        · simp [World.setCell]; omega
      case measure => simp [Go.RowKit.intOf]; omega
    · obtain rfl : k = p := by omega
      have hlt' : (k : Int) ≤ k := Int.le_refl _
      go_wp2_with (go_at_call 10; refine (HRM.out _).mono ?_; rintro e w1 ⟨rfl, rfl⟩)
      go_ret
      obtain ⟨hlx, h9⟩ := hR.out
      rcases h9 with ⟨h9, h10⟩ | ⟨g', cap', cur, rfl, hg1, hh, hnc, _, hsz, htk⟩
      · omega
      · refine ⟨g, g', cap', cur.toList.drop k, rfl, ⟨?_, ?_⟩, by have := HGG.out; omega, by have := HGG.out; omega, hO.out.1⟩
        · rw [hI.out]; simp
        · rw [hh]
          have e : cur.toList.take k = txts (List.replicate k (sec 0)) := by simpa using htk
          show some (Obj.cells cur _ _) = some (Obj.cells (txts (List.replicate k (sec 0)) ++ _).toArray _ _)
          rw [← e, List.take_append_drop]
end Go.Proofs.Ytlngfelpmebemaa
