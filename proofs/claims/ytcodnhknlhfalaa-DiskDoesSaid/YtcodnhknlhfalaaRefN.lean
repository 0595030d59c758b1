/-
  The document's disk: a new one, a clone, a write.
-/
import Derived.Test.YtcodnhknlhfalaaRef
namespace Go.Proofs.Ytcodnhknlhfalaa
open Go.RowKit
set_option linter.unusedSimpArgs false
set_option linter.unusedVariables false
theorem rwrite_any (g s cp : Nat) (r : List Value) (D : Dk) (i : Int) (A : Option Addr) (c : Nat) (b : List UInt8) (w : World) (h : IsRf w g s cp r D) (hD : D.Ok) (hwr : D.writes < 1000000000)
    (hA : b ≠ [] → ∃ ad, A = some ad ∧ CellsAt w ad (bcells b) ∧ ad.block ≠ g) :
    Calls Try.prog 27 #[.pointer (some ⟨g, 0, none⟩), .int .i64 i, .slice A b.length c] w fun e w' => e = .returned (.int .i64 (D.write i b).1) ∧ IsRf w' g s cp r (D.write i b).2 ∧ Only [g, s] w w' := by
  by_cases h1 : D.off = true
  · have e : D.write i b = (6, D) := by unfold Dk.write; rw [if_pos h1]
    rw [e]
    exact (rwrite_off g s cp r D i A c b w h h1).mono fun e w' ⟨he, hw⟩ => ⟨he, hw ▸ h, hw ▸ Only.refl _ _⟩
  have h1' : D.off = false := by simpa using h1
  by_cases h2 : i < 0 ∨ (D.L.length : Int) ≤ i
  · have e : D.write i b = (1, D) := by unfold Dk.write; rw [if_neg h1, if_pos h2]
    rw [e]
    exact (rwrite_arg g s cp r D i A c b w h h1' (.inl h2)).mono fun e w' ⟨he, hw⟩ => ⟨he, hw ▸ h, hw ▸ Only.refl _ _⟩
  by_cases h3 : b.length = 256
  · obtain ⟨ad, hAd, hc, hag⟩ := hA (by intro e; subst e; simp at h3)
    by_cases h4 : D.left = 0
    · have e : D.write i b = (6, { D with off := true }) := by unfold Dk.write; rw [if_neg h1, if_neg h2, if_neg (by omega), if_pos h4]
      rw [e]
      exact (rwrite_cut g s cp r D i A c b w h h1' (by omega) (by omega) h3 h4).mono fun e w' ⟨he, hi, ho⟩ => ⟨he, hi, ho.mono (by simp)⟩
    · have e : D.write i b = (0, { D with L := D.L.set i.toNat b, left := if 0 < D.left then D.left - 1 else D.left, writes := D.writes + 1 }) := by
        unfold Dk.write; rw [if_neg h1, if_neg h2, if_neg (by omega), if_neg h4]
      rw [e]
      by_cases h5 : 0 < D.left
      · simp only [if_pos h5]
        exact rwrite_go g s cp r D i A c b w h h1' (by omega) (by omega) h3 h5 hD.leftHi hD.wr hwr ad hAd hc hag
      · simp only [if_neg h5]
        exact rwrite_free g s cp r D i A c b w h h1' (by omega) (by omega) h3 (by omega) hD.wr hwr ad hAd hc hag
  · have e : D.write i b = (1, D) := by unfold Dk.write; rw [if_neg h1, if_neg h2, if_pos h3]
    rw [e]
    exact (rwrite_arg g s cp r D i A c b w h h1' (.inr h3)).mono fun e w' ⟨he, hw⟩ => ⟨he, hw ▸ h, hw ▸ Only.refl _ _⟩
theorem infoStr : (Try.prog.info? 9).map (fun i => (i.zero, i.size, i.bytes)) = some (some (.string ⟨#[]⟩), 1, 16) := by kernel_rfl
theorem rclone_any (g s cp : Nat) (r : List Value) (D : Dk) (w : World) (h : IsRf w g s cp r D) (hD : D.Ok) (h0 : 0 < D.L.length) :
    Calls Try.prog 19 #[.pointer (some ⟨g, 0, none⟩)] w fun e w' => ∃ g' s' cp' r', e = .returned (.pointer (some ⟨g', 0, none⟩)) ∧ IsRf w' g' s' cp' r' D ∧ w.heap.size ≤ g' ∧ w.heap.size ≤ s' ∧ Only [] w w' := by
  have c0 := Lib.hid h.c0
  have c1 := Lib.hid h.c1
  have c2 := Lib.hid h.c2
  have c3 := Lib.hid h.c3
  have H := Lib.hid h
  have HD := Lib.hid hD
  clear h hD
  go_enter Try.func19, Try.ntmps19
  go_wp2_with fail
  refine L.grow_start [] 20 ((0, true, false) :: (1, true, false) :: (2, true, false) :: (3, true, false) :: (5, true, false) :: (6, true, false) :: (7, true, false) :: (8, true, false) :: (9, true, false) :: (10, true, false) :: (11, true, false) :: (12, true, false) :: (13, true, false) :: (14, true, false) :: (15, true, false) :: (16, true, false) :: (4, false, true) :: (17, true, true) :: (18, false, true) :: (19, true, true) :: []) (by kernel_rfl) (([], [0], some 3) :: ([0], [3], some 4) :: ([1], [4], some 5) :: ([2], [5], some 6) :: ([3], [6], some 7) :: ([], [0], some 8) :: ([5], [8], some 9) :: ([6], [9], some 10) :: ([7], [10], some 11) :: ([], [0], some 12) :: ([9], [12], some 13) :: ([10], [13], some 14) :: ([11], [14], some 15) :: ([], [0], some 16) :: ([13], [16], some 17) :: ([14], [17], some 18) :: ([15], [18], some 19) :: ([4, 8, 12, 16], [7, 11, 15, 19], some 20) :: ([17], [20], some 21) :: ([18, 4, 0, 1, 2, 3, 4, 5, 6, 7, 8, 9, 10, 11, 12, 13, 14, 15, 16, 17, 18], [21], some 2) :: []) (by kernel_rfl) (by kernel_rfl) (n := 20) rfl (by kernel_rfl) (fun _ _ _ _ _ h => h) (fun wg hog => ?_)
  refine L.growe_start (N := 22) (by rfl) ?_
  have e0 : ∀ w', Only [] wg w' → w'.cell? ⟨g, 0, none⟩ = some (.slice (some ⟨s, 0, none⟩) D.L.length cp) := fun w' h => h.cell (hog.cell c0.out (by simp)) (by simp)
  have e1 : ∀ w', Only [] wg w' → w'.cell? ⟨g, 1, none⟩ = some (.bool D.off) := fun w' h => h.cell (hog.cell c1.out (by simp)) (by simp)
  have e2 : ∀ w', Only [] wg w' → w'.cell? ⟨g, 2, none⟩ = some (.int .i64 D.left) := fun w' h => h.cell (hog.cell c2.out (by simp)) (by simp)
  have e3 : ∀ w', Only [] wg w' → w'.cell? ⟨g, 3, none⟩ = some (.int .i64 D.writes) := fun w' h => h.cell (hog.cell c3.out (by simp)) (by simp)
  have HG := Lib.hid hog
  have HC := Lib.hid (show CellsAt wg ⟨s, 0, none⟩ (txts D.L) from fun j u hj => (cellsAt_row (hog.heap H.out.sec (by simp))) j u (by rw [List.getElem?_append_left (List.getElem?_eq_some_iff.1 hj).1]; exact hj))
  clear hog
  iterate 16 (first | (refine L.ge_off rfl rfl rfl (by rfl) ?_) | (refine L.ge_move rfl rfl rfl (by rfl) rfl (by simp [L.evE, L.lk, Act.eval]; rfl) ?_) | (refine L.ge_pick rfl rfl rfl (by rfl) rfl (by simp [L.evE, L.lk, Act.eval]; rfl) (by simp [L.evE, L.lk, Act.eval]; rfl) ?_) | (refine L.ge_val rfl rfl rfl (by rfl) (by intro w' hw'; simp [execOp, L.evE, L.lk, Act.eval]; go_simp; rfl) ?_))
  clear e0 e1 e2 e3
  have hlt := HD.out.len
  -- operation 4: append
  refine L.ge_append rfl rfl (by rfl) (by rfl) _ _ 48 rfl wg.heap.size 9 1 16 (.string ⟨#[]⟩) Try.underlying48 infoStr rfl (by omega) (.slice none 0 0) 0 [] rfl (World.ownsRow_nil _ _ _ _) ⟨s, 0, none⟩ D.L.length cp (txts D.L) (by rfl) (by simp [txts]) HC.out (txts_one _) h0 (by unfold maxLen; omega) (by omega) (Nat.le_refl _) ?_
  intro g2 cap w2 hown ho hat hlt2
  refine ⟨ho, ?_⟩
  iterate 1 (first | (refine L.ge_off rfl rfl rfl (by rfl) ?_) | (refine L.ge_move rfl rfl rfl (by rfl) rfl (by simp [L.evE, L.lk, Act.eval]; rfl) ?_) | (refine L.ge_pick rfl rfl rfl (by rfl) rfl (by simp [L.evE, L.lk, Act.eval]; rfl) (by simp [L.evE, L.lk, Act.eval]; rfl) ?_) | (refine L.ge_val rfl rfl rfl (by rfl) (by intro w' hw'; simp [execOp, L.evE, L.lk, Act.eval]; go_simp; rfl) ?_))
  -- operation 18: Op.box 50 (Operand.tmp 20)
  refine L.ge_mem (w' := w2.alloc (.cells #[.slice (some ⟨g2, 0, none⟩) (0 + D.L.length) cap, .bool D.off, .int .i64 D.left, .int .i64 D.writes] 50)) rfl rfl (by rfl) (by rfl) (by simp [execOp, L.evE, L.lk, Act.eval]; go_simp; rfl) ((Only.refl _ _).alloc _) ?_
  iterate 1 (first | (refine L.ge_off rfl rfl rfl (by rfl) ?_) | (refine L.ge_move rfl rfl rfl (by rfl) rfl (by simp [L.evE, L.lk, Act.eval]; rfl) ?_) | (refine L.ge_pick rfl rfl rfl (by rfl) rfl (by simp [L.evE, L.lk, Act.eval]; rfl) (by simp [L.evE, L.lk, Act.eval]; rfl) ?_) | (refine L.ge_val rfl rfl rfl (by rfl) (by intro w' hw'; simp [execOp, L.evE, L.lk, Act.eval]; go_simp; rfl) ?_))
  refine L.ge_done ?_
  simp only [L.puts, Act.put, List.setIfInBounds_toArray, List.set_cons_zero, List.set_cons_succ]
  go_wp2
  go_ret
  have hgs : g2 = wg.heap.size := by simpa [Value.ownBlock] using hat
  have hsz := HG.out.size
  have hsz2 := ho.size
  obtain ⟨hlx, h9⟩ := hown
  rcases h9 with ⟨h9, _⟩ | ⟨g', cap', cur, h9, _, hh, hnc, _, hsz, htk⟩
  · cases h9
  · simp only [Value.slice.injEq, Option.some.injEq, Addr.mk.injEq] at h9
    obtain ⟨⟨rfl, _, _⟩, _, rfl⟩ := h9
    refine ⟨w2.heap.size, g2, cap, cur.toList.drop D.L.length, rfl, ⟨?_, ?_⟩, by omega, by omega, ((HG.out.trans ho).alloc _)⟩
    · rw [heap_alloc_new, Nat.zero_add]
    · rw [Below.heap_alloc _ _ _ hlt2, hh]
      have e : cur.toList.take D.L.length = txts D.L := by simpa using htk
      rw [← e, List.take_append_drop]
theorem rnew_no (n : Int) (hn : n < 1 ∨ 2048 < n) (w : World) :
    Calls Try.prog 17 #[.int .i64 n] w fun e w' => e = .returned (.tuple #[.pointer none, .int .i64 1]) ∧ w = w' := by
  by_cases h : n < 1
  · clear hn
    go_enter Try.func17, Try.ntmps17
    go_wp2
    go_ret2
    exact ⟨rfl, rfl⟩
  · have h2 : 2048 < n := by omega
    clear hn
    go_enter Try.func17, Try.ntmps17
    go_wp2
    go_ret2
    exact ⟨rfl, rfl⟩
set_option maxRecDepth 100000 in
theorem rnew_yes (n : Nat) (h1 : 1 ≤ n) (h2 : n ≤ 2048) (w : World) :
    Calls Try.prog 17 #[.int .i64 n] w fun e w' => ∃ g s cp r, e = .returned (.tuple #[.pointer (some ⟨g, 0, none⟩), .int .i64 0]) ∧ IsRf w' g s cp r (Dk.new n) ∧ w.heap.size ≤ g ∧ w.heap.size ≤ s ∧ Only [] w w' := by
  have h1' : (1 : Int) ≤ n := by omega
  have h2' : (n : Int) ≤ 2048 := by omega
  obtain ⟨tx, htx⟩ : ∃ tx : ByteArray, txt (sec 0) = .string tx := ⟨_, rfl⟩
  have HTX := Lib.hid htx
  clear htx
  go_enter Try.func17, Try.ntmps17
  have h0 : (w.alloc (.cells #[.slice none 0 0, .bool false, .int .i64 (-1), .int .i64 0] 50)).heap[w.heap.size]? = some (.cells #[.slice none 0 0, .bool false, .int .i64 (-1), .int .i64 0] 50 (0, 0)) := heap_alloc_new _ _
  have ho0 := (Only.refl [] w).alloc (.cells #[.slice none 0 0, .bool false, .int .i64 (-1), .int .i64 0] 50)
  have hsz : (w.alloc (.cells #[.slice none 0 0, .bool false, .int .i64 (-1), .int .i64 0] 50)).heap.size = w.heap.size + 1 := by simp
  have H0 := Lib.hid h0
  have HO0 := Lib.hid ho0
  have HSZ := Lib.hid hsz
  clear h0 ho0 hsz
  go_wp2
  generalize hgg : w.heap.size = g at *
  have HGG := Lib.hid hgg
  clear hgg
  go_loopw [5] (fun i wr => ∃ (k : Nat) (v : Value), k ≤ n ∧ i = .int .i64 k ∧ Hid (wr.heap[g]? = some (.cells #[v, .bool false, .int .i64 (-1), .int .i64 0] 50 (0, 0))) ∧ Hid (wr.ownsRow (g + 1) 9 1 v k (txts (List.replicate k (sec 0)))) ∧ Hid (Only [] w wr ∧ g < wr.heap.size)) (fun i _ => n - (intOf i).toNat)
  case atStart => exact ⟨0, .slice none 0 0, by omega, rfl, H0, World.ownsRow_nil _ _ _ _, HO0.out, by have := HSZ.out; omega⟩
  case round =>
    obtain ⟨k, v, hk, rfl, hI, hR, hO⟩ := hrel
    by_cases hlt : k < n
    · have hlt' : (k : Int) < n := by omega
      go_wp2_with fail
      refine L.grow_start v.ownBlock.toList 10 ((0, true, false) :: (1, true, false) :: (2, true, false) :: (3, true, false) :: (4, true, false) :: (5, false, true) :: (6, false, true) :: (7, false, true) :: (8, true, true) :: (9, true, true) :: (10, false, true) :: []) (by kernel_rfl) (([], [4], some 19) :: ([], [4], some 20) :: ([1], [20], some 21) :: ([2], [21], some 22) :: ([3], [22], some 23) :: ([], [], some 24) :: ([5], [24], some 25) :: ([4, 6, 5], [23, 25], some 26) :: ([0, 0, 1, 2, 3, 4, 5, 6, 7], [19], some 27) :: ([8, 0, 1, 2, 3, 4, 5, 6, 7], [27], some 28) :: ([9, 7, 7, 0, 1, 2, 3, 4, 5, 6, 7], [28, 26], none) :: []) (by kernel_rfl) (by kernel_rfl) (n := 11) rfl (by kernel_rfl) (fun _ _ _ _ _ h => h) (fun wg hog => ?_)
      refine L.growe_start (N := 30) (by rfl) ?_
      have hbl : ∀ k, v.ownBlock = some k → g + 1 ≤ k ∧ k < wr.heap.size := hR.out.lt
      have hgb : g ∉ v.ownBlock.toList := by
        intro h
        have := hbl g (by simpa using h)
        omega
      have hrow0 := hog.heap hI.out (by simp)
      have e0 : ∀ w', Only v.ownBlock.toList wg w' → w'.cell? ⟨g, 0, none⟩ = some v := fun w' h => by
        have := h.heap hrow0 hgb
        rw [cell_of_row w' g 0 _ _ _ this]
        rfl
      have HBL := Lib.hid hbl
      have HGB := Lib.hid hgb
      have HRW := Lib.hid hrow0
      have HOG := Lib.hid hog
      clear hbl hgb hrow0 hog
      iterate 5 (first | (refine L.ge_off rfl rfl rfl (by rfl) ?_) | (refine L.ge_move rfl rfl rfl (by rfl) rfl (by simp [L.evE, L.lk, Act.eval]; rfl) ?_) | (refine L.ge_pick rfl rfl rfl (by rfl) rfl (by simp [L.evE, L.lk, Act.eval]; rfl) (by simp [L.evE, L.lk, Act.eval]; rfl) ?_) | (refine L.ge_val rfl rfl rfl (by rfl) (by intro w' hw'; simp [execOp, L.evE, L.lk, Act.eval]; go_simp; rfl) ?_))
      clear e0
      -- operation 5: Nought
      refine L.ge_call rfl rfl rfl (by rfl) rfl (by simp [L.evE, L.lk, Act.eval]; rfl) (by go_simp) ?_
      refine (nought_any _).mono ?_
      rintro e wa ⟨rfl, hoa⟩
      refine ⟨.string tx, by rw [HTX.out], hoa.mono (by simp), ?_⟩
      -- operation 6: the slice of one
      refine L.ge_mem (v := .slice (some ⟨wa.heap.size, 0, none⟩) 1 1) (w' := wa.alloc (.cells #[.string tx] 9)) rfl rfl rfl (by rfl) (by simp [execOp, L.evE, L.lk, Act.eval]; go_simp) ((Only.refl _ _).alloc _) ?_
      have hown1 := ownsRow_only (S := []) (ownsRow_only (S := []) (ownsRow_only (S := []) hR.out HOG.out (by simp)) hoa (by simp)) ((Only.refl [] wa).alloc (.cells #[.string tx] 9)) (by simp)
      have HOA := Lib.hid (HOG.out.trans (hoa.trans ((Only.refl [] wa).alloc (.cells #[.string tx] 9))))
      have hszb : g + 1 ≤ (wa.alloc (.cells #[.string tx] 9)).heap.size := by have := HOA.out.size; have := hO.out.2; omega
      -- operation 7: append
      refine L.ge_append rfl rfl (by rfl) (by rfl) _ _ 48 rfl (g + 1) 9 1 16 (.string ⟨#[]⟩) Try.underlying48 infoStr rfl (by omega) v k _ rfl hown1 ⟨wa.heap.size, 0, none⟩ 1 1 [.string tx] (by rfl) (by simp) (cellsAt_row (heap_alloc_new _ _)) (by simp [Value.oneCell']) (by omega) (by unfold maxLen; omega) (by omega) hszb ?_
      intro g2 cap w2 hown2 ho2 hat hlt2
      refine ⟨ho2, ?_⟩
      iterate 2 (first | (refine L.ge_off rfl rfl rfl (by rfl) ?_) | (refine L.ge_move rfl rfl rfl (by rfl) rfl (by simp [L.evE, L.lk, Act.eval]; rfl) ?_) | (refine L.ge_pick rfl rfl rfl (by rfl) rfl (by simp [L.evE, L.lk, Act.eval]; rfl) (by simp [L.evE, L.lk, Act.eval]; rfl) ?_) | (refine L.ge_val rfl rfl rfl (by rfl) (by intro w' hw'; simp [execOp, L.evE, L.lk, Act.eval]; go_simp; rfl) ?_))
      have hrow2 := ho2.heap (HOA.out.heap hI.out (by simp)) HGB.out
      have hcx : ∃ u, w2.cell? ⟨g, 0, none⟩ = some u := ⟨_, (cell_of_row w2 g 0 _ _ _ hrow2).trans rfl⟩
      obtain ⟨u, hcx⟩ := hcx
      have hfx : w2.frozen? ⟨g, 0, none⟩ = false := frozen_of_row w2 g 0 _ _ hrow2
      refine L.ge_last (w' := w2.setCell ⟨g, 0, none⟩ (.slice (some ⟨g2, 0, none⟩) (k + 1) cap)) rfl rfl (by rfl) (by simp [execOp, L.evE, L.lk, Act.eval]; go_simp) ?_
      simp only [L.puts, Act.put, List.setIfInBounds_toArray, List.set_cons_zero, List.set_cons_succ]
      have HR2 := Lib.hid hown2
      have HO2 := Lib.hid ((hO.out.1.trans HOA.out).then ho2 (by intro i hi; right; have := (HBL.out i (by simpa using hi)).1; have := HGG.out; omega))
      have hsz3 := HOA.out.size
      have hsz2 := ho2.size
      have H2 := Lib.hid hrow2
      clear hown2 ho2 hat hrow2 hown1 hoa
      have hO1 := hO.out.2
      go_wp2
      go_roundw
      case rel =>
        refine ⟨k + 1, .slice (some ⟨g2, 0, none⟩) (k + 1) cap, by omega, by go_num, ?_, ?_, ?_, ?_⟩
        · show _ = _
          rw [heap_setCell_same _ g 0 _ _ _ H2.out]; rfl
        · have e : txts (List.replicate (k + 1) (sec 0)) = txts (List.replicate k (sec 0)) ++ [.string tx] := by rw [List.replicate_succ', txts, List.map_append, List.map_singleton, HTX.out]; rfl
          rw [e]
          exact ownsRow_setCell_below HR2.out (by simp) _
        · exact HO2.out.setCell (by right; have := HGG.out; simp; omega) _
        · simp [World.setCell]; omega
      case measure => simp [intOf]; omega
    · obtain rfl : k = n := by omega
      go_wp2
      go_ret2
      obtain ⟨hlx, h9⟩ := hR.out
      rcases h9 with ⟨h9, h10⟩ | ⟨g', cap', cur, rfl, hg1, hh, hnc, _, hsz, htk⟩
      · omega
      · refine ⟨g, g', cap', cur.toList.drop k, rfl, ⟨?_, ?_⟩, by have := HGG.out; omega, by have := HGG.out; omega, hO.out.1⟩
        · rw [hI.out]; simp [Dk.new]
        · rw [hh]
          have e : cur.toList.take k = txts (List.replicate k (sec 0)) := by simpa using htk
          show some (Obj.cells cur _ _) = some (Obj.cells (txts (List.replicate k (sec 0)) ++ _).toArray _ _)
          rw [← e, List.take_append_drop]
end Go.Proofs.Ytcodnhknlhfalaa
