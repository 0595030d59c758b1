/-
  Are two lists of records the same.
-/
import Derived.Test.YthkgpnkbbdpldaaPgRead
namespace Go.Proofs.Ythkgpnkbbdpldaa
open Go.RowKit
set_option linter.unusedSimpArgs false
set_option linter.unusedVariables false
theorem key_eq (a b : ByteArray) : (a.toList == b.toList) = decide (a = b) := by
  obtain ⟨⟨a⟩⟩ := a
  obtain ⟨⟨b⟩⟩ := b
  rw [str_eq a b]
  by_cases h : a = b
  · subst h; simp
  · rw [decide_eq_false h, decide_eq_false (by simpa using h)]
theorem take_same {xs ys : List Rec} {k : Nat} (hl : xs.length = ys.length) (hk : k < xs.length) (h : xs.take k = ys.take k) (x y : Rec) (hx : xs[k]? = some x) (hy : ys[k]? = some y) : (x = y → xs.take (k + 1) = ys.take (k + 1)) ∧ (xs = ys → x = y) := by
  refine ⟨fun e => ?_, fun e => ?_⟩
  · subst e
    rw [List.take_add_one, List.take_add_one, h, hx, hy]
  · subst e
    rw [hx] at hy
    exact Option.some.inj hy
set_option maxHeartbeats 8000000 in
set_option maxRecDepth 100000 in
theorem same_any (A B : Option Addr) (ca cb : Nat) (xs ys : List Rec) (w : World) (hl : xs.length ≤ 1000000) (hl2 : ys.length ≤ 1000000) (hA : PairsAt w A xs) (hB : PairsAt w B ys) :
    Calls Try.prog 17 #[.slice A xs.length ca, .slice B ys.length cb] w fun e w' => e = .returned (.bool (decide (xs = ys))) ∧ Only [] w w' := by
  have HA := Lib.hid hA
  have HB := Lib.hid hB
  clear hA hB
  go_enter Try.func17, Try.ntmps17
  obtain ⟨V, hV⟩ : ∃ V, V = decide (xs = ys) := ⟨_, rfl⟩
  rw [← hV]
  have HV := Lib.hid hV
  clear hV
  by_cases hn : xs.length = ys.length
  · have HN := Lib.hid hn
    rw [← hn]
    clear hl2 hn
    go_wp2
    go_loopw [5] (fun i wr => ∃ k : Nat, k ≤ xs.length ∧ i = .int .i64 k ∧ Hid (xs.take k = ys.take k) ∧ Hid (Only [] w wr)) (fun i _ => xs.length - (intOf i).toNat)
    case atStart => exact ⟨0, by omega, rfl, Lib.hid rfl, Only.refl _ _⟩
    case round =>
      obtain ⟨k, hk, rfl, ht, hO⟩ := hrel
      by_cases hlt : k < xs.length
      · have hlt' : (k : Int) < xs.length := by omega
        obtain ⟨ad, BX, cx, rfl, hxc, _, hbx⟩ := (HA.out.only hO.out).row k hlt
        obtain ⟨bd, BY, cy, rfl, hyc, _, hby⟩ := (HB.out.only hO.out).row k (by have := HN.out; omega)
        have HT := Lib.hid (take_same HN.out hlt ht.out xs[k] (ys[k]'(by have := HN.out; omega)) (List.getElem?_eq_getElem hlt) (List.getElem?_eq_getElem (by have := HN.out; omega)))
        have hx0 := cellsAt_head hxc rfl
        have hx1 := cellsAt_field hxc 1 (by omega) rfl
        have hy0 := cellsAt_head hyc rfl
        have hy1 := cellsAt_field hyc 1 (by omega) rfl
        have HBX := Lib.hid hbx
        have HBY := Lib.hid hby
        clear hxc hyc hbx hby
        generalize xs[k] = x at *
        generalize ys[k]'(by have := HN.out; omega) = y at *
        have hkq := key_eq x.1 y.1
        by_cases hq : x.1 = y.1
        · rw [decide_eq_true hq] at hkq
          have hbq : (x.2 == y.2) = decide (x.2 = y.2) := by by_cases h : x.2 = y.2 <;> simp [h]
          by_cases hq2 : x.2 = y.2
          · rw [decide_eq_true hq2] at hbq
            have HXY := Lib.hid (show x = y from Prod.ext hq hq2)
            clear hq hq2
            go_wp2
            refine L.grow_start [] 26 ((0, true, false) :: (1, true, false) :: (2, true, false) :: (3, true, false) :: (4, true, false) :: (5, true, false) :: (6, true, true) :: (7, true, true) :: (8, true, true) :: (9, true, true) :: (10, true, true) :: (11, true, true) :: (12, true, false) :: (13, true, false) :: (14, true, false) :: (15, true, false) :: (16, true, false) :: (17, true, false) :: (18, true, false) :: (19, true, true) :: (20, true, true) :: (21, true, true) :: (22, true, true) :: (23, true, true) :: (24, true, true) :: (25, true, true) :: []) (by kernel_rfl) (([], [0], some 17) :: ([], [5], some 18) :: ([0, 1], [17, 18], some 19) :: ([2], [19], some 20) :: ([3], [20], some 21) :: ([], [1], some 22) :: ([], [5], some 23) :: ([5, 6], [22, 23], some 24) :: ([7], [24], some 25) :: ([8], [25], some 26) :: ([4, 9], [21, 26], some 27) :: ([10], [27], some 28) :: ([11], [0, 28], some 29) :: ([11], [5, 28], some 30) :: ([12, 13, 11], [29, 30, 28], some 31) :: ([14, 11], [31, 28], some 32) :: ([15, 11], [32, 28], some 33) :: ([16, 11], [33, 28], some 34) :: ([11], [1, 28], some 35) :: ([11], [5, 28], some 36) :: ([18, 19, 11], [35, 36, 28], some 37) :: ([20, 11], [37, 28], some 38) :: ([21, 11], [38, 28], some 39) :: ([22, 11], [39, 28], some 40) :: ([17, 23, 11], [34, 40, 28], some 41) :: ([11, 24], [28, 41], some 42) :: []) (by kernel_rfl) (by kernel_rfl) (n := 26) rfl (by kernel_rfl) (fun _ _ _ _ _ h => h) (fun wg hog => ?_)
            refine L.growe_start (N := 43) (by rfl) ?_
            have e0 : ∀ w', Only [] wg w' → w'.cell? (ad.add (k * 2)) = some (.string x.1) := fun w' h => h.cell (hog.cell hx0 (by simp)) (by simp)
            have e1 : ∀ w', Only [] wg w' → w'.cell? (bd.add (k * 2)) = some (.string y.1) := fun w' h => h.cell (hog.cell hy0 (by simp)) (by simp)
            have e2 : ∀ w', Only [] wg w' → w'.cell? ⟨(ad.add (k * 2)).block, (ad.add (k * 2)).off + 1, none⟩ = some (.slice BX x.2.length cx) := fun w' h => h.cell (hog.cell hx1 (by simp)) (by simp)
            have e3 : ∀ w', Only [] wg w' → w'.cell? ⟨(bd.add (k * 2)).block, (bd.add (k * 2)).off + 1, none⟩ = some (.slice BY y.2.length cy) := fun w' h => h.cell (hog.cell hy1 (by simp)) (by simp)
            have e4 : ∀ w', Only [] wg w' → (convert 25 9 (.slice BX x.2.length cx)).run Try.prog w' = .ok (.string ⟨x.2.toArray⟩) w' := fun w' h => run_bytes_string w' 25 9 5 Try.underlying25 Try.underlying5 Try.underlying9 BX _ cx x.2 rfl (HBX.out.only (hog.trans h))
            have e5 : ∀ w', Only [] wg w' → (convert 25 9 (.slice BY y.2.length cy)).run Try.prog w' = .ok (.string ⟨y.2.toArray⟩) w' := fun w' h => run_bytes_string w' 25 9 5 Try.underlying25 Try.underlying5 Try.underlying9 BY _ cy y.2 rfl (HBY.out.only (hog.trans h))
            have HOG := Lib.hid (hO.out.trans hog)
            clear hog hx0 hx1 hy0 hy1 hO
            iterate 26 (first | (refine L.ge_off rfl rfl rfl (by rfl) ?_) | (refine L.ge_move rfl rfl rfl (by rfl) rfl (by simp [L.evE, L.lk, Act.eval]; rfl) ?_) | (refine L.ge_pick rfl rfl rfl (by rfl) rfl (by simp [L.evE, L.lk, Act.eval]; rfl) (by simp [L.evE, L.lk, Act.eval]; rfl) ?_) | (refine L.ge_val rfl rfl rfl (by rfl) (by intro w' hw'; simp [execOp, L.evE, L.lk, Act.eval]; go_simp; rfl) ?_))
            refine L.ge_done ?_
            simp only [L.puts, Act.put, goInt, List.setIfInBounds_toArray, List.set_cons_zero, List.set_cons_succ]
            clear e0 e1 e2 e3 e4 e5
            go_wp2
            go_roundw
            case rel => exact ⟨k + 1, by omega, by go_num, Lib.hid (HT.out.1 HXY.out), HOG⟩
            case measure => simp [intOf]; omega
          · rw [decide_eq_false hq2] at hbq
            have HNE := Lib.hid hq2
            clear hq hq2
            go_wp2
            refine L.grow_start [] 26 ((0, true, false) :: (1, true, false) :: (2, true, false) :: (3, true, false) :: (4, true, false) :: (5, true, false) :: (6, true, true) :: (7, true, true) :: (8, true, true) :: (9, true, true) :: (10, true, true) :: (11, true, true) :: (12, true, false) :: (13, true, false) :: (14, true, false) :: (15, true, false) :: (16, true, false) :: (17, true, false) :: (18, true, false) :: (19, true, true) :: (20, true, true) :: (21, true, true) :: (22, true, true) :: (23, true, true) :: (24, true, true) :: (25, true, true) :: []) (by kernel_rfl) (([], [0], some 17) :: ([], [5], some 18) :: ([0, 1], [17, 18], some 19) :: ([2], [19], some 20) :: ([3], [20], some 21) :: ([], [1], some 22) :: ([], [5], some 23) :: ([5, 6], [22, 23], some 24) :: ([7], [24], some 25) :: ([8], [25], some 26) :: ([4, 9], [21, 26], some 27) :: ([10], [27], some 28) :: ([11], [0, 28], some 29) :: ([11], [5, 28], some 30) :: ([12, 13, 11], [29, 30, 28], some 31) :: ([14, 11], [31, 28], some 32) :: ([15, 11], [32, 28], some 33) :: ([16, 11], [33, 28], some 34) :: ([11], [1, 28], some 35) :: ([11], [5, 28], some 36) :: ([18, 19, 11], [35, 36, 28], some 37) :: ([20, 11], [37, 28], some 38) :: ([21, 11], [38, 28], some 39) :: ([22, 11], [39, 28], some 40) :: ([17, 23, 11], [34, 40, 28], some 41) :: ([11, 24], [28, 41], some 42) :: []) (by kernel_rfl) (by kernel_rfl) (n := 26) rfl (by kernel_rfl) (fun _ _ _ _ _ h => h) (fun wg hog => ?_)
            refine L.growe_start (N := 43) (by rfl) ?_
            have e0 : ∀ w', Only [] wg w' → w'.cell? (ad.add (k * 2)) = some (.string x.1) := fun w' h => h.cell (hog.cell hx0 (by simp)) (by simp)
            have e1 : ∀ w', Only [] wg w' → w'.cell? (bd.add (k * 2)) = some (.string y.1) := fun w' h => h.cell (hog.cell hy0 (by simp)) (by simp)
            have e2 : ∀ w', Only [] wg w' → w'.cell? ⟨(ad.add (k * 2)).block, (ad.add (k * 2)).off + 1, none⟩ = some (.slice BX x.2.length cx) := fun w' h => h.cell (hog.cell hx1 (by simp)) (by simp)
            have e3 : ∀ w', Only [] wg w' → w'.cell? ⟨(bd.add (k * 2)).block, (bd.add (k * 2)).off + 1, none⟩ = some (.slice BY y.2.length cy) := fun w' h => h.cell (hog.cell hy1 (by simp)) (by simp)
            have e4 : ∀ w', Only [] wg w' → (convert 25 9 (.slice BX x.2.length cx)).run Try.prog w' = .ok (.string ⟨x.2.toArray⟩) w' := fun w' h => run_bytes_string w' 25 9 5 Try.underlying25 Try.underlying5 Try.underlying9 BX _ cx x.2 rfl (HBX.out.only (hog.trans h))
            have e5 : ∀ w', Only [] wg w' → (convert 25 9 (.slice BY y.2.length cy)).run Try.prog w' = .ok (.string ⟨y.2.toArray⟩) w' := fun w' h => run_bytes_string w' 25 9 5 Try.underlying25 Try.underlying5 Try.underlying9 BY _ cy y.2 rfl (HBY.out.only (hog.trans h))
            have HOG := Lib.hid (hO.out.trans hog)
            clear hog hx0 hx1 hy0 hy1 hO
            iterate 26 (first | (refine L.ge_off rfl rfl rfl (by rfl) ?_) | (refine L.ge_move rfl rfl rfl (by rfl) rfl (by simp [L.evE, L.lk, Act.eval]; rfl) ?_) | (refine L.ge_pick rfl rfl rfl (by rfl) rfl (by simp [L.evE, L.lk, Act.eval]; rfl) (by simp [L.evE, L.lk, Act.eval]; rfl) ?_) | (refine L.ge_val rfl rfl rfl (by rfl) (by intro w' hw'; simp [execOp, L.evE, L.lk, Act.eval]; go_simp; rfl) ?_))
            refine L.ge_done ?_
            simp only [L.puts, Act.put, goInt, List.setIfInBounds_toArray, List.set_cons_zero, List.set_cons_succ]
            clear e0 e1 e2 e3 e4 e5
            go_wp2
            go_ret
            refine ⟨?_, HOG.out⟩
            rw [HV.out, decide_eq_false (fun h => HNE.out (by rw [HT.out.2 h]))]
            rfl
        · rw [decide_eq_false hq] at hkq
          have HNE := Lib.hid hq
          clear hq
          go_wp2
          refine L.grow_start [] 26 ((0, true, false) :: (1, true, false) :: (2, true, false) :: (3, true, false) :: (4, true, false) :: (5, true, false) :: (6, true, true) :: (7, true, true) :: (8, true, true) :: (9, true, true) :: (10, true, true) :: (11, true, true) :: (12, true, false) :: (13, true, false) :: (14, true, false) :: (15, true, false) :: (16, true, false) :: (17, true, false) :: (18, true, false) :: (19, true, true) :: (20, true, true) :: (21, true, true) :: (22, true, true) :: (23, true, true) :: (24, true, true) :: (25, true, true) :: []) (by kernel_rfl) (([], [0], some 17) :: ([], [5], some 18) :: ([0, 1], [17, 18], some 19) :: ([2], [19], some 20) :: ([3], [20], some 21) :: ([], [1], some 22) :: ([], [5], some 23) :: ([5, 6], [22, 23], some 24) :: ([7], [24], some 25) :: ([8], [25], some 26) :: ([4, 9], [21, 26], some 27) :: ([10], [27], some 28) :: ([11], [0, 28], some 29) :: ([11], [5, 28], some 30) :: ([12, 13, 11], [29, 30, 28], some 31) :: ([14, 11], [31, 28], some 32) :: ([15, 11], [32, 28], some 33) :: ([16, 11], [33, 28], some 34) :: ([11], [1, 28], some 35) :: ([11], [5, 28], some 36) :: ([18, 19, 11], [35, 36, 28], some 37) :: ([20, 11], [37, 28], some 38) :: ([21, 11], [38, 28], some 39) :: ([22, 11], [39, 28], some 40) :: ([17, 23, 11], [34, 40, 28], some 41) :: ([11, 24], [28, 41], some 42) :: []) (by kernel_rfl) (by kernel_rfl) (n := 26) rfl (by kernel_rfl) (fun _ _ _ _ _ h => h) (fun wg hog => ?_)
          refine L.growe_start (N := 43) (by rfl) ?_
          have e0 : ∀ w', Only [] wg w' → w'.cell? (ad.add (k * 2)) = some (.string x.1) := fun w' h => h.cell (hog.cell hx0 (by simp)) (by simp)
          have e1 : ∀ w', Only [] wg w' → w'.cell? (bd.add (k * 2)) = some (.string y.1) := fun w' h => h.cell (hog.cell hy0 (by simp)) (by simp)
          have e2 : ∀ w', Only [] wg w' → w'.cell? ⟨(ad.add (k * 2)).block, (ad.add (k * 2)).off + 1, none⟩ = some (.slice BX x.2.length cx) := fun w' h => h.cell (hog.cell hx1 (by simp)) (by simp)
          have e3 : ∀ w', Only [] wg w' → w'.cell? ⟨(bd.add (k * 2)).block, (bd.add (k * 2)).off + 1, none⟩ = some (.slice BY y.2.length cy) := fun w' h => h.cell (hog.cell hy1 (by simp)) (by simp)
          have e4 : ∀ w', Only [] wg w' → (convert 25 9 (.slice BX x.2.length cx)).run Try.prog w' = .ok (.string ⟨x.2.toArray⟩) w' := fun w' h => run_bytes_string w' 25 9 5 Try.underlying25 Try.underlying5 Try.underlying9 BX _ cx x.2 rfl (HBX.out.only (hog.trans h))
          have e5 : ∀ w', Only [] wg w' → (convert 25 9 (.slice BY y.2.length cy)).run Try.prog w' = .ok (.string ⟨y.2.toArray⟩) w' := fun w' h => run_bytes_string w' 25 9 5 Try.underlying25 Try.underlying5 Try.underlying9 BY _ cy y.2 rfl (HBY.out.only (hog.trans h))
          have HOG := Lib.hid (hO.out.trans hog)
          clear hog hx0 hx1 hy0 hy1 hO
          iterate 26 (first | (refine L.ge_off rfl rfl rfl (by rfl) ?_) | (refine L.ge_move rfl rfl rfl (by rfl) rfl (by simp [L.evE, L.lk, Act.eval]; rfl) ?_) | (refine L.ge_pick rfl rfl rfl (by rfl) rfl (by simp [L.evE, L.lk, Act.eval]; rfl) (by simp [L.evE, L.lk, Act.eval]; rfl) ?_) | (refine L.ge_val rfl rfl rfl (by rfl) (by intro w' hw'; simp [execOp, L.evE, L.lk, Act.eval]; go_simp; rfl) ?_))
          refine L.ge_done ?_
          simp only [L.puts, Act.put, goInt, List.setIfInBounds_toArray, List.set_cons_zero, List.set_cons_succ]
          clear e0 e1 e2 e3 e4 e5
          go_wp2
          go_ret
          refine ⟨?_, HOG.out⟩
          rw [HV.out, decide_eq_false (fun h => HNE.out (by rw [HT.out.2 h]))]
          rfl
      · obtain rfl : k = xs.length := by omega
        have ht := ht.out
        rw [List.take_length, HN.out, List.take_length] at ht
        have HE := Lib.hid ht
        clear ht
        go_wp2
        go_ret
        refine ⟨?_, hO.out⟩
        rw [HV.out, decide_eq_true HE.out]
        rfl
  · have HN := Lib.hid hn
    have hn' : ((xs.length : Int) == ys.length) = false := by rw [beq_eq_false_iff_ne]; omega
    go_wp2
    go_ret
    refine ⟨?_, Only.refl _ _⟩
    rw [HV.out, decide_eq_false (fun h => HN.out (by rw [h]))]
    rfl
end Go.Proofs.Ythkgpnkbbdpldaa
