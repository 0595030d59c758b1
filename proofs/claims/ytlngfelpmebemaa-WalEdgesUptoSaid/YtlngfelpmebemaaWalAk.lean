/-
  The chapter's examples, walked: true.
-/
import Derived.Test.YtlngfelpmebemaaWalMd
namespace Go.Proofs.Ytlngfelpmebemaa
open Go Go.RowKit
set_option linter.unusedSimpArgs false
set_option linter.unusedVariables false
theorem WritesM.toF {lo B : Nat} {w : World} {A : Option Addr} {xs : List Wr} (h : WritesM lo B w A xs) (S : List Nat) (hS : ∀ k ∈ S, k < lo ∧ B ≤ k) : WritesF S w A xs := fun i x hx => by
  obtain ⟨ad, Bb, cap, h1, h2, h3, h4, h5⟩ := h i x hx
  refine ⟨ad, Bb, cap, h1, fun hm => by have := (hS _ hm).1; omega, h3, h4, fun h6 => ?_⟩
  obtain ⟨bd, k1, k2, k3⟩ := h5 h6
  exact ⟨bd, k1, fun hm => by have := hS _ hm; omega, k3⟩
def g1 : List Wr := [(0, sec 7), (2, sec 8)]
def g2 : List Wr := [(1, sec 9)]
theorem g1_is : madeP 7 [0, 2] [] = g1 := by decide +kernel
theorem g2_is : madeP 9 [1] [] = g2 := by decide +kernel
def D1 : Dk := (commitP 1 3 false g1 (Dk.new 8)).2.1
def D2 : Dk := D1.cut 0
def D3 : Dk := (commitP 1 3 false g2 D2).2.1
def D4 : Dk := D3.up
theorem ok_of {D : Dk} (h : (D.L.all fun b => b.length == 256) = true ∧ D.L.length ≤ 2048 ∧ -1 ≤ D.left ∧ D.left ≤ 9223372036854775807 ∧ 0 ≤ D.writes) : D.Ok :=
  ⟨fun b hb => by have := List.all_eq_true.1 h.1 b hb; simpa using this, h.2.1, h.2.2.1, h.2.2.2.1, h.2.2.2.2⟩
theorem D1_ok : D1.Ok := ok_of (by decide +kernel)
theorem D2_ok : D2.Ok := ok_of (by decide +kernel)
theorem D4_ok : D4.Ok := ok_of (by decide +kernel)
theorem c1_e : (commitP 1 3 false g1 (Dk.new 8)).1 = 0 := by decide +kernel
theorem c1_d : (commitP 1 3 false g1 (Dk.new 8)).2.2 = false := by decide +kernel
theorem c2_e : (commitP 1 3 false g2 D2).1 = 6 := by decide +kernel
theorem c2_d : (commitP 1 3 false g2 D2).2.2 = true := by decide +kernel
theorem o4_e : (openP D4).1 = 0 := by decide +kernel
theorem o4_L : (openP D4).2.L[6]? = some (sec 0) := by decide +kernel
theorem o4_off : (openP D4).2.off = false := by decide +kernel
theorem o4_ok : (openP D4).2.Ok := ok_of (by decide +kernel)
theorem d1_L : D1.L[7]? = some (sec 8) := by decide +kernel
theorem d1_off : D1.off = false := by decide +kernel
theorem d4_len : D4.L.length = 8 := by decide +kernel
theorem d1_len : D1.L.length = 8 := by decide +kernel
theorem d2_len : D2.L.length = 8 := by decide +kernel
theorem d2_wr : D2.writes < 800000000 := by decide +kernel
theorem d4_wr : D4.writes < 900000000 := by decide +kernel
theorem room8 : roomN 8 = 3 := by decide +kernel
theorem lists3 : listsN 3 = 1 := by decide +kernel
theorem room133 : roomN 133 = 65 := by decide +kernel
theorem zat_row {w : World} {b t : Nat} {xs : List Int} (h : w.heap[b]? = some (.cells (xs.map (Value.int .i64)).toArray t (0, 0))) : ZAt w (some ⟨b, 0, none⟩) xs := fun i x hx => by
  refine ⟨_, rfl, ?_⟩
  have e : (⟨b, 0, none⟩ : Addr).add i = ⟨b, i, none⟩ := by unfold Addr.add; split <;> simp_all
  rw [e]
  exact (cell_of_row w b i _ _ _ h).trans (by rw [List.getElem?_toArray, List.getElem?_map, hx]; rfl)
set_option maxHeartbeats 8000000 in
set_option maxRecDepth 100000 in
theorem awake_any (w : World) : Calls Try.prog 8 #[] w fun e w' => e = .returned (.bool true) ∧ Only [] w w' := by
  go_enter Try.func8, Try.ntmps8
  go_wp2_with (go_at_call 12; refine (opened_yes 8 (by omega) (by omega) w).mono ?_; rw [room8, lists3]; rintro e w1 ⟨g, s, q, rfl, hd, hlg, hg, hs, hq, hqg, hqs, ho1⟩; have HD := Lib.hid hd; have HLG := Lib.hid hlg; have HO1 := Lib.hid ho1; have HGE := Lib.hid (And.intro hg (And.intro hs hq)); have HNE := Lib.hid (And.intro hqg hqs); clear hd hlg hg hs hq hqg hqs ho1; refine (fun (h : Hid _) => h.out) ?_)
  refine Lib.hid ?_
  go_wp2_with (go_at_call 26; refine (lsectors_any q g 1 3 false w1 HLG.out).mono ?_; rintro e w2 ⟨rfl, rfl⟩; refine (fun (h : Hid _) => h.out) ?_)
  refine Lib.hid ?_
  go_wp2_with (go_at_call 9; refine (room_any 133 (by omega) (by omega) w2).mono ?_; rw [show (133 : Int).toNat = 133 from rfl, room133]; rintro e w3 ⟨rfl, rfl⟩; refine (fun (h : Hid _) => h.out) ?_)
  refine Lib.hid ?_
  have HZ1 := Lib.hid (zat_row (xs := [0, 2]) (t := 3) (heap_alloc_new w3 (.cells #[.int .i64 0, .int .i64 2] 3)))
  have HOA := Lib.hid (show Only [] w (w3.alloc (.cells #[.int .i64 0, .int .i64 2] 3)) from HO1.out.alloc _)
  have HDA := Lib.hid (HD.out.only ((Only.refl [] w3).alloc (.cells #[.int .i64 0, .int .i64 2] 3)) (by simp) (by simp))
  have HLA := Lib.hid (HLG.out.only ((Only.refl [] w3).alloc (.cells #[.int .i64 0, .int .i64 2] 3)) (by simp))
  have HLT := Lib.hid (show g < (w3.alloc (.cells #[.int .i64 0, .int .i64 2] 3)).heap.size ∧ s < (w3.alloc (.cells #[.int .i64 0, .int .i64 2] 3)).heap.size from ⟨heap_lt HDA.out.hd, heap_lt HDA.out.sec⟩)
  clear HD HLG HO1
  go_wp2_with (go_at_call 14; refine (made_any (some ⟨w3.heap.size, 0, none⟩) 2 [0, 2] 7 none 0 [] 0 _ (by simp) (by simp) HZ1.out (WritesI.nil _ _ _) (Nat.zero_le _)).mono ?_; rw [g1_is]; rintro e w4 ⟨A, c, rfl, hm, ho⟩; have HM := hm; have HO4 := Lib.hid ho; clear hm ho; refine (fun (h : Hid _) => h.out) ?_)
  refine Lib.hid ?_
  have HF := Lib.hid (HM.out.toF [g, s] (by intro k hk; simp at hk; have := HLT.out; omega))
  have HD4 := Lib.hid (HDA.out.only HO4.out (by simp) (by simp))
  have HL4 := Lib.hid (HLA.out.only HO4.out (by simp))
  have HOB := Lib.hid (HOA.out.trans HO4.out)
  clear HM HOA HDA HLA HO4 HZ1 HLT
  go_wp2_with (go_at_call 17; refine (commit_any q g s 8 1 3 [] false (Dk.new 8) A c g1 w4 (by decide) (by decide) (by omega) (by omega) (by intro n hn; unfold listsN; omega) (Dk.new_ok 8 (by omega)) (by decide) (by decide) HD4.out HL4.out HNE.out.1 HNE.out.2 HF.out (fun _ => by decide)).mono ?_; rw [c1_e, c1_d, show (commitP 1 3 false g1 (Dk.new 8)).2.1 = D1 from rfl]; rintro e w5 ⟨rfl, hd, hlg, ho⟩; have HD5 := Lib.hid hd; have HL5 := Lib.hid hlg; have HO5 := Lib.hid ho; clear hd hlg ho; refine (fun (h : Hid _) => h.out) ?_)
  refine Lib.hid ?_
  have HOC := Lib.hid (HOB.out.then HO5.out (by intro i hi; right; simp at hi; have := HGE.out; omega))
  clear HD4 HL4 HF HOB HO5
  go_wp2_with (go_at_call 19; refine (lread_yes q g s 8 1 3 [] D1 2 (sec 8) w5 D1_ok HD5.out HL5.out d1_off (by omega) (by omega) (by omega) d1_L).mono ?_; rintro e w6 ⟨pb, rfl, hpb, hlb, ho⟩; have HP := Lib.hid hpb; have HPL := Lib.hid hlb; have HO6 := Lib.hid ho; clear hpb hlb ho; refine (fun (h : Hid _) => h.out) ?_)
  refine Lib.hid ?_
  have HD6 := Lib.hid (HD5.out.only HO6.out (by simp) (by simp))
  have HL6 := Lib.hid (HL5.out.only HO6.out (by simp))
  have HOD := Lib.hid (HOC.out.trans HO6.out)
  have HPG := Lib.hid (show pb ≠ g ∧ pb ≠ s ∧ pb ≠ q from by have h1 := heap_lt HD5.out.hd; have h2 := heap_lt HD5.out.sec; have h3 := heap_lt HL5.out.hd; have := HPL.out; omega)
  clear HD5 HL5 HOC HO6 HPL
  go_wp2_with (go_at_call 16; refine (cut_any g s 8 [] D1 0 w6 HD6.out).mono ?_; rw [show D1.cut 0 = D2 from rfl]; rintro e w7 ⟨rfl, hd, ho⟩; have HD7 := Lib.hid hd; have HO7 := Lib.hid ho; clear hd ho; refine (fun (h : Hid _) => h.out) ?_)
  refine Lib.hid ?_
  have HL7 := Lib.hid (HL6.out.only HO7.out (by have := HNE.out; simp; omega))
  have HP7 := Lib.hid (HO7.out.heap HP.out (by have := HPG.out; simp; omega))
  have HOE := Lib.hid (HOD.out.then HO7.out (by intro i hi; right; simp at hi; have := HGE.out; omega))
  clear HD6 HL6 HOD HO7 HP
  have HZ2 := Lib.hid (zat_row (xs := [1]) (t := 3) (heap_alloc_new w7 (.cells #[.int .i64 1] 3)))
  have HOF := Lib.hid (show Only [] w (w7.alloc (.cells #[.int .i64 1] 3)) from HOE.out.alloc _)
  have HDF := Lib.hid (HD7.out.only ((Only.refl [] w7).alloc (.cells #[.int .i64 1] 3)) (by simp) (by simp))
  have HLF := Lib.hid (HL7.out.only ((Only.refl [] w7).alloc (.cells #[.int .i64 1] 3)) (by simp))
  have HPF := Lib.hid (((Only.refl [] w7).alloc (.cells #[.int .i64 1] 3)).heap HP7.out (by simp))
  have HLT := Lib.hid (show g < (w7.alloc (.cells #[.int .i64 1] 3)).heap.size ∧ s < (w7.alloc (.cells #[.int .i64 1] 3)).heap.size from ⟨heap_lt HDF.out.hd, heap_lt HDF.out.sec⟩)
  clear HD7 HL7 HP7 HOE
  go_wp2_with (go_at_call 14; refine (made_any (some ⟨w7.heap.size, 0, none⟩) 1 [1] 9 none 0 [] 0 _ (by simp) (by simp) HZ2.out (WritesI.nil _ _ _) (Nat.zero_le _)).mono ?_; rw [g2_is]; rintro e w8 ⟨A2, c2, rfl, hm, ho⟩; have HM := hm; have HO8 := Lib.hid ho; clear hm ho; refine (fun (h : Hid _) => h.out) ?_)
  refine Lib.hid ?_
  have HF := Lib.hid (HM.out.toF [g, s] (by intro k hk; simp at hk; have := HLT.out; omega))
  have HD8 := Lib.hid (HDF.out.only HO8.out (by simp) (by simp))
  have HL8 := Lib.hid (HLF.out.only HO8.out (by simp))
  have HP8 := Lib.hid (HO8.out.heap HPF.out (by simp))
  have HOG := Lib.hid (HOF.out.trans HO8.out)
  clear HM HO8 HOF HDF HLF HPF HZ2 HLT
  go_wp2_with (go_at_call 17; refine (commit_any q g s 8 1 3 [] false D2 A2 c2 g2 w8 (by decide) (by decide) (by omega) (by omega) (by intro n hn; unfold listsN; omega) D2_ok d2_wr (by rw [d2_len]; omega) HD8.out HL8.out HNE.out.1 HNE.out.2 HF.out (fun _ => by decide)).mono ?_; rw [c2_e, c2_d, show (commitP 1 3 false g2 D2).2.1 = D3 from rfl]; rintro e w9 ⟨rfl, hd, hlg, ho⟩; have HD9 := Lib.hid hd; have HO9 := Lib.hid ho; clear hd hlg ho; refine (fun (h : Hid _) => h.out) ?_)
  refine Lib.hid ?_
  have HOH := Lib.hid (HOG.out.then HO9.out (by intro i hi; right; simp at hi; have := HGE.out; omega))
  have HP9 := Lib.hid (HO9.out.heap HP8.out (by have := HPG.out; simp; omega))
  clear HD8 HL8 HF HOG HO9 HP8
  go_wp2_with (go_at_call 20; refine (up_any g s 8 [] D3 w9 HD9.out).mono ?_; rw [show D3.up = D4 from rfl]; rintro e w10 ⟨rfl, hd, ho⟩; have HD10 := Lib.hid hd; have HO10 := Lib.hid ho; clear hd ho; refine (fun (h : Hid _) => h.out) ?_)
  refine Lib.hid ?_
  have HOI := Lib.hid (HOH.out.then HO10.out (by intro i hi; right; simp at hi; have := HGE.out; omega))
  have HP10 := Lib.hid (HO10.out.heap HP9.out (by have := HPG.out; simp; omega))
  clear HD9 HOH HO10 HP9
  go_wp2_with (go_at_call 23; refine (open_any g s 8 [] D4 w10 D4_ok d4_wr HD10.out).mono ?_; rw [o4_e]; rintro e w11 ⟨v, rfl, _, hv, hd, ho⟩; obtain ⟨q2, rfl, hq2, hlg⟩ := hv.out rfl; rw [d4_len, room8, lists3] at hlg; have HQ2 := Lib.hid hq2; have HL11 := Lib.hid hlg; have HD11 := Lib.hid hd; have HO11 := Lib.hid ho; clear hv hq2 hlg hd ho; refine (fun (h : Hid _) => h.out) ?_)
  refine Lib.hid ?_
  have HOJ := Lib.hid (HOI.out.then HO11.out (by intro i hi; right; simp at hi; have := HGE.out; omega))
  have HP11 := Lib.hid (HO11.out.heap HP10.out (by have := HPG.out; simp; omega))
  clear HD10 HOI HO11 HP10
  go_wp2_with (go_at_call 19; refine (lread_yes q2 g s 8 1 3 [] (openP D4).2 1 (sec 0) w11 o4_ok HD11.out HL11.out o4_off (by omega) (by omega) (by omega) o4_L).mono ?_; rintro e w12 ⟨pc, rfl, hpc, hlc, ho⟩; have HC := Lib.hid hpc; have HO12 := Lib.hid ho; clear hpc hlc ho; refine (fun (h : Hid _) => h.out) ?_)
  refine Lib.hid ?_
  have HOK := Lib.hid (HOJ.out.trans HO12.out)
  have HP12 := Lib.hid (HO12.out.heap HP11.out (by simp))
  clear HOJ HO12 HP11 HD11 HL11
  go_wp2
  refine L.grow_start [] 29 ((0, true, true) :: (1, true, true) :: (2, true, true) :: (3, true, true) :: (4, true, true) :: (5, true, true) :: (6, true, true) :: (7, true, false) :: (8, true, false) :: (9, true, true) :: (10, true, true) :: (11, true, true) :: (12, true, true) :: (13, true, true) :: (14, true, true) :: (15, true, true) :: (16, true, true) :: (17, true, true) :: (18, true, true) :: (19, true, true) :: (20, true, true) :: (21, true, true) :: (22, true, false) :: (23, true, false) :: (24, true, true) :: (25, true, true) :: (26, true, true) :: (27, true, true) :: (28, true, true) :: []) (by kernel_rfl) (([], [4], some 63) :: ([0], [63], some 64) :: ([1], [64], some 65) :: ([2], [6, 65], some 66) :: ([3, 2], [66, 65], some 67) :: ([2, 4], [65, 67], some 68) :: ([5, 2], [68], some 69) :: ([6], [5, 69], some 70) :: ([7, 6], [70, 69], some 71) :: ([6, 6], [69], some 72) :: ([9, 6], [72, 69], some 73) :: ([8, 10, 6], [71, 73, 69], some 74) :: ([6, 11], [69, 74], some 75) :: ([12, 9], [75], some 76) :: ([13], [7, 76], some 77) :: ([14, 13], [77, 76], some 78) :: ([13, 15], [76, 78], some 79) :: ([16, 13], [79], some 80) :: ([17], [11, 80], some 81) :: ([18, 17], [81, 80], some 82) :: ([17, 19], [80, 82], some 83) :: ([20, 17], [83], some 84) :: ([21], [10, 84], some 85) :: ([22, 21], [85, 84], some 86) :: ([21, 21], [84], some 87) :: ([24, 21], [87, 84], some 88) :: ([23, 25, 21], [86, 88, 84], some 89) :: ([21, 26], [84, 89], some 90) :: ([27, 24, 0, 1, 2, 3, 4, 5, 6, 7, 8, 9, 10, 11, 12, 13, 14, 15, 16, 17, 18, 19, 20, 21, 22, 23, 24, 25, 26, 27], [90], some 0) :: []) (by kernel_rfl) (by kernel_rfl) (n := 29) rfl (by kernel_rfl) (fun _ _ _ _ _ h => h) (fun wg hog => ?_)
  refine L.growe_start (N := 91) (by rfl) ?_
  have HOG := Lib.hid (show Only [] w12 wg from hog)
  clear hog
  iterate 8 (first | (refine L.ge_off rfl rfl rfl (by rfl) ?_) | (refine L.ge_move rfl rfl rfl (by rfl) rfl (by simp [L.evE, L.lk, Act.eval]; rfl) ?_) | (refine L.ge_pick rfl rfl rfl (by rfl) rfl (by simp [L.evE, L.lk, Act.eval]; rfl) (by simp [L.evE, L.lk, Act.eval]; rfl) ?_) | (refine L.ge_val rfl rfl rfl (by rfl) (by intro w' hw'; simp [execOp, L.evE, L.lk, Act.eval]; go_simp; rfl) ?_))
  refine ge_bytes_string rfl rfl rfl (by rfl) _ _ _ rfl 5 Try.underlying43 Try.underlying5 Try.underlying9 (some ⟨pb, 0, none⟩) 256 256 (sec 8) (sec_length 8) (by simp [L.evE, L.lk, Act.eval]) (fun w' h _ => ⟨_, rfl, cellsAt_row ((HOG.out.trans h).heap HP12.out (by simp))⟩) ?_
  refine L.ge_call rfl rfl rfl (by rfl) rfl (by simp [L.evE, L.lk, Act.eval]; rfl) (by go_simp) ?_
  refine (full_int 8 (by omega) (by omega) wg).mono ?_
  rintro e w13 ⟨b8, rfl, hb8, hl8, ho8⟩
  refine ⟨_, rfl, ho8, ?_⟩
  have HB8 := Lib.hid (show w13.heap[b8]? = some (.cells (bcells (sec 8)).toArray 5 (0, 0)) from hb8)
  have HOG2 := Lib.hid (HOG.out.trans ho8)
  clear hb8 hl8 ho8
  refine ge_bytes_string rfl rfl rfl (by rfl) _ _ _ rfl 5 Try.underlying43 Try.underlying5 Try.underlying9 (some ⟨b8, 0, none⟩) 256 256 (sec 8) (sec_length 8) (by simp [L.evE, L.lk, Act.eval]) (fun w' h _ => ⟨_, rfl, cellsAt_row (h.heap HB8.out (by simp))⟩) ?_
  iterate 12 (first | (refine L.ge_off rfl rfl rfl (by rfl) ?_) | (refine L.ge_move rfl rfl rfl (by rfl) rfl (by simp [L.evE, L.lk, Act.eval]; rfl) ?_) | (refine L.ge_pick rfl rfl rfl (by rfl) rfl (by simp [L.evE, L.lk, Act.eval]; rfl) (by simp [L.evE, L.lk, Act.eval]; rfl) ?_) | (refine L.ge_val rfl rfl rfl (by rfl) (by intro w' hw'; simp [execOp, L.evE, L.lk, Act.eval]; go_simp; rfl) ?_))
  refine ge_bytes_string rfl rfl rfl (by rfl) _ _ _ rfl 5 Try.underlying43 Try.underlying5 Try.underlying9 (some ⟨pc, 0, none⟩) 256 256 (sec 0) (sec_length 0) (by simp [L.evE, L.lk, Act.eval]) (fun w' h _ => ⟨_, rfl, cellsAt_row ((HOG2.out.trans h).heap HC.out (by simp))⟩) ?_
  refine L.ge_call rfl rfl rfl (by rfl) rfl (by simp [L.evE, L.lk, Act.eval]; rfl) (by go_simp) ?_
  refine (full_int 0 (by omega) (by omega) w13).mono ?_
  rintro e w14 ⟨b9, rfl, hb9, hl9, ho9⟩
  refine ⟨_, rfl, ho9, ?_⟩
  have HB9 := Lib.hid (show w14.heap[b9]? = some (.cells (bcells (sec 0)).toArray 5 (0, 0)) from hb9)
  have HOZ := Lib.hid (HOK.out.trans (HOG2.out.trans ho9))
  clear hb9 hl9 ho9
  refine ge_bytes_string rfl rfl rfl (by rfl) _ _ _ rfl 5 Try.underlying43 Try.underlying5 Try.underlying9 (some ⟨b9, 0, none⟩) 256 256 (sec 0) (sec_length 0) (by simp [L.evE, L.lk, Act.eval]) (fun w' h _ => ⟨_, rfl, cellsAt_row (h.heap HB9.out (by simp))⟩) ?_
  iterate 3 (first | (refine L.ge_off rfl rfl rfl (by rfl) ?_) | (refine L.ge_move rfl rfl rfl (by rfl) rfl (by simp [L.evE, L.lk, Act.eval]; rfl) ?_) | (refine L.ge_pick rfl rfl rfl (by rfl) rfl (by simp [L.evE, L.lk, Act.eval]; rfl) (by simp [L.evE, L.lk, Act.eval]; rfl) ?_) | (refine L.ge_val rfl rfl rfl (by rfl) (by intro w' hw'; simp [execOp, L.evE, L.lk, Act.eval]; go_simp; rfl) ?_))
  refine L.ge_done ?_
  simp only [L.puts, Act.put, goInt, List.setIfInBounds_toArray, List.set_cons_zero, List.set_cons_succ]
  go_wp2
  go_ret
  exact ⟨rfl, HOZ.out⟩
end Go.Proofs.Ytlngfelpmebemaa
