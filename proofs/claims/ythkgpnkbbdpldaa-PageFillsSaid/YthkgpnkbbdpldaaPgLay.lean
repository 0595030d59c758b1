/-
  The page's Lay.
-/
import Derived.Test.YthkgpnkbbdpldaaPgFree
namespace Go.Proofs.Ythkgpnkbbdpldaa
open Go.RowKit
set_option linter.unusedSimpArgs false
set_option linter.unusedVariables false
theorem infoU8 : (Try.prog.info? 5).map (fun i => (i.zero, i.size, i.bytes)) = some (some (.int .u8 0), 1, 1) := by kernel_rfl
theorem bcell_wrap (n : Nat) : Value.int .u8 (IntKind.u8.wrap (n : Int)) = bcell (UInt8.ofNat n) := by
  unfold bcell
  rw [show IntKind.u8.wrap (n : Int) = (n : Int) % 256 from rfl, UInt8.toNat_ofNat']
  congr 1
theorem bcell_small (n : Nat) (h : n < 256) : Value.int .u8 (n : Int) = bcell (UInt8.ofNat n) := by
  rw [← bcell_wrap, u8_id _ (by omega) (by omega)]
theorem slots_pos {xs : List Rec} (h : bad xs = false) (k : Nat) (hk : k < xs.length) : slots xs[k] ≠ 0 := by
  unfold bad at h
  rw [List.any_eq_false] at h
  simpa using h _ (List.getElem_mem hk)
theorem buf_one (w : World) (n : Nat) (h : n < 256) : 0 < [UInt8.ofNat n].length → ∃ ad, some (⟨w.heap.size, 0, none⟩ : Addr) = some ad ∧ CellsAt (w.alloc (.cells #[.int .u8 (n : Int)] 5)) ad (bcells [UInt8.ofNat n]) := by
  intro _
  refine ⟨_, rfl, ?_⟩
  rw [bcell_small n h]
  exact cellsAt_row (heap_alloc_new w _)
theorem buf_two (w : World) (X : Obj) (m n : Nat) : 0 < [UInt8.ofNat m, UInt8.ofNat n].length → ∃ ad, some (⟨w.heap.size + 1, 0, none⟩ : Addr) = some ad ∧ CellsAt ((w.alloc X).alloc (.cells #[.int .u8 ((m : Int) % 256), .int .u8 ((n : Int) % 256)] 5)) ad (bcells [UInt8.ofNat m, UInt8.ofNat n]) := by
  intro _
  refine ⟨_, rfl, ?_⟩
  have e : ∀ k : Nat, Value.int .u8 ((k : Int) % 256) = bcell (UInt8.ofNat k) := fun k => by rw [← bcell_wrap]; rfl
  rw [e, e]
  have := heap_alloc_new (w.alloc X) (.cells #[bcell (UInt8.ofNat m), bcell (UInt8.ofNat n)] 5)
  rw [show (w.alloc X).heap.size = w.heap.size + 1 by simp] at this
  exact cellsAt_row this
theorem front_take (xs : List Rec) (k : Nat) (h : k < xs.length) : front xs.length (xs.take (k + 1)) = front xs.length (xs.take k) ++ recBytes xs[k] := by
  unfold front
  rw [allBytes_take xs k h, List.cons_append]
theorem front_room {xs : List Rec} (h : layE xs = 0) (k : Nat) (hk : k < xs.length) : (front xs.length (xs.take k)).length + (2 + xs[k].1.size + xs[k].2.length) ≤ 256 := by
  obtain ⟨h1, _, h3⟩ := layE_zero h
  have e := front_take xs k hk
  have h4 : (front xs.length (xs.take (k + 1))).length ≤ 256 := by
    have hb : bad (xs.take (k + 1)) = false := by
      cases hb : bad (xs.take (k + 1)) with
      | false => rfl
      | true => rw [bad_of_take hb] at h1; cases h1
    have := allBytes_le _ hb
    have := tot_of_take xs (k + 1)
    unfold front
    rw [List.length_cons]
    omega
  rw [e, List.length_append, recBytes_length] at h4
  omega
theorem cell_one {w : World} {ad : Addr} {x : ByteArray} {B B' : Option Addr} {n c c' : Nat} (h : CellsAt w ad [.string x, .slice B' n c']) (k : CellsAt w ad [.string x, .slice B n c]) : B = B' := by
  have h1 := h 1 _ rfl
  have k1 := k 1 _ rfl
  rw [h1] at k1
  simp at k1
  exact k1.1.symm
set_option maxHeartbeats 8000000 in
set_option maxRecDepth 100000 in
theorem lay_any (A : Option Addr) (cp : Nat) (xs : List Rec) (w : World) (hl : xs.length ≤ 1000000) (hF : Fit xs) (hA : PairsAt w A xs) :
    Calls Try.prog 11 #[.slice A xs.length cp] w fun e w' => ∃ v, e = .returned (.tuple #[v, .int .i64 (layE xs)]) ∧ (layE xs ≠ 0 → v = .slice none 0 0) ∧
      (layE xs = 0 → ∃ g, v = .slice (some ⟨g, 0, none⟩) 256 256 ∧ w'.heap[g]? = some (.cells (bcells (layB xs)).toArray 5 (0, 0)) ∧ w.heap.size ≤ g) ∧ Only [] w w' := by
  have HA := Lib.hid hA
  have HF := Lib.hid hF
  clear hA hF
  go_enter Try.func11, Try.ntmps11
  go_wp2
  go_loopw [4, 5, 11] (fun _ _ i wr => ∃ k : Nat, k ≤ xs.length ∧ i = .int .i64 k ∧ Hid (bad (xs.take k) = false ∧ rises (xs.take k) = true) ∧ Hid (Only [] w wr)) (fun _ _ i _ => xs.length - (intOf i).toNat)
  case atStart => exact ⟨0, by omega, rfl, ⟨rfl, rfl⟩, Only.refl _ _⟩
  case round =>
    obtain ⟨k, hk, rfl, hbr, hO⟩ := hrel
    by_cases hlt : k < xs.length
    · have hlt' : (k : Int) < xs.length := by omega
      have HR := Lib.hid (fun h : 0 < k => rises_take xs (k - 1) (by omega))
      have hprev : ∀ (j : Nat) (y : Rec), k = j + 1 → xs[j]? = some y → ∃ ad B c, A = some ad ∧ CellsAt wr (ad.add (j * 2)) [.string y.1, .slice B y.2.length c] := by
        intro j y _ hy
        obtain ⟨ad, B, c, h1, h2, _⟩ := (HA.out.only hO.out) j y hy
        exact ⟨ad, B, c, h1, h2⟩
      have HP := Lib.hid hprev
      clear hprev

      obtain ⟨ad, B, cap, rfl, hcs, hcap, hby⟩ := (HA.out.only hO.out).row k hlt
      have hfit := HF.out.at k hlt
      have hsl : slots xs[k] = slotsN xs[k].1.size xs[k].2.length := rfl
      have hbt := bad_take xs k hlt
      have htt := tot_take xs k hlt
      have HC := Lib.hid hcs
      have hle := slots_le xs[k]
      clear hcs hcap hby
      have HX := Lib.hid (show xs[k]? = some xs[k] from List.getElem?_eq_getElem hlt)
      generalize xs[k] = x at *

      go_wp2_with (with_reducible refine wpList_load_at rfl 37 (.tmp 14) rfl (ad.add (k * 2)) rfl _ _ HC.out Try.underlying37 rfl (by kernel_rfl) ?_)
      have hz : w.heap.size ≤ wr.heap.size := hO.out.size
      have HCP := Lib.hid (heap_alloc_new wr (.cells #[.string x.1, .slice B x.2.length cap] 37))
      have HN0 := Lib.hid hbt
      obtain ⟨n, hn⟩ : ∃ n, n = slots x := ⟨_, rfl⟩
      rw [← hn] at hsl hbt hle
      have HN := Lib.hid hn
      have HSL := Lib.hid hsl
      have HBT := Lib.hid hbt
      clear hn hsl hbt htt
      by_cases hn0 : n = 0
      · refine L.grow_start [] 18 ((0, true, true) :: (1, false, true) :: (2, true, true) :: (3, true, true) :: (4, true, true) :: (5, true, true) :: (6, true, true) :: (7, true, false) :: (8, true, false) :: (9, true, false) :: (10, true, false) :: (11, true, false) :: (12, true, false) :: (13, true, true) :: (14, true, true) :: (15, true, true) :: (16, true, true) :: (17, true, true) :: []) (by kernel_rfl) (([], [5], some 16) :: ([0], [16], some 17) :: ([1], [17], some 18) :: ([2, 1], [18], some 19) :: ([3], [4, 19], some 20) :: ([4, 3], [20, 19], some 21) :: ([5, 3, 3], [21, 19], some 22) :: ([6], [0, 22], some 23) :: ([6], [4, 22], some 24) :: ([8, 6], [24, 22], some 25) :: ([7, 9, 6], [23, 25, 22], some 26) :: ([10, 6], [26, 22], some 27) :: ([11, 6], [27, 22], some 28) :: ([6], [5, 22], some 29) :: ([13, 6], [29, 22], some 30) :: ([12, 14, 6], [28, 30, 22], some 31) :: ([6, 15, 3], [22, 31, 19], some 32) :: ([3, 16], [19, 32], some 33) :: []) (by kernel_rfl) (by kernel_rfl) (n := 18) rfl (by kernel_rfl) (fun _ _ _ _ _ h => h) (fun wg hog => ?_)
        refine L.growe_start (N := 87) (by rfl) ?_
        have hwn : wr.heap.size = wr.heap.size := rfl
        have e0 : ∀ w', Only [] wg w' → w'.cell? ⟨wr.heap.size, 0, none⟩ = some (.string x.1) := fun w' h => h.cell ((cell_of_row wg _ 0 _ _ _ (hog.heap HCP.out (by simp))).trans rfl) (by simp)
        have e1 : ∀ w', Only [] wg w' → w'.cell? ⟨wr.heap.size, 1, none⟩ = some (.slice B x.2.length cap) := fun w' h => h.cell ((cell_of_row wg _ 1 _ _ _ (hog.heap HCP.out (by simp))).trans rfl) (by simp)
        have HOW := Lib.hid ((hO.out.trans ((Only.refl [] wr).alloc _)).trans hog)
        clear hwn
        (first | (refine L.ge_off rfl rfl rfl (by rfl) ?_) | (refine L.ge_move rfl rfl rfl (by rfl) rfl (by simp [L.evE, L.lk, Act.eval]; rfl) ?_) | (refine L.ge_pick rfl rfl rfl (by rfl) rfl (by simp [L.evE, L.lk, Act.eval]; rfl) (by simp [L.evE, L.lk, Act.eval]; rfl) ?_) | (refine L.ge_val rfl rfl rfl (by rfl) (by intro w' hw'; simp [execOp, L.evE, L.lk, Act.eval]; go_simp; rfl) ?_))
        refine L.ge_call rfl rfl rfl (by rfl) rfl (by simp [L.evE, L.lk, Act.eval]; rfl) (by go_simp) ?_
        refine (slots_any x.1 B x.2.length cap wg hfit.1 hfit.2).mono ?_
        rw [← HSL.out]
        rintro e wh ⟨rfl, hoh⟩
        refine ⟨_, rfl, hoh, ?_⟩
        have HOH := Lib.hid (HOW.out.trans hoh)
        subst hn0
        clear e0 e1 hoh hog
        iterate 16 (first | (refine L.ge_off rfl rfl rfl (by rfl) ?_) | (refine L.ge_move rfl rfl rfl (by rfl) rfl (by simp [L.evE, L.lk, Act.eval]; rfl) ?_) | (refine L.ge_pick rfl rfl rfl (by rfl) rfl (by simp [L.evE, L.lk, Act.eval]; rfl) (by simp [L.evE, L.lk, Act.eval]; rfl) ?_) | (refine L.ge_val rfl rfl rfl (by rfl) (by intro w' hw'; simp [execOp, L.evE, L.lk, Act.eval]; go_simp; rfl) ?_))
        refine L.ge_done ?_
        simp only [L.puts, Act.put, goInt, List.setIfInBounds_toArray, List.set_cons_zero, List.set_cons_succ]
        go_wp2
        go_ret2
        have e : layE xs = 1 := by unfold layE; rw [if_pos (.inl (bad_of_take (k := k + 1) (by rw [HBT.out]; simp)))]
        exact ⟨_, by rw [e]; rfl, fun _ => rfl, fun h => by omega, HOH.out⟩
      have hnb : ((n : Int) == 0) = false := by rw [beq_eq_false_iff_ne]; omega
      have HB2 := Lib.hid (show bad (xs.take (k + 1)) = false by rw [HBT.out, hbr.out.1]; simpa using hn0)
      by_cases hk0 : k = 0
      · subst hk0
        refine L.grow_start [] 18 ((0, true, true) :: (1, false, true) :: (2, true, true) :: (3, true, true) :: (4, true, true) :: (5, true, true) :: (6, true, true) :: (7, true, false) :: (8, true, false) :: (9, true, false) :: (10, true, false) :: (11, true, false) :: (12, true, false) :: (13, true, true) :: (14, true, true) :: (15, true, true) :: (16, true, true) :: (17, true, true) :: []) (by kernel_rfl) (([], [5], some 16) :: ([0], [16], some 17) :: ([1], [17], some 18) :: ([2, 1], [18], some 19) :: ([3], [4, 19], some 20) :: ([4, 3], [20, 19], some 21) :: ([5, 3, 3], [21, 19], some 22) :: ([6], [0, 22], some 23) :: ([6], [4, 22], some 24) :: ([8, 6], [24, 22], some 25) :: ([7, 9, 6], [23, 25, 22], some 26) :: ([10, 6], [26, 22], some 27) :: ([11, 6], [27, 22], some 28) :: ([6], [5, 22], some 29) :: ([13, 6], [29, 22], some 30) :: ([12, 14, 6], [28, 30, 22], some 31) :: ([6, 15, 3], [22, 31, 19], some 32) :: ([3, 16], [19, 32], some 33) :: []) (by kernel_rfl) (by kernel_rfl) (n := 18) rfl (by kernel_rfl) (fun _ _ _ _ _ h => h) (fun wg hog => ?_)
        refine L.growe_start (N := 87) (by rfl) ?_
        have hwn : wr.heap.size = wr.heap.size := rfl
        have e0 : ∀ w', Only [] wg w' → w'.cell? ⟨wr.heap.size, 0, none⟩ = some (.string x.1) := fun w' h => h.cell ((cell_of_row wg _ 0 _ _ _ (hog.heap HCP.out (by simp))).trans rfl) (by simp)
        have e1 : ∀ w', Only [] wg w' → w'.cell? ⟨wr.heap.size, 1, none⟩ = some (.slice B x.2.length cap) := fun w' h => h.cell ((cell_of_row wg _ 1 _ _ _ (hog.heap HCP.out (by simp))).trans rfl) (by simp)
        have HOW := Lib.hid ((hO.out.trans ((Only.refl [] wr).alloc _)).trans hog)
        clear hwn
        (first | (refine L.ge_off rfl rfl rfl (by rfl) ?_) | (refine L.ge_move rfl rfl rfl (by rfl) rfl (by simp [L.evE, L.lk, Act.eval]; rfl) ?_) | (refine L.ge_pick rfl rfl rfl (by rfl) rfl (by simp [L.evE, L.lk, Act.eval]; rfl) (by simp [L.evE, L.lk, Act.eval]; rfl) ?_) | (refine L.ge_val rfl rfl rfl (by rfl) (by intro w' hw'; simp [execOp, L.evE, L.lk, Act.eval]; go_simp; rfl) ?_))
        refine L.ge_call rfl rfl rfl (by rfl) rfl (by simp [L.evE, L.lk, Act.eval]; rfl) (by go_simp) ?_
        refine (slots_any x.1 B x.2.length cap wg hfit.1 hfit.2).mono ?_
        rw [← HSL.out]
        rintro e wh ⟨rfl, hoh⟩
        refine ⟨_, rfl, hoh, ?_⟩
        have HOH := Lib.hid (HOW.out.trans hoh)
        clear e0 e1 hoh hog
        iterate 16 (first | (refine L.ge_off rfl rfl rfl (by rfl) ?_) | (refine L.ge_move rfl rfl rfl (by rfl) rfl (by simp [L.evE, L.lk, Act.eval]; rfl) ?_) | (refine L.ge_pick rfl rfl rfl (by rfl) rfl (by simp [L.evE, L.lk, Act.eval]; rfl) (by simp [L.evE, L.lk, Act.eval]; rfl) ?_) | (refine L.ge_val rfl rfl rfl (by rfl) (by intro w' hw'; simp [execOp, L.evE, L.lk, Act.eval]; go_simp; rfl) ?_))
        refine L.ge_done ?_
        simp only [L.puts, Act.put, goInt, List.setIfInBounds_toArray, List.set_cons_zero, List.set_cons_succ]
        go_wp2
        go_roundw
        case rel => exact ⟨1, by omega, by go_num, ⟨HB2.out, by match xs, hlt with | z :: zs, _ => simp [rises]⟩, HOH⟩
        case measure => simp [intOf]; omega
      · obtain ⟨j, rfl⟩ : ∃ j, k = j + 1 := ⟨k - 1, by omega⟩
        obtain ⟨y, hy⟩ : ∃ y, xs[j]? = some y := ⟨_, List.getElem?_eq_getElem (by omega)⟩
        obtain ⟨ad', By, cy, had, hyc⟩ := HP.out j y rfl hy
        obtain rfl : ad = ad' := by simpa using had
        have hr2 := HR.out (by omega)
        have hyj : xs[j]'(by omega) = y := by rw [List.getElem?_eq_getElem (by omega)] at hy; exact Option.some.inj hy
        have hxj : xs[j + 1] = x := by have := HX.out; rw [List.getElem?_eq_getElem hlt] at this; exact Option.some.inj this
        have hr3 : rises (xs.take (j + 1 + 1)) = (rises (xs.take (j + 1)) && before y.1 x.1) := by
          rw [← hyj, ← hxj]
          exact rises_take xs j hlt
        have HR3 := Lib.hid hr3
        have hyc0 := cellsAt_head hyc rfl
        have hk9 : (0 : Int) < (j : Int) + 1 := by omega
        have hj8 : (j : Int) < xs.length := by omega
        have hj7 : (0 : Int) ≤ j := by omega
        have hwj : IntKind.i64.wrap (j : Int) = j := IntWalk.i64_in _ (by omega)
        clear hr2 hyj hxj hr3 had hy hyc
        refine L.grow_start [] 18 ((0, true, true) :: (1, false, true) :: (2, true, true) :: (3, true, true) :: (4, true, true) :: (5, true, true) :: (6, true, true) :: (7, true, false) :: (8, true, false) :: (9, true, false) :: (10, true, false) :: (11, true, false) :: (12, true, false) :: (13, true, true) :: (14, true, true) :: (15, true, true) :: (16, true, true) :: (17, true, true) :: []) (by kernel_rfl) (([], [5], some 16) :: ([0], [16], some 17) :: ([1], [17], some 18) :: ([2, 1], [18], some 19) :: ([3], [4, 19], some 20) :: ([4, 3], [20, 19], some 21) :: ([5, 3, 3], [21, 19], some 22) :: ([6], [0, 22], some 23) :: ([6], [4, 22], some 24) :: ([8, 6], [24, 22], some 25) :: ([7, 9, 6], [23, 25, 22], some 26) :: ([10, 6], [26, 22], some 27) :: ([11, 6], [27, 22], some 28) :: ([6], [5, 22], some 29) :: ([13, 6], [29, 22], some 30) :: ([12, 14, 6], [28, 30, 22], some 31) :: ([6, 15, 3], [22, 31, 19], some 32) :: ([3, 16], [19, 32], some 33) :: []) (by kernel_rfl) (by kernel_rfl) (n := 18) rfl (by kernel_rfl) (fun _ _ _ _ _ h => h) (fun wg hog => ?_)
        refine L.growe_start (N := 87) (by rfl) ?_
        have hwn : wr.heap.size = wr.heap.size := rfl
        have e0 : ∀ w', Only [] wg w' → w'.cell? ⟨wr.heap.size, 0, none⟩ = some (.string x.1) := fun w' h => h.cell ((cell_of_row wg _ 0 _ _ _ (hog.heap HCP.out (by simp))).trans rfl) (by simp)
        have e1 : ∀ w', Only [] wg w' → w'.cell? ⟨wr.heap.size, 1, none⟩ = some (.slice B x.2.length cap) := fun w' h => h.cell ((cell_of_row wg _ 1 _ _ _ (hog.heap HCP.out (by simp))).trans rfl) (by simp)
        have HOW := Lib.hid ((hO.out.trans ((Only.refl [] wr).alloc _)).trans hog)
        clear hwn
        (first | (refine L.ge_off rfl rfl rfl (by rfl) ?_) | (refine L.ge_move rfl rfl rfl (by rfl) rfl (by simp [L.evE, L.lk, Act.eval]; rfl) ?_) | (refine L.ge_pick rfl rfl rfl (by rfl) rfl (by simp [L.evE, L.lk, Act.eval]; rfl) (by simp [L.evE, L.lk, Act.eval]; rfl) ?_) | (refine L.ge_val rfl rfl rfl (by rfl) (by intro w' hw'; simp [execOp, L.evE, L.lk, Act.eval]; go_simp; rfl) ?_))
        refine L.ge_call rfl rfl rfl (by rfl) rfl (by simp [L.evE, L.lk, Act.eval]; rfl) (by go_simp) ?_
        refine (slots_any x.1 B x.2.length cap wg hfit.1 hfit.2).mono ?_
        rw [← HSL.out]
        rintro e wh ⟨rfl, hoh⟩
        refine ⟨_, rfl, hoh, ?_⟩
        have HOH := Lib.hid (HOW.out.trans hoh)
        have e2 : ∀ w', Only [] wh w' → w'.cell? (ad.add (j * 2)) = some (.string y.1) := fun w' h => h.cell (hoh.cell (hog.cell (((Only.refl [] wr).alloc _).cell hyc0 (by simp)) (by simp)) (by simp)) (by simp)
        have e0' : ∀ w', Only [] wh w' → w'.cell? ⟨wr.heap.size, 0, none⟩ = some (.string x.1) := fun w' h => h.cell (e0 wh hoh) (by simp)
        clear e0 e1 hoh hog hyc0
        iterate 16 (first | (refine L.ge_off rfl rfl rfl (by rfl) ?_) | (refine L.ge_move rfl rfl rfl (by rfl) rfl (by simp [L.evE, L.lk, Act.eval]; rfl) ?_) | (refine L.ge_pick rfl rfl rfl (by rfl) rfl (by simp [L.evE, L.lk, Act.eval]; rfl) (by simp [L.evE, L.lk, Act.eval]; rfl) ?_) | (refine L.ge_val rfl rfl rfl (by rfl) (by intro w' hw'; simp [execOp, L.evE, L.lk, Act.eval]; go_simp; rfl) ?_))
        refine L.ge_done ?_
        simp only [L.puts, Act.put, goInt, List.setIfInBounds_toArray, List.set_cons_zero, List.set_cons_succ]
        clear e2 e0' hwj hj7
        obtain ⟨bb, hbb⟩ : ∃ bb, bb = Op.bytesLess y.1.toList x.1.toList := ⟨_, rfl⟩
        rw [← hbb]
        have HBB := Lib.hid hbb
        clear hbb
        rcases Bool.eq_false_or_eq_true bb with rfl | rfl
        · go_wp2
          go_roundw
          case rel => exact ⟨j + 1 + 1, by omega, by go_num, ⟨HB2.out, by rw [HR3.out, hbr.out.2]; exact HBB.out.symm⟩, HOH⟩
          case measure => simp [intOf]; omega
        · go_wp2
          go_ret2
          have e : layE xs = 1 := by
            unfold layE
            rw [if_pos (.inr (rises_of_take (j + 1 + 1) (by rw [HR3.out, hbr.out.2]; exact HBB.out.symm)))]
          exact ⟨_, by rw [e]; rfl, fun _ => rfl, fun h => by omega, HOH.out⟩
    · obtain rfl : k = xs.length := by omega
      have hbr := hbr.out
      rw [List.take_length] at hbr
      have HBR := Lib.hid hbr
      clear hbr
      by_cases ht : 7 < tot xs
      · have e : layE xs = 3 := by unfold layE; rw [if_neg (by rw [HBR.out.1, HBR.out.2]; simp), if_pos ht]
        have hE := Lib.hid e
        have hfr : free xs = 0 := by unfold free; rw [if_pos (.inr ht)]
        have hfi : decide (tot xs = 7) = false := by simp; omega
        clear e
        by_cases h7 : 7 < xs.length
        · have h7' : (7 : Int) < xs.length := by omega
          go_wp2
          go_ret2
          have e := hE.out
          exact ⟨_, by rw [e]; rfl, fun _ => rfl, fun h => by omega, hO.out⟩
        · have h7' : (xs.length : Int) ≤ 7 := by omega
          have h0 : (0 : Int) < xs.length := by
            rcases Nat.eq_zero_or_pos xs.length with h | h
            · rw [List.eq_nil_of_length_eq_zero h] at ht; simp [tot] at ht
            · omega
          go_wp2_with (first
            | (go_at_call 13; refine (free_any A cp xs wr hl HF.out (HA.out.only hO.out)).mono ?_; rw [hfr]; rintro e w1 ⟨rfl, ho1⟩; have HO1 := Lib.hid (hO.out.trans ho1); clear ho1)
            | (go_at_call 20; refine (filled_any A cp xs w1 hl HF.out (HA.out.only HO1.out)).mono ?_; rw [hfi]; rintro e w2 ⟨rfl, ho2⟩; have HO2 := Lib.hid (HO1.out.trans ho2); clear ho2))
          go_ret2
          have e := hE.out
          exact ⟨_, by rw [e]; rfl, fun _ => rfl, fun h => by omega, HO2.out⟩
      · have e : layE xs = 0 := by unfold layE; rw [if_neg (by rw [HBR.out.1, HBR.out.2]; simp), if_neg ht]
        have hE := Lib.hid e
        have hlen : xs.length ≤ 7 := by have := tot_ge xs HBR.out.1; omega
        have h7' : (xs.length : Int) ≤ 7 := by omega
        clear e
        by_cases h0 : xs.length = 0
        · have h0' : (xs.length : Int) ≤ 0 := by omega
          clear h0
          go_wp2_with (first
            | (go_at_call 13; refine (free_any A cp xs wr hl HF.out (HA.out.only hO.out)).mono ?_; rintro e w1 ⟨rfl, ho1⟩; have HO1 := Lib.hid (hO.out.trans ho1); clear ho1)
            | (go_at_call 20; refine (filled_any A cp xs w1 hl HF.out (HA.out.only HO1.out)).mono ?_; rw [hfi]; rintro e w2 ⟨rfl, ho2⟩; have HO2 := Lib.hid (HO1.out.trans ho2); clear ho2)
            | (at_make; refine wpList_make_buf rfl _ _ 25 rfl 5 Try.underlying25 infoU8 _ _ 256 rfl rfl (by omega) ?_; intro wm hbuf hom)
            | (at_builtin; refine wpList_append_buf rfl (.tmp 54) (.tmp 58) 25 rfl 5 Try.underlying25 infoU8 wr.heap.size 256 0 [] rfl rfl ?_ _ 1 1 [UInt8.ofNat xs.length] rfl rfl ?_ (by omega) ?_; rw [Below.heap_alloc _ _ _ (heap_lt hbuf.out)]; exact hbuf.out; exact buf_one wm _ (by omega); intro wb hbuf2 hob))
          have HOB := Lib.hid (((hO.out.trans hom).trans ((Only.refl [] wm).alloc (.cells #[.int .u8 (xs.length : Int)] 5))).then hob.out (by intro i hi; right; have := hO.out.size; simp at hi; omega))
          have hgw : w.heap.size ≤ wr.heap.size := hO.out.size
          have HB0 := Lib.hid hbuf2.out
          generalize wr.heap.size = g at *
          clear hbuf hom hob hbuf2
          go_loopw [6, 8, 62] (fun b _ i wr => ∃ k : Nat, k ≤ xs.length ∧ i = .int .i64 k ∧ b = .slice (some ⟨g, 0, none⟩) (front xs.length (xs.take k)).length 256 ∧ Hid (wr.heap[g]? = some (.cells (bufRow 256 (front xs.length (xs.take k))) 5 (0, 0))) ∧ Hid (Only [] w wr)) (fun _ _ i _ => xs.length - (intOf i).toNat)
          case atStart => exact ⟨0, by omega, rfl, rfl, HB0.out, HOB.out⟩
          case round =>
            obtain ⟨k, hk, rfl, rfl, hB, hO⟩ := hrel
            by_cases hlt : k < xs.length
            · have hlt' : (k : Int) < xs.length := by omega
              exfalso; omega
            · obtain rfl : k = xs.length := by omega
              rw [List.take_length] at hB
              have hfl := front_le hE.out
              go_wp2
              go_ret2
              refine ⟨_, by rw [hE.out]; rfl, fun h => absurd hE.out h, fun _ => ⟨g, rfl, ?_, hgw⟩, hO.out⟩
              rw [show layB xs = pad (front xs.length xs) by unfold layB; rw [if_pos hE.out], ← bufRow_pad]
              exact hB.out


        · have h0' : (0 : Int) < xs.length := by omega
          clear h0
          by_cases hfr : free xs = 0
          · have hfi : decide (tot xs = 7) = true := by
              unfold free at hfr
              split at hfr
              · rename_i h; rcases h with h | h
                · rw [HBR.out.1] at h; cases h
                · omega
              · simp; omega
            have hfr' : ((free xs : Int) == 0) = true := by rw [hfr]; rfl
            go_wp2_with (first
            | (go_at_call 13; refine (free_any A cp xs wr hl HF.out (HA.out.only hO.out)).mono ?_; rintro e w1 ⟨rfl, ho1⟩; have HO1 := Lib.hid (hO.out.trans ho1); clear ho1)
            | (go_at_call 20; refine (filled_any A cp xs w1 hl HF.out (HA.out.only HO1.out)).mono ?_; rw [hfi]; rintro e w2 ⟨rfl, ho2⟩; have HO2 := Lib.hid (HO1.out.trans ho2); clear ho2)
            | (at_make; refine wpList_make_buf rfl _ _ 25 rfl 5 Try.underlying25 infoU8 _ _ 256 rfl rfl (by omega) ?_; intro wm hbuf hom)
            | (at_builtin; refine wpList_append_buf rfl (.tmp 54) (.tmp 58) 25 rfl 5 Try.underlying25 infoU8 w2.heap.size 256 0 [] rfl rfl ?_ _ 1 1 [UInt8.ofNat xs.length] rfl rfl ?_ (by omega) ?_; rw [Below.heap_alloc _ _ _ (heap_lt hbuf.out)]; exact hbuf.out; exact buf_one wm _ (by omega); intro wb hbuf2 hob))
            have HOB := Lib.hid (((HO2.out.trans hom).trans ((Only.refl [] wm).alloc (.cells #[.int .u8 (xs.length : Int)] 5))).then hob.out (by intro i hi; right; have := HO2.out.size; simp at hi; omega))
            have hgw : w.heap.size ≤ w2.heap.size := HO2.out.size
            have HB0 := Lib.hid hbuf2.out
            generalize w2.heap.size = g at *
            clear hbuf hom hob hbuf2
            go_loopw [6, 8, 62] (fun b _ i wr => ∃ k : Nat, k ≤ xs.length ∧ i = .int .i64 k ∧ b = .slice (some ⟨g, 0, none⟩) (front xs.length (xs.take k)).length 256 ∧ Hid (wr.heap[g]? = some (.cells (bufRow 256 (front xs.length (xs.take k))) 5 (0, 0))) ∧ Hid (Only [] w wr)) (fun _ _ i _ => xs.length - (intOf i).toNat)
            case atStart => exact ⟨0, by omega, rfl, rfl, HB0.out, HOB.out⟩
            case round =>
              obtain ⟨k, hk, rfl, rfl, hB, hO⟩ := hrel
              by_cases hlt : k < xs.length
              · have hlt' : (k : Int) < xs.length := by omega
                obtain ⟨ad, B, cap, rfl, hcs, hcap, _⟩ := (HA.out.only hO.out).row k hlt
                have hby : BytesAt w B xs[k].2 := by
                  obtain ⟨ad', B', cap', h1, h2, _, h4⟩ := HA.out.row k hlt
                  obtain rfl : ad = ad' := by simpa using h1
                  have h5 := cell_one (h2.only hO.out (by simp)) hcs
                  subst h5
                  exact h4
                have HC := Lib.hid hcs
                have HBY := Lib.hid hby
                have hfit := HF.out.at k hlt
                have hro : (front xs.length (xs.take k)).length + (2 + xs[k].1.size + xs[k].2.length) ≤ 256 := front_room hE.out k hlt
                have HF1 := Lib.hid (front_take xs k hlt)
                clear hcs hby
                generalize xs[k] = x at *
                generalize front xs.length (xs.take k) = F at *
                have HRO := Lib.hid hro
                have hgl := heap_lt hB.out
                clear hro hcap
                go_wp2_with (first
                  | (with_reducible refine wpList_load_at rfl 37 (.tmp 64) rfl (ad.add (k * 2)) rfl _ _ HC.out Try.underlying37 rfl (by kernel_rfl) ?_)
                  | (at_builtin; refine wpList_append_buf rfl (.tmp 66) (.tmp 75) 25 rfl 5 Try.underlying25 infoU8 g 256 _ F rfl rfl ?_ _ 2 2 [UInt8.ofNat x.1.size, UInt8.ofNat x.2.length] rfl rfl ?_ (by have := HRO.out; omega) ?_; rw [Below.heap_alloc _ _ _ (by simp; omega), Below.heap_alloc _ _ _ hgl]; exact hB.out; exact buf_two wr _ _ _; intro wb2 hB2 hob2))
                have HCP : Hid (wb2.heap[wr.heap.size]? = some (.cells #[.string x.1, .slice B x.2.length cap] 37 (0, 0))) := hob2.out.heap (by rw [Below.heap_alloc _ _ _ (by simp)]; exact heap_alloc_new wr _) (by simp; omega)
                have hgw2 : w.heap.size ≤ wr.heap.size := hO.out.size
                have HO2 : Hid (Only [] w wb2) := ((hO.out.alloc _).alloc _).then hob2.out (by intro i hi; right; simp at hi; omega)
                clear hob2
                refine L.grow_start [g] 8 ((0, true, false) :: (1, true, false) :: (2, true, false) :: (4, true, false) :: (5, true, false) :: (3, false, true) :: (6, false, true) :: (7, true, true) :: []) (by kernel_rfl) (([], [6], some 77) :: ([], [8], some 78) :: ([1], [78], some 79) :: ([0, 2], [77, 79], some 80) :: ([], [8], some 81) :: ([4], [81], some 82) :: ([3, 5, 3], [80, 82], some 83) :: ([6, 6, 0, 1, 2, 3, 4, 5, 6], [83], some 6) :: []) (by kernel_rfl) (by kernel_rfl) (n := 8) rfl (by kernel_rfl) (fun _ _ _ _ _ h => h) (fun wg hog => ?_)
                refine L.growe_start (N := 87) (by rfl) ?_
                have e0 : ∀ w', Only [g] wg w' → w'.cell? ⟨wr.heap.size, 0, none⟩ = some (.string x.1) := fun w' h => h.cell ((cell_of_row wg _ 0 _ _ _ (hog.heap HCP.out (by simp))).trans rfl) (by simp; omega)
                have e1 : ∀ w', Only [g] wg w' → w'.cell? ⟨wr.heap.size, 1, none⟩ = some (.slice B x.2.length cap) := fun w' h => h.cell ((cell_of_row wg _ 1 _ _ _ (hog.heap HCP.out (by simp))).trans rfl) (by simp; omega)
                iterate 5 (first | (refine L.ge_off rfl rfl rfl (by rfl) ?_) | (refine L.ge_move rfl rfl rfl (by rfl) rfl (by simp [L.evE, L.lk, Act.eval]; rfl) ?_) | (refine L.ge_pick rfl rfl rfl (by rfl) rfl (by simp [L.evE, L.lk, Act.eval]; rfl) (by simp [L.evE, L.lk, Act.eval]; rfl) ?_) | (refine L.ge_val rfl rfl rfl (by rfl) (by intro w' hw'; simp [execOp, L.evE, L.lk, Act.eval]; go_simp; rfl) ?_))
                refine ge_append_buf_string rfl rfl rfl (by rfl) (.tmp 77) (.tmp 79) 25 9 rfl 5 Try.underlying25 Try.underlying9 infoU8 g 256 (F.length + 2) (F ++ [UInt8.ofNat x.1.size, UInt8.ofNat x.2.length]) (by simp) (by simp [L.evE, L.lk, Act.eval]) (hog.heap hB2.out (by simp)) x.1 (by simp [L.evE, L.lk, Act.eval]) (by have := HRO.out; omega) (by simp) ?_
                intro wh hB3 hoh
                refine ge_append_buf rfl rfl rfl (by rfl) (.tmp 80) (.tmp 82) 25 rfl 5 Try.underlying25 infoU8 g 256 (F.length + 2 + x.1.size) (F ++ [UInt8.ofNat x.1.size, UInt8.ofNat x.2.length] ++ x.1.data.toList) (by simp; omega) (by simp [L.evE, L.lk, Act.eval]) hB3.out B x.2.length cap x.2 rfl (by simp [L.evE, L.lk, Act.eval]) (HBY.out.only (Only.then (HO2.out.trans hog) hoh.out (by intro i hi; right; simp at hi; omega))) (by have := HRO.out; omega) (by simp) ?_
                intro wj hB4 hoj
                iterate 1 (first | (refine L.ge_off rfl rfl rfl (by rfl) ?_) | (refine L.ge_move rfl rfl rfl (by rfl) rfl (by simp [L.evE, L.lk, Act.eval]; rfl) ?_) | (refine L.ge_pick rfl rfl rfl (by rfl) rfl (by simp [L.evE, L.lk, Act.eval]; rfl) (by simp [L.evE, L.lk, Act.eval]; rfl) ?_) | (refine L.ge_val rfl rfl rfl (by rfl) (by intro w' hw'; simp [execOp, L.evE, L.lk, Act.eval]; go_simp; rfl) ?_))
                refine L.ge_done ?_
                simp only [L.puts, Act.put, goInt, List.setIfInBounds_toArray, List.set_cons_zero, List.set_cons_succ]
                clear e0 e1
                have HO3 : Hid (Only [] w wj) := Only.then (Only.then (HO2.out.trans hog) hoh.out (by intro i hi; right; simp at hi; omega)) hoj.out (by intro i hi; right; simp at hi; omega)
                clear hoh hoj hog
                go_wp2
                go_roundw
                case rel =>
                  refine ⟨k + 1, by omega, by go_num, ?_, ?_, HO3⟩
                  · rw [HF1.out, List.length_append, recBytes_length]
                    congr 1
                    omega
                  · rw [HF1.out, show F ++ recBytes x = F ++ [UInt8.ofNat x.1.size, UInt8.ofNat x.2.length] ++ x.1.data.toList ++ x.2 by simp [recBytes]]
                    exact hB4
                case measure => simp [intOf]; omega
              · obtain rfl : k = xs.length := by omega
                rw [List.take_length] at hB
                have hfl := front_le hE.out
                go_wp2
                go_ret2
                refine ⟨_, by rw [hE.out]; rfl, fun h => absurd hE.out h, fun _ => ⟨g, rfl, ?_, hgw⟩, hO.out⟩
                rw [show layB xs = pad (front xs.length xs) by unfold layB; rw [if_pos hE.out], ← bufRow_pad]
                exact hB.out


          · have hfr' : ((free xs : Int) == 0) = false := by rw [beq_eq_false_iff_ne]; omega
            have hfi : True := trivial
            go_wp2_with (first
            | (go_at_call 13; refine (free_any A cp xs wr hl HF.out (HA.out.only hO.out)).mono ?_; rintro e w1 ⟨rfl, ho1⟩; have HO1 := Lib.hid (hO.out.trans ho1); clear ho1)
            | (go_at_call 20; refine (filled_any A cp xs w1 hl HF.out (HA.out.only HO1.out)).mono ?_; rw [hfi]; rintro e w2 ⟨rfl, ho2⟩; have HO2 := Lib.hid (HO1.out.trans ho2); clear ho2)
            | (at_make; refine wpList_make_buf rfl _ _ 25 rfl 5 Try.underlying25 infoU8 _ _ 256 rfl rfl (by omega) ?_; intro wm hbuf hom)
            | (at_builtin; refine wpList_append_buf rfl (.tmp 54) (.tmp 58) 25 rfl 5 Try.underlying25 infoU8 w1.heap.size 256 0 [] rfl rfl ?_ _ 1 1 [UInt8.ofNat xs.length] rfl rfl ?_ (by omega) ?_; rw [Below.heap_alloc _ _ _ (heap_lt hbuf.out)]; exact hbuf.out; exact buf_one wm _ (by omega); intro wb hbuf2 hob))
            have HOB := Lib.hid (((HO1.out.trans hom).trans ((Only.refl [] wm).alloc (.cells #[.int .u8 (xs.length : Int)] 5))).then hob.out (by intro i hi; right; have := HO1.out.size; simp at hi; omega))
            have hgw : w.heap.size ≤ w1.heap.size := HO1.out.size
            have HB0 := Lib.hid hbuf2.out
            generalize w1.heap.size = g at *
            clear hbuf hom hob hbuf2
            go_loopw [6, 8, 62] (fun b _ i wr => ∃ k : Nat, k ≤ xs.length ∧ i = .int .i64 k ∧ b = .slice (some ⟨g, 0, none⟩) (front xs.length (xs.take k)).length 256 ∧ Hid (wr.heap[g]? = some (.cells (bufRow 256 (front xs.length (xs.take k))) 5 (0, 0))) ∧ Hid (Only [] w wr)) (fun _ _ i _ => xs.length - (intOf i).toNat)
            case atStart => exact ⟨0, by omega, rfl, rfl, HB0.out, HOB.out⟩
            case round =>
              obtain ⟨k, hk, rfl, rfl, hB, hO⟩ := hrel
              by_cases hlt : k < xs.length
              · have hlt' : (k : Int) < xs.length := by omega
                obtain ⟨ad, B, cap, rfl, hcs, hcap, _⟩ := (HA.out.only hO.out).row k hlt
                have hby : BytesAt w B xs[k].2 := by
                  obtain ⟨ad', B', cap', h1, h2, _, h4⟩ := HA.out.row k hlt
                  obtain rfl : ad = ad' := by simpa using h1
                  have h5 := cell_one (h2.only hO.out (by simp)) hcs
                  subst h5
                  exact h4
                have HC := Lib.hid hcs
                have HBY := Lib.hid hby
                have hfit := HF.out.at k hlt
                have hro : (front xs.length (xs.take k)).length + (2 + xs[k].1.size + xs[k].2.length) ≤ 256 := front_room hE.out k hlt
                have HF1 := Lib.hid (front_take xs k hlt)
                clear hcs hby
                generalize xs[k] = x at *
                generalize front xs.length (xs.take k) = F at *
                have HRO := Lib.hid hro
                have hgl := heap_lt hB.out
                clear hro hcap
                go_wp2_with (first
                  | (with_reducible refine wpList_load_at rfl 37 (.tmp 64) rfl (ad.add (k * 2)) rfl _ _ HC.out Try.underlying37 rfl (by kernel_rfl) ?_)
                  | (at_builtin; refine wpList_append_buf rfl (.tmp 66) (.tmp 75) 25 rfl 5 Try.underlying25 infoU8 g 256 _ F rfl rfl ?_ _ 2 2 [UInt8.ofNat x.1.size, UInt8.ofNat x.2.length] rfl rfl ?_ (by have := HRO.out; omega) ?_; rw [Below.heap_alloc _ _ _ (by simp; omega), Below.heap_alloc _ _ _ hgl]; exact hB.out; exact buf_two wr _ _ _; intro wb2 hB2 hob2))
                have HCP : Hid (wb2.heap[wr.heap.size]? = some (.cells #[.string x.1, .slice B x.2.length cap] 37 (0, 0))) := hob2.out.heap (by rw [Below.heap_alloc _ _ _ (by simp)]; exact heap_alloc_new wr _) (by simp; omega)
                have hgw2 : w.heap.size ≤ wr.heap.size := hO.out.size
                have HO2 : Hid (Only [] w wb2) := ((hO.out.alloc _).alloc _).then hob2.out (by intro i hi; right; simp at hi; omega)
                clear hob2
                refine L.grow_start [g] 8 ((0, true, false) :: (1, true, false) :: (2, true, false) :: (4, true, false) :: (5, true, false) :: (3, false, true) :: (6, false, true) :: (7, true, true) :: []) (by kernel_rfl) (([], [6], some 77) :: ([], [8], some 78) :: ([1], [78], some 79) :: ([0, 2], [77, 79], some 80) :: ([], [8], some 81) :: ([4], [81], some 82) :: ([3, 5, 3], [80, 82], some 83) :: ([6, 6, 0, 1, 2, 3, 4, 5, 6], [83], some 6) :: []) (by kernel_rfl) (by kernel_rfl) (n := 8) rfl (by kernel_rfl) (fun _ _ _ _ _ h => h) (fun wg hog => ?_)
                refine L.growe_start (N := 87) (by rfl) ?_
                have e0 : ∀ w', Only [g] wg w' → w'.cell? ⟨wr.heap.size, 0, none⟩ = some (.string x.1) := fun w' h => h.cell ((cell_of_row wg _ 0 _ _ _ (hog.heap HCP.out (by simp))).trans rfl) (by simp; omega)
                have e1 : ∀ w', Only [g] wg w' → w'.cell? ⟨wr.heap.size, 1, none⟩ = some (.slice B x.2.length cap) := fun w' h => h.cell ((cell_of_row wg _ 1 _ _ _ (hog.heap HCP.out (by simp))).trans rfl) (by simp; omega)
                iterate 5 (first | (refine L.ge_off rfl rfl rfl (by rfl) ?_) | (refine L.ge_move rfl rfl rfl (by rfl) rfl (by simp [L.evE, L.lk, Act.eval]; rfl) ?_) | (refine L.ge_pick rfl rfl rfl (by rfl) rfl (by simp [L.evE, L.lk, Act.eval]; rfl) (by simp [L.evE, L.lk, Act.eval]; rfl) ?_) | (refine L.ge_val rfl rfl rfl (by rfl) (by intro w' hw'; simp [execOp, L.evE, L.lk, Act.eval]; go_simp; rfl) ?_))
                refine ge_append_buf_string rfl rfl rfl (by rfl) (.tmp 77) (.tmp 79) 25 9 rfl 5 Try.underlying25 Try.underlying9 infoU8 g 256 (F.length + 2) (F ++ [UInt8.ofNat x.1.size, UInt8.ofNat x.2.length]) (by simp) (by simp [L.evE, L.lk, Act.eval]) (hog.heap hB2.out (by simp)) x.1 (by simp [L.evE, L.lk, Act.eval]) (by have := HRO.out; omega) (by simp) ?_
                intro wh hB3 hoh
                refine ge_append_buf rfl rfl rfl (by rfl) (.tmp 80) (.tmp 82) 25 rfl 5 Try.underlying25 infoU8 g 256 (F.length + 2 + x.1.size) (F ++ [UInt8.ofNat x.1.size, UInt8.ofNat x.2.length] ++ x.1.data.toList) (by simp; omega) (by simp [L.evE, L.lk, Act.eval]) hB3.out B x.2.length cap x.2 rfl (by simp [L.evE, L.lk, Act.eval]) (HBY.out.only (Only.then (HO2.out.trans hog) hoh.out (by intro i hi; right; simp at hi; omega))) (by have := HRO.out; omega) (by simp) ?_
                intro wj hB4 hoj
                iterate 1 (first | (refine L.ge_off rfl rfl rfl (by rfl) ?_) | (refine L.ge_move rfl rfl rfl (by rfl) rfl (by simp [L.evE, L.lk, Act.eval]; rfl) ?_) | (refine L.ge_pick rfl rfl rfl (by rfl) rfl (by simp [L.evE, L.lk, Act.eval]; rfl) (by simp [L.evE, L.lk, Act.eval]; rfl) ?_) | (refine L.ge_val rfl rfl rfl (by rfl) (by intro w' hw'; simp [execOp, L.evE, L.lk, Act.eval]; go_simp; rfl) ?_))
                refine L.ge_done ?_
                simp only [L.puts, Act.put, goInt, List.setIfInBounds_toArray, List.set_cons_zero, List.set_cons_succ]
                clear e0 e1
                have HO3 : Hid (Only [] w wj) := Only.then (Only.then (HO2.out.trans hog) hoh.out (by intro i hi; right; simp at hi; omega)) hoj.out (by intro i hi; right; simp at hi; omega)
                clear hoh hoj hog
                go_wp2
                go_roundw
                case rel =>
                  refine ⟨k + 1, by omega, by go_num, ?_, ?_, HO3⟩
                  · rw [HF1.out, List.length_append, recBytes_length]
                    congr 1
                    omega
                  · rw [HF1.out, show F ++ recBytes x = F ++ [UInt8.ofNat x.1.size, UInt8.ofNat x.2.length] ++ x.1.data.toList ++ x.2 by simp [recBytes]]
                    exact hB4
                case measure => simp [intOf]; omega
              · obtain rfl : k = xs.length := by omega
                rw [List.take_length] at hB
                have hfl := front_le hE.out
                go_wp2
                go_ret2
                refine ⟨_, by rw [hE.out]; rfl, fun h => absurd hE.out h, fun _ => ⟨g, rfl, ?_, hgw⟩, hO.out⟩
                rw [show layB xs = pad (front xs.length xs) by unfold layB; rw [if_pos hE.out], ← bufRow_pad]
                exact hB.out



end Go.Proofs.Ythkgpnkbbdpldaa
