/-
  The law PageBack, walked.
-/
import Derived.Test.YthkgpnkbbdpldaaPgOne
import Derived.Test.YthkgpnkbbdpldaaPgSame
import Derived.Test.YthkgpnkbbdpldaaPgMod
namespace Go.Proofs.Ythkgpnkbbdpldaa
open Go.RowKit
set_option linter.unusedSimpArgs false
set_option linter.unusedVariables false
theorem same_n (A B : Option Addr) (n m ca cb : Nat) (xs ys : List Rec) (w : World) (hn : xs.length = n) (hm : ys.length = m) (hl : n ≤ 1000000) (hl2 : m ≤ 1000000) (hA : PairsAt w A xs) (hB : PairsAt w B ys) :
    Calls Try.prog 17 #[.slice A n ca, .slice B m cb] w fun e w' => e = .returned (.bool (decide (xs = ys))) ∧ Only [] w w' := by
  subst hn hm
  exact same_any A B ca cb xs ys w hl hl2 hA hB
theorem get_set_self {α : Type} {l : List α} {i : Nat} {a : α} (h : i < l.length) : (l.set i a)[i]? = some a := by
  rw [List.getElem?_set, if_pos rfl, if_pos h]
set_option maxHeartbeats 8000000 in
set_option maxRecDepth 100000 in
theorem back_any (A : Option Addr) (cap : Nat) (xs : List Rec) (w : World) (hl : xs.length ≤ 4611686018427387903) (hF : Fit xs) (hA : PairsAt w A xs) :
    Calls Try.prog 6 #[.slice A xs.length cap] w fun e w' => e = .returned (.bool true) ∧ Only [] w w' := by
  have HA := Lib.hid hA
  have HF := Lib.hid hF
  clear hA hF
  obtain ⟨V, hV⟩ : ∃ V, V = smallB xs := ⟨_, rfl⟩
  have HV := Lib.hid hV
  clear hV
  go_enter Try.func6, Try.ntmps6
  go_wp2_with (first
    | (go_at_call 9; refine (awake_any w).mono ?_; rintro e w1 ⟨rfl, ho1⟩; have HO1 := Lib.hid ho1; clear ho1)
    | (go_at_call 10; refine (small_any A cap xs w1 hl HF.out (HA.out.only HO1.out)).mono ?_; rw [← HV.out]; rintro e w2 ⟨rfl, ho2⟩; have HO2 := Lib.hid (HO1.out.trans ho2); clear ho2; refine (fun (h : Hid _) => h.out) ?_))
  refine Lib.hid ?_
  cases V with
  | false =>
    go_wp2
    go_ret
    exact ⟨rfl, HO2.out⟩
  | true =>
    have hl2 : xs.length ≤ 1000000 := by have := smallB_len HV.out.symm; omega
    go_wp2_with (go_at_call 11; refine (lay_any A cap xs w2 hl2 HF.out (HA.out.only HO2.out)).mono ?_; rintro e w3 ⟨v, rfl, hv1, hv2, ho3⟩; have HV1 := Lib.hid hv1; have HV2 := Lib.hid hv2; have HO3 := Lib.hid (HO2.out.trans ho3); clear hv1 hv2 ho3; refine (fun (h : Hid _) => h.out) ?_)
    refine Lib.hid ?_
    by_cases h0 : layE xs = 0
    · obtain ⟨gb, rfl, hg, hgz⟩ := HV2.out h0
      rw [h0]
      have HE := Lib.hid h0
      have hx7 : xs.length ≤ 7 := by have := tot_ge xs (layE_zero h0).1; have := (layE_zero h0).2.2; omega
      have HRL := Lib.hid (readL_lay h0)
      have HG := Lib.hid hg
      have hgw : w.heap.size ≤ gb := Nat.le_trans HO2.out.size hgz
      clear h0 hg HV1 HV2
      go_wp2_with (go_at_call 15; refine (read_n (some ⟨gb, 0, none⟩) 256 256 (layB xs) w3 (layB_length HE.out) (by omega) (by omega) (by omega) (fun _ => ⟨_, rfl, cellsAt_row HG.out⟩)).mono ?_; rw [readE_some HRL.out, readR_some HRL.out]; rintro e w4 ⟨v, us, rfl, hr4, ho4⟩; have HR4 := Lib.hid hr4; have HO4 := Lib.hid (HO3.out.trans ho4); have HW4 := Lib.hid (Own8.only (Own8.row hgw HG.out 256 (layB_length HE.out)) ho4 (by simp)); have HQ := Lib.hid (heap_lt HG.out); clear hr4 ho4; refine (fun (h : Hid _) => h.out) ?_)
      refine Lib.hid ?_
      obtain ⟨Av, cv, rfl, _, _⟩ := ownsRow_slice HR4.out.row
      go_wp2
      go_loopw [9] (fun i wr => ∃ j : Nat, j ≤ 256 ∧ i = .int .i64 j ∧ Hid (Own8 wr (some ⟨gb, 0, none⟩) 256 w.heap.size) ∧ Hid (RecsOwn w3.heap.size 37 5 wr (.slice Av xs.length cv) xs us) ∧ Hid (Only [] w wr)) (fun i _ => 256 - (intOf i).toNat)
      case atStart => exact ⟨0, by omega, rfl, HW4, HR4, HO4⟩
      case round =>
        clear HR4 HW4 HO4
        obtain ⟨j, hj, rfl, hW, hR, hO⟩ := hrel
        by_cases hlt : j < 256
        · have hlt' : (j : Int) < 256 := by omega
          obtain ⟨q, u, hqq, hq', hcell, hfz⟩ := hW.out.cell j hlt
          obtain rfl : gb = q := by simpa using hqq
          clear hqq
          go_wp2
          go_roundw
          case rel =>
            refine ⟨j + 1, by omega, by go_num, hW.out.set _, hR.out.onlyS ((Only.refl [gb] _).setCell (by simp) _) (fun k hk => ?_), hO.out.setCell (.inr hgw) _⟩
            have := HQ.out
            simp at hk
            omega
          case measure => simp [intOf]; omega
        · obtain rfl : j = 256 := by omega
          go_wp2_with (go_at_call 17; refine (same_n A Av xs.length xs.length cap cv xs xs wr rfl rfl hl2 hl2 (HA.out.only hO.out) hR.out.pairs).mono ?_; rw [decide_eq_true rfl]; rintro e w5 ⟨rfl, ho5⟩; have HR5 := Lib.hid (hR.out.only ho5); have HO5 := Lib.hid (hO.out.trans ho5); clear ho5 hR hO hW)
          have hgx : gb < w3.heap.size := HQ.out
          have hz3 : w.heap.size ≤ w3.heap.size := HO3.out.size
          clear HQ HG
          go_loopw [11, 12] (fun i _ wr => ∃ (j : Nat) (ys : List Rec) (vs : List Value), j ≤ xs.length ∧ i = .int .i64 j ∧ Hid (Mod xs ys j) ∧ Hid (RecsOwn w3.heap.size 37 5 wr (.slice Av xs.length cv) ys vs) ∧ Hid (Only [] w wr)) (fun i _ _ => xs.length - (intOf i).toNat)
          case atStart => exact ⟨0, xs, us, by omega, rfl, Mod.zero xs, HR5, HO5⟩
          case round =>
            clear HR5 HO5
            obtain ⟨i, ys, vs, hi, rfl, hM, hR, hO⟩ := hrel
            by_cases hlt : i < xs.length
            · have hlt' : (i : Int) < xs.length := by omega
              obtain ⟨gm, cm, hAv⟩ := ownsRow_some hR.out.row (by rw [hM.out.1]; omega)
              obtain ⟨rfl, rfl⟩ : Av = some ⟨gm, 0, none⟩ ∧ cv = cm := by simp at hAv; exact ⟨hAv.1, hAv.2.2⟩
              clear hAv
              have hyl : i < ys.length := by rw [hM.out.1]; exact hlt
              have hvl : i < vs.length := by rw [hR.out.len]; exact hyl
              have HX := Lib.hid (List.getElem?_eq_getElem hlt)
              have HY := Lib.hid (List.getElem?_eq_getElem hyl)
              have HV9 := Lib.hid (List.getElem?_eq_getElem hvl)
              have hyx := (hM.out.2 i xs[i] ys[i] HX.out HY.out).2.2 (Nat.le_refl _)
              rw [hyx] at HY
              clear hyx
              have hfx := HF.out.at i hlt
              generalize xs[i] = x at *
              generalize vs[i] = u0 at *
              have hu0 := hR.out.each i x u0 HY.out HV9.out
              obtain ⟨B0, c0, rfl, hbc, hby⟩ := ownsRow_slice hu0
              have HU0 := Lib.hid hu0
              have hrow := hR.out.row
              rw [hM.out.1] at hrow
              obtain ⟨pc0, pc1⟩ := pairCells_get HY.out HV9.out
              obtain ⟨f0, _⟩ := ownsRow_cell hrow pc0
              obtain ⟨f1, z1⟩ := ownsRow_cell hrow pc1
              have HF1 := Lib.hid f1
              have HZ1 := Lib.hid z1
              have hgm : w3.heap.size ≤ gm := (ownsRow_lt hrow rfl).1
              have hgm2 : gm < wr.heap.size := (ownsRow_lt hrow rfl).2
              have hfar : ∀ k, (Value.slice B0 x.2.length c0).ownBlock = some k → gm ≠ k := fun k hk e => hR.out.far i _ k HV9.out hk (by rw [← e]; rfl)
              have HFAR := Lib.hid hfar
              have HPC1 := Lib.hid pc1
              have HROW := Lib.hid hrow
              clear hu0 hrow pc0 pc1 f0 z1 hby hbc hfar
              go_wp2_with (at_builtin; refine wpList_append_row rfl (.tmp 74) (.tmp 75) 25 rfl w3.heap.size 5 1 1 (.int .u8 0) Try.underlying25 infoU8 rfl (by omega) (.slice B0 x.2.length c0) x.2.length (bcells x.2) rfl (ownsRow_only HU0.out ((Only.refl [] _).alloc _) (by simp)) _ 1 1 (bcells [UInt8.ofNat 1]) (by rfl) (by simp [bcells]) (byte_new' wr 1 (by omega)) (bcells_one _) (by unfold maxLen; omega) (by omega) (by simp; omega) ?_; intro B8 c8 w8 hb8 ho8 hk8; have ho9 := ((Only.refl (Value.slice B0 x.2.length c0).ownBlock.toList wr).alloc (.cells #[.int .u8 1] 5)).trans ho8; have hrow8 := ownsRow_only HROW.out ho9 (fun k hk hm => HFAR.out k (by simpa using hm) (by simpa [Value.ownBlock] using hk)); have f8 := (ownsRow_cell hrow8 HPC1.out).1; have z8 := (ownsRow_cell hrow8 HPC1.out).2; have HO8 := Lib.hid (hO.out.then ho9 (fun k hk => .inr (Nat.le_trans hz3 (ownsRow_lt HU0.out (by simpa using hk)).1))); have HG8 := Lib.hid (hR.out.grow (m := x.2 ++ [UInt8.ofNat 1]) HY.out HV9.out ho9 (by rw [List.length_append, bcells_add]; exact hb8) (fun k hk => (hk8 k hk).imp id (fun h => by simp at h; omega)) (by rw [hM.out.1])); clear hb8 ho8 hk8 ho9 hrow8 f1)
              have HO9 := Lib.hid (HO8.out.setCell (p := ⟨gm, i * 2 + 1, none⟩) (.inr (by show w.heap.size ≤ gm; omega)) (.slice B8 (x.2.length + 1) c8))
              obtain ⟨q, c9, hq9⟩ := ownsRow_some (HG8.out.each i _ _ (get_set_self hyl) (get_set_self hvl)) (by show 0 < (x.2 ++ _).length; simp)
              obtain ⟨rfl, rfl⟩ : B8 = some ⟨q, 0, none⟩ ∧ c8 = c9 := by simp at hq9; exact ⟨hq9.1, hq9.2⟩
              have hfx9 := hfx.2
              clear hq9 hfx
              generalize (w8.setCell ⟨gm, i * 2 + 1, none⟩ (.slice (some ⟨q, 0, none⟩) (x.2.length + 1) c8)) = w9 at *
              clear f8 z8 HF1 HZ1 HU0 HROW HPC1 HFAR HO8 hO hR
              go_loopw [12] (fun kk wr => ∃ (k : Nat) (bs : List UInt8), k ≤ x.2.length + 1 ∧ kk = .int .i64 k ∧ Hid (bs.length = x.2.length + 1 ∧ (k ≤ x.2.length → bs[x.2.length]? = some 1) ∧ (x.2.length < k → bs[x.2.length]? = some 2)) ∧ Hid (RecsOwn w3.heap.size 37 5 wr (.slice (some ⟨gm, 0, none⟩) xs.length cv) (ys.set i (x.1, bs)) (vs.set i (.slice (some ⟨q, 0, none⟩) (x.2.length + 1) c8))) ∧ Hid (Only [] w wr)) (fun kk _ => x.2.length + 1 - (intOf kk).toNat)
              case atStart => exact ⟨0, x.2 ++ [UInt8.ofNat 1], by omega, rfl, Lib.hid ⟨by simp, fun _ => by simp, fun h => by omega⟩, HG8, HO9⟩
              case round =>
                clear HG8 HO9
                obtain ⟨k, bs, hk, rfl, hbs, hR, hO⟩ := hrel
                have hyi : (ys.set i (x.1, bs))[i]? = some (x.1, bs) := by rw [List.getElem?_set]; simp [hyl]
                have hvi : (vs.set i (.slice (some ⟨q, 0, none⟩) (x.2.length + 1) c8))[i]? = some (.slice (some ⟨q, 0, none⟩) (x.2.length + 1) c8) := by rw [List.getElem?_set]; simp [hvl]
                have hrow := hR.out.row
                rw [List.length_set, hM.out.1] at hrow
                have hgm2 : gm < wr.heap.size := (ownsRow_lt hrow rfl).2
                obtain ⟨pc0, pc1⟩ := pairCells_get hyi hvi
                obtain ⟨f1, _⟩ := ownsRow_cell hrow pc1
                have hyl2 : i < ys.length := hyl
                have hvl2 : i < vs.length := hvl
                have HYI := Lib.hid hyi
                have HVI := Lib.hid hvi
                clear hrow pc0 pc1 hyi hvi
                by_cases hlt3 : k < x.2.length + 1
                · have hlt3' : (k : Int) < x.2.length + 1 := by omega
                  have hkb : k < bs.length := by rw [hbs.out.1]; exact hlt3
                  have hu8 := hR.out.each i _ _ HYI.out HVI.out
                  have hul : (bcells bs)[k]? = some (bcell bs[k]) := by rw [bcells_get, List.getElem?_eq_getElem hkb]; rfl
                  rw [show ((x.1, bs) : Rec).2.length = x.2.length + 1 from hbs.out.1] at hu8
                  obtain ⟨fb, zb⟩ := ownsRow_cell hu8 hul
                  have HBK := Lib.hid (List.getElem?_eq_getElem hkb)
                  have hqg : gm ≠ q := fun e => hR.out.far i _ q HVI.out rfl (by rw [← e]; rfl)
                  clear hu8 hul
                  generalize bs[k] = z at *
                  have fb' : wr.cell? ⟨q, k, none⟩ = some (.int .u8 (z.toNat : Int)) := fb
                  clear fb
                  have hzq : w3.heap.size ≤ q ∧ q < wr.heap.size := ownsRow_lt (hR.out.each i _ _ HYI.out HVI.out) rfl
                  have HZQ := Lib.hid hzq
                  have HQG := Lib.hid hqg
                  clear hzq zb
                  have hxl9 : x.2.length + 1 ≤ 9223372036854775807 := by have := hfx9; omega
                  have hk9 : (k : Int) ≤ 9223372036854775806 := by omega
                  go_wp2
                  refine L.grow_start [] 16 ((0, true, false) :: (1, true, false) :: (2, true, false) :: (3, true, false) :: (4, true, false) :: (5, true, false) :: (6, true, false) :: (7, true, false) :: (8, true, false) :: (9, true, false) :: (10, true, false) :: (11, true, true) :: (12, true, true) :: (13, true, true) :: (14, true, true) :: (15, true, true) :: (16, false, true) :: []) (by kernel_rfl) (([], [7], some 89) :: ([], [11], some 90) :: ([0, 1], [89, 90], some 91) :: ([2], [91], some 92) :: ([3], [92], some 93) :: ([], [12], some 94) :: ([], [7], some 95) :: ([], [11], some 96) :: ([6, 7], [95, 96], some 97) :: ([8], [97], some 98) :: ([9], [98], some 99) :: ([], [12], some 100) :: ([10, 11], [99, 100], some 101) :: ([12], [101], some 102) :: ([13], [102], some 103) :: ([4, 5, 0, 1, 2, 3, 4, 5, 6, 7, 8, 9, 10, 11, 12, 13, 14], [93, 94], some 104) :: ([15, 14, 0, 1, 2, 3, 4, 5, 6, 7, 8, 9, 10, 11, 12, 13, 14], [104, 103], none) :: []) (by kernel_rfl) (by kernel_rfl) (n := 17) rfl (by kernel_rfl) (fun _ _ _ _ _ h => h) (fun wg hog => ?_)
                  refine L.growe_start (N := 154) (by rfl) ?_
                  have e0 : ∀ w', Only [] wg w' → w'.cell? ⟨gm, i * 2 + 1, none⟩ = some (.slice (some ⟨q, 0, none⟩) (x.2.length + 1) c8) := fun w' h => h.cell (hog.cell f1 (by simp)) (by simp)
                  have e1 : ∀ w', Only [] wg w' → w'.cell? ⟨q, k, none⟩ = some (.int .u8 (z.toNat : Int)) := fun w' h => h.cell (hog.cell fb' (by simp)) (by simp)
                  have HRG := Lib.hid (hR.out.only hog)
                  have HOG := Lib.hid (hO.out.trans hog)
                  have hu8 := HRG.out.each i _ _ HYI.out HVI.out
                  have hul : (bcells bs)[k]? = some (bcell z) := by rw [bcells_get, HBK.out]; rfl
                  rw [show ((x.1, bs) : Rec).2.length = x.2.length + 1 from hbs.out.1] at hu8
                  obtain ⟨fg, zg⟩ := ownsRow_cell hu8 hul
                  have fg' : wg.cell? ⟨q, k, none⟩ = some (.int .u8 (z.toNat : Int)) := fg
                  clear hog hu8 hul fg fb' f1 hR hO
                  iterate 16 (first | (refine L.ge_off rfl rfl rfl (by rfl) ?_) | (refine L.ge_move rfl rfl rfl (by rfl) rfl (by simp [L.evE, L.lk, Act.eval]; rfl) ?_) | (refine L.ge_pick rfl rfl rfl (by rfl) rfl (by simp [L.evE, L.lk, Act.eval]; rfl) (by simp [L.evE, L.lk, Act.eval]; rfl) ?_) | (refine L.ge_val rfl rfl rfl (by rfl) (by intro w' hw'; simp [execOp, L.evE, L.lk, Act.eval]; go_simp; rfl) ?_))
                  refine L.ge_last (w' := wg.setCell ⟨q, k, none⟩ (.int .u8 (IntKind.u8.wrap ((z.toNat : Int) + 1)))) rfl rfl (by rfl) (by simp [execOp, L.evE, L.lk, Act.eval]; go_simp) ?_
                  simp only [L.puts, Act.put, goInt, List.setIfInBounds_toArray, List.set_cons_zero, List.set_cons_succ]
                  rw [bcell_succ]
                  have HZ2 := Lib.hid (HZQ.out.1)
                  clear e0 e1 fg' zg
                  go_wp2
                  go_roundw
                  case rel =>
                    refine ⟨k + 1, bs.set k (z + 1), by omega, by go_num, Lib.hid ⟨by rw [List.length_set]; exact hbs.out.1, fun h => ?_, fun h => ?_⟩, ?_, HOG.out.setCell (.inr (by show w.heap.size ≤ q; have := HZ2.out; omega)) _⟩
                    · rw [List.getElem?_set, if_neg (by omega)]
                      exact hbs.out.2.1 (by omega)
                    · obtain rfl : k = x.2.length := by omega
                      have h1 := hbs.out.2.1 (Nat.le_refl _)
                      rw [HBK.out] at h1
                      obtain rfl := Option.some.inj h1
                      rw [get_set_self (by rw [hbs.out.1]; omega)]
                      rfl
                    · have := HRG.out.poke (k := k) HYI.out HVI.out (by show _ = bs.length; rw [hbs.out.1]) (by show k < bs.length; rw [hbs.out.1]; omega) (z + 1)
                      rw [List.set_set] at this
                      exact this
                  case measure => simp [intOf]; omega
                · obtain rfl : k = x.2.length + 1 := by omega
                  have hxl9 : x.2.length + 1 ≤ 9223372036854775807 := by have := hfx9; omega
                  have hk9 : (x.2.length : Int) + 1 ≤ 9223372036854775807 := by omega
                  have HMN := Lib.hid (Mod.next hM.out HX.out hbs.out.1 (hbs.out.2.2 (by omega)))
                  go_wp2
                  go_roundw
                  case rel => exact ⟨i + 1, _, _, by omega, by go_num, HMN, hR, hO⟩
                  case measure => simp [intOf]; omega
            · obtain rfl : i = xs.length := by omega
              go_wp2
              go_loopw [13] (fun jj wr => ∃ (j : Nat), j ≤ xs.length ∧ jj = .int .i64 j ∧ Hid (RecsOwn w3.heap.size 37 5 wr (.slice Av xs.length cv) ys vs) ∧ Hid (Only [] w wr)) (fun jj _ => xs.length - (intOf jj).toNat)
              case atStart => exact ⟨0, by omega, rfl, hR, hO⟩
              case round =>
                clear hR hO
                obtain ⟨j, hj, rfl, hR, hO⟩ := hrel
                by_cases hlt4 : j < xs.length
                · have hlt4' : (j : Int) < xs.length := by omega
                  obtain ⟨gm, cm, hAv⟩ := ownsRow_some hR.out.row (by rw [hM.out.1]; omega)
                  obtain ⟨rfl, rfl⟩ : Av = some ⟨gm, 0, none⟩ ∧ cv = cm := by simp at hAv; exact ⟨hAv.1, hAv.2.2⟩
                  clear hAv
                  have hyl : j < ys.length := by rw [hM.out.1]; exact hlt4
                  have hvl : j < vs.length := by rw [hR.out.len]; exact hyl
                  have HX := Lib.hid (List.getElem?_eq_getElem hlt4)
                  have HY := Lib.hid (List.getElem?_eq_getElem hyl)
                  have HV9 := Lib.hid (List.getElem?_eq_getElem hvl)
                  obtain ⟨hk1, hk2, _⟩ := hM.out.2 j _ _ HX.out HY.out
                  obtain ⟨hk3, hk4⟩ := hk2 hlt4
                  have hfx := (HF.out.at j hlt4).2
                  obtain ⟨ad, BX, cx, rfl, hxc, _, _⟩ := (HA.out.only hO.out).row j hlt4
                  have hx0 := cellsAt_head hxc rfl
                  have hx1 := cellsAt_field hxc 1 (by omega) rfl
                  clear hxc hk2
                  generalize xs[j] = x at *
                  generalize ys[j] = y at *
                  generalize vs[j] = v9 at *
                  have hu9 := hR.out.each j y v9 HY.out HV9.out
                  obtain ⟨q, c9, rfl⟩ := ownsRow_some hu9 (by omega)
                  have hrow := hR.out.row
                  rw [hM.out.1] at hrow
                  obtain ⟨pc0, pc1⟩ := pairCells_get HY.out HV9.out
                  obtain ⟨f0, _⟩ := ownsRow_cell hrow pc0
                  obtain ⟨f1, _⟩ := ownsRow_cell hrow pc1
                  have hb9 : (bcells y.2)[x.2.length]? = some (.int .u8 2) := by rw [bcells_get, hk4]; rfl
                  obtain ⟨f2, _⟩ := ownsRow_cell hu9 hb9
                  rw [hk1] at f0
                  rw [hk3] at f1
                  clear hu9 hrow pc0 pc1 hb9 hk1 hk3 hk4
                  have hw9 : IntKind.i64.wrap ((x.2.length : Int) + 1) = x.2.length + 1 := IntWalk.i64_in _ (by omega)
                  have hlx : (x.2.length : Int) < (x.2.length : Int) + 1 := by omega
                  go_wp2
                  refine L.grow_start [] 43 ((0, true, false) :: (1, true, false) :: (2, true, false) :: (3, true, false) :: (4, true, false) :: (5, true, false) :: (6, true, true) :: (7, true, true) :: (8, true, true) :: (9, true, true) :: (10, true, true) :: (11, true, true) :: (12, true, false) :: (13, true, false) :: (14, true, false) :: (15, true, false) :: (16, true, false) :: (17, true, false) :: (18, true, false) :: (19, true, true) :: (20, true, true) :: (21, true, true) :: (22, true, true) :: (23, true, true) :: (24, true, true) :: (25, true, true) :: (26, true, true) :: (27, true, true) :: (28, true, false) :: (29, true, false) :: (30, true, false) :: (31, true, false) :: (32, true, false) :: (33, true, false) :: (34, true, true) :: (35, true, true) :: (36, true, true) :: (37, true, true) :: (38, true, true) :: (39, true, true) :: (40, true, true) :: (41, true, true) :: (42, true, true) :: []) (by kernel_rfl) (([], [7], some 111) :: ([], [13], some 112) :: ([0, 1], [111, 112], some 113) :: ([2], [113], some 114) :: ([3], [114], some 115) :: ([], [0], some 116) :: ([], [13], some 117) :: ([5, 6], [116, 117], some 118) :: ([7], [118], some 119) :: ([8], [119], some 120) :: ([4, 9], [115, 120], some 121) :: ([10], [121], some 122) :: ([11], [7, 122], some 123) :: ([11], [13, 122], some 124) :: ([12, 13, 11], [123, 124, 122], some 125) :: ([14, 11], [125, 122], some 126) :: ([15, 11], [126, 122], some 127) :: ([16, 11], [127, 122], some 128) :: ([11], [0, 122], some 129) :: ([11], [13, 122], some 130) :: ([18, 19, 11], [129, 130, 122], some 131) :: ([20, 11], [131, 122], some 132) :: ([21, 11], [132, 122], some 133) :: ([22, 11], [133, 122], some 134) :: ([23, 11], [134, 122], some 135) :: ([17, 24, 11], [128, 135, 122], some 136) :: ([11, 25], [122, 136], some 137) :: ([26, 11], [137], some 138) :: ([27], [7, 138], some 139) :: ([27], [13, 138], some 140) :: ([28, 29, 27], [139, 140, 138], some 141) :: ([30, 27], [141, 138], some 142) :: ([31, 27], [142, 138], some 143) :: ([27], [0, 138], some 144) :: ([27], [13, 138], some 145) :: ([33, 34, 27], [144, 145, 138], some 146) :: ([35, 27], [146, 138], some 147) :: ([36, 27], [147, 138], some 148) :: ([37, 27], [148, 138], some 149) :: ([32, 38, 27], [143, 149, 138], some 150) :: ([39, 27], [150, 138], some 151) :: ([40, 27], [151, 138], some 152) :: ([27, 41], [138, 152], some 153) :: []) (by kernel_rfl) (by kernel_rfl) (n := 43) rfl (by kernel_rfl) (fun _ _ _ _ _ h => h) (fun wg hog => ?_)
                  refine L.growe_start (N := 154) (by rfl) ?_
                  have e0 : ∀ w', Only [] wg w' → w'.cell? ⟨gm, j * 2, none⟩ = some (.string x.1) := fun w' h => h.cell (hog.cell f0 (by simp)) (by simp)
                  have e1 : ∀ w', Only [] wg w' → w'.cell? ⟨gm, j * 2 + 1, none⟩ = some (.slice (some ⟨q, 0, none⟩) (x.2.length + 1) c9) := fun w' h => h.cell (hog.cell f1 (by simp)) (by simp)
                  have e2 : ∀ w', Only [] wg w' → w'.cell? ⟨q, x.2.length, none⟩ = some (.int .u8 2) := fun w' h => h.cell (hog.cell f2 (by simp)) (by simp)
                  have e3 : ∀ w', Only [] wg w' → w'.cell? (ad.add (j * 2)) = some (.string x.1) := fun w' h => h.cell (hog.cell hx0 (by simp)) (by simp)
                  have e4 : ∀ w', Only [] wg w' → w'.cell? ⟨(ad.add (j * 2)).block, (ad.add (j * 2)).off + 1, none⟩ = some (.slice BX x.2.length cx) := fun w' h => h.cell (hog.cell hx1 (by simp)) (by simp)
                  have HRG := Lib.hid (hR.out.only hog)
                  have HOG := Lib.hid (hO.out.trans hog)
                  clear hog f0 f1 f2 hx0 hx1 hR hO
                  iterate 43 (first | (refine L.ge_off rfl rfl rfl (by rfl) ?_) | (refine L.ge_move rfl rfl rfl (by rfl) rfl (by simp [L.evE, L.lk, Act.eval]; rfl) ?_) | (refine L.ge_pick rfl rfl rfl (by rfl) rfl (by simp [L.evE, L.lk, Act.eval]; rfl) (by simp [L.evE, L.lk, Act.eval]; rfl) ?_) | (refine L.ge_val rfl rfl rfl (by rfl) (by intro w' hw'; simp [execOp, L.evE, L.lk, Act.eval]; go_simp; rfl) ?_))
                  refine L.ge_done ?_
                  simp only [L.puts, Act.put, goInt, List.setIfInBounds_toArray, List.set_cons_zero, List.set_cons_succ]
                  clear e0 e1 e2 e3 e4 hw9 hlx
                  go_wp2
                  go_roundw
                  case rel => exact ⟨j + 1, by omega, by go_num, HRG, HOG⟩
                  case measure => simp [intOf]; omega
                · obtain rfl : j = xs.length := by omega
                  go_wp2
                  go_ret
                  exact ⟨rfl, hO.out⟩
    · obtain rfl := HV1.out h0
      have h0' : ¬ (layE xs = 0) := h0
      go_wp2
      go_ret
      exact ⟨rfl, HO3.out⟩
theorem pageBack_walk (A : Option Addr) (cap : Nat) (xs : List (ByteArray × List Int × Unit)) (w : World) (hl : xs.length ≤ cap) (hb : cap * 40 ≤ 140737488351232) (hr : rdRow 2 rdRec w A xs) :
    Calls Try.prog 6 #[.slice A xs.length cap] w fun e w' => e = .returned (.bool true) ∧ Only [] w w' := by
  obtain ⟨ys, h1, h2, h3⟩ := recs_in hr
  rw [← h1]
  exact back_any A cap ys w (by omega) h3 h2
end Go.Proofs.Ythkgpnkbbdpldaa
