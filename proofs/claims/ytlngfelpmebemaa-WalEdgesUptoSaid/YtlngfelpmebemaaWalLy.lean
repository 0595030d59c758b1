/-
  The log's lay.
-/
import Derived.Test.YtlngfelpmebemaaWalLp
namespace Go.Proofs.Ytlngfelpmebemaa
open Go Go.RowKit
set_option linter.unusedSimpArgs false
set_option linter.unusedVariables false
/-- The writes that a slice shows; all of it lies apart from some blocks. -/
def WritesF (S : List Nat) (w : World) (A : Option Addr) (xs : List Wr) : Prop :=
  ∀ (i : Nat) (x : Wr), xs[i]? = some x → ∃ ad B cap, A = some ad ∧ ad.block ∉ S ∧ CellsAt w (ad.add (i * 2)) [.int .i64 x.1, .slice B x.2.length cap] ∧ x.2.length ≤ cap ∧ (x.2 ≠ [] → ∃ bd, B = some bd ∧ bd.block ∉ S ∧ CellsAt w bd (bcells x.2))
theorem WritesF.only {S : List Nat} {w w' : World} {A : Option Addr} {xs : List Wr} (h : WritesF S w A xs) (ho : Only S w w') : WritesF S w' A xs := fun i x hx => by
  obtain ⟨ad, B, cap, h1, h2, h3, h4, h5⟩ := h i x hx
  exact ⟨ad, B, cap, h1, h2, h3.only ho (by rw [add_block]; exact h2), h4, fun h6 => by obtain ⟨bd, k1, k2, k3⟩ := h5 h6; exact ⟨bd, k1, k2, k3.only ho k2⟩⟩
theorem names_cells (ts : List Nat) (L k PP tt : Nat) (hP : PP = k / 64 * 256 + 2 * (k % 64)) (hL : PP + 1 < L * 256) (ht : ts.getD k 0 = tt) :
    ((bcells (namesTo ts L k)).toArray.setIfInBounds PP (.int .u8 (IntKind.u8.wrap ((tt : Int) / 256)))).setIfInBounds (PP + 1) (.int .u8 (IntKind.u8.wrap (tt : Int))) = (bcells (namesTo ts L (k + 1))).toArray := by
  subst hP
  have v : ∀ n : Nat, Value.int .u8 (IntKind.u8.wrap (n : Int)) = bcell (UInt8.ofNat n) := fun n => by
    unfold bcell
    rw [show IntKind.u8.wrap (n : Int) = (n : Int) % 256 from rfl, UInt8.toNat_ofNat']
    congr 1
  have v1 : Value.int .u8 (IntKind.u8.wrap ((tt : Int) / 256)) = bcell (UInt8.ofNat (tt / 256)) := by
    rw [show (tt : Int) / 256 = ((tt / 256 : Nat) : Int) by omega, v]
  have v2 : Value.int .u8 (IntKind.u8.wrap (tt : Int)) = bcell (UInt8.ofNat (tt % 256)) := by
    rw [v]
    congr 1
    apply UInt8.toNat_inj.1
    rw [UInt8.toNat_ofNat', UInt8.toNat_ofNat']
    omega
  rw [v1, v2, List.setIfInBounds_toArray, List.setIfInBounds_toArray]
  have := namesTo_next ts L k (by omega) hL
  rw [ht] at this
  rw [← this]
  unfold bcells
  rw [List.map_set, List.map_set]
theorem headOf_length (n : Nat) : (headOf n).length = 256 := by
  unfold headOf
  rw [List.length_cons, List.length_cons, List.length_cons, List.length_replicate]
theorem head_cells (n : Nat) : (((bcells (List.replicate 256 0)).toArray.setIfInBounds 0 (.int .u8 165)).setIfInBounds 1 (.int .u8 ((n : Int) / 256 % 256))).setIfInBounds 2 (.int .u8 ((n : Int) % 256)) = (bcells (headOf n)).toArray := by
  have v : ∀ m : Nat, Value.int .u8 ((m : Int) % 256) = bcell (UInt8.ofNat m) := fun m => by
    unfold bcell
    rw [UInt8.toNat_ofNat']
    congr 1
  have v1 : Value.int .u8 ((n : Int) / 256 % 256) = bcell (UInt8.ofNat (n / 256)) := by rw [show (n : Int) / 256 = ((n / 256 : Nat) : Int) by omega, v]
  have v2 : Value.int .u8 ((n : Int) % 256) = bcell (UInt8.ofNat (n % 256)) := by
    rw [v]
    congr 1
    apply UInt8.toNat_inj.1
    rw [UInt8.toNat_ofNat', UInt8.toNat_ofNat']
    omega
  rw [v1, v2, List.setIfInBounds_toArray, List.setIfInBounds_toArray, List.setIfInBounds_toArray]
  rfl
theorem sizeU8w : (Try.prog.info? 5).map (·.size) = some 1 := by kernel_rfl
def cutB (b : List UInt8) (i n : Nat) : List UInt8 := (b.drop i).take n
def pwfacts (pw g s nb : Nat) : Prop := pw ≠ g ∧ pw ≠ s ∧ pw ≠ nb
theorem write_n (g s cp : Nat) (r : List Value) (D : Dk) (i : Int) (A : Option Addr) (n c : Nat) (b : List UInt8) (w : World) (hn : b.length = n) (h : IsDk w g s cp r D) (hD : D.Ok) (hwr : D.writes < 1000000000)
    (hA : b ≠ [] → ∃ ad, A = some ad ∧ CellsAt w ad (bcells b)) :
    Calls Try.prog 25 #[.pointer (some ⟨g, 0, none⟩), .int .i64 i, .slice A n c] w fun e w' => e = .returned (.int .i64 (D.write i b).1) ∧ IsDk w' g s cp r (D.write i b).2 ∧ Only [g, s] w w' := by
  subst hn
  exact write_any g s cp r D i A c b w h hD hwr hA
set_option maxHeartbeats 8000000 in
set_option maxRecDepth 100000 in
theorem lay_any (q g s cp nm p : Nat) (r : List Value) (dead : Bool) (D : Dk) (A : Option Addr) (ca : Nat) (xs : List Wr) (w : World) (hr : RightP p xs) (hl : xs.length ≤ p) (hp : p ≤ 1000000) (hnm : nm ≤ 1000000) (hls : listsN xs.length ≤ nm)
    (hD : D.Ok) (hwr : D.writes < 800000000) (hroom : 1 + nm + 2 * p ≤ D.L.length) (hd : IsDk w g s cp r D) (hlg : IsLg w q g nm p dead) (hqg : q ≠ g) (hqs : q ≠ s) (hA : WritesF [g, s] w A xs) :
    Calls Try.prog 34 #[.pointer (some ⟨q, 0, none⟩), .slice A xs.length ca] w fun e w' => e = .returned (.int .i64 (layP nm p xs D).1) ∧ IsDk w' g s cp r (layP nm p xs D).2 ∧ Only [g, s] w w' := by
  obtain ⟨V, hV⟩ : ∃ V, V = layP nm p xs D := ⟨_, rfl⟩
  rw [← hV]
  have HV := Lib.hid hV
  have HA := Lib.hid hA
  have HLG := Lib.hid hlg
  have HDK := Lib.hid hd
  have HDO := Lib.hid hD
  have HR := Lib.hid hr
  have hLn : listsN xs.length ≤ 1000000 := by omega
  clear hV hA hlg hd hD hr
  go_enter Try.func34, Try.ntmps34
  have hmul : IntKind.i64.wrap ((listsN xs.length : Int) * 256) = ((listsN xs.length * 256 : Nat) : Int) := by rw [IntWalk.i64_in _ (by omega)]; omega
  go_wp2_with (first
    | (go_at_call 30; refine (lists_any xs.length (by omega) w).mono ?_; rintro e w1 ⟨rfl, rfl⟩)
    | (at_make; refine wpList_make_new rfl _ _ 43 rfl 5 (.int .u8 0) 1 1 Try.underlying43 infoU8 .i64 .i64 _ _ (listsN xs.length * 256) rfl rfl (by omega) (by omega) (by omega) (by omega) ?_; intro wm hbm _ hom; have HBM := Lib.hid hbm.out; have HOM := Lib.hid hom; clear hbm hom))
  have hzs : madeCells (Value.cells (.int .u8 0)) (listsN xs.length * 256 * 1) = (bcells (namesTo (targetsOf xs) (listsN xs.length) 0)).toArray := by
    rw [show Value.cells (.int .u8 0) = #[.int .u8 0] from rfl, madeCells_one, namesTo_zero]
    unfold bcells
    rw [List.map_replicate, Nat.mul_one]
    rfl
  rw [hzs] at HBM
  clear hzs hmul
  obtain ⟨nb, hnb⟩ : ∃ nb, nb = w1.heap.size := ⟨_, rfl⟩
  rw [← hnb] at HBM ⊢
  have HNB := Lib.hid hnb
  have hnbg : nb ≠ g ∧ nb ≠ s := by
    have h2 := heap_lt HDK.out.hd
    have h3 := heap_lt HDK.out.sec
    exact ⟨by omega, by omega⟩
  clear hnb
  have HVI : Hid (andP (imagesP nm 0 xs D) (fun D1 => andP (secsP 0 ((List.range (listsN xs.length)).map (nameSec (targetsOf xs))) D1) fun D2 => andP (D2.write 0 (headOf xs.length)) fun D3 => applyP nm p 0 (targetsOf xs) D3) = V) := HV.out.symm
  generalize hF : (fun D1 => andP (secsP 0 ((List.range (listsN xs.length)).map (nameSec (targetsOf xs))) D1) fun D2 => andP (D2.write 0 (headOf xs.length)) fun D3 => applyP nm p 0 (targetsOf xs) D3) = F at HVI
  have HFF := Lib.hid hF
  clear hF HV
  go_loopw [5, 7, 8, 9, 10, 22] (fun l _ _ _ _ i wr => ∃ (k c5 : Nat) (A5 : Option Addr) (E : Dk), k ≤ xs.length ∧ i = .int .i64 k ∧ l = .slice A5 k c5 ∧ Hid (andP (imagesP nm k (xs.drop k) E) F = V) ∧ Hid E.Ok ∧ Hid (E.writes ≤ D.writes + k) ∧ Hid (E.L.length = D.L.length) ∧ Hid (IsDk wr g s cp r E) ∧ Hid (wr.ownsRow w1.heap.size 3 1 l k (icells ((targetsOf xs).take k))) ∧ Hid (∀ k', l.ownBlock = some k' → k' ≠ nb) ∧ Hid (wr.heap[nb]? = some (.cells (bcells (namesTo (targetsOf xs) (listsN xs.length) k)).toArray 5 (0, 0))) ∧ Hid (Only [g, s] w1 wr)) (fun _ _ _ _ _ i _ => xs.length - (intOf i).toNat)
  case atStart => exact ⟨0, 0, none, D, by omega, rfl, rfl, HVI, HDO, Lib.hid (by simp), Lib.hid rfl, Lib.hid (HDK.out.only HOM.out (by simp) (by simp)), ownsRow_nil _ _ _ _, Lib.hid (fun k' h => by cases h), HBM, Lib.hid (HOM.out.mono (by simp))⟩
  case round =>
    clear HVI HBM HOM
    obtain ⟨k, c5, A5, E, hk, rfl, rfl, hv, hE, hew, hel, hdk, hB, hne, hN, hO⟩ := hrel
    by_cases hlt : k < xs.length
    · have hlt' : (k : Int) < xs.length := by omega
      obtain ⟨ad, B, cap, rfl, hadf, hcs, hcap, hby⟩ := (HA.out.only hO.out) k xs[k] (List.getElem?_eq_getElem hlt)
      have hok := HR.out.1 xs[k] (List.getElem_mem hlt)
      have hdr := List.drop_eq_getElem_cons hlt
      have hvv := hv.out
      rw [hdr] at hvv
      have HXK := Lib.hid (List.getElem?_eq_getElem hlt)
      have HC := Lib.hid hcs
      have HBY := Lib.hid hby
      clear hcs hby hdr hv hadf hcap
      generalize xs[k] = x at *
      unfold imagesP at hvv
      have hlen' := write_len' E ((1 + nm + k : Nat) : Int) x.2
      have hcnt := write_count E ((1 + nm + k : Nat) : Int) x.2
      have hokw := Dk.write_ok hE.out ((1 + nm + k : Nat) : Int) x.2
      obtain ⟨v, E', hw⟩ : ∃ v E', E.write ((1 + nm + k : Nat) : Int) x.2 = (v, E') := ⟨_, _, rfl⟩
      rw [hw] at hvv hlen' hcnt hokw
      simp only [] at hvv hlen' hcnt hokw
      have HVV := Lib.hid hvv
      have HW := Lib.hid hw
      have HOK := Lib.hid hokw
      have HLN := Lib.hid (hlen'.trans hel.out)
      have HCN := Lib.hid (show E'.writes ≤ D.writes + ((k + 1 : Nat) : Int) by have := hew.out; omega)
      have hwr9 : E.writes < 1000000000 := by have := hew.out; omega
      have HWR9 := Lib.hid hwr9
      clear hvv hw hokw hlen' hcnt hwr9
      go_wp2_with (with_reducible refine wpList_load_at rfl 63 (.tmp 25) rfl (ad.add (k * 2)) rfl _ _ HC.out Try.underlying63 rfl (by kernel_rfl) ?_)
      have HPW := Lib.hid (heap_alloc_new wr (.cells #[.int .i64 x.1, .slice B x.2.length cap] 63))
      have hal := (Only.refl [] wr).alloc (.cells #[.int .i64 x.1, .slice B x.2.length cap] 63)
      have HO2 := Lib.hid (hO.out.alloc (.cells #[.int .i64 x.1, .slice B x.2.length cap] 63))
      have HDK2 := Lib.hid (hdk.out.only hal (by simp) (by simp))
      have HB2 := Lib.hid (ownsRow_only hB.out hal (by simp))
      have HN2 := Lib.hid (hal.heap hN.out (by simp))
      have HBY2 := Lib.hid (show x.2 ≠ [] → ∃ bd, B = some bd ∧ bd.block ∉ [g, s] ∧ CellsAt (wr.alloc (.cells #[.int .i64 x.1, .slice B x.2.length cap] 63)) bd (bcells x.2) from fun h => by obtain ⟨bd, k1, k2, k3⟩ := HBY.out h; exact ⟨bd, k1, k2, k3.only hal (by simp)⟩)
      have HLG2 := Lib.hid (HLG.out.only HO2.out (by simp [hqg, hqs]))
      have hpw : pwfacts wr.heap.size g s nb := by
        have h1 := heap_lt hdk.out.hd
        have h2 := heap_lt hdk.out.sec
        have h3 := heap_lt hN.out
        exact ⟨by omega, by omega, by omega⟩
      have HPWF := Lib.hid hpw
      clear hal hB hN hdk hO HC hpw HBY
      generalize wr.alloc (.cells #[.int .i64 x.1, .slice B x.2.length cap] 63) = w2 at *
      generalize wr.heap.size = pw at *
      refine L.grow_start [g, s] 11 ((0, true, false) :: (1, true, false) :: (2, true, false) :: (3, true, false) :: (4, true, false) :: (5, true, false) :: (7, true, false) :: (8, true, false) :: (6, false, true) :: (9, false, true) :: (10, true, true) :: []) (by kernel_rfl) (([], [0], some 27) :: ([0], [27], some 28) :: ([1], [28], some 29) :: ([2], [29], some 30) :: ([], [0], some 31) :: ([], [7], some 32) :: ([4, 5], [31, 32], some 33) :: ([], [8], some 34) :: ([7], [34], some 35) :: ([3, 6, 8, 6], [30, 33, 35], some 36) :: ([9, 9, 0, 1, 2, 3, 4, 5, 6, 7, 8, 9], [36], some 9) :: []) (by kernel_rfl) (by kernel_rfl) (n := 11) rfl (by kernel_rfl) (fun _ _ _ _ _ h => h) (fun wg hog => ?_)
      refine L.growe_start (N := 117) (by rfl) ?_
      have e0 : ∀ w', Only [g, s] wg w' → w'.cell? ⟨q, 0, none⟩ = some (.pointer (some ⟨g, 0, none⟩)) := fun w' h => ((HLG2.out.only hog (by simp)).only h (by simp [hqg, hqs])).c0
      have e1 : ∀ w', Only [g, s] wg w' → w'.cell? ⟨pw, 1, none⟩ = some (.slice B x.2.length cap) := fun w' h => h.cell ((cell_of_row wg _ 1 _ _ _ (hog.heap HPW.out (by simp))).trans rfl) (by simp; exact ⟨HPWF.out.1, HPWF.out.2.1⟩)
      iterate 8 (first | (refine L.ge_off rfl rfl rfl (by rfl) ?_) | (refine L.ge_move rfl rfl rfl (by rfl) rfl (by simp [L.evE, L.lk, Act.eval]; rfl) ?_) | (refine L.ge_pick rfl rfl rfl (by rfl) rfl (by simp [L.evE, L.lk, Act.eval]; rfl) (by simp [L.evE, L.lk, Act.eval]; rfl) ?_) | (refine L.ge_val rfl rfl rfl (by rfl) (by intro w' hw'; simp [execOp, L.evE, L.lk, Act.eval]; go_simp; rfl) ?_))
      refine L.ge_call rfl rfl rfl (by rfl) rfl (by simp [L.evE, L.lk, Act.eval]; rfl) (by go_simp) ?_
      refine (image_any q g nm p dead k wg (HLG2.out.only hog (by simp)) hnm (by omega)).mono ?_
      rintro e wh ⟨rfl, rfl⟩
      refine ⟨_, rfl, Only.refl _ _, ?_⟩
      refine L.ge_call rfl rfl rfl (by rfl) rfl (by simp [L.evE, L.lk, Act.eval]; rfl) (by go_simp) ?_
      refine (write_n g s cp r E _ B x.2.length cap x.2 wh rfl (HDK2.out.only hog (by simp) (by simp)) hE.out HWR9.out (fun h => by obtain ⟨bd, k1, _, k3⟩ := HBY2.out h; exact ⟨bd, k1, k3.only hog (by simp)⟩)).mono ?_
      rw [show (1 : Int) + (nm : Int) + (k : Int) = ((1 + nm + k : Nat) : Int) by omega, HW.out]
      rintro e wm ⟨rfl, hdm, hom⟩
      refine ⟨_, rfl, hom, ?_⟩
      have HDK3 := Lib.hid hdm
      have hot : Only [g, s] w2 wm := (hog.mono (by simp)).trans hom
      have HO3 := Lib.hid (HO2.out.trans hot)
      have HPW3 := Lib.hid (hot.heap HPW.out (by simp; exact ⟨HPWF.out.1, HPWF.out.2.1⟩))
      have HN3 := Lib.hid (hot.heap HN2.out (by simp [hnbg.1, hnbg.2]))
      have HB3 := Lib.hid (ownsRow_only HB2.out hot (fun k' hk' hm => by have := (ownsRow_lt HB2.out hk').1; have h2 := heap_lt HDK.out.hd; have h3 := heap_lt HDK.out.sec; simp at hm; omega))
      clear hog hom hdm hot e0 e1
      iterate 1 (first | (refine L.ge_off rfl rfl rfl (by rfl) ?_) | (refine L.ge_move rfl rfl rfl (by rfl) rfl (by simp [L.evE, L.lk, Act.eval]; rfl) ?_) | (refine L.ge_pick rfl rfl rfl (by rfl) rfl (by simp [L.evE, L.lk, Act.eval]; rfl) (by simp [L.evE, L.lk, Act.eval]; rfl) ?_) | (refine L.ge_val rfl rfl rfl (by rfl) (by intro w' hw'; simp [execOp, L.evE, L.lk, Act.eval]; go_simp; rfl) ?_))
      refine L.ge_done ?_
      simp only [L.puts, Act.put, goInt, List.setIfInBounds_toArray, List.set_cons_zero, List.set_cons_succ]
      by_cases hv0 : v = 0
      · have hvv := HVV.out
        rw [if_neg (by simp [hv0])] at hvv
        subst hv0
        have HVV2 := Lib.hid hvv
        clear hvv HVV
        have hk0 : (0 : Int) ≤ k := by omega
        have hr1 : IntKind.i64.wrap ((k : Int) / 64 * 256) = (k : Int) / 64 * 256 := IntWalk.i64_in _ (by omega)
        have hr2 : IntKind.i64.wrap (2 * ((k : Int) % 64)) = 2 * ((k : Int) % 64) := IntWalk.i64_in _ (by omega)
        have hr3 : IntKind.i64.wrap ((k : Int) / 64 * 256 + 2 * ((k : Int) % 64)) = (k : Int) / 64 * 256 + 2 * ((k : Int) % 64) := IntWalk.i64_in _ (by omega)
        go_wp2
        obtain ⟨PP, hPP⟩ : ∃ PP : Nat, PP = k / 64 * 256 + 2 * (k % 64) := ⟨_, rfl⟩
        rw [show (k : Int) / 64 * 256 + 2 * ((k : Int) % 64) = (PP : Int) by rw [hPP]; omega]
        have hokx := HR.out.1 x (List.mem_of_getElem? HXK.out)
        obtain ⟨tt, htt⟩ : ∃ tt : Nat, x.1 = (tt : Int) := ⟨x.1.toNat, by have := hokx.1; omega⟩
        have htp : tt < p := by have := hokx.2.1; omega
        have hPL : PP + 1 < listsN xs.length * 256 := by rw [hPP]; unfold listsN; omega
        have HPP := Lib.hid hPP
        have HTT := Lib.hid htt
        clear hPP hokx hr1 hr2 hr3
        have hP1 : IntKind.i64.wrap ((PP : Int) + 1) = (PP : Int) + 1 := IntWalk.i64_in _ (by omega)
        have hP2 : (PP : Int) < (listsN xs.length : Int) * 256 := by omega
        have hP3 : (PP : Int) + 1 < (listsN xs.length : Int) * 256 := by omega
        have hP4 : PP < listsN xs.length * 256 := by omega
        refine L.grow_start [nb] 15 ((0, true, false) :: (1, true, false) :: (2, true, false) :: (3, true, false) :: (4, true, false) :: (5, true, false) :: (6, true, false) :: (7, true, false) :: (8, true, false) :: (9, true, false) :: (10, true, false) :: (11, true, false) :: (12, true, true) :: (13, false, true) :: (14, true, true) :: (15, false, true) :: []) (by kernel_rfl) (([], [6], some 47) :: ([], [10], some 48) :: ([], [6], some 49) :: ([], [10], some 50) :: ([3], [50], some 51) :: ([], [8], some 52) :: ([5], [52], some 53) :: ([6], [53], some 54) :: ([7], [54], some 55) :: ([], [8], some 56) :: ([9], [56], some 57) :: ([10], [57], some 58) :: ([0, 1, 0, 1, 5, 6, 7, 8], [47, 48], some 59) :: ([12, 8, 0, 1, 5, 6, 7, 8], [59, 55], none) :: ([2, 4, 0, 1, 2, 3, 4, 5, 6, 7, 8, 9, 10, 11, 12, 13], [49, 51], some 60) :: ([14, 11, 13, 0, 1, 2, 3, 4, 5, 6, 7, 8, 9, 10, 11, 12, 13], [60, 58], none) :: []) (by kernel_rfl) (by kernel_rfl) (n := 16) rfl (by kernel_rfl) (fun _ _ _ _ _ h => h) (fun wg hog => ?_)
        refine L.growe_start (N := 117) (by rfl) ?_
        have e0 : ∀ w', Only [nb] wg w' → w'.cell? ⟨pw, 0, none⟩ = some (.int .i64 (tt : Int)) := fun w' h => h.cell (((cell_of_row wg _ 0 _ _ _ (hog.heap HPW3.out (by simp))).trans rfl).trans (by rw [HTT.out]; rfl)) (by simp; exact HPWF.out.2.2)
        have HOG := Lib.hid hog
        have HN4 := Lib.hid (hog.heap HN3.out (by simp))
        have hsz : (bcells (namesTo (targetsOf xs) (listsN xs.length) k)).toArray.size = listsN xs.length * 256 := by rw [List.size_toArray, bcells_length, namesTo_length]
        have hcl : ∀ j, j < listsN xs.length * 256 → ∃ v, wg.cell? ⟨nb, j, none⟩ = some v := fun j hj => ⟨_, (cell_of_row wg nb j _ _ _ HN4.out).trans (Array.getElem?_eq_getElem (by rw [hsz]; exact hj))⟩
        obtain ⟨u0, hu0⟩ := hcl PP hP4
        obtain ⟨u1, hu1⟩ := hcl (PP + 1) hPL
        have hz0 := frozen_of_row wg nb PP _ _ HN4.out
        have HN5 : Hid ((wg.setCell ⟨nb, PP, none⟩ (.int .u8 (IntKind.u8.wrap ((tt : Int) / 256)))).heap[nb]? = some (.cells ((bcells (namesTo (targetsOf xs) (listsN xs.length) k)).toArray.setIfInBounds PP (.int .u8 (IntKind.u8.wrap ((tt : Int) / 256)))) 5 (0, 0))) := heap_setCell_same wg nb PP _ _ _ HN4.out
        have hz1 := frozen_of_row _ nb (PP + 1) _ _ HN5.out
        have hu2 : (wg.setCell ⟨nb, PP, none⟩ (.int .u8 (IntKind.u8.wrap ((tt : Int) / 256)))).cell? ⟨nb, PP + 1, none⟩ = some u1 := by
          rw [cell_of_row _ nb (PP + 1) _ _ _ HN5.out, Array.getElem?_setIfInBounds, if_neg (by omega)]
          rw [cell_of_row wg nb (PP + 1) _ _ _ HN4.out] at hu1
          exact hu1
        have HN6 : Hid (((wg.setCell ⟨nb, PP, none⟩ (.int .u8 (IntKind.u8.wrap ((tt : Int) / 256)))).setCell ⟨nb, PP + 1, none⟩ (.int .u8 (IntKind.u8.wrap (tt : Int)))).heap[nb]? = some (.cells (((bcells (namesTo (targetsOf xs) (listsN xs.length) k)).toArray.setIfInBounds PP (.int .u8 (IntKind.u8.wrap ((tt : Int) / 256)))).setIfInBounds (PP + 1) (.int .u8 (IntKind.u8.wrap (tt : Int)))) 5 (0, 0))) := heap_setCell_same _ nb (PP + 1) _ _ _ HN5.out
        clear hog hcl hsz
        iterate 13 (first | (refine L.ge_off rfl rfl rfl (by rfl) ?_) | (refine L.ge_move rfl rfl rfl (by rfl) rfl (by simp [L.evE, L.lk, Act.eval]; rfl) ?_) | (refine L.ge_pick rfl rfl rfl (by rfl) rfl (by simp [L.evE, L.lk, Act.eval]; rfl) (by simp [L.evE, L.lk, Act.eval]; rfl) ?_) | (refine L.ge_val rfl rfl rfl (by rfl) (by intro w' hw'; simp [execOp, L.evE, L.lk, Act.eval]; go_simp; rfl) ?_))
        refine ge_store (w' := wg.setCell ⟨nb, PP, none⟩ (.int .u8 (IntKind.u8.wrap ((tt : Int) / 256)))) rfl rfl (by rfl) (by simp [execOp, L.evE, L.lk, Act.eval]; go_simp) ((Only.refl [nb] _).setCell (by simp) _) ?_
        iterate 1 (first | (refine L.ge_off rfl rfl rfl (by rfl) ?_) | (refine L.ge_move rfl rfl rfl (by rfl) rfl (by simp [L.evE, L.lk, Act.eval]; rfl) ?_) | (refine L.ge_pick rfl rfl rfl (by rfl) rfl (by simp [L.evE, L.lk, Act.eval]; rfl) (by simp [L.evE, L.lk, Act.eval]; rfl) ?_) | (refine L.ge_val rfl rfl rfl (by rfl) (by intro w' hw'; simp [execOp, L.evE, L.lk, Act.eval]; go_simp; rfl) ?_))
        refine L.ge_last (w' := (wg.setCell ⟨nb, PP, none⟩ (.int .u8 (IntKind.u8.wrap ((tt : Int) / 256)))).setCell ⟨nb, PP + 1, none⟩ (.int .u8 (IntKind.u8.wrap (tt : Int)))) rfl rfl (by rfl) (by simp [execOp, L.evE, L.lk, Act.eval]; go_simp) ?_
        simp only [L.puts, Act.put, goInt, List.setIfInBounds_toArray, List.set_cons_zero, List.set_cons_succ]
        have hgd : (targetsOf xs).getD k 0 = tt := by
          unfold targetsOf
          rw [List.getD_eq_getElem?_getD, List.getElem?_map, HXK.out]
          show x.1.toNat = tt
          rw [HTT.out]
          rfl
        have HN7 := Lib.hid (HN6.out.trans (by rw [names_cells (targetsOf xs) (listsN xs.length) k PP tt HPP.out hPL hgd]))
        have honb : Only [nb] wg ((wg.setCell ⟨nb, PP, none⟩ (.int .u8 (IntKind.u8.wrap ((tt : Int) / 256)))).setCell ⟨nb, PP + 1, none⟩ (.int .u8 (IntKind.u8.wrap (tt : Int)))) := ((Only.refl [nb] wg).setCell (by simp) _).setCell (by simp) _
        have HGD := Lib.hid hgd
        clear e0 hu0 hu1 hu2 hz0 hz1 HN5 HN6 hP1 hP2 hP3 hP4 hgd HN4
        generalize (wg.setCell ⟨nb, PP, none⟩ (.int .u8 (IntKind.u8.wrap ((tt : Int) / 256)))).setCell ⟨nb, PP + 1, none⟩ (.int .u8 (IntKind.u8.wrap (tt : Int))) = wz at *
        have HOZ := Lib.hid ((HO3.out.trans (HOG.out.mono (by simp))).then honb (fun i hi => by right; simp at hi; rw [hi, HNB.out]; exact Nat.le_refl _))
        have HBZ := Lib.hid (ownsRow_only (ownsRow_only HB3.out HOG.out (by simp)) honb (fun k' hk' hm => hne.out k' hk' (by simpa using hm)))
        have HDKZ := Lib.hid ((HDK3.out.only HOG.out (by simp) (by simp)).only honb (by simp; exact fun h => hnbg.1 h.symm) (by simp; exact fun h => hnbg.2 h.symm))
        have HPWZ := Lib.hid (honb.heap (HOG.out.heap HPW3.out (by simp)) (by simp; exact HPWF.out.2.2))
        have hz9 : w1.heap.size ≤ wz.heap.size := HOZ.out.size
        have f0 : wz.cell? ⟨pw, 0, none⟩ = some (.int .i64 (tt : Int)) := ((cell_of_row wz _ 0 _ _ _ HPWZ.out).trans rfl).trans (by rw [HTT.out]; rfl)
        clear honb HOG HO3 HDK3 HPW3 HB3 HN3
        go_wp2_with (first
          | (at_builtin; refine wpList_append_row rfl (.tmp 61) (.tmp 64) 26 rfl w1.heap.size 3 1 8 (.int .i64 0) Try.underlying26 infoInt rfl (by omega) (.slice A5 k c5) k (icells ((targetsOf xs).take k)) rfl ?_ _ 1 1 [.int .i64 (tt : Int)] (by rfl) rfl (fun _ => ⟨_, rfl, cellsAt_row (heap_alloc_new wz _)⟩) (by simp [Value.oneCell']) (by unfold maxLen; omega) (by omega) (by simp; omega) ?_; exact ownsRow_only HBZ.out ((Only.refl [] _).alloc _) (by simp); intro A8 c8 w8 hb8 ho8 hk8; have HB8 := Lib.hid hb8; have HO8 := Lib.hid (Only.then (HOZ.out.alloc (.cells #[.int .i64 (tt : Int)] 3)) ho8 (fun j hj => .inr (ownsRow_lt HBZ.out (by simpa using hj)).1)); have hall := (Only.refl [] wz).alloc (.cells #[.int .i64 (tt : Int)] 3); have HN8 := Lib.hid (ho8.heap (hall.heap HN7.out (by simp)) (fun hm => hne.out nb (by simpa using hm) rfl)); have HE8 := Lib.hid (fun k' hk' => (hk8 k' hk').elim (hne.out k') (fun h => by have := heap_lt HN7.out; simp at h; omega)); have HD8 := Lib.hid ((HDKZ.out.only hall (by simp) (by simp)).only ho8 (fun hm => by have := (ownsRow_lt HBZ.out (k := g) (by simpa using hm)).1; have h2 := heap_lt HDK.out.hd; omega) (fun hm => by have := (ownsRow_lt HBZ.out (k := s) (by simpa using hm)).1; have h2 := heap_lt HDK.out.sec; omega)); clear hb8 ho8 hk8 hall))
        go_roundw
        case rel =>
          refine ⟨k + 1, c8, A8, E', by omega, by go_num, rfl, HVV2, HOK, HCN, HLN, HD8, ?_, HE8, HN8, HO8⟩
          have h8 := HB8.out
          have hlk : k < (targetsOf xs).length := by unfold targetsOf; rw [List.length_map]; exact hlt
          rw [List.take_succ_eq_append_getElem hlk]
          have hge : (targetsOf xs)[k] = tt := by
            have := HGD.out
            rw [List.getD_eq_getElem?_getD, List.getElem?_eq_getElem hlk] at this
            exact this
          rw [hge]
          unfold icells at h8 ⊢
          rw [List.map_append]
          exact h8
        case measure => simp [intOf]; omega
      · have hvv := HVV.out
        rw [if_pos hv0] at hvv
        unfold andP at hvv
        rw [if_pos hv0] at hvv
        have HVV2 := Lib.hid hvv
        clear hvv HVV
        go_wp2
        go_ret
        exact ⟨by rw [← HVV2.out]; rfl, by rw [← HVV2.out]; exact HDK3.out, HO3.out⟩
    · obtain rfl : k = xs.length := by omega
      have hvv := hv.out
      rw [List.drop_length] at hvv
      unfold imagesP andP at hvv
      rw [if_neg (by simp)] at hvv
      rw [← HFF.out] at hvv
      simp only [] at hvv
      have hlt9 : (targetsOf xs).length = xs.length := by unfold targetsOf; rw [List.length_map]
      have HT9 := Lib.hid hlt9
      have hsl : ((List.range (listsN xs.length)).map (nameSec (targetsOf xs))).length = listsN xs.length := by simp
      have hsg : ∀ j, j < listsN xs.length → ((List.range (listsN xs.length)).map (nameSec (targetsOf xs)))[j]? = some (nameSec (targetsOf xs) j) := fun j hj => by rw [List.getElem?_map, List.getElem?_range hj]; rfl
      have HSL := Lib.hid hsl
      have HSG := Lib.hid hsg
      generalize hss : (List.range (listsN xs.length)).map (nameSec (targetsOf xs)) = ss at *
      generalize hG : (fun D2 : Dk => andP (D2.write 0 (headOf xs.length)) fun D3 => applyP nm p 0 (targetsOf xs) D3) = G at hvv
      have HVV := Lib.hid hvv
      have HGG := Lib.hid hG
      clear hvv hv hG hss HFF hsl hsg hlt9
      go_wp2_with (go_at_call 30; refine (lists_any xs.length (by omega) _).mono ?_; rintro e w2 ⟨rfl, rfl⟩)
      have HE9 := Lib.hid (show E.writes ≤ D.writes + 1000000 by have := hew.out; omega)
      go_loopw [11, 12, 70] (fun _ _ i wr => ∃ (k : Nat) (E : Dk), k ≤ listsN xs.length ∧ i = .int .i64 k ∧ Hid (andP (secsP k (ss.drop k) E) G = V) ∧ Hid E.Ok ∧ Hid (E.writes ≤ D.writes + 1000000 + k) ∧ Hid (E.L.length = D.L.length) ∧ Hid (IsDk wr g s cp r E) ∧ Hid (wr.ownsRow w1.heap.size 3 1 (.slice A5 xs.length c5) xs.length (icells ((targetsOf xs).take xs.length))) ∧ Hid (wr.heap[nb]? = some (.cells (bcells (namesTo (targetsOf xs) (listsN xs.length) xs.length)).toArray 5 (0, 0))) ∧ Hid (Only [g, s] w1 wr)) (fun _ _ i _ => listsN xs.length - (intOf i).toNat)
      case atStart => exact ⟨0, E, by omega, rfl, HVV, hE, Lib.hid (by have := HE9.out; omega), hel, hdk, hB, hN, hO⟩
      case round =>
        clear HVV hE HE9 hel hdk hB hN hO hew
        obtain ⟨k, E, hk, rfl, hv, hE, hew, hel, hdk, hB, hN, hO⟩ := hrel
        by_cases hlt2 : k < listsN xs.length
        · have hlt2' : (k : Int) < listsN xs.length := by omega
          have hks : k < ss.length := by rw [HSL.out]; exact hlt2
          have hdr := List.drop_eq_getElem_cons hks
          have hkg : ss[k] = nameSec (targetsOf xs) k := by
            have := HSG.out k hlt2
            rw [List.getElem?_eq_getElem hks] at this
            exact Option.some.inj this
          have hvv := hv.out
          rw [hdr, hkg] at hvv
          unfold secsP at hvv
          have hbn : nameSec (targetsOf xs) k = cutB (namesTo (targetsOf xs) (listsN xs.length) xs.length) (k * 256) 256 := by
            unfold nameSec cutB
            rw [HT9.out]
          have hb256 : (nameSec (targetsOf xs) k).length = 256 := by
            unfold nameSec
            rw [HT9.out, List.length_take, List.length_drop, namesTo_length]
            omega
          have hbat : ∀ w', w'.heap[nb]? = some (.cells (bcells (namesTo (targetsOf xs) (listsN xs.length) xs.length)).toArray 5 (0, 0)) → BytesAt w' (cutAt (some ⟨nb, 0, none⟩) (k * 256) (listsN xs.length * 256)) (nameSec (targetsOf xs) k) := fun w' h => by
            have h9 : BytesAt w' (some ⟨nb, 0, none⟩) (namesTo (targetsOf xs) (listsN xs.length) xs.length) := fun _ => ⟨_, rfl, cellsAt_row h⟩
            have := h9.cut (k * 256) (k * 256 + 256) (listsN xs.length * 256) (by omega) (by rw [namesTo_length]; omega)
            rw [show k * 256 + 256 - k * 256 = 256 by omega] at this
            unfold nameSec
            rw [HT9.out]
            exact this
          have HBAT := Lib.hid hbat
          clear hdr hkg hv hbn hbat
          generalize nameSec (targetsOf xs) k = b at *
          have hlen' := write_len' E ((1 + k : Nat) : Int) b
          have hcnt := write_count E ((1 + k : Nat) : Int) b
          have hokw := Dk.write_ok hE.out ((1 + k : Nat) : Int) b
          obtain ⟨v, E', hw⟩ : ∃ v E', E.write ((1 + k : Nat) : Int) b = (v, E') := ⟨_, _, rfl⟩
          rw [hw] at hvv hlen' hcnt hokw
          simp only [] at hvv hlen' hcnt hokw
          have HVV := Lib.hid hvv
          have HW := Lib.hid hw
          have HOK := Lib.hid hokw
          have HLN := Lib.hid (hlen'.trans hel.out)
          have HCN := Lib.hid (show E'.writes ≤ D.writes + 1000000 + ((k + 1 : Nat) : Int) by have := hew.out; omega)
          have hwr9 : E.writes < 1000000000 := by have := hew.out; omega
          have HWR9 := Lib.hid hwr9
          have HB256 := Lib.hid hb256
          have HLG2 := Lib.hid (HLG.out.only hO.out (by simp [hqg, hqs]))
          clear hvv hw hokw hlen' hcnt hwr9 hb256
          have hm1 : IntKind.i64.wrap (1 + (k : Int)) = 1 + k := IntWalk.i64_in _ (by omega)
          have hm2 : IntKind.i64.wrap ((k : Int) * 256) = k * 256 := IntWalk.i64_in _ (by omega)
          have hm3 : IntKind.i64.wrap ((k : Int) + 1) = k + 1 := IntWalk.i64_in _ (by omega)
          have hm4 : IntKind.i64.wrap (((k : Int) + 1) * 256) = (k + 1) * 256 := IntWalk.i64_in _ (by omega)
          go_wp2
          refine L.grow_start [g, s] 15 ((0, true, false) :: (1, true, false) :: (2, true, false) :: (3, true, false) :: (4, true, false) :: (5, true, false) :: (6, true, false) :: (7, true, false) :: (8, true, false) :: (9, true, true) :: (10, true, true) :: (11, true, true) :: (12, true, true) :: (13, false, true) :: (14, true, true) :: []) (by kernel_rfl) (([], [0], some 73) :: ([0], [73], some 74) :: ([1], [74], some 75) :: ([2], [75], some 76) :: ([], [11], some 77) :: ([4], [77], some 78) :: ([], [6], some 79) :: ([], [11], some 80) :: ([7], [80], some 81) :: ([], [11], some 82) :: ([9], [82], some 83) :: ([10], [83], some 84) :: ([6, 8, 11], [79, 81, 84], some 85) :: ([3, 5, 12], [76, 78, 85], some 86) :: ([13, 13, 0, 1, 2, 3, 4, 5, 6, 7, 8, 9, 10, 11, 12, 13], [86], some 12) :: []) (by kernel_rfl) (by kernel_rfl) (n := 15) rfl (by kernel_rfl) (fun _ _ _ _ _ h => h) (fun wg hog => ?_)
          refine L.growe_start (N := 117) (by rfl) ?_
          have e0 : ∀ w', Only [g, s] wg w' → w'.cell? ⟨q, 0, none⟩ = some (.pointer (some ⟨g, 0, none⟩)) := fun w' h => ((HLG2.out.only hog (by simp)).only h (by simp [hqg, hqs])).c0
          iterate 12 (first | (refine L.ge_off rfl rfl rfl (by rfl) ?_) | (refine L.ge_move rfl rfl rfl (by rfl) rfl (by simp [L.evE, L.lk, Act.eval]; rfl) ?_) | (refine L.ge_pick rfl rfl rfl (by rfl) rfl (by simp [L.evE, L.lk, Act.eval]; rfl) (by simp [L.evE, L.lk, Act.eval]; rfl) ?_) | (refine L.ge_val rfl rfl rfl (by rfl) (by intro w' hw'; simp [execOp, L.evE, L.lk, Act.eval]; go_simp; rfl) ?_))
          refine ge_slice rfl rfl rfl (by rfl) _ _ _ _ _ rfl 5 Try.underlying43 sizeU8w (some ⟨nb, 0, none⟩) (listsN xs.length * 256) (listsN xs.length * 256) (by simp [L.evE, L.lk, Act.eval]) (k * 256) (k * 256 + 256) (listsN xs.length * 256) (fun w' => by simp [L.evE, L.lk, Act.eval]; exact bounds_lh w' _ _ _ _ _ _ (k * 256) (k * 256 + 256) (by omega) (by omega) (by omega) (by omega)) ?_
          rw [show k * 256 + 256 - k * 256 = 256 by omega]
          refine L.ge_call rfl rfl rfl (by rfl) rfl (by simp [L.evE, L.lk, Act.eval]; rfl) (by go_simp) ?_
          refine (write_n g s cp r E _ _ 256 _ b wg HB256.out (hdk.out.only hog (by simp) (by simp)) hE.out HWR9.out (fun h => HBAT.out wg (hog.heap hN.out (by simp)) (List.length_pos_iff.2 h))).mono ?_
          rw [show (1 : Int) + (k : Int) = ((1 + k : Nat) : Int) by omega, HW.out]
          rintro e wm ⟨rfl, hdm, hom⟩
          refine ⟨_, rfl, hom, ?_⟩
          have HDK3 := Lib.hid hdm
          have hot := (hog.mono (T := [g, s]) (by simp)).trans hom
          have HO3 := Lib.hid (hO.out.trans hot)
          have HN3 := Lib.hid (hot.heap hN.out (by simp [hnbg.1, hnbg.2]))
          have HB3 := Lib.hid (ownsRow_only hB.out hot (fun k' hk' hm => by have := (ownsRow_lt hB.out hk').1; have h2 := heap_lt HDK.out.hd; have h3 := heap_lt HDK.out.sec; simp at hm; omega))
          clear hog hom hdm hot e0 hm1 hm2 hm3 hm4
          iterate 1 (first | (refine L.ge_off rfl rfl rfl (by rfl) ?_) | (refine L.ge_move rfl rfl rfl (by rfl) rfl (by simp [L.evE, L.lk, Act.eval]; rfl) ?_) | (refine L.ge_pick rfl rfl rfl (by rfl) rfl (by simp [L.evE, L.lk, Act.eval]; rfl) (by simp [L.evE, L.lk, Act.eval]; rfl) ?_) | (refine L.ge_val rfl rfl rfl (by rfl) (by intro w' hw'; simp [execOp, L.evE, L.lk, Act.eval]; go_simp; rfl) ?_))
          refine L.ge_done ?_
          simp only [L.puts, Act.put, goInt, List.setIfInBounds_toArray, List.set_cons_zero, List.set_cons_succ]
          by_cases hv0 : v = 0
          · have hvv := HVV.out
            rw [if_neg (by simp [hv0])] at hvv
            subst hv0
            have HVV2 := Lib.hid hvv
            clear hvv HVV
            go_wp2
            go_roundw
            case rel => exact ⟨k + 1, E', by omega, by go_num, HVV2, HOK, HCN, HLN, HDK3, HB3, HN3, HO3⟩
            case measure => simp [intOf]; omega
          · have hvv := HVV.out
            rw [if_pos hv0] at hvv
            unfold andP at hvv
            rw [if_pos hv0] at hvv
            have HVV2 := Lib.hid hvv
            clear hvv HVV
            go_wp2
            go_ret
            exact ⟨by rw [← HVV2.out]; rfl, by rw [← HVV2.out]; exact HDK3.out, HO3.out⟩
        · obtain rfl : k = listsN xs.length := by omega
          have hvv := hv.out
          rw [List.drop_of_length_le (by rw [HSL.out]; exact Nat.le_refl _)] at hvv
          unfold secsP andP at hvv
          rw [if_neg (by simp)] at hvv
          rw [← HGG.out] at hvv
          simp only [] at hvv
          have hlen' := write_len' E 0 (headOf xs.length)
          have hcnt := write_count E 0 (headOf xs.length)
          have hokw := Dk.write_ok hE.out 0 (headOf xs.length)
          obtain ⟨v, E', hw⟩ : ∃ v E', E.write 0 (headOf xs.length) = (v, E') := ⟨_, _, rfl⟩
          rw [hw] at hvv hlen' hcnt hokw
          simp only [] at hvv hlen' hcnt hokw
          have HVV := Lib.hid hvv
          have HW := Lib.hid hw
          have HOK := Lib.hid hokw
          have HLN := Lib.hid (hlen'.trans hel.out)
          have hwr8 : E'.writes < 900000000 := by have := hew.out; omega
          have hwr9 : E.writes < 1000000000 := by have := hew.out; omega
          have HWR8 := Lib.hid hwr8
          have HWR9 := Lib.hid hwr9
          have HLG2 := Lib.hid (HLG.out.only hO.out (by simp [hqg, hqs]))
          clear hvv hw hokw hlen' hcnt hwr9 hwr8 hv HGG
          go_wp2_with (at_make; refine wpList_make_new rfl _ _ 43 rfl 5 (.int .u8 0) 1 1 Try.underlying43 infoU8 .i64 .i64 _ _ 256 rfl rfl (by omega) (by omega) (by omega) (by omega) ?_; intro wn hbn _ hon; have HBN := Lib.hid hbn.out; have HON := Lib.hid hon; clear hbn hon; refine (fun (h : Hid _) => h.out) ?_)
          refine Lib.hid ?_
          have hzs : madeCells (Value.cells (.int .u8 0)) (256 * 1) = (bcells (List.replicate 256 0)).toArray := by
            rw [show Value.cells (.int .u8 0) = #[.int .u8 0] from rfl, madeCells_one]
            unfold bcells
            rw [List.map_replicate]
            rfl
          rw [hzs] at HBN
          clear hzs
          obtain ⟨hb, hhb⟩ : ∃ hb, hb = wr.heap.size := ⟨_, rfl⟩
          rw [← hhb] at HBN ⊢
          have HHB := Lib.hid hhb
          clear hhb
          have hcl : ∀ j, j < 256 → wn.cell? ⟨hb, j, none⟩ = some (.int .u8 0) := fun j hj => by
            rw [cell_of_row wn hb j _ _ _ HBN.out, List.getElem?_toArray, bcells_get, List.getElem?_replicate, if_pos hj]
            rfl
          have hc0 := hcl 0 (by omega)
          have hc1 := hcl 1 (by omega)
          have hc2 := hcl 2 (by omega)
          have hz0 := frozen_of_row wn hb 0 _ _ HBN.out
          have hz1 := frozen_of_row wn hb 1 _ _ HBN.out
          have hz2 := frozen_of_row wn hb 2 _ _ HBN.out
          clear hcl
          have hhbz : wr.heap.size ≤ hb := by rw [HHB.out]; exact Nat.le_refl _
          have hbg : hb ≠ g ∧ hb ≠ s ∧ hb ≠ q ∧ hb ≠ nb := by
            have h1 := heap_lt hdk.out.hd
            have h2 := heap_lt hdk.out.sec
            have h3 := heap_lt HLG2.out.hd
            have h4 := heap_lt hN.out
            exact ⟨by omega, by omega, by omega, by omega⟩
          have hq0 : wn.cell? ⟨q, 0, none⟩ = some (.pointer (some ⟨g, 0, none⟩)) := (HLG2.out.only HON.out (by simp)).c0
          have hqh : ¬ q = hb := fun h => hbg.2.2.1 h.symm
          have hqh2 : ¬ hb = q := hbg.2.2.1
          have h5 : Hid ((((wn.setCell ⟨hb, 0, none⟩ (.int .u8 165)).setCell ⟨hb, 1, none⟩ (.int .u8 ((xs.length : Int) / 256 % 256))).setCell ⟨hb, 2, none⟩ (.int .u8 ((xs.length : Int) % 256))).heap[hb]? = some (.cells ((((bcells (List.replicate 256 0)).toArray.setIfInBounds 0 (.int .u8 165)).setIfInBounds 1 (.int .u8 ((xs.length : Int) / 256 % 256))).setIfInBounds 2 (.int .u8 ((xs.length : Int) % 256))) 5 (0, 0))) := heap_setCell_same _ hb 2 _ _ _ (heap_setCell_same _ hb 1 _ _ _ (heap_setCell_same wn hb 0 _ _ _ HBN.out))
          have HB5 := Lib.hid (h5.out.trans (by rw [head_cells xs.length]))
          have ho5 : Only [hb] wn (((wn.setCell ⟨hb, 0, none⟩ (.int .u8 165)).setCell ⟨hb, 1, none⟩ (.int .u8 ((xs.length : Int) / 256 % 256))).setCell ⟨hb, 2, none⟩ (.int .u8 ((xs.length : Int) % 256))) := (((Only.refl [hb] wn).setCell (by simp) _).setCell (by simp) _).setCell (by simp) _
          have HO5 := Lib.hid ((hO.out.trans (HON.out.mono (by simp))).then ho5 (fun i hi => by right; simp at hi; rw [hi]; exact Nat.le_trans hO.out.size hhbz))
          have HDK5 := Lib.hid ((hdk.out.only HON.out (by simp) (by simp)).only ho5 (by simp; exact fun h => hbg.1 h.symm) (by simp; exact fun h => hbg.2.1 h.symm))
          have HB6 := Lib.hid (ownsRow_only (ownsRow_only hB.out HON.out (by simp)) ho5 (fun k' hk' hm => by have := (ownsRow_lt hB.out hk').2; simp at hm; omega))
          clear h5 ho5
          go_wp2_with (go_at_call 25; refine (write_row g s cp r E 0 hb 256 (headOf xs.length) _ _ HDK5.out hE.out HWR9.out HB5.out 256 (headOf_length _)).mono ?_; rw [HW.out]; rintro e wm ⟨rfl, hdm, hom⟩; have HDK6 := Lib.hid hdm; have HO6 := Lib.hid (HO5.out.trans hom); have HB7 := Lib.hid (ownsRow_only HB6.out hom (fun k' hk' hm => by have := (ownsRow_lt hB.out hk').1; have h2 := heap_lt HDK.out.hd; have h3 := heap_lt HDK.out.sec; simp at hm; omega)); clear hdm hom; refine (fun (h : Hid _) => h.out) ?_)
          refine Lib.hid ?_
          by_cases hv0 : v = 0
          · have hvv := HVV.out
            unfold andP at hvv
            rw [if_neg (by simp [hv0])] at hvv
            simp only [] at hvv
            subst hv0
            have HVV2 := Lib.hid hvv
            clear hvv HVV
            have hrow := HB7.out
            rw [show (targetsOf xs).take xs.length = targetsOf xs by rw [← HT9.out, List.take_length]] at hrow
            have hints : IntsAt wm A5 (targetsOf xs) := by
              intro j y hy
              obtain ⟨A', c', h1, _, h3⟩ := ownsRow_slice hrow
              obtain ⟨rfl, _⟩ : A5 = A' ∧ True := by simp at h1; exact ⟨h1.1, trivial⟩
              have hjm : j < xs.length := by have := (List.getElem?_eq_some_iff.1 hy).1; rw [HT9.out] at this; exact this
              obtain ⟨ad, rfl, hcs⟩ := h3 (by omega)
              refine ⟨ad, rfl, hcs j _ ?_⟩
              unfold icells
              rw [List.getElem?_map, hy]
              rfl
            have hblk : ∀ ad, A5 = some ad → ad.block ≠ g ∧ ad.block ≠ s := by
              intro ad hA
              subst hA
              have h1 := (ownsRow_lt hrow rfl).1
              have h2 := heap_lt HDK.out.hd
              have h3 := heap_lt HDK.out.sec
              exact ⟨by omega, by omega⟩
            have hlt : ∀ y ∈ targetsOf xs, y < p := by
              intro y hy
              obtain ⟨x, hx, rfl⟩ := List.mem_map.1 hy
              have := HR.out.1 x hx
              have h1 := this.1
              have h2 := this.2.1
              omega
            have HIN := Lib.hid hints
            have HBL := Lib.hid hblk
            have HLT := Lib.hid hlt
            have HLG6 := Lib.hid (HLG.out.only HO6.out (by simp [hqg, hqs]))
            clear hints hblk hlt hrow hc0 hc1 hc2 hz0 hz1 hz2 hq0
            go_wp2_with (go_at_call 39; refine (apply_n q g s cp nm p r dead E' A5 c5 xs.length (targetsOf xs) wm HT9.out hl HLT.out hp hnm HOK.out HWR8.out (by rw [HLN.out]; exact hroom) HDK6.out HLG6.out hqg hqs HIN.out HBL.out).mono ?_; rw [HVV2.out]; rintro e w9 ⟨rfl, hd9, ho9⟩; have HDK9 := Lib.hid hd9; have HO9 := Lib.hid (HO6.out.trans ho9); clear hd9 ho9)
            go_ret
            exact ⟨rfl, HDK9.out, HO9.out⟩
          · have hvv := HVV.out
            unfold andP at hvv
            rw [if_pos hv0] at hvv
            have HVV2 := Lib.hid hvv
            clear hvv HVV
            go_wp2
            go_ret
            exact ⟨by rw [← HVV2.out]; rfl, by rw [← HVV2.out]; exact HDK6.out, HO6.out⟩
end Go.Proofs.Ytlngfelpmebemaa
