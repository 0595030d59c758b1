/-
  The log's Open.
-/
import Derived.Test.YtlngfelpmebemaaWalTg
namespace Go.Proofs.Ytlngfelpmebemaa
open Go Go.RowKit
set_option linter.unusedSimpArgs false
set_option linter.unusedVariables false
/-- How many targets the head says. -/
def headN (D : Dk) : Nat := ((D.L.getD 0 []).getD 1 0).toNat * 256 + ((D.L.getD 0 []).getD 2 0).toNat
def head0 (D : Dk) : Nat := ((D.L.getD 0 []).getD 0 0).toNat
/-- What Open answers, and what becomes of the disk. -/
def openP (D : Dk) : Int × Dk :=
  if roomN D.L.length = 0 then (1, D) else if D.off = true then (6, D) else
  if (head0 D ≠ 165 ∧ head0 D ≠ 0) ∨ roomN D.L.length < headN D then (30, D) else
  if head0 D = 0 then (0, D) else
  if targetsE D (roomN D.L.length) (headN D) ≠ 0 then ((targetsE D (roomN D.L.length) (headN D) : Int), D) else
  applyP (listsN (roomN D.L.length)) (roomN D.L.length) 0 ((List.range (headN D)).map (target D)) D
theorem open_nil (w : World) : Calls Try.prog 23 #[.pointer none] w fun e w' => e = .returned (.tuple #[.pointer none, .int .i64 1]) ∧ Only [] w w' := by
  go_enter Try.func23, Try.ntmps23
  go_wp2
  go_ret2
  exact ⟨rfl, Only.refl _ _⟩
theorem apply_n (q g s cp nm p : Nat) (r : List Value) (dead : Bool) (D : Dk) (A : Option Addr) (ca n : Nat) (xs : List Nat) (w : World) (hln : xs.length = n) (hl : n ≤ p) (hx : ∀ x ∈ xs, x < p) (hp : p ≤ 1000000) (hnm : nm ≤ 1000000)
    (hD : D.Ok) (hwr : D.writes < 900000000) (hroom : 1 + nm + 2 * p ≤ D.L.length) (hd : IsDk w g s cp r D) (hlg : IsLg w q g nm p dead) (hqg : q ≠ g) (hqs : q ≠ s) (hA : IntsAt w A xs)
    (hAg : ∀ ad, A = some ad → ad.block ≠ g ∧ ad.block ≠ s) :
    Calls Try.prog 39 #[.pointer (some ⟨q, 0, none⟩), .slice A n ca] w fun e w' => e = .returned (.int .i64 (applyP nm p 0 xs D).1) ∧ IsDk w' g s cp r (applyP nm p 0 xs D).2 ∧ Only [g, s] w w' := by
  subst hln
  exact apply_any q g s cp nm p r dead D A ca xs w hl hx hp hnm hD hwr hroom hd hlg hqg hqs hA hAg
theorem room_is (S p : Nat) (hp : roomN S = p) (h : S ≤ 1000000) (w : World) : Calls Try.prog 9 #[.int .i64 (S : Int)] w fun e w' => e = .returned (.int .i64 (p : Int)) ∧ w' = w := by
  subst hp
  have := room_any (S : Int) (by omega) (by omega) w
  rw [Int.toNat_natCast] at this
  exact this
set_option maxHeartbeats 8000000 in
set_option maxRecDepth 100000 in
theorem open_any (g s cp : Nat) (r : List Value) (D : Dk) (w : World) (hD : D.Ok) (hwr : D.writes < 900000000) (hd : IsDk w g s cp r D) :
    Calls Try.prog 23 #[.pointer (some ⟨g, 0, none⟩)] w fun e w' => ∃ v, e = .returned (.tuple #[v, .int .i64 (openP D).1]) ∧ Hid ((openP D).1 ≠ 0 → v = .pointer none) ∧
      Hid ((openP D).1 = 0 → ∃ q, v = .pointer (some ⟨q, 0, none⟩) ∧ w.heap.size ≤ q ∧ IsLg w' q g (listsN (roomN D.L.length)) (roomN D.L.length) false) ∧ IsDk w' g s cp r (openP D).2 ∧ Only [g, s] w w' := by
  obtain ⟨p, hp⟩ : ∃ p, p = roomN D.L.length := ⟨_, rfl⟩
  obtain ⟨v9, E9, hV⟩ : ∃ v9 E9, (v9, E9) = openP D := ⟨_, _, rfl⟩
  rw [← hV, ← hp]
  show Calls _ _ _ _ fun e w' => ∃ v, e = .returned (.tuple #[v, .int .i64 v9]) ∧ Hid (v9 ≠ 0 → v = .pointer none) ∧ Hid (v9 = 0 → ∃ q, v = .pointer (some ⟨q, 0, none⟩) ∧ w.heap.size ≤ q ∧ IsLg w' q g (listsN p) p false) ∧ IsDk w' g s cp r E9 ∧ Only [g, s] w w'
  unfold openP at hV
  rw [← hp] at hV
  have HV := Lib.hid hV
  have HP := Lib.hid hp.symm
  have HDK := Lib.hid hd
  have HDO := Lib.hid hD
  have hlen := hD.len
  clear hV hp hd hD
  go_enter Try.func23, Try.ntmps23
  by_cases hp0 : p = 0
  · have hv := HV.out
    rw [if_pos hp0] at hv
    obtain ⟨hv1, hv2⟩ := Prod.mk.inj hv
    have HV1 := Lib.hid hv1
    have HV2 := Lib.hid hv2
    have hp0' : ((p : Int) == 0) = true := by rw [hp0]; rfl
    clear hv hv1 hv2 HV hp0
    go_wp2_with (first
      | (go_at_call 37; refine (sectors_any g s cp r D _ HDK.out).mono ?_; rintro e w1 ⟨rfl, rfl⟩)
      | (go_at_call 9; refine (room_is D.L.length p HP.out (by omega) _).mono ?_; rintro e w1 ⟨rfl, rfl⟩))
    go_ret2
    exact ⟨_, by rw [HV1.out]; rfl, Lib.hid (fun _ => rfl), Lib.hid (fun h => by rw [HV1.out] at h; cases h), by rw [HV2.out]; exact HDK.out, Only.refl _ _⟩
  · have hS4 : 4 ≤ D.L.length := by
      rcases Nat.lt_or_ge D.L.length 4 with h | h
      · exact absurd (HP.out.symm.trans (room_zero h)) hp0
      · exact h
    have hfit := (room_fits hS4).1
    rw [HP.out] at hfit
    have hp9 : p ≤ 2048 := by unfold fits at hfit; omega
    have hroom : 1 + listsN p + 2 * p ≤ D.L.length := hfit
    have HROOM := Lib.hid hroom
    have hnm : listsN p ≤ 2048 := by unfold listsN; omega
    clear hfit hroom
    have hp0' : ((p : Int) == 0) = false := by rw [beq_eq_false_iff_ne]; omega
    have hv := HV.out
    rw [if_neg hp0] at hv
    generalize hnmq : listsN p = nm at *
    have HNM := Lib.hid hnmq
    clear hnmq HV hp0
    by_cases hoff : D.off = true
    · rw [if_pos hoff] at hv
      obtain ⟨hv1, hv2⟩ := Prod.mk.inj hv
      have HV1 := Lib.hid hv1
      have HV2 := Lib.hid hv2
      clear hv hv1 hv2
      go_wp2_with (first
        | (go_at_call 37; refine (sectors_any g s cp r D _ HDK.out).mono ?_; rintro e w1 ⟨rfl, rfl⟩)
        | (go_at_call 9; refine (room_is D.L.length p HP.out (by omega) _).mono ?_; rintro e w1 ⟨rfl, rfl⟩)
        | (go_at_call 30; refine (lists_is p nm (by omega) HNM.out _).mono ?_; rintro e w1 ⟨rfl, rfl⟩)
        | (go_at_call 35; refine (read_no g s cp r D 0 _ (HDK.out.only ((Only.refl [] _).alloc _) (by simp) (by simp)) 6 (by omega) (by unfold Dk.wrong; rw [if_pos hoff])).mono ?_; rintro e w2 ⟨rfl, rfl⟩))
      go_ret2
      exact ⟨_, by rw [HV1.out]; rfl, Lib.hid (fun _ => rfl), Lib.hid (fun h => by rw [HV1.out] at h; cases h), by rw [HV2.out]; exact HDK.out.only ((Only.refl [] _).alloc _) (by simp) (by simp), (Only.refl _ _).alloc _⟩
    · rw [if_neg hoff] at hv
      have hoff' : D.off = false := by simpa using hoff
      have hL0 : 0 < D.L.length := by omega
      have hbq : D.L[0]? = some (D.L.getD 0 []) := by rw [List.getD_eq_getElem?_getD, List.getElem?_eq_getElem hL0]; rfl
      have hb256 := HDO.out.secs _ (List.mem_of_getElem? hbq)
      unfold head0 at hv
      have hhn : headN D = ((D.L.getD 0 []).getD 1 0).toNat * 256 + ((D.L.getD 0 []).getD 2 0).toNat := rfl
      generalize headN D = hn at *
      generalize D.L.getD 0 [] = b at *
      have hcell : ∀ pb w2, w2.heap[pb]? = some (.cells (bcells b).toArray 75 (0, 0)) → ∀ j, j < 256 → ∀ w', Only [] w2 w' → w'.cell? ⟨pb, j, none⟩ = some (.int .u8 ((b.getD j 0).toNat : Int)) := fun pb w2 hpb j hj w' h => by
        refine (cell_of_row w' pb j _ _ _ (h.heap hpb (by simp))).trans ?_
        rw [List.getElem?_toArray, bcells_get, List.getD_eq_getElem?_getD, List.getElem?_eq_getElem (by omega)]
        rfl
      have HCELL := Lib.hid hcell
      have HBQ := Lib.hid hbq
      have HHN := Lib.hid hhn
      have HVV := Lib.hid hv
      clear hcell hbq hhn hv hoff
      go_wp2_with (first
        | (go_at_call 37; refine (sectors_any g s cp r D _ HDK.out).mono ?_; rintro e w1 ⟨rfl, rfl⟩)
        | (go_at_call 9; refine (room_is D.L.length p HP.out (by omega) _).mono ?_; rintro e w1 ⟨rfl, rfl⟩)
        | (go_at_call 30; refine (lists_is p nm (by omega) HNM.out _).mono ?_; rintro e w1 ⟨rfl, rfl⟩)
        | (go_at_call 35; refine (read_is g s cp r D 0 0 b _ (HDK.out.only ((Only.refl [] _).alloc _) (by simp) (by simp)) HDO.out hoff' rfl HBQ.out).mono ?_; rintro e w2 ⟨pb, rfl, hpb, hpz, ho2⟩; have HPB := Lib.hid hpb; have HO2 := Lib.hid ho2; clear hpb ho2))
      have HO2' := Lib.hid (((Only.refl [] w1).alloc (.cells #[.pointer (some ⟨g, 0, none⟩), .int .i64 (nm : Int), .int .i64 (p : Int), .bool false] 68)).trans HO2.out)
      have HLG := Lib.hid (show IsLg w2 w1.heap.size g nm p false from ⟨HO2.out.heap (heap_alloc_new w1 _) (by simp)⟩)
      have hc0 := HCELL.out pb w2 HPB.out 0 (by omega)
      have hc1 := HCELL.out pb w2 HPB.out 1 (by omega)
      have hc2 := HCELL.out pb w2 HPB.out 2 (by omega)
      have hh1 := UInt8.toNat_lt (b.getD 1 0)
      have hh2 := UInt8.toNat_lt (b.getD 2 0)
      have hv := HVV.out
      have hhn := HHN.out
      generalize (b.getD 0 0).toNat = h0 at *
      generalize (b.getD 1 0).toNat = h1 at *
      generalize (b.getD 2 0).toNat = h2 at *
      have HVV := Lib.hid hv
      have HHN := Lib.hid hhn
      have hm3 : IntKind.i64.wrap (h1 : Int) = h1 := IntWalk.i64_in _ (by omega)
      have hm4 : IntKind.i64.wrap (h2 : Int) = h2 := IntWalk.i64_in _ (by omega)
      have hhb : hn ≤ 65535 := by omega
      clear hv hhn HCELL HO2
      refine L.grow_start [] 11 ((0, true, false) :: (1, true, false) :: (2, true, false) :: (3, true, false) :: (4, true, false) :: (5, true, true) :: (6, true, true) :: (7, true, true) :: (8, true, true) :: (9, true, true) :: (10, true, true) :: []) (by kernel_rfl) (([], [6], some 35) :: ([0], [35], some 36) :: ([1], [36], some 37) :: ([2], [37], some 38) :: ([3], [38], some 39) :: ([], [6], some 40) :: ([5], [40], some 41) :: ([6], [41], some 42) :: ([7], [42], some 43) :: ([4, 8], [39, 43], some 44) :: ([9, 0, 1, 2, 3, 4, 5, 6, 7, 8, 9], [44], some 8) :: []) (by kernel_rfl) (by kernel_rfl) (n := 11) rfl (by kernel_rfl) (fun _ _ _ _ _ h => h) (fun wg hog => ?_)
      refine L.growe_start (N := 80) (by rfl) ?_
      have e1 : ∀ w', Only [] wg w' → w'.cell? ⟨pb, 1, none⟩ = some (.int .u8 (h1 : Int)) := fun w' h => hc1 w' (hog.trans h)
      have e2 : ∀ w', Only [] wg w' → w'.cell? ⟨pb, 2, none⟩ = some (.int .u8 (h2 : Int)) := fun w' h => hc2 w' (hog.trans h)
      have hor := or_bytes h1 h2 (by omega) (by omega)
      have hcg := hc0 wg hog
      have HO3 := Lib.hid (HO2'.out.trans hog)
      have HLG3 := Lib.hid (HLG.out.only hog (by simp))
      have HDK3 := Lib.hid (HDK.out.only HO3.out (by simp) (by simp))
      clear hog hc0 hc1 hc2 HO2' HLG
      iterate 11 (first | (refine L.ge_off rfl rfl rfl (by rfl) ?_) | (refine L.ge_move rfl rfl rfl (by rfl) rfl (by simp [L.evE, L.lk, Act.eval]; rfl) ?_) | (refine L.ge_pick rfl rfl rfl (by rfl) rfl (by simp [L.evE, L.lk, Act.eval]; rfl) (by simp [L.evE, L.lk, Act.eval]; rfl) ?_) | (refine L.ge_val rfl rfl rfl (by rfl) (by intro w' hw'; simp [execOp, L.evE, L.lk, Act.eval]; go_simp; rfl) ?_))
      refine L.ge_done ?_
      simp only [L.puts, Act.put, goInt, List.setIfInBounds_toArray, List.set_cons_zero, List.set_cons_succ]
      rw [show (h1 : Int) * 256 + h2 = (hn : Int) by rw [HHN.out]; omega]
      clear e1 e2 hor hm3 hm4 HHN hh1 hh2
      by_cases ha : h0 = 165
      · by_cases hb : p < hn
        · have hb' : (p : Int) < hn := by omega
          have hv := HVV.out
          rw [if_pos (.inr hb)] at hv
          obtain ⟨hv1, hv2⟩ := Prod.mk.inj hv
          have HV1 := Lib.hid hv1
          have HV2 := Lib.hid hv2
          subst ha
          clear hv hv1 hv2 hb HVV
          go_wp2
          go_ret2
          exact ⟨_, by rw [HV1.out]; rfl, Lib.hid (fun _ => rfl), Lib.hid (fun h => by rw [HV1.out] at h; cases h), by rw [HV2.out]; exact HDK3.out, HO3.out.mono (by simp)⟩
        · have hb' : (hn : Int) ≤ p := by omega
          have hv := HVV.out
          rw [if_neg (by omega), if_neg (by omega)] at hv
          subst ha
          have HVW := Lib.hid hv
          clear hv HVV
          go_wp2_with (go_at_call 38; refine (targets_any w1.heap.size g s cp nm p r false D hn wg (by omega) (by omega) (by rw [← HNM.out]; unfold listsN; omega) HDO.out hoff' HROOM.out HDK3.out HLG3.out).mono ?_; rintro e w4 ⟨A, m, c, E, rfl, hE, hrow, ho4⟩; have HE := Lib.hid hE.out; have HROW := Lib.hid hrow.out; have HO4 := Lib.hid ho4; clear hE hrow ho4; refine (fun (h : Hid _) => h.out) ?_)
          refine Lib.hid ?_
          have HO5 := Lib.hid (HO3.out.trans HO4.out)
          have HLG5 := Lib.hid (HLG3.out.only HO4.out (by simp))
          have HDK5 := Lib.hid (HDK3.out.only HO4.out (by simp) (by simp))
          have hv := HVW.out
          rw [← HE.out] at hv
          by_cases hE0 : E = 0
          · rw [if_neg (by omega)] at hv
            obtain ⟨rfl, hown⟩ := HROW.out hE0
            have hlt : ∀ x ∈ (List.range m).map (target D), x < p := by
              intro x hx
              obtain ⟨j, hj, rfl⟩ := List.mem_map.1 hx
              have hj := List.mem_range.1 hj
              have h9 := HE.out
              rw [hE0] at h9
              unfold targetsE at h9
              rw [if_neg (by omega), if_neg (by rw [hoff']; simp)] at h9
              split at h9
              · omega
              · rename_i h10
                exact Nat.lt_of_not_le (fun h11 => h10 ⟨j, hj, h11⟩)
            have hints : IntsAt w4 A ((List.range m).map (target D)) := by
              intro j x hx
              obtain ⟨A', c', h1, _, h3⟩ := ownsRow_slice hown
              obtain ⟨rfl, _⟩ : A = A' ∧ True := by simp at h1; exact ⟨h1.1, trivial⟩
              have hjm : j < m := by have := (List.getElem?_eq_some_iff.1 hx).1; simpa using this
              obtain ⟨ad, rfl, hcs⟩ := h3 (by omega)
              refine ⟨ad, rfl, hcs j _ ?_⟩
              unfold icells
              rw [List.getElem?_map, hx]
              rfl
            have hblk : ∀ ad, A = some ad → ad.block ≠ g ∧ ad.block ≠ s := by
              intro ad hA
              subst hA
              have h1 := (ownsRow_lt hown rfl).1
              have h2 := heap_lt HDK3.out.hd
              have h3 := heap_lt HDK3.out.sec
              exact ⟨by omega, by omega⟩
            have HLT := Lib.hid hlt
            have HIN := Lib.hid hints
            have HBL := Lib.hid hblk
            have HLE := Lib.hid (show ((List.range m).map (target D)).length = m by simp)
            have HVX := Lib.hid hv
            have hzg : w1.heap.size ≠ g ∧ w1.heap.size ≠ s := by
              have h2 := heap_lt HDK.out.hd
              have h3 := heap_lt HDK.out.sec
              exact ⟨by omega, by omega⟩
            have HZG := Lib.hid hzg
            clear hown hlt hints hblk hv hzg
            subst hE0
            go_wp2_with (go_at_call 39; refine (apply_n w1.heap.size g s cp nm p r false D A c m ((List.range m).map (target D)) w4 HLE.out (by omega) HLT.out (by omega) (by omega) HDO.out hwr HROOM.out HDK5.out HLG5.out HZG.out.1 HZG.out.2 HIN.out HBL.out).mono ?_; rw [← HVX.out]; rintro e w6 ⟨rfl, hd6, ho6⟩; have HDK6 := Lib.hid hd6; have HO6 := Lib.hid ((HO5.out.mono (T := [g, s]) (by simp)).trans ho6); have HLG6 := Lib.hid (HLG5.out.only ho6 (by simp; exact HZG.out)); clear hd6 ho6; refine (fun (h : Hid _) => h.out) ?_)
            refine Lib.hid ?_
            by_cases h0 : v9 = 0
            · have HV0 := Lib.hid h0
              clear HVX
              rw [h0]
              clear h0
              go_wp2
              go_ret2
              exact ⟨_, by rw [HV0.out]; rfl, Lib.hid (fun h => absurd HV0.out h), Lib.hid (fun _ => ⟨_, rfl, Nat.le_refl _, HLG6.out⟩), HDK6.out, HO6.out⟩
            · clear HVX
              go_wp2
              go_ret2
              exact ⟨_, rfl, Lib.hid (fun _ => rfl), Lib.hid (fun h => absurd h h0), HDK6.out, HO6.out⟩
          · rw [if_pos (by omega)] at hv
            obtain ⟨hv1, hv2⟩ := Prod.mk.inj hv
            have HV1 := Lib.hid hv1
            have HV2 := Lib.hid hv2
            have hE0' : ¬ ((E : Int) = 0) := by omega
            clear hv hv1 hv2 HVW
            go_wp2
            go_ret2
            exact ⟨_, by rw [HV1.out]; rfl, Lib.hid (fun _ => rfl), Lib.hid (fun h => by rw [HV1.out] at h; omega), by rw [HV2.out]; exact HDK5.out, HO5.out.mono (by simp)⟩
      · by_cases hb : h0 = 0
        · by_cases hc : p < hn
          · have hc' : (p : Int) < hn := by omega
            have hv := HVV.out
            rw [if_pos (.inr hc)] at hv
            obtain ⟨hv1, hv2⟩ := Prod.mk.inj hv
            have HV1 := Lib.hid hv1
            have HV2 := Lib.hid hv2
            subst hb
            clear hv hv1 hv2 hc ha HVV
            go_wp2
            go_ret2
            exact ⟨_, by rw [HV1.out]; rfl, Lib.hid (fun _ => rfl), Lib.hid (fun h => by rw [HV1.out] at h; cases h), by rw [HV2.out]; exact HDK3.out, HO3.out.mono (by simp)⟩
          · have hc' : (hn : Int) ≤ p := by omega
            have hv := HVV.out
            rw [if_neg (by omega), if_pos hb] at hv
            obtain ⟨hv1, hv2⟩ := Prod.mk.inj hv
            have HV1 := Lib.hid hv1
            have HV2 := Lib.hid hv2
            subst hb
            clear hv hv1 hv2 hc ha HVV
            go_wp2
            go_ret2
            exact ⟨_, by rw [HV1.out]; rfl, Lib.hid (fun h => absurd HV1.out h), Lib.hid (fun _ => ⟨_, rfl, Nat.le_refl _, HLG3.out⟩), by rw [HV2.out]; exact HDK3.out, HO3.out.mono (by simp)⟩
        · have hv := HVV.out
          rw [if_pos (.inl ⟨ha, hb⟩)] at hv
          obtain ⟨hv1, hv2⟩ := Prod.mk.inj hv
          have HV1 := Lib.hid hv1
          have HV2 := Lib.hid hv2
          clear hv hv1 hv2 HVV
          go_wp2
          go_ret2
          exact ⟨_, by rw [HV1.out]; rfl, Lib.hid (fun _ => rfl), Lib.hid (fun h => by rw [HV1.out] at h; cases h), by rw [HV2.out]; exact HDK3.out, HO3.out.mono (by simp)⟩
end Go.Proofs.Ytlngfelpmebemaa
