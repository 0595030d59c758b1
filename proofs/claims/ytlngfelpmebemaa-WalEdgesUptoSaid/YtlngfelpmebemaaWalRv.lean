/-
  The log of a disk whose power is out, cut off again and again.
-/
import Derived.Test.YtlngfelpmebemaaWalCo
namespace Go.Proofs.Ytlngfelpmebemaa
open Go Go.RowKit
set_option linter.unusedSimpArgs false
set_option linter.unusedVariables false
/-- Of one kind: both between two groups, or both in the middle of one. -/
def Kin (nm p : Nat) (L L' M : List (List UInt8)) (xs : List Wr) : Prop := (St0 nm p L M ∧ St0 nm p L' M) ∨ (RightP p xs ∧ St1 nm p L M xs ∧ St1 nm p L' M xs)
theorem Kin.lies {nm p : Nat} {L L' M : List (List UInt8)} {xs : List Wr} (h : Kin nm p L L' M xs) : Lies nm p L' M xs := h.imp (fun h => h.2) (fun h => ⟨h.1, h.2.2⟩)
theorem Lies.kin {nm p : Nat} {L M : List (List UInt8)} {xs : List Wr} (h : Lies nm p L M xs) : Kin nm p L L M xs := h.imp (fun h => ⟨h, h⟩) (fun h => ⟨h.1, h.2, h.2⟩)
theorem st_not {nm p : Nat} {L M M' : List (List UInt8)} {xs : List Wr} (h : St0 nm p L M) (h' : St1 nm p L M' xs) : False := by
  have e := h.head.symm.trans h'.head
  have h1 : (sec 0).getD 0 0 = (165 : UInt8) := by rw [e]; rfl
  exact absurd h1 (by decide)
theorem write_ok2 {D : Dk} (h : D.Ok) (i : Int) (b : List UInt8) : (D.write i b).2.Ok := Dk.write_ok h i b
theorem apply_ok2 (nm p : Nat) : ∀ (ts : List Nat) (i : Nat) (D : Dk), D.Ok → (applyP nm p i ts D).2.Ok
  | [], i, D, h => by rw [applyP]; exact Dk.write_ok h _ _
  | t :: ts, i, D, h => by
    rw [applyP]
    split
    · exact h
    split
    · exact Dk.write_ok h _ _
    · exact apply_ok2 nm p ts _ _ (Dk.write_ok h _ _)
theorem open_ok2 {D : Dk} (h : D.Ok) : (openP D).2.Ok := by
  unfold openP
  repeat' split
  all_goals first | exact h | exact apply_ok2 _ _ _ _ _ h
/-- What is there behind it. -/
def Turned (nm p : Nat) (L M M' : List (List UInt8)) (xs : List Wr) : Prop := (M' = M ∧ St0 nm p L M) ∨ (M' = behind M xs ∧ RightP p xs ∧ St1 nm p L M xs)
theorem Kin.turned {nm p : Nat} {L L' M M' : List (List UInt8)} {xs : List Wr} (h : Kin nm p L L' M xs) (ht : Turned nm p L' M M' xs) : Turned nm p L M M' xs := by
  rcases h with ⟨h1, h2⟩ | ⟨h0, h1, h2⟩ <;> rcases ht with ⟨e, h3⟩ | ⟨e, h3, h4⟩
  · exact .inl ⟨e, h1⟩
  · exact (st_not h2 h4).elim
  · exact (st_not h3 h2).elim
  · exact .inr ⟨e, h0, h1⟩
theorem cut_left (D : Dk) (c : Int) : -1 ≤ (D.cut c).left := by simp only [Dk.cut]; split <;> omega
set_option maxHeartbeats 8000000 in
set_option maxRecDepth 100000 in
theorem recovered_any (g s cp nm p n B : Nat) (r : List Value) (D : Dk) (AC : Option Addr) (cc : Nat) (cuts : List Int) (M : List (List UInt8)) (xs : List Wr) (w : World) (geo : Geo nm p n) (hp : roomN n = p) (h1 : 1 ≤ p) (hn : D.L.length = n) (hD : D.Ok)
    (hwr : D.writes ≤ B) (hB : B + (cuts.length + 1) * (p + 1) ≤ 700000000) (hs : Lies nm p D.L M xs) (hcl : cuts.length ≤ 1000000) (hC : ZAt w AC cuts) (hcb : ∀ c ∈ cuts, c ≤ 9223372036854775807) (hCg : 0 < cuts.length → ∀ ad, AC = some ad → ad.block ≠ g ∧ ad.block ≠ s) (hd : IsDk w g s cp r D) :
    Calls Try.prog 21 #[.pointer (some ⟨g, 0, none⟩), .slice AC cuts.length cc] w fun e w' => ∃ q D' M', e = .returned (.pointer (some ⟨q, 0, none⟩)) ∧ IsDk w' g s cp r D' ∧ IsLg w' q g nm p false ∧ w.heap.size ≤ q ∧ D'.Ok ∧ D'.off = false ∧ D'.left = -1 ∧ D'.L.length = n ∧
      St0 nm p D'.L M' ∧ Turned nm p D.L M M' xs ∧ D'.writes ≤ (B + (cuts.length + 1) * (p + 1) : Nat) ∧ Only [g, s] w w' := by
  obtain ⟨K, hK⟩ : ∃ K, K = cuts.length := ⟨_, rfl⟩
  rw [← hK] at hB ⊢
  have HK := Lib.hid hK
  have HGEO := Lib.hid geo
  have HP := Lib.hid hp
  have HC := Lib.hid hC
  have HCB := Lib.hid hcb
  have HCG := Lib.hid hCg
  have HS := Lib.hid hs
  have HLN := Lib.hid geo.lists
  have HKL := Lib.hid (show K ≤ 1000000 by omega)
  have HDK0 := Lib.hid hd
  have HD0 := Lib.hid hD
  have HN0 := Lib.hid hn
  have HW0 := Lib.hid hwr
  have HBB := Lib.hid hB
  clear hK geo hp hC hcb hCg hs hd hD hn hwr hcl hB
  go_enter Try.func21, Try.ntmps21
  go_wp2
  go_loopw [5] (fun i wr => ∃ (k : Nat) (E : Dk), k ≤ K ∧ i = .int .i64 k ∧ Hid (IsDk wr g s cp r E) ∧ Hid (E.Ok) ∧ Hid (E.L.length = n) ∧ Hid (Kin nm p D.L E.L M xs) ∧ Hid (E.writes ≤ (B + k * (p + 1) : Nat)) ∧ Hid (Only [g, s] w wr)) (fun i _ => K - (Go.RowKit.intOf i).toNat)
  case atStart => exact ⟨0, D, by omega, rfl, HDK0, HD0, HN0, Lib.hid HS.out.kin, Lib.hid (by have := HW0.out; omega), Lib.hid (Only.refl _ _)⟩
  case round =>
    obtain ⟨k, E, hk, rfl, HDK, HOK, HLEN, HKIN, HWR, HO⟩ := hrel
    have hkp : (k + 1) * (p + 1) = k * (p + 1) + (p + 1) := Nat.succ_mul ..
    have hkK : k * (p + 1) ≤ K * (p + 1) := Nat.mul_le_mul_right _ hk
    have hKp : (K + 1) * (p + 1) = K * (p + 1) + (p + 1) := Nat.succ_mul ..
    have HNUM := Lib.hid (And.intro hkp (And.intro hkK hKp))
    clear hkp hkK hKp
    by_cases hlt : k < K
    · have hlt' : (k : Int) < K := by omega
      have hk0 : (0 : Int) ≤ k := by omega
      have hkc : k < cuts.length := by rw [← HK.out]; exact hlt
      obtain ⟨ca, rfl, hca⟩ := HC.out k _ (List.getElem?_eq_getElem hkc)
      have HCA := Lib.hid (HO.out.cell hca (by have := HCG.out (by omega) _ rfl; rw [add_block]; simp; omega))
      have hcc := HCB.out _ (List.getElem_mem hkc)
      generalize cuts[k] = c at *
      have HCC := Lib.hid hcc
      have HCN := Lib.hid (show (ca.add k).block ≠ g ∧ (ca.add k).block ≠ s from by rw [add_block]; exact HCG.out (by omega) _ rfl)
      clear hca hkc hcc
      go_wp2_with (go_at_call 20; refine (up_any g s cp r E wr HDK.out).mono ?_; rintro e w1 ⟨rfl, hd, ho⟩; have HD1 := Lib.hid hd; have HO1 := Lib.hid (HO.out.trans (ho.mono (by simp))); have hc1 := ho.cell HCA.out (by have := HCN.out; simp; omega); have HCA1 := Lib.hid hc1; clear hd ho hc1; refine (fun (h : Hid _) => h.out) ?_)
      refine Lib.hid ?_
      have c1 := HCA1.out
      clear HCA1 HCA
      go_wp2_with (go_at_call 16; refine (cut_any g s cp r E.up c w1 HD1.out).mono ?_; rintro e w2 ⟨rfl, hd, ho⟩; have HD2 := Lib.hid hd; have HO2 := Lib.hid (HO1.out.trans (ho.mono (by simp))); clear hd ho; refine (fun (h : Hid _) => h.out) ?_)
      refine Lib.hid ?_
      clear c1 HD1 HO1
      obtain ⟨F, hF⟩ : ∃ F, F = E.up.cut c := ⟨_, rfl⟩
      rw [← hF] at HD2
      have hFo : F.off = false := by rw [hF]; rfl
      have hFL : F.L = E.L := by rw [hF]; rfl
      have hFw : F.writes = E.writes := by rw [hF]; rfl
      have hFk : F.Ok := by rw [hF]; exact Dk.cut_ok (Dk.up_ok HOK.out) c HCC.out
      have hFl : -1 ≤ F.left := by rw [hF]; exact cut_left _ _
      have hsp := open_spec HGEO.out (D := F) (M := M) (xs := xs) (by rw [hFL]; exact HKIN.out.lies) (by rw [hFL]; exact HLEN.out) HP.out h1 hFo hFl
      have HFL := Lib.hid hFL
      have HFW := Lib.hid hFw
      have HFK := Lib.hid hFk
      clear hF hFo hFL hFw hFk hFl
      have HOP := Lib.hid (open_any g s cp r F w2 HFK.out (by have := HWR.out; have := HFW.out; have := HNUM.out; have := HBB.out; omega) HD2.out)
      rcases hsp with ⟨G, M', e1, e2, e3, e4, e5, e6, e7, e8, e9, e10⟩ | ⟨G, e1, e2, e3, e4, e5, e6, e7, e8, e9, e10⟩
      · have HGK := Lib.hid (show G.Ok from by have := open_ok2 HFK.out; rw [e1] at this; exact this)
        rw [e1] at HOP
        have HGS := Lib.hid e2
        have HGL := Lib.hid e3
        have HGO := Lib.hid e4
        have HGW := Lib.hid (show G.writes ≤ (B + (K + 1) * (p + 1) : Nat) from by have := HWR.out; have := HFW.out; have := HNUM.out; omega)
        have HTN := Lib.hid (HKIN.out.turned (show Turned nm p E.L M M' xs from by
          rw [HFL.out] at e7
          exact e7.imp (fun h => ⟨h.1, h.2.2⟩) (fun h => h)))
        have hno := e4
        clear e1 e2 e3 e4 e5 e6 e7 e8 e9 e10
        go_wp2_with (first
          | (go_at_call 23; refine HOP.out.mono ?_; rintro e w3 ⟨v, rfl, _, hv, hd, ho⟩; obtain ⟨q, rfl, hq, hlg⟩ := hv.out rfl; have HQ := Lib.hid hq; have HLG := Lib.hid hlg; have HD3 := Lib.hid hd; have HO3 := Lib.hid (HO2.out.trans ho); clear hv hq hlg hd ho)
          | (go_at_call 32; refine (on_any g s cp r G w3 HD3.out).mono ?_; rw [hno]; rintro e w4 ⟨rfl, rfl⟩; refine (fun (h : Hid _) => h.out) ?_))
        refine Lib.hid ?_
        go_wp2_with (go_at_call 16; refine (cut_any g s cp r G (-1) w3 HD3.out).mono ?_; rintro e w5 ⟨rfl, hd, ho⟩; have HD5 := Lib.hid hd; have HO5 := Lib.hid (HO3.out.trans (ho.mono (by simp))); have HL5 := Lib.hid (HLG.out.only ho (by have := heap_lt HD2.out.hd; have := HQ.out; simp; omega)); clear hd ho)
        go_ret
        have hl5 := HL5.out
        rw [HFL.out, HLEN.out, HP.out, ← HLN.out] at hl5
        refine ⟨q, G.cut (-1), M', rfl, HD5.out, hl5, Nat.le_trans HO2.out.size HQ.out, ?_, HGO.out, by simp [Dk.cut], HGL.out, HGS.out, HTN.out, HGW.out, HO5.out⟩
        exact Dk.cut_ok HGK.out (-1) (by omega)
      · have HGK := Lib.hid (show G.Ok from by have := open_ok2 HFK.out; rw [e1] at this; exact this)
        rw [e1] at HOP
        have HGL := Lib.hid e6
        have HGO := Lib.hid e7
        have HGW := Lib.hid (show G.writes ≤ (B + (k + 1) * (p + 1) : Nat) from by have := HWR.out; have := HFW.out; have := HNUM.out; omega)
        have HKN := Lib.hid (show Kin nm p D.L G.L M xs from by
          rcases HKIN.out with ⟨k1, k2⟩ | ⟨k0, k1, k2⟩
          · rw [HFL.out] at e4
            exact (st_not k2 e4).elim
          · exact .inr ⟨k0, k1, e5⟩)
        have hno := e7
        have hkl : k < 1000000 := by have := HKL.out; omega
        clear e1 e2 e3 e4 e5 e6 e7 e8 e9 e10
        go_wp2_with (first
          | (go_at_call 23; refine HOP.out.mono ?_; rintro e w3 ⟨v, rfl, hv, _, hd, ho⟩; obtain rfl := hv.out (by simp); have HD3 := Lib.hid hd; have HO3 := Lib.hid (HO2.out.trans ho); clear hv hd ho)
          | (go_at_call 32; refine (on_any g s cp r G w3 HD3.out).mono ?_; rw [hno]; rintro e w4 ⟨rfl, rfl⟩))
        go_roundw
        case rel => exact ⟨k + 1, G, by omega, by go_num, HD3, HGK, HGL, HKN, HGW, HO3⟩
        case measure => simp [Go.RowKit.intOf]; omega
    · obtain rfl : k = K := by omega
      go_wp2_with (go_at_call 20; refine (up_any g s cp r E wr HDK.out).mono ?_; rintro e w1 ⟨rfl, hd, ho⟩; have HD1 := Lib.hid hd; have HO1 := Lib.hid (HO.out.trans (ho.mono (by simp))); clear hd ho; refine (fun (h : Hid _) => h.out) ?_)
      refine Lib.hid ?_
      obtain ⟨F, hF⟩ : ∃ F, F = E.up := ⟨_, rfl⟩
      rw [← hF] at HD1
      have hFo : F.off = false := by rw [hF]; rfl
      have hFL : F.L = E.L := by rw [hF]; rfl
      have hFw : F.writes = E.writes := by rw [hF]; rfl
      have hFk : F.Ok := by rw [hF]; exact Dk.up_ok HOK.out
      have hFl : F.left = -1 := by rw [hF]; rfl
      have hsp := open_spec HGEO.out (D := F) (M := M) (xs := xs) (by rw [hFL]; exact HKIN.out.lies) (by rw [hFL]; exact HLEN.out) HP.out h1 hFo (by omega)
      have HFL := Lib.hid hFL
      have HFW := Lib.hid hFw
      have HFK := Lib.hid hFk
      have HFT := Lib.hid hFl
      clear hF hFo hFL hFw hFk hFl
      have HOP := Lib.hid (open_any g s cp r F w1 HFK.out (by have := HWR.out; have := HFW.out; have := HNUM.out; have := HBB.out; omega) HD1.out)
      rcases hsp with ⟨G, M', e1, e2, e3, e4, e5, e6, e7, e8, e9, e10⟩ | ⟨G, e1, e2, e3, e4, e5, e6, e7, e8, e9, e10⟩
      · have HGK := Lib.hid (show G.Ok from by have := open_ok2 HFK.out; rw [e1] at this; exact this)
        rw [e1] at HOP
        have HGS := Lib.hid e2
        have HGL := Lib.hid e3
        have HGO := Lib.hid e4
        have HGT := Lib.hid (e8 HFT.out)
        have HGW := Lib.hid (show G.writes ≤ (B + (k + 1) * (p + 1) : Nat) from by have := HWR.out; have := HFW.out; have := HNUM.out; omega)
        have HTN := Lib.hid (HKIN.out.turned (show Turned nm p E.L M M' xs from by
          rw [HFL.out] at e7
          exact e7.imp (fun h => ⟨h.1, h.2.2⟩) (fun h => h)))
        clear e1 e2 e3 e4 e5 e6 e7 e8 e9 e10
        go_wp2_with (go_at_call 23; refine HOP.out.mono ?_; rintro e w3 ⟨v, rfl, _, hv, hd, ho⟩; obtain ⟨q, rfl, hq, hlg⟩ := hv.out rfl; have HQ := Lib.hid hq; have HLG := Lib.hid hlg; have HD3 := Lib.hid hd; have HO3 := Lib.hid (HO1.out.trans ho); clear hv hq hlg hd ho)
        go_ret
        have hl5 := HLG.out
        rw [HFL.out, HLEN.out, HP.out, ← HLN.out] at hl5
        exact ⟨q, G, M', rfl, HD3.out, hl5, Nat.le_trans HO1.out.size HQ.out, HGK.out, HGO.out, HGT.out, HGL.out, HGS.out, HTN.out, HGW.out, HO3.out⟩
      · exact (e2 HFT.out).elim
end Go.Proofs.Ytlngfelpmebemaa
