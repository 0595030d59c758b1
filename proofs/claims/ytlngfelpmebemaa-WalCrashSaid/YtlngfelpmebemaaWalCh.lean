/-
  WalCrash over what came in.
-/
import Derived.Test.YtlngfelpmebemaaWalSm
namespace Go.Proofs.Ytlngfelpmebemaa
open Go Go.RowKit
set_option linter.unusedSimpArgs false
set_option linter.unusedVariables false
theorem geo80 : Geo 1 39 80 := ⟨by decide, by omega, by omega⟩
theorem room80 : roomN 80 = 39 := by decide +kernel
theorem lists39 : listsN 39 = 1 := by decide
/-- Apart from one another. -/
structure Sep (b g s q m a : Nat) : Prop where
  gq : q ≠ g
  sq : q ≠ s
  mg : m ≠ g ∧ m ≠ s ∧ m ≠ q
  ag : a ≠ g ∧ a ≠ s ∧ a ≠ q
  lo : b ≤ g ∧ b ≤ s ∧ b ≤ q ∧ b ≤ m ∧ b ≤ a
theorem most45 {n : Nat} (h : n ≤ 45) : mostN n ≤ 200 := by unfold mostN listsN; split <;> omega
theorem cut_same (D : Dk) (c : Int) : (D.cut c).L = D.L ∧ (D.cut c).off = D.off ∧ (D.cut c).writes = D.writes := ⟨rfl, rfl, rfl⟩
theorem cut_none (D : Dk) : (D.cut (-1)).left = -1 := by simp [Dk.cut]
set_option maxHeartbeats 8000000 in
set_option maxRecDepth 100000 in
theorem walCrash_walk (A0 : Option Addr) (cap0 : Nat) (y0 : List GroupR) (A1 : Option Addr) (cap1 : Nat) (y1 : List Int) (A2 : Option Addr) (cap2 : Nat) (y2 : List Int) (w : World) (hl0 : y0.length ≤ cap0) (hb0 : cap0 * 56 ≤ 140737488351232) (hr0 : rdRow 3 rGroup w A0 y0)
    (hl1 : y1.length ≤ cap1) (hb1 : cap1 * 8 ≤ 140737488351232) (hr1 : rdRow 1 (rdInt .i64) w A1 y1) (hl2 : y2.length ≤ cap2) (hb2 : cap2 * 8 ≤ 140737488351232) (hr2 : rdRow 1 (rdInt .i64) w A2 y2) :
    Calls Try.prog 4 #[.slice A0 y0.length cap0, .slice A1 y1.length cap1, .slice A2 y2.length cap2] w fun e w' => e = .returned (.bool true) ∧ Only [] w w' := by
  obtain ⟨Gs, hgl, hgs⟩ := groups_in hr0
  obtain ⟨hz1, hzb1⟩ := ints_in hr1
  obtain ⟨hz, hzb⟩ := ints_in hr2
  rw [← hgl] at hl0 ⊢
  have HGS := Lib.hid (show GpsIn w A0 Gs from hgs)
  have HZ1 := Lib.hid hz1
  have HZB1 := Lib.hid hzb1
  have HZ := Lib.hid hz
  have HZB := Lib.hid hzb
  have hgl9 : Gs.length ≤ 140737488351232 := by omega
  obtain ⟨sm, hsm⟩ : ∃ sm, sm = smallG Gs 8 := ⟨_, rfl⟩
  have HSM := Lib.hid hsm
  have HSA := Lib.hid (fun (W : World) (hW : Only [] w W) => small_any A0 cap0 Gs 8 W (by omega) hgl9 (fun i G hG => by
    obtain ⟨ad, cs, h1, h2, h3⟩ := hgs i G hG
    obtain ⟨AA, ca, AO, co, e, k1, k2, k3⟩ := h3
    exact ⟨ad, cs, h1, h2.only hW (by simp), AA, ca, AO, co, e, k1.only hW, (fun j x hx => by
      obtain ⟨ad2, Bb, cap, q1, q2, q3, q4⟩ := k2 j x hx
      refine ⟨ad2, Bb, cap, q1, q2.only hW (by simp), q3, fun h => ?_⟩
      obtain ⟨bd, r1, r2, r3⟩ := q4 h
      exact ⟨bd, r1, Nat.lt_of_lt_of_le r2 hW.size, r3.only hW (by simp)⟩), k3⟩))
  rw [← hsm] at HSA
  have hu := Try.underlying37
  clear hgl hgs hz hzb hz1 hzb1 hr0 hr1 hr2 hsm
  go_enter Try.func4, Try.ntmps4
  go_wp2_with (go_at_call 8; refine (awake_any w).mono ?_; rintro e w1 ⟨rfl, ho⟩; have HO1 := Lib.hid ho; clear ho; refine (fun (h : Hid _) => h.out) ?_)
  refine Lib.hid ?_
  go_wp2_with (go_at_call 11; refine (HSA.out _ HO1.out).mono ?_; rintro e w2 ⟨rfl, ho⟩; have HO2 := Lib.hid (HO1.out.trans ho); clear ho; refine (fun (h : Hid _) => h.out) ?_)
  refine Lib.hid ?_
  clear HO1 HSA
  go_wp2_with (go_at_call 12; refine (opened_yes 80 (by omega) (by omega) w2).mono ?_; rw [room80, lists39]; rintro e w3 ⟨g, s, q, rfl, hd, hlg, hg, hs, hq, hqg, hqs, ho⟩; have HD := Lib.hid hd; have HLG := Lib.hid hlg; have HGE := Lib.hid (show w.heap.size ≤ g ∧ w.heap.size ≤ s ∧ w.heap.size ≤ q from by have := HO2.out.size; omega); have HNE := Lib.hid (And.intro hqg hqs); have HO3 := Lib.hid (HO2.out.trans ho); clear hd hlg hg hs hq hqg hqs ho; refine (fun (h : Hid _) => h.out) ?_)
  refine Lib.hid ?_
  clear HO2
  cases sm with
  | false =>
    go_wp2
    go_ret
    exact ⟨rfl, HO3.out⟩
  | true =>
  have HFAIR := Lib.hid (smallG_ok HSM.out.symm)
  by_cases h6 : 10 < y2.length
  · have h6' : (10 : Int) < y2.length := by omega
    go_wp2
    go_ret
    exact ⟨rfl, HO3.out⟩
  have h6' : (y2.length : Int) ≤ 10 := by omega
  go_wp2_with (go_at_call 13; refine (rnew_any 80 39 room80 (by omega) (by omega) w3).mono ?_; rintro e w4 ⟨m0, a0, c0, r0, rfl, hm, hm0, ha0, ho⟩; have HM4 := Lib.hid hm; have HD4 := Lib.hid (HD.out.only ho (by simp) (by simp)); have HL4 := Lib.hid (HLG.out.only ho (by simp)); have HSEP := Lib.hid (show Sep w.heap.size g s q m0 a0 from by have h1 := heap_lt HD.out.hd; have h2 := heap_lt HD.out.sec; have h3 := heap_lt HLG.out.hd; have h4 := HNE.out; have h5 := HGE.out; exact ⟨h4.1, h4.2, by omega, by omega, by omega⟩); have HO4 := Lib.hid (HO3.out.trans ho); clear hm hm0 ha0 ho; refine (fun (h : Hid _) => h.out) ?_)
  refine Lib.hid ?_
  clear HD HLG HO3
  have HNW := Lib.hid (new_st0 80 1 39 (by omega) (by omega))
  have HNK := Lib.hid (Dk.new_ok 80 (by omega))
  have hgl6 : Gs.length ≤ 8 := HFAIR.out.1
  go_wp2
  go_loopw [10, 12, 13] (fun x m i wr => ∃ (k q mb ma mc : Nat) (mr : List Value) (D : Dk) (M : List (List UInt8)), k ≤ Gs.length ∧ x = .pointer (some ⟨q, 0, none⟩) ∧ m = .pointer (some ⟨mb, 0, none⟩) ∧ i = .int .i64 k ∧ Hid (IsDk wr g s 80 [] D) ∧ Hid (IsLg wr q g 1 39 false) ∧ Hid (IsMd wr mb ma mc mr M) ∧
    Hid D.Ok ∧ Hid (D.L.length = 80) ∧ Hid (D.off = false) ∧ Hid (D.left = -1) ∧ Hid (St0 1 39 D.L M) ∧ Hid (D.writes ≤ (k * 2000 : Nat)) ∧ Hid (Sep w.heap.size g s q mb ma) ∧ Hid (Only [] w wr)) (fun _ _ i _ => Gs.length - (Go.RowKit.intOf i).toNat)
  case atStart => exact ⟨0, q, m0, a0, c0, r0, Dk.new 80, _, by omega, rfl, rfl, rfl, HD4, HL4, HM4, HNK, Lib.hid (new_len 80), Lib.hid rfl, Lib.hid rfl, HNW, Lib.hid (by simp [Dk.new]), HSEP, HO4⟩
  clear HD4 HL4 HM4 HSEP HO4 HNW HNK HNE HGE
  case round =>
    obtain ⟨k, q, mb, ma, mc, mr, D, M, hk, rfl, rfl, rfl, HD, HLG, HMD, HOK, HLN, HOFF, HLEFT, HST, HWR, HSEP, HO⟩ := hrel
    by_cases hlt : k < Gs.length
    · have hlt' : (k : Int) < Gs.length := by omega
      have hk0 : (0 : Int) ≤ k := by omega
      have hk8 : k < 8 := by omega
      obtain ⟨ad, cs, hA0, hcs, hgp⟩ := HGS.out k _ (List.getElem?_eq_getElem hlt)
      have hfair := HFAIR.out.2 k _ (List.getElem?_eq_getElem hlt)
      generalize Gs[k] = G at *
      have HHI := Lib.hid (Gp.made_hi hgp)
      obtain ⟨AA, ca, AO, co, rfl, hza, hwo, _⟩ := hgp
      have HZA := Lib.hid (hza.only HO.out)
      have HWO := Lib.hid (hwo.only HO.out)
      have HCS := Lib.hid (hcs.only HO.out (by simp))
      have HML := Lib.hid (show G.made.length ≤ 45 from by rw [G.made_length]; omega)
      have HFR := Lib.hid hfair
      subst hA0
      have c0 : wr.cell? (ad.add (k * 3)) = some (.slice AA G.at_.length ca) := cellsAt_head HCS.out rfl
      have c1 : wr.cell? ⟨(ad.add (k * 3)).block, (ad.add (k * 3)).off + 1, none⟩ = some (.int .u8 G.x) := cellsAt_field HCS.out 1 (by omega) rfl
      have c2 : wr.cell? ⟨(ad.add (k * 3)).block, (ad.add (k * 3)).off + 2, none⟩ = some (.slice AO G.odd.length co) := cellsAt_field HCS.out 2 (by omega) rfl
      clear hza hwo hcs hfair
      go_wp2_with (go_at_call 14; refine (made_any AA ca G.at_ G.x AO co G.odd w.heap.size wr (by have := HFR.out; omega) (by have := HFR.out; omega) HZA.out HWO.out HO.out.size).mono ?_; rintro e w5 ⟨A5, c5, rfl, hm, ho⟩; have HM := hm; have HO5 := Lib.hid ho; clear hm ho; refine (fun (h : Hid _) => h.out) ?_)
      refine Lib.hid ?_
      have hlo := HSEP.out.lo
      have hb1 := heap_lt HD.out.hd
      have hb2 := heap_lt HD.out.sec
      have hb3 := heap_lt HLG.out.hd
      have HF := Lib.hid (show WritesF [q, g, s] w5 A5 G.made from HM.out.toF [q, g, s] (by intro k hk; simp at hk; omega))
      have HF2 := Lib.hid (show WritesF [g, s] w5 A5 G.made from HM.out.toF [g, s] (by intro k hk; simp at hk; omega))
      have HD5 := Lib.hid (HD.out.only HO5.out (by simp) (by simp))
      have HL5 := Lib.hid (HLG.out.only HO5.out (by simp))
      have HMD5 := Lib.hid (HMD.out.only HO5.out (by simp) (by simp))
      have HO6 := Lib.hid (HO.out.trans HO5.out)
      have HMI := Lib.hid (show ∀ x ∈ G.made, x.1 ≤ 9223372036854775807 from HHI.out)
      have hmade : madeP G.x G.at_ G.odd = G.made := rfl
      rw [hmade]
      clear hlo hb1 hb2 hb3 c0 c1 c2 HM HCS HZA HWO HHI HD HLG HMD HO HO5 hmade
      generalize G.made = xs at *
      obtain ⟨may, hmay⟩ : ∃ may, may = decide (RightP 39 xs) := ⟨_, rfl⟩
      have HMAY := Lib.hid hmay
      have HRR := Lib.hid (rright_any 39 mb ma mc mr M A5 c5 xs w5 (by omega) (by have := HML.out; omega) HST.out.len HMD5.out HF.out.plain)
      rw [← hmay] at HRR
      clear hmay
      have hxl9 : xs.length ≤ 45 := HML.out
      go_wp2_with (go_at_call 15; refine HRR.out.mono ?_; rintro e w6 ⟨rfl, ho⟩; have HD6 := Lib.hid (HD5.out.only ho (by simp) (by simp)); have HL6 := Lib.hid (HL5.out.only ho (by simp)); have HMD6 := Lib.hid (HMD5.out.only ho (by simp) (by simp)); have HF6 := Lib.hid (HF.out.only (ho.mono (by simp))); have HF26 := Lib.hid (HF2.out.only (ho.mono (by simp))); have HO7 := Lib.hid (HO6.out.trans ho); clear ho; refine (fun (h : Hid _) => h.out) ?_)
      refine Lib.hid ?_
      clear HD5 HL5 HMD5 HF HF2 HO6 HRR
      by_cases hcut : k < y1.length
      · as_aux_lemma =>
        have hcut' : (k : Int) < y1.length := by omega
        obtain ⟨aa, hA1, hca⟩ := HZ1.out k _ (List.getElem?_eq_getElem hcut)
        have hcb := HZB1.out _ (List.getElem_mem hcut)
        have hca6 := HO7.out.cell hca (by simp)
        generalize y1[k] = c at *
        have HCB := Lib.hid hcb
        subst hA1
        clear hca hcb
        go_wp2_with (go_at_call 16; refine (cut_any g s 80 [] D c w6 HD6.out).mono ?_; rintro e w7 ⟨rfl, hd, ho⟩; have HD7 := Lib.hid hd; have HL7 := Lib.hid (HL6.out.only ho (by have := HSEP.out.gq; simp; omega)); have HMD7 := Lib.hid (HMD6.out.only ho (by have := HSEP.out.mg; simp; omega) (by have := HSEP.out.ag; simp; omega)); have HF7 := Lib.hid (HF6.out.only (ho.mono (by simp))); have HF27 := Lib.hid (HF26.out.only (ho.mono (by simp))); have HO8 := Lib.hid (HO7.out.then ho (by intro i hi; right; simp at hi; have := HSEP.out.lo; omega)); clear hd ho; refine (fun (h : Hid _) => h.out) ?_)
        refine Lib.hid ?_
        have HE := Lib.hid (Dk.cut_ok HOK.out c HCB.out)
        have HEL := Lib.hid (show (D.cut c).L = D.L from rfl)
        have HEO := Lib.hid (show (D.cut c).off = false from HOFF.out)
        have HEW := Lib.hid (show (D.cut c).writes = D.writes from rfl)
        generalize D.cut c = E at *
        clear hca6 HD6 HL6 HMD6 HF6 HF26 HO7 HCB
        have hnum : E.writes ≤ (k * 2000 : Nat) := by have := HEW.out; have := HWR.out; omega
        have HNUM := Lib.hid hnum
        clear hnum
        have HCM := Lib.hid (commit_any q g s 80 1 39 [] false E A5 c5 xs w7 (by omega) HMI.out (by omega) (by omega) (by intro n hn; unfold listsN; omega) HE.out (by have := HNUM.out; omega) (by rw [HEL.out, HLN.out]; omega) HD7.out HL7.out HSEP.out.gq HSEP.out.sq HF27.out (fun h => right_length h))
        have HMOST := Lib.hid (most45 hxl9)
        rcases commit_on geo80 (xs := xs) (D := E) (M := M) (by rw [HEL.out]; exact HST.out) (by rw [HEL.out]; exact HLN.out) HEO.out HE.out.left HE.out with ⟨hnr, e⟩ | ⟨hr, F, e, e2, e3, e4, e5, e6, _⟩ | ⟨hr, F, kk, e, e2, e3, e4, e5, e6, e7, e8, e9, _⟩
        · rw [e] at HCM
          have hm : may = false := by rw [HMAY.out]; exact decide_eq_false hnr
          subst hm
          clear e hnr
          go_wp2_with (first
            | (go_at_call 17; refine HCM.out.mono ?_; rintro e w8 ⟨rfl, hd, hlg, ho⟩; have HD8 := Lib.hid hd; have HL8 := Lib.hid hlg; have HMD8 := Lib.hid (HMD7.out.only ho (by have := HSEP.out.mg; simp; omega) (by have := HSEP.out.ag; simp; omega)); have HO9 := Lib.hid (HO8.out.then ho (by intro i hi; right; simp at hi; have := HSEP.out.lo; omega)); clear hd hlg ho)
            | (go_at_call 16; refine (cut_any g s 80 [] E (-1) w8 HD8.out).mono ?_; rintro e w9 ⟨rfl, hd, ho⟩; have HD9 := Lib.hid hd; have HL9 := Lib.hid (HL8.out.only ho (by have := HSEP.out.gq; simp; omega)); have HMD9 := Lib.hid (HMD8.out.only ho (by have := HSEP.out.mg; simp; omega) (by have := HSEP.out.ag; simp; omega)); have HOA := Lib.hid (HO9.out.then ho (by intro i hi; right; simp at hi; have := HSEP.out.lo; omega)); clear hd ho))
          go_roundw
          case rel => exact ⟨k + 1, q, mb, ma, mc, mr, E.cut (-1), M, by omega, rfl, rfl, by go_num, HD9, HL9, HMD9, Lib.hid (Dk.cut_ok HE.out (-1) (by omega)), Lib.hid (by rw [(cut_same E (-1)).1, HEL.out]; exact HLN.out), Lib.hid HEO.out, Lib.hid (cut_none E), Lib.hid (by rw [(cut_same E (-1)).1, HEL.out]; exact HST.out), Lib.hid (by rw [(cut_same E (-1)).2.2]; have := HNUM.out; omega), HSEP, HOA⟩
          case measure => simp [Go.RowKit.intOf]; omega
        · rw [e] at HCM
          have hm : may = true := by rw [HMAY.out]; exact decide_eq_true hr
          subst hm
          have HR := Lib.hid hr
          have HST2 := Lib.hid e2
          have HFL := Lib.hid e3
          have HFO := Lib.hid e4
          have HFK := Lib.hid e5
          have HFW := Lib.hid (show F.writes ≤ ((k + 1) * 2000 : Nat) from by have := HNUM.out; have := HMOST.out; omega)
          clear e e2 e3 e4 e5 e6 hr
          go_wp2_with (first
            | (go_at_call 17; refine HCM.out.mono ?_; rintro e w8 ⟨rfl, hd, hlg, ho⟩; have HD8 := Lib.hid hd; have HL8 := Lib.hid hlg; have HMD8 := Lib.hid (HMD7.out.only ho (by have := HSEP.out.mg; simp; omega) (by have := HSEP.out.ag; simp; omega)); have HF8 := Lib.hid (HF7.out.only ho); have HO9 := Lib.hid (HO8.out.then ho (by intro i hi; right; simp at hi; have := HSEP.out.lo; omega)); clear hd hlg ho)
            | (go_at_call 18; refine (rbehind_any 39 mb ma mc mr M A5 c5 xs w8 (by omega) (by omega) HST.out.len HR.out HMD8.out HF8.out.plain).mono ?_; rintro e w9 ⟨m2, a2, c2, r2, rfl, hmd, hm2, ha2, ho⟩; have HMD9 := Lib.hid hmd; have HD9 := Lib.hid (HD8.out.only ho (by simp) (by simp)); have HL9 := Lib.hid (HL8.out.only ho (by simp)); have HSEP2 := Lib.hid (show Sep w.heap.size g s q m2 a2 from by have h1 := heap_lt HD8.out.hd; have h2 := heap_lt HD8.out.sec; have h3 := heap_lt HL8.out.hd; have h4 := HSEP.out; have h5 := HSEP.out.lo; have h6 := HO9.out.size; exact ⟨h4.gq, h4.sq, by omega, by omega, by omega⟩); have HOA := Lib.hid (HO9.out.trans ho); clear hmd hm2 ha2 ho)
            | (go_at_call 16; refine (cut_any g s 80 [] F (-1) w9 HD9.out).mono ?_; rintro e w10 ⟨rfl, hd, ho⟩; have HD10 := Lib.hid hd; have HL10 := Lib.hid (HL9.out.only ho (by have := HSEP2.out.gq; simp; omega)); have HMD10 := Lib.hid (HMD9.out.only ho (by have := HSEP2.out.mg; simp; omega) (by have := HSEP2.out.ag; simp; omega)); have HOB := Lib.hid (HOA.out.then ho (by intro i hi; right; simp at hi; have := HSEP2.out.lo; omega)); clear hd ho))
          go_roundw
          case rel => exact ⟨k + 1, q, m2, a2, c2, r2, F.cut (-1), behind M xs, by omega, rfl, rfl, by go_num, HD10, HL10, HMD10, Lib.hid (Dk.cut_ok HFK.out (-1) (by omega)), Lib.hid HFL.out, Lib.hid HFO.out, Lib.hid (cut_none F), Lib.hid HST2.out, Lib.hid HFW.out, HSEP2, HOB⟩
          case measure => simp [Go.RowKit.intOf]; omega
        · rw [e] at HCM
          have hm : may = true := by rw [HMAY.out]; exact decide_eq_true hr
          subst hm
          have HR := Lib.hid hr
          have HLIE := Lib.hid (show Lies 1 39 F.L M xs from by
            by_cases hk9 : kk < xs.length + listsN xs.length + 1
            · exact .inl (e4 hk9)
            · exact .inr ⟨hr, e5 (by omega)⟩)
          have HFL := Lib.hid e6
          have HFO := Lib.hid e7
          have HFK := Lib.hid e8
          have HFW := Lib.hid (show F.writes ≤ (k * 2000 + 200 : Nat) from by have := HNUM.out; have := HMOST.out; omega)
          clear e e2 e3 e4 e5 e6 e7 e8 e9 hr
          go_wp2_with (go_at_call 17; refine HCM.out.mono ?_; rintro e w8 ⟨rfl, hd, hlg, ho⟩; have HD8 := Lib.hid hd; have HL8 := Lib.hid hlg; have HMD8 := Lib.hid (HMD7.out.only ho (by have := HSEP.out.mg; simp; omega) (by have := HSEP.out.ag; simp; omega)); have HF8 := Lib.hid (HF7.out.only ho); have HO9 := Lib.hid (HO8.out.then ho (by intro i hi; right; simp at hi; have := HSEP.out.lo; omega)); clear hd hlg ho; refine (fun (h : Hid _) => h.out) ?_)
          refine Lib.hid ?_
          clear HCM HD7 HL7 HMD7 HF7 HF27 HO8
          go_wp2_with (go_at_call 19; refine (lread_no q g s 80 1 39 [] true F 0 w8 HD8.out HL8.out 6 (by unfold lwrong; rw [if_pos (.inl rfl)]) (by omega)).mono ?_; rintro e w9 ⟨rfl, ho⟩; have HD9 := Lib.hid (HD8.out.only ho (by simp) (by simp)); have HL9 := Lib.hid (HL8.out.only ho (by simp)); have HMD9 := Lib.hid (HMD8.out.only ho (by simp) (by simp)); have HF9 := Lib.hid (HF8.out.only (ho.mono (by simp))); have HOA := Lib.hid (HO9.out.trans ho); clear ho; refine (fun (h : Hid _) => h.out) ?_)
          refine Lib.hid ?_
          clear HD8 HL8 HMD8 HF8 HO9
          go_wp2_with (go_at_call 20; refine (up_any g s 80 [] F w9 HD9.out).mono ?_; rintro e w10 ⟨rfl, hd, ho⟩; have HD10 := Lib.hid hd; have HL10 := Lib.hid (HL9.out.only ho (by have := HSEP.out.gq; simp; omega)); have HMD10 := Lib.hid (HMD9.out.only ho (by have := HSEP.out.mg; simp; omega) (by have := HSEP.out.ag; simp; omega)); have HF10 := Lib.hid (HF9.out.only (ho.mono (by simp))); have HOB := Lib.hid (HOA.out.then ho (by intro i hi; right; simp at hi; have := HSEP.out.lo; omega)); clear hd ho; refine (fun (h : Hid _) => h.out) ?_)
          refine Lib.hid ?_
          have HUK := Lib.hid (Dk.up_ok HFK.out)
          have HUL := Lib.hid (show F.up.L = F.L from rfl)
          have HUW := Lib.hid (show F.up.writes = F.writes from rfl)
          generalize F.up = U at *
          clear HD9 HL9 HMD9 HF9 HOA
          go_wp2_with (go_at_call 19; refine (lread_no q g s 80 1 39 [] true U 0 w10 HD10.out HL10.out 6 (by unfold lwrong; rw [if_pos (.inl rfl)]) (by omega)).mono ?_; rintro e w11 ⟨rfl, ho⟩; have HD11 := Lib.hid (HD10.out.only ho (by simp) (by simp)); have HL11 := Lib.hid (HL10.out.only ho (by simp)); have HMD11 := Lib.hid (HMD10.out.only ho (by simp) (by simp)); have HF11 := Lib.hid (HF10.out.only (ho.mono (by simp))); have HOC := Lib.hid (HOB.out.trans ho); clear ho; refine (fun (h : Hid _) => h.out) ?_)
          refine Lib.hid ?_
          clear HD10 HL10 HMD10 HF10 HOB
          have HCN := Lib.hid (commit_any q g s 80 1 39 [] true U none 0 [] w11 (by simp) (fun x hx => by simp at hx) (by omega) (by omega) (by intro n hn; unfold listsN; omega) HUK.out (by have := HUW.out; have := HFW.out; omega) (by rw [HUL.out, HFL.out]; omega) HD11.out HL11.out HSEP.out.gq HSEP.out.sq (fun i x hx => by simp at hx) (fun h => right_length h))
          rw [commit_off (.inl rfl)] at HCN
          go_wp2_with (go_at_call 17; refine HCN.out.mono ?_; rintro e w12 ⟨rfl, hd, hlg, ho⟩; have HD12 := Lib.hid hd; have HMD12 := Lib.hid (HMD11.out.only ho (by have := HSEP.out.mg; simp; omega) (by have := HSEP.out.ag; simp; omega)); have HF12 := Lib.hid (HF11.out.only ho); have HOD := Lib.hid (HOC.out.then ho (by intro i hi; right; simp at hi; have := HSEP.out.lo; omega)); clear hd hlg ho; refine (fun (h : Hid _) => h.out) ?_)
          refine Lib.hid ?_
          clear HCN HD11 HL11 HMD11 HF11 HOC
          have HREC := Lib.hid (recovered_any g s 80 1 39 80 (k * 2000 + 200) [] U A2 cap2 y2 M xs w12 geo80 room80 (by omega) (by rw [HUL.out]; exact HFL.out) HUK.out (by have := HUW.out; have := HFW.out; omega) (by omega) (by rw [HUL.out]; exact HLIE.out) (by omega) (HZ.out.only HOD.out) HZB.out (by
            intro h0 ad had
            obtain ⟨ad', e, hc⟩ := HZ.out 0 _ (List.getElem?_eq_getElem h0)
            rw [had] at e
            obtain rfl := Option.some.inj e
            have := block_lt_of_cell hc
            rw [add_block] at this
            have := HSEP.out.lo
            omega) HD12.out)
          go_wp2_with (go_at_call 21; refine HREC.out.mono ?_; rintro e w13 ⟨q2, V, M2, rfl, hd, hlg, hq2, hok, hoff, hleft, hln, hst, htu, hwr, ho⟩; have HD13 := Lib.hid hd; have HL13 := Lib.hid hlg; have HVK := Lib.hid hok; have HVO := Lib.hid hoff; have HVT := Lib.hid hleft; have HVL := Lib.hid hln; have HVS := Lib.hid hst; have HVW := Lib.hid (show V.writes ≤ ((k + 1) * 2000 : Nat) from by omega); have HTU := Lib.hid (show M2 = M ∨ M2 = behind M xs from by rcases htu with ⟨e9, _⟩ | ⟨e9, _⟩; exact .inl e9; exact .inr e9); have HMD13 := Lib.hid (HMD12.out.only ho (by have := HSEP.out.mg; simp; omega) (by have := HSEP.out.ag; simp; omega)); have HF13 := Lib.hid (HF12.out.only (ho.mono (by simp))); have HSEP2 := Lib.hid (show Sep w.heap.size g s q2 mb ma from by have h1 := heap_lt HD12.out.hd; have h2 := heap_lt HD12.out.sec; have h3 := heap_lt HMD12.out.hd; have h4 := heap_lt HMD12.out.sec; have h5 := HSEP.out; have h6 := HSEP.out.lo; have h7 := HSEP.out.mg; have h8 := HSEP.out.ag; have h9 := HOD.out.size; exact ⟨by omega, by omega, by omega, by omega, by omega⟩); have HOE := Lib.hid (HOD.out.then ho (by intro i hi; right; simp at hi; have := HSEP.out.lo; omega)); clear hd hlg hq2 hok hoff hleft hln hst htu hwr ho; refine (fun (h : Hid _) => h.out) ?_)
          refine Lib.hid ?_
          clear HREC HD12 HMD12 HF12 HOD
          have HDA := Lib.hid (dataOf_st0 HVS.out)
          have HA1 := Lib.hid (alike_any q2 g s 80 1 39 80 mb ma mc [] mr V M w13 geo80 HVK.out HVO.out HVL.out HD13.out HL13.out HMD13.out HST.out.len)
          rw [HDA.out] at HA1
          obtain ⟨old, hold⟩ : ∃ old, old = decide (M2 = M) := ⟨_, rfl⟩
          rw [← hold] at HA1
          have HOLD := Lib.hid hold
          clear hold
          go_wp2_with (go_at_call 22; refine HA1.out.mono ?_; rintro e w14 ⟨rfl, ho⟩; have HD14 := Lib.hid (HD13.out.only ho (by simp) (by simp)); have HL14 := Lib.hid (HL13.out.only ho (by simp)); have HMD14 := Lib.hid (HMD13.out.only ho (by simp) (by simp)); have HF14 := Lib.hid (HF13.out.only (ho.mono (by simp))); have HOF := Lib.hid (HOE.out.trans ho); clear ho; refine (fun (h : Hid _) => h.out) ?_)
          refine Lib.hid ?_
          clear HA1 HD13 HL13 HMD13 HF13 HOE
          go_wp2_with (go_at_call 18; refine (rbehind_any 39 mb ma mc mr M A5 c5 xs w14 (by omega) (by omega) HST.out.len HR.out HMD14.out HF14.out.plain).mono ?_; rintro e w15 ⟨m2, a2, c2, r2, rfl, hmd, hm2, ha2, ho⟩; have HB15 := Lib.hid hmd; have HD15 := Lib.hid (HD14.out.only ho (by simp) (by simp)); have HL15 := Lib.hid (HL14.out.only ho (by simp)); have HMD15 := Lib.hid (HMD14.out.only ho (by simp) (by simp)); have HF15 := Lib.hid (HF14.out.only (ho.mono (by simp))); have HOG := Lib.hid (HOF.out.trans ho); clear hmd hm2 ha2 ho; refine (fun (h : Hid _) => h.out) ?_)
          refine Lib.hid ?_
          have HA2 := Lib.hid (alike_any q2 g s 80 1 39 80 m2 a2 c2 [] r2 V (behind M xs) w15 geo80 HVK.out HVO.out HVL.out HD15.out HL15.out HB15.out (by rw [behind_length]; exact HST.out.len))
          rw [HDA.out] at HA2
          obtain ⟨done, hdone⟩ : ∃ done, done = decide (M2 = behind M xs) := ⟨_, rfl⟩
          rw [← hdone] at HA2
          have HDONE := Lib.hid hdone
          clear hdone HD14 HL14 HMD14 HF14 HOF
          go_wp2_with (go_at_call 22; refine HA2.out.mono ?_; rintro e w16 ⟨rfl, ho⟩; have HD16 := Lib.hid (HD15.out.only ho (by simp) (by simp)); have HL16 := Lib.hid (HL15.out.only ho (by simp)); have HMD16 := Lib.hid (HMD15.out.only ho (by simp) (by simp)); have HF16 := Lib.hid (HF15.out.only (ho.mono (by simp))); have HOH := Lib.hid (HOG.out.trans ho); clear ho; refine (fun (h : Hid _) => h.out) ?_)
          refine Lib.hid ?_
          clear HA2 HD15 HL15 HMD15 HF15 HB15 HOG
          cases old with
          | true =>
            have hM2 : M2 = M := of_decide_eq_true HOLD.out.symm
            have HVS2 := Lib.hid (show St0 1 39 V.L M from by rw [← hM2]; exact HVS.out)
            clear hM2
            go_wp2
            go_roundw
            case rel => exact ⟨k + 1, q2, mb, ma, mc, mr, V, M, by omega, rfl, rfl, by go_num, HD16, HL16, HMD16, HVK, HVL, HVO, HVT, HVS2, HVW, HSEP2, HOH⟩
            case measure => simp [Go.RowKit.intOf]; omega
          | false =>
            have hM2 : M2 = behind M xs := by
              rcases HTU.out with h | h
              · have := HOLD.out
                rw [h] at this
                simp at this
              · exact h
            have hdn : done = true := by rw [HDONE.out]; exact decide_eq_true hM2
            have HVS2 := Lib.hid (show St0 1 39 V.L (behind M xs) from by rw [← hM2]; exact HVS.out)
            subst hdn
            clear hM2
            go_wp2_with (go_at_call 18; refine (rbehind_any 39 mb ma mc mr M A5 c5 xs w16 (by omega) (by omega) HST.out.len HR.out HMD16.out HF16.out.plain).mono ?_; rintro e w17 ⟨m3, a3, c3, r3, rfl, hmd, hm3, ha3, ho⟩; have HMD17 := Lib.hid hmd; have HD17 := Lib.hid (HD16.out.only ho (by simp) (by simp)); have HL17 := Lib.hid (HL16.out.only ho (by simp)); have HSEP3 := Lib.hid (show Sep w.heap.size g s q2 m3 a3 from by have h1 := heap_lt HD16.out.hd; have h2 := heap_lt HD16.out.sec; have h3 := heap_lt HL16.out.hd; have h4 := HSEP2.out; have h5 := HSEP2.out.lo; have h6 := HOH.out.size; exact ⟨h4.gq, h4.sq, by omega, by omega, by omega⟩); have HOI := Lib.hid (HOH.out.trans ho); clear hmd hm3 ha3 ho)
            go_roundw
            case rel => exact ⟨k + 1, q2, m3, a3, c3, r3, V, behind M xs, by omega, rfl, rfl, by go_num, HD17, HL17, HMD17, HVK, HVL, HVO, HVT, HVS2, HVW, HSEP3, HOI⟩
            case measure => simp [Go.RowKit.intOf]; omega
      · as_aux_lemma =>
        have hcut' : (y1.length : Int) ≤ k := by omega
        have HD7 := HD6
        have HL7 := HL6
        have HMD7 := HMD6
        have HF7 := HF6
        have HF27 := HF26
        have HO8 := HO7
        have HE := HOK
        have HEO := HOFF
        obtain ⟨E, hE⟩ : ∃ E, E = D := ⟨_, rfl⟩
        rw [← hE] at HD7 HE HEO
        have HEL := Lib.hid (show E.L = D.L by rw [hE])
        have HEW := Lib.hid (show E.writes = D.writes by rw [hE])
        obtain ⟨w7, hw7⟩ : ∃ w7, w7 = w6 := ⟨_, rfl⟩
        rw [← hw7] at HD7 HL7 HMD7 HF7 HF27 HO8 ⊢
        clear hw7 hE HD6 HL6 HMD6 HF6 HF26 HO7
        have hnum : E.writes ≤ (k * 2000 : Nat) := by have := HEW.out; have := HWR.out; omega
        have HNUM := Lib.hid hnum
        clear hnum
        have HCM := Lib.hid (commit_any q g s 80 1 39 [] false E A5 c5 xs w7 (by omega) HMI.out (by omega) (by omega) (by intro n hn; unfold listsN; omega) HE.out (by have := HNUM.out; omega) (by rw [HEL.out, HLN.out]; omega) HD7.out HL7.out HSEP.out.gq HSEP.out.sq HF27.out (fun h => right_length h))
        have HMOST := Lib.hid (most45 hxl9)
        rcases commit_on geo80 (xs := xs) (D := E) (M := M) (by rw [HEL.out]; exact HST.out) (by rw [HEL.out]; exact HLN.out) HEO.out HE.out.left HE.out with ⟨hnr, e⟩ | ⟨hr, F, e, e2, e3, e4, e5, e6, _⟩ | ⟨hr, F, kk, e, e2, e3, e4, e5, e6, e7, e8, e9, _⟩
        · rw [e] at HCM
          have hm : may = false := by rw [HMAY.out]; exact decide_eq_false hnr
          subst hm
          clear e hnr
          go_wp2_with (first
            | (go_at_call 17; refine HCM.out.mono ?_; rintro e w8 ⟨rfl, hd, hlg, ho⟩; have HD8 := Lib.hid hd; have HL8 := Lib.hid hlg; have HMD8 := Lib.hid (HMD7.out.only ho (by have := HSEP.out.mg; simp; omega) (by have := HSEP.out.ag; simp; omega)); have HO9 := Lib.hid (HO8.out.then ho (by intro i hi; right; simp at hi; have := HSEP.out.lo; omega)); clear hd hlg ho)
            | (go_at_call 16; refine (cut_any g s 80 [] E (-1) w8 HD8.out).mono ?_; rintro e w9 ⟨rfl, hd, ho⟩; have HD9 := Lib.hid hd; have HL9 := Lib.hid (HL8.out.only ho (by have := HSEP.out.gq; simp; omega)); have HMD9 := Lib.hid (HMD8.out.only ho (by have := HSEP.out.mg; simp; omega) (by have := HSEP.out.ag; simp; omega)); have HOA := Lib.hid (HO9.out.then ho (by intro i hi; right; simp at hi; have := HSEP.out.lo; omega)); clear hd ho))
          go_roundw
          case rel => exact ⟨k + 1, q, mb, ma, mc, mr, E.cut (-1), M, by omega, rfl, rfl, by go_num, HD9, HL9, HMD9, Lib.hid (Dk.cut_ok HE.out (-1) (by omega)), Lib.hid (by rw [(cut_same E (-1)).1, HEL.out]; exact HLN.out), Lib.hid HEO.out, Lib.hid (cut_none E), Lib.hid (by rw [(cut_same E (-1)).1, HEL.out]; exact HST.out), Lib.hid (by rw [(cut_same E (-1)).2.2]; have := HNUM.out; omega), HSEP, HOA⟩
          case measure => simp [Go.RowKit.intOf]; omega
        · rw [e] at HCM
          have hm : may = true := by rw [HMAY.out]; exact decide_eq_true hr
          subst hm
          have HR := Lib.hid hr
          have HST2 := Lib.hid e2
          have HFL := Lib.hid e3
          have HFO := Lib.hid e4
          have HFK := Lib.hid e5
          have HFW := Lib.hid (show F.writes ≤ ((k + 1) * 2000 : Nat) from by have := HNUM.out; have := HMOST.out; omega)
          clear e e2 e3 e4 e5 e6 hr
          go_wp2_with (first
            | (go_at_call 17; refine HCM.out.mono ?_; rintro e w8 ⟨rfl, hd, hlg, ho⟩; have HD8 := Lib.hid hd; have HL8 := Lib.hid hlg; have HMD8 := Lib.hid (HMD7.out.only ho (by have := HSEP.out.mg; simp; omega) (by have := HSEP.out.ag; simp; omega)); have HF8 := Lib.hid (HF7.out.only ho); have HO9 := Lib.hid (HO8.out.then ho (by intro i hi; right; simp at hi; have := HSEP.out.lo; omega)); clear hd hlg ho)
            | (go_at_call 18; refine (rbehind_any 39 mb ma mc mr M A5 c5 xs w8 (by omega) (by omega) HST.out.len HR.out HMD8.out HF8.out.plain).mono ?_; rintro e w9 ⟨m2, a2, c2, r2, rfl, hmd, hm2, ha2, ho⟩; have HMD9 := Lib.hid hmd; have HD9 := Lib.hid (HD8.out.only ho (by simp) (by simp)); have HL9 := Lib.hid (HL8.out.only ho (by simp)); have HSEP2 := Lib.hid (show Sep w.heap.size g s q m2 a2 from by have h1 := heap_lt HD8.out.hd; have h2 := heap_lt HD8.out.sec; have h3 := heap_lt HL8.out.hd; have h4 := HSEP.out; have h5 := HSEP.out.lo; have h6 := HO9.out.size; exact ⟨h4.gq, h4.sq, by omega, by omega, by omega⟩); have HOA := Lib.hid (HO9.out.trans ho); clear hmd hm2 ha2 ho)
            | (go_at_call 16; refine (cut_any g s 80 [] F (-1) w9 HD9.out).mono ?_; rintro e w10 ⟨rfl, hd, ho⟩; have HD10 := Lib.hid hd; have HL10 := Lib.hid (HL9.out.only ho (by have := HSEP2.out.gq; simp; omega)); have HMD10 := Lib.hid (HMD9.out.only ho (by have := HSEP2.out.mg; simp; omega) (by have := HSEP2.out.ag; simp; omega)); have HOB := Lib.hid (HOA.out.then ho (by intro i hi; right; simp at hi; have := HSEP2.out.lo; omega)); clear hd ho))
          go_roundw
          case rel => exact ⟨k + 1, q, m2, a2, c2, r2, F.cut (-1), behind M xs, by omega, rfl, rfl, by go_num, HD10, HL10, HMD10, Lib.hid (Dk.cut_ok HFK.out (-1) (by omega)), Lib.hid HFL.out, Lib.hid HFO.out, Lib.hid (cut_none F), Lib.hid HST2.out, Lib.hid HFW.out, HSEP2, HOB⟩
          case measure => simp [Go.RowKit.intOf]; omega
        · rw [e] at HCM
          have hm : may = true := by rw [HMAY.out]; exact decide_eq_true hr
          subst hm
          have HR := Lib.hid hr
          have HLIE := Lib.hid (show Lies 1 39 F.L M xs from by
            by_cases hk9 : kk < xs.length + listsN xs.length + 1
            · exact .inl (e4 hk9)
            · exact .inr ⟨hr, e5 (by omega)⟩)
          have HFL := Lib.hid e6
          have HFO := Lib.hid e7
          have HFK := Lib.hid e8
          have HFW := Lib.hid (show F.writes ≤ (k * 2000 + 200 : Nat) from by have := HNUM.out; have := HMOST.out; omega)
          clear e e2 e3 e4 e5 e6 e7 e8 e9 hr
          go_wp2_with (go_at_call 17; refine HCM.out.mono ?_; rintro e w8 ⟨rfl, hd, hlg, ho⟩; have HD8 := Lib.hid hd; have HL8 := Lib.hid hlg; have HMD8 := Lib.hid (HMD7.out.only ho (by have := HSEP.out.mg; simp; omega) (by have := HSEP.out.ag; simp; omega)); have HF8 := Lib.hid (HF7.out.only ho); have HO9 := Lib.hid (HO8.out.then ho (by intro i hi; right; simp at hi; have := HSEP.out.lo; omega)); clear hd hlg ho; refine (fun (h : Hid _) => h.out) ?_)
          refine Lib.hid ?_
          clear HCM HD7 HL7 HMD7 HF7 HF27 HO8
          go_wp2_with (go_at_call 19; refine (lread_no q g s 80 1 39 [] true F 0 w8 HD8.out HL8.out 6 (by unfold lwrong; rw [if_pos (.inl rfl)]) (by omega)).mono ?_; rintro e w9 ⟨rfl, ho⟩; have HD9 := Lib.hid (HD8.out.only ho (by simp) (by simp)); have HL9 := Lib.hid (HL8.out.only ho (by simp)); have HMD9 := Lib.hid (HMD8.out.only ho (by simp) (by simp)); have HF9 := Lib.hid (HF8.out.only (ho.mono (by simp))); have HOA := Lib.hid (HO9.out.trans ho); clear ho; refine (fun (h : Hid _) => h.out) ?_)
          refine Lib.hid ?_
          clear HD8 HL8 HMD8 HF8 HO9
          go_wp2_with (go_at_call 20; refine (up_any g s 80 [] F w9 HD9.out).mono ?_; rintro e w10 ⟨rfl, hd, ho⟩; have HD10 := Lib.hid hd; have HL10 := Lib.hid (HL9.out.only ho (by have := HSEP.out.gq; simp; omega)); have HMD10 := Lib.hid (HMD9.out.only ho (by have := HSEP.out.mg; simp; omega) (by have := HSEP.out.ag; simp; omega)); have HF10 := Lib.hid (HF9.out.only (ho.mono (by simp))); have HOB := Lib.hid (HOA.out.then ho (by intro i hi; right; simp at hi; have := HSEP.out.lo; omega)); clear hd ho; refine (fun (h : Hid _) => h.out) ?_)
          refine Lib.hid ?_
          have HUK := Lib.hid (Dk.up_ok HFK.out)
          have HUL := Lib.hid (show F.up.L = F.L from rfl)
          have HUW := Lib.hid (show F.up.writes = F.writes from rfl)
          generalize F.up = U at *
          clear HD9 HL9 HMD9 HF9 HOA
          go_wp2_with (go_at_call 19; refine (lread_no q g s 80 1 39 [] true U 0 w10 HD10.out HL10.out 6 (by unfold lwrong; rw [if_pos (.inl rfl)]) (by omega)).mono ?_; rintro e w11 ⟨rfl, ho⟩; have HD11 := Lib.hid (HD10.out.only ho (by simp) (by simp)); have HL11 := Lib.hid (HL10.out.only ho (by simp)); have HMD11 := Lib.hid (HMD10.out.only ho (by simp) (by simp)); have HF11 := Lib.hid (HF10.out.only (ho.mono (by simp))); have HOC := Lib.hid (HOB.out.trans ho); clear ho; refine (fun (h : Hid _) => h.out) ?_)
          refine Lib.hid ?_
          clear HD10 HL10 HMD10 HF10 HOB
          have HCN := Lib.hid (commit_any q g s 80 1 39 [] true U none 0 [] w11 (by simp) (fun x hx => by simp at hx) (by omega) (by omega) (by intro n hn; unfold listsN; omega) HUK.out (by have := HUW.out; have := HFW.out; omega) (by rw [HUL.out, HFL.out]; omega) HD11.out HL11.out HSEP.out.gq HSEP.out.sq (fun i x hx => by simp at hx) (fun h => right_length h))
          rw [commit_off (.inl rfl)] at HCN
          go_wp2_with (go_at_call 17; refine HCN.out.mono ?_; rintro e w12 ⟨rfl, hd, hlg, ho⟩; have HD12 := Lib.hid hd; have HMD12 := Lib.hid (HMD11.out.only ho (by have := HSEP.out.mg; simp; omega) (by have := HSEP.out.ag; simp; omega)); have HF12 := Lib.hid (HF11.out.only ho); have HOD := Lib.hid (HOC.out.then ho (by intro i hi; right; simp at hi; have := HSEP.out.lo; omega)); clear hd hlg ho; refine (fun (h : Hid _) => h.out) ?_)
          refine Lib.hid ?_
          clear HCN HD11 HL11 HMD11 HF11 HOC
          have HREC := Lib.hid (recovered_any g s 80 1 39 80 (k * 2000 + 200) [] U A2 cap2 y2 M xs w12 geo80 room80 (by omega) (by rw [HUL.out]; exact HFL.out) HUK.out (by have := HUW.out; have := HFW.out; omega) (by omega) (by rw [HUL.out]; exact HLIE.out) (by omega) (HZ.out.only HOD.out) HZB.out (by
            intro h0 ad had
            obtain ⟨ad', e, hc⟩ := HZ.out 0 _ (List.getElem?_eq_getElem h0)
            rw [had] at e
            obtain rfl := Option.some.inj e
            have := block_lt_of_cell hc
            rw [add_block] at this
            have := HSEP.out.lo
            omega) HD12.out)
          go_wp2_with (go_at_call 21; refine HREC.out.mono ?_; rintro e w13 ⟨q2, V, M2, rfl, hd, hlg, hq2, hok, hoff, hleft, hln, hst, htu, hwr, ho⟩; have HD13 := Lib.hid hd; have HL13 := Lib.hid hlg; have HVK := Lib.hid hok; have HVO := Lib.hid hoff; have HVT := Lib.hid hleft; have HVL := Lib.hid hln; have HVS := Lib.hid hst; have HVW := Lib.hid (show V.writes ≤ ((k + 1) * 2000 : Nat) from by omega); have HTU := Lib.hid (show M2 = M ∨ M2 = behind M xs from by rcases htu with ⟨e9, _⟩ | ⟨e9, _⟩; exact .inl e9; exact .inr e9); have HMD13 := Lib.hid (HMD12.out.only ho (by have := HSEP.out.mg; simp; omega) (by have := HSEP.out.ag; simp; omega)); have HF13 := Lib.hid (HF12.out.only (ho.mono (by simp))); have HSEP2 := Lib.hid (show Sep w.heap.size g s q2 mb ma from by have h1 := heap_lt HD12.out.hd; have h2 := heap_lt HD12.out.sec; have h3 := heap_lt HMD12.out.hd; have h4 := heap_lt HMD12.out.sec; have h5 := HSEP.out; have h6 := HSEP.out.lo; have h7 := HSEP.out.mg; have h8 := HSEP.out.ag; have h9 := HOD.out.size; exact ⟨by omega, by omega, by omega, by omega, by omega⟩); have HOE := Lib.hid (HOD.out.then ho (by intro i hi; right; simp at hi; have := HSEP.out.lo; omega)); clear hd hlg hq2 hok hoff hleft hln hst htu hwr ho; refine (fun (h : Hid _) => h.out) ?_)
          refine Lib.hid ?_
          clear HREC HD12 HMD12 HF12 HOD
          have HDA := Lib.hid (dataOf_st0 HVS.out)
          have HA1 := Lib.hid (alike_any q2 g s 80 1 39 80 mb ma mc [] mr V M w13 geo80 HVK.out HVO.out HVL.out HD13.out HL13.out HMD13.out HST.out.len)
          rw [HDA.out] at HA1
          obtain ⟨old, hold⟩ : ∃ old, old = decide (M2 = M) := ⟨_, rfl⟩
          rw [← hold] at HA1
          have HOLD := Lib.hid hold
          clear hold
          go_wp2_with (go_at_call 22; refine HA1.out.mono ?_; rintro e w14 ⟨rfl, ho⟩; have HD14 := Lib.hid (HD13.out.only ho (by simp) (by simp)); have HL14 := Lib.hid (HL13.out.only ho (by simp)); have HMD14 := Lib.hid (HMD13.out.only ho (by simp) (by simp)); have HF14 := Lib.hid (HF13.out.only (ho.mono (by simp))); have HOF := Lib.hid (HOE.out.trans ho); clear ho; refine (fun (h : Hid _) => h.out) ?_)
          refine Lib.hid ?_
          clear HA1 HD13 HL13 HMD13 HF13 HOE
          go_wp2_with (go_at_call 18; refine (rbehind_any 39 mb ma mc mr M A5 c5 xs w14 (by omega) (by omega) HST.out.len HR.out HMD14.out HF14.out.plain).mono ?_; rintro e w15 ⟨m2, a2, c2, r2, rfl, hmd, hm2, ha2, ho⟩; have HB15 := Lib.hid hmd; have HD15 := Lib.hid (HD14.out.only ho (by simp) (by simp)); have HL15 := Lib.hid (HL14.out.only ho (by simp)); have HMD15 := Lib.hid (HMD14.out.only ho (by simp) (by simp)); have HF15 := Lib.hid (HF14.out.only (ho.mono (by simp))); have HOG := Lib.hid (HOF.out.trans ho); clear hmd hm2 ha2 ho; refine (fun (h : Hid _) => h.out) ?_)
          refine Lib.hid ?_
          have HA2 := Lib.hid (alike_any q2 g s 80 1 39 80 m2 a2 c2 [] r2 V (behind M xs) w15 geo80 HVK.out HVO.out HVL.out HD15.out HL15.out HB15.out (by rw [behind_length]; exact HST.out.len))
          rw [HDA.out] at HA2
          obtain ⟨done, hdone⟩ : ∃ done, done = decide (M2 = behind M xs) := ⟨_, rfl⟩
          rw [← hdone] at HA2
          have HDONE := Lib.hid hdone
          clear hdone HD14 HL14 HMD14 HF14 HOF
          go_wp2_with (go_at_call 22; refine HA2.out.mono ?_; rintro e w16 ⟨rfl, ho⟩; have HD16 := Lib.hid (HD15.out.only ho (by simp) (by simp)); have HL16 := Lib.hid (HL15.out.only ho (by simp)); have HMD16 := Lib.hid (HMD15.out.only ho (by simp) (by simp)); have HF16 := Lib.hid (HF15.out.only (ho.mono (by simp))); have HOH := Lib.hid (HOG.out.trans ho); clear ho; refine (fun (h : Hid _) => h.out) ?_)
          refine Lib.hid ?_
          clear HA2 HD15 HL15 HMD15 HF15 HB15 HOG
          cases old with
          | true =>
            have hM2 : M2 = M := of_decide_eq_true HOLD.out.symm
            have HVS2 := Lib.hid (show St0 1 39 V.L M from by rw [← hM2]; exact HVS.out)
            clear hM2
            go_wp2
            go_roundw
            case rel => exact ⟨k + 1, q2, mb, ma, mc, mr, V, M, by omega, rfl, rfl, by go_num, HD16, HL16, HMD16, HVK, HVL, HVO, HVT, HVS2, HVW, HSEP2, HOH⟩
            case measure => simp [Go.RowKit.intOf]; omega
          | false =>
            have hM2 : M2 = behind M xs := by
              rcases HTU.out with h | h
              · have := HOLD.out
                rw [h] at this
                simp at this
              · exact h
            have hdn : done = true := by rw [HDONE.out]; exact decide_eq_true hM2
            have HVS2 := Lib.hid (show St0 1 39 V.L (behind M xs) from by rw [← hM2]; exact HVS.out)
            subst hdn
            clear hM2
            go_wp2_with (go_at_call 18; refine (rbehind_any 39 mb ma mc mr M A5 c5 xs w16 (by omega) (by omega) HST.out.len HR.out HMD16.out HF16.out.plain).mono ?_; rintro e w17 ⟨m3, a3, c3, r3, rfl, hmd, hm3, ha3, ho⟩; have HMD17 := Lib.hid hmd; have HD17 := Lib.hid (HD16.out.only ho (by simp) (by simp)); have HL17 := Lib.hid (HL16.out.only ho (by simp)); have HSEP3 := Lib.hid (show Sep w.heap.size g s q2 m3 a3 from by have h1 := heap_lt HD16.out.hd; have h2 := heap_lt HD16.out.sec; have h3 := heap_lt HL16.out.hd; have h4 := HSEP2.out; have h5 := HSEP2.out.lo; have h6 := HOH.out.size; exact ⟨h4.gq, h4.sq, by omega, by omega, by omega⟩); have HOI := Lib.hid (HOH.out.trans ho); clear hmd hm3 ha3 ho)
            go_roundw
            case rel => exact ⟨k + 1, q2, m3, a3, c3, r3, V, behind M xs, by omega, rfl, rfl, by go_num, HD17, HL17, HMD17, HVK, HVL, HVO, HVT, HVS2, HVW, HSEP3, HOI⟩
            case measure => simp [Go.RowKit.intOf]; omega
    · obtain rfl : k = Gs.length := by omega
      as_aux_lemma =>
      have hrec := recovered_any g s 80 1 39 80 20000 [] D none 0 [] M [] wr geo80 room80 (by omega) HLN.out HOK.out (by have := HWR.out; omega) (by simp) (.inl HST.out) (by simp) (fun i x hx => by simp at hx) (fun x hx => by simp at hx) (fun h => by simp at h) HD.out
      have HREC := Lib.hid hrec
      clear hrec hlt
      go_wp2_with (go_at_call 21; refine HREC.out.mono ?_; rintro e w5 ⟨q2, E, M2, rfl, hd, hlg, hq2, hok, hoff, hleft, hln, hst, htu, hwr, ho⟩; have HD5 := Lib.hid hd; have HL5 := Lib.hid hlg; have HE := Lib.hid hok; have HEO := Lib.hid hoff; have HEL := Lib.hid hln; have HST2 := Lib.hid (show St0 1 39 E.L M from by rcases htu with ⟨e9, _⟩ | ⟨_, _, h9⟩; exact e9 ▸ hst; exact (st_not HST.out h9).elim); have HMD5 := Lib.hid (HMD.out.only ho (by have := HSEP.out.mg; simp; omega) (by have := HSEP.out.ag; simp; omega)); have HO5 := Lib.hid (HO.out.then ho (by intro i hi; right; simp at hi; have := HSEP.out.lo; omega)); clear hd hlg hq2 hok hoff hleft hln hst htu hwr ho; refine (fun (h : Hid _) => h.out) ?_)
      refine Lib.hid ?_
      go_wp2_with (go_at_call 22; refine (alike_any q2 g s 80 1 39 80 mb ma mc [] mr E M w5 geo80 HE.out HEO.out HEL.out HD5.out HL5.out HMD5.out HST.out.len).mono ?_; rw [decide_eq_true (dataOf_st0 HST2.out)]; rintro e w9 ⟨rfl, ho⟩; have HO9 := Lib.hid (HO5.out.trans ho); clear ho)
      go_ret
      exact ⟨rfl, HO9.out⟩
end Go.Proofs.Ytlngfelpmebemaa
