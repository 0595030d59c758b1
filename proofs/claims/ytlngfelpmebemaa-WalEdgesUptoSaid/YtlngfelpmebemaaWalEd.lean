/-
  WalEdges over what came in.
-/
import Derived.Test.YtlngfelpmebemaaWalSm
namespace Go.Proofs.Ytlngfelpmebemaa
open Go Go.RowKit
set_option linter.unusedSimpArgs false
set_option linter.unusedVariables false
theorem geo80e : Geo 1 39 80 := ⟨by decide, by omega, by omega⟩
theorem room80e : roomN 80 = 39 := by decide +kernel
theorem lists39e : listsN 39 = 1 := by decide
set_option maxHeartbeats 8000000 in
set_option maxRecDepth 100000 in
theorem walEdges_walk (AA : Option Addr) (ca : Nat) (at_ : List Int) (x : Int) (AO : Option Addr) (co : Nat) (odd : List Wr) (w : World) (hza : ZAt w AA at_) (hwo : WritesI w.heap.size w AO odd) (hi : ∀ y ∈ madeP x at_ odd, y.1 ≤ 9223372036854775807) (hn1 : at_.length ≤ 1048576) (hn2 : odd.length ≤ 1048576) :
    Calls Try.prog 6 #[.agg #[.slice AA at_.length ca, .int .u8 x, .slice AO odd.length co]] w fun e w' => e = .returned (.bool true) ∧ Only [] w w' := by
  have hlen : (madeP x at_ odd).length = at_.length + odd.length := by unfold madeP; rw [List.length_append, madeTo_length]
  have HMADE := Lib.hid (fun (W : World) (hW : Only [] w W) => made_any AA ca at_ x AO co odd w.heap.size W (by omega) (by omega) (hza.only hW) (hwo.only hW) hW.size)
  obtain ⟨xs, hxs⟩ : ∃ xs, xs = madeP x at_ odd := ⟨_, rfl⟩
  rw [← hxs] at HMADE hi hlen
  have HI := Lib.hid hi
  have hxl : xs.length ≤ 2097152 := by omega
  have HX0 := Lib.hid (heap_alloc_new w (.cells #[.slice AA at_.length ca, .int .u8 x, .slice AO odd.length co] 37))
  have HO0 := Lib.hid (show Only [] w (w.alloc (.cells #[.slice AA at_.length ca, .int .u8 x, .slice AO odd.length co] 37)) from (Only.refl _ _).alloc _)
  have HSZ := Lib.hid (show w.heap.size < (w.alloc (.cells #[.slice AA at_.length ca, .int .u8 x, .slice AO odd.length co] 37)).heap.size from by simp)
  have hu := Try.underlying37
  clear hza hwo hi hxs hlen
  go_enter Try.func6, Try.ntmps6
  go_wp2_with (go_at_call 8; refine (awake_any _).mono ?_; rintro e w1 ⟨rfl, ho⟩; have HO1 := Lib.hid (HO0.out.trans ho); have HX1 := Lib.hid (ho.heap HX0.out (by simp)); have HS1 := Lib.hid (Nat.lt_of_lt_of_le HSZ.out ho.size); clear ho; refine (fun (h : Hid _) => h.out) ?_)
  refine Lib.hid ?_
  clear HX0 HO0 HSZ
  go_wp2_with (go_at_call 12; refine (opened_yes 80 (by omega) (by omega) w1).mono ?_; rw [room80e, lists39e]; rintro e w2 ⟨g, s, q, rfl, hd, hlg, hg, hs, hq, hqg, hqs, ho⟩; have HD2 := Lib.hid hd; have HL2 := Lib.hid hlg; have HGE := Lib.hid (show w.heap.size < g ∧ w.heap.size < s ∧ w.heap.size < q from by have := HS1.out; omega); have HNE := Lib.hid (And.intro hqg hqs); have HO2 := Lib.hid (HO1.out.trans ho); have HX2 := Lib.hid (ho.heap HX1.out (by simp)); clear hd hlg hg hs hq hqg hqs ho; refine (fun (h : Hid _) => h.out) ?_)
  refine Lib.hid ?_
  clear HO1 HX1 HS1
  go_wp2_with (go_at_call 13; refine (rnew_any 80 39 room80e (by omega) (by omega) w2).mono ?_; rintro e w3 ⟨m, a, c, r, rfl, hm, hm0, ha0, ho⟩; have HM3 := Lib.hid hm; have HD3 := Lib.hid (HD2.out.only ho (by simp) (by simp)); have HL3 := Lib.hid (HL2.out.only ho (by simp)); have HMS := Lib.hid (show (m ≠ g ∧ m ≠ s ∧ m ≠ q) ∧ (a ≠ g ∧ a ≠ s ∧ a ≠ q) ∧ w.heap.size < m ∧ w.heap.size < a from by have h1 := heap_lt HD2.out.hd; have h2 := heap_lt HD2.out.sec; have h3 := heap_lt HL2.out.hd; have h4 := HGE.out; omega); have HO3 := Lib.hid (HO2.out.trans ho); have HX3 := Lib.hid (ho.heap HX2.out (by simp)); clear hm hm0 ha0 ho; refine (fun (h : Hid _) => h.out) ?_)
  refine Lib.hid ?_
  clear HO2 HX2 HD2 HL2
  have k0 : w3.cell? ⟨w.heap.size, 0, none⟩ = some (.slice AA at_.length ca) := (cell_of_row w3 _ 0 _ _ _ HX3.out).trans rfl
  have k1 : w3.cell? ⟨w.heap.size, 1, none⟩ = some (.int .u8 x) := (cell_of_row w3 _ 1 _ _ _ HX3.out).trans rfl
  have k2 : w3.cell? ⟨w.heap.size, 2, none⟩ = some (.slice AO odd.length co) := (cell_of_row w3 _ 2 _ _ _ HX3.out).trans rfl
  go_wp2_with (go_at_call 14; refine (HMADE.out _ HO3.out).mono ?_; rintro e w4 ⟨A4, c4, rfl, hm, ho⟩; have HW4 := Lib.hid (hm.out.toF [] (by simp)); have HM4 := Lib.hid (HM3.out.only ho (by simp) (by simp)); have HD4 := Lib.hid (HD3.out.only ho (by simp) (by simp)); have HL4 := Lib.hid (HL3.out.only ho (by simp)); have HO4 := Lib.hid (HO3.out.trans ho); have HX4 := Lib.hid (ho.heap HX3.out (by simp)); clear hm ho; refine (fun (h : Hid _) => h.out) ?_)
  refine Lib.hid ?_
  clear k0 k1 k2 HO3 HX3 HD3 HL3 HM3
  obtain ⟨M, hM⟩ : ∃ M, M = List.replicate 39 (sec 0) := ⟨_, rfl⟩
  rw [← hM] at HM4
  have HMLEN := Lib.hid (show M.length = 39 by rw [hM]; simp)
  have HNEW := Lib.hid (show St0 1 39 (Dk.new 80).L M from by rw [hM]; exact new_st0 80 1 39 (by omega) (by omega))
  clear hM
  obtain ⟨may, hmay⟩ : ∃ may, may = decide (RightP 39 xs) := ⟨_, rfl⟩
  have HMAY := Lib.hid hmay
  have HRR := Lib.hid (rright_any 39 m a c r M A4 c4 xs w4 (by omega) (by omega) HMLEN.out HM4.out HW4.out.plain)
  rw [← hmay] at HRR
  clear hmay
  go_wp2_with (go_at_call 15; refine HRR.out.mono ?_; rintro e w5 ⟨rfl, ho⟩; have HM5 := Lib.hid (HM4.out.only ho (by simp) (by simp)); have HD5 := Lib.hid (HD4.out.only ho (by simp) (by simp)); have HL5 := Lib.hid (HL4.out.only ho (by simp)); have HO5 := Lib.hid (HO4.out.trans ho); have HX5 := Lib.hid (ho.heap HX4.out (by simp)); clear ho; refine (fun (h : Hid _) => h.out) ?_)
  refine Lib.hid ?_
  clear HRR HO4 HX4 HD4 HL4 HM4 HW4
  have k0 : w5.cell? ⟨w.heap.size, 0, none⟩ = some (.slice AA at_.length ca) := (cell_of_row w5 _ 0 _ _ _ HX5.out).trans rfl
  cases may with
  | false =>
    go_wp2
    go_ret
    exact ⟨rfl, HO5.out⟩
  | true =>
  have HR := Lib.hid (show RightP 39 xs from of_decide_eq_true HMAY.out.symm)
  have HXS := Lib.hid (right_length HR.out)
  by_cases h30 : 30 < at_.length
  · have h30' : (30 : Int) < at_.length := by omega
    go_wp2
    go_ret
    exact ⟨rfl, HO5.out⟩
  have h30' : (at_.length : Int) ≤ 30 := by omega
  have k1 : w5.cell? ⟨w.heap.size, 1, none⟩ = some (.int .u8 x) := (cell_of_row w5 _ 1 _ _ _ HX5.out).trans rfl
  have k2 : w5.cell? ⟨w.heap.size, 2, none⟩ = some (.slice AO odd.length co) := (cell_of_row w5 _ 2 _ _ _ HX5.out).trans rfl
  go_wp2_with (go_at_call 14; refine (HMADE.out _ HO5.out).mono ?_; rintro e w6 ⟨A6, c6, rfl, hm, ho⟩; have HF6 := Lib.hid (hm.out.toF [g, s] (by intro k hk; simp at hk; have h1 := heap_lt HD5.out.hd; have h2 := heap_lt HD5.out.sec; have := HGE.out; omega)); have HM6 := Lib.hid (HM5.out.only ho (by simp) (by simp)); have HD6 := Lib.hid (HD5.out.only ho (by simp) (by simp)); have HL6 := Lib.hid (HL5.out.only ho (by simp)); have HO6 := Lib.hid (HO5.out.trans ho); have HX6 := Lib.hid (ho.heap HX5.out (by simp)); clear hm ho; refine (fun (h : Hid _) => h.out) ?_)
  refine Lib.hid ?_
  clear k0 k1 k2 HO5 HX5 HD5 HL5 HM5
  have HNK := Lib.hid (Dk.new_ok 80 (by omega))
  have hxs39 : xs.length ≤ 39 := HXS.out
  obtain ⟨T, hT⟩ : ∃ T, T = mostN xs.length := ⟨_, rfl⟩
  have HT := Lib.hid hT
  have HTB := Lib.hid (show T ≤ 200 from by rw [hT]; unfold mostN listsN; split <;> omega)
  clear hT
  obtain ⟨F, e, e2, e3, e4, e5, e6⟩ : ∃ F, commitP 1 39 false xs (Dk.new 80) = (0, F, false) ∧ St0 1 39 F.L (behind M xs) ∧ F.L.length = 80 ∧ F.off = false ∧ F.Ok ∧ F.writes = (T : Int) := by
    rcases commit_on geo80e (xs := xs) HNEW.out (new_len 80) rfl (by decide) HNK.out with ⟨h, _⟩ | ⟨_, F, e, e2, e3, e4, e5, e6, _⟩ | ⟨_, F, kk, _, _, e3, _⟩
    · exact (h HR.out).elim
    · exact ⟨F, e, e2, e3, e4, e5, by rw [e6, HT.out]; simp [Dk.new]⟩
    · exfalso
      have : (Dk.new 80).left = -1 := rfl
      omega
  have HCM := Lib.hid (commit_any q g s 80 1 39 [] false (Dk.new 80) A6 c6 xs w6 (by omega) HI.out (by omega) (by omega) (by intro n hn; unfold listsN; omega) HNK.out (by simp [Dk.new]) (by rw [new_len]; omega) HD6.out HL6.out HNE.out.1 HNE.out.2 HF6.out (fun h => right_length h))
  rw [e] at HCM
  have HST := Lib.hid e2
  have HFL := Lib.hid e3
  have HFO := Lib.hid e4
  have HFK := Lib.hid e5
  have HFW := Lib.hid e6
  clear e e2 e3 e4 e5 e6
  go_wp2_with (go_at_call 17; refine HCM.out.mono ?_; rintro e w7 ⟨rfl, hd, hlg, ho⟩; have HD7 := Lib.hid hd; have HL7 := Lib.hid hlg; have HM7 := Lib.hid (HM6.out.only ho (by have := HMS.out; simp; omega) (by have := HMS.out; simp; omega)); have HO7 := Lib.hid (HO6.out.then ho (by intro i hi; right; simp at hi; have := HGE.out; omega)); have HX7 := Lib.hid (ho.heap HX6.out (by have := HGE.out; simp; omega)); clear hd hlg ho; refine (fun (h : Hid _) => h.out) ?_)
  refine Lib.hid ?_
  clear HCM HD6 HL6 HM6 HF6 HO6 HX6
  have hwt := HFW.out
  go_wp2_with (go_at_call 27; refine (writes_any g s 80 [] F w7 HD7.out).mono ?_; rw [hwt]; rintro e w8 ⟨rfl, rfl⟩; refine (fun (h : Hid _) => h.out) ?_)
  refine Lib.hid ?_
  clear hwt
  have k0 : w7.cell? ⟨w.heap.size, 0, none⟩ = some (.slice AA at_.length ca) := (cell_of_row w7 _ 0 _ _ _ HX7.out).trans rfl
  have k1 : w7.cell? ⟨w.heap.size, 1, none⟩ = some (.int .u8 x) := (cell_of_row w7 _ 1 _ _ _ HX7.out).trans rfl
  have k2 : w7.cell? ⟨w.heap.size, 2, none⟩ = some (.slice AO odd.length co) := (cell_of_row w7 _ 2 _ _ _ HX7.out).trans rfl
  have HMO := Lib.hid (fun W : World => most_any xs.length (by omega) W)
  rw [← HT.out] at HMO
  go_wp2_with (first
    | (go_at_call 14; refine (HMADE.out _ HO7.out).mono ?_; rintro e w9 ⟨A9, c9, rfl, hm, ho⟩; have HM9 := Lib.hid (HM7.out.only ho (by simp) (by simp)); have HD9 := Lib.hid (HD7.out.only ho (by simp) (by simp)); have HL9 := Lib.hid (HL7.out.only ho (by simp)); have HO9 := Lib.hid (HO7.out.trans ho); have HX9 := Lib.hid (ho.heap HX7.out (by simp)); clear hm ho)
    | (go_at_call 28; refine (HMO.out _).mono ?_; rintro e w10 ⟨rfl, rfl⟩; refine (fun (h : Hid _) => h.out) ?_))
  refine Lib.hid ?_
  clear k0 k1 k2 HO7 HX7 HD7 HL7 HM7
  have k0 : w10.cell? ⟨w.heap.size, 0, none⟩ = some (.slice AA at_.length ca) := (cell_of_row w10 _ 0 _ _ _ HX9.out).trans rfl
  have k1 : w10.cell? ⟨w.heap.size, 1, none⟩ = some (.int .u8 x) := (cell_of_row w10 _ 1 _ _ _ HX9.out).trans rfl
  have k2 : w10.cell? ⟨w.heap.size, 2, none⟩ = some (.slice AO odd.length co) := (cell_of_row w10 _ 2 _ _ _ HX9.out).trans rfl
  have HTI := Lib.hid (show ¬ ((T : Int) < (T : Int)) from by omega)
  go_wp2_with (go_at_call 14; refine (HMADE.out _ HO9.out).mono ?_; rintro e w11 ⟨A11, c11, rfl, hm, ho⟩; have HF11 := Lib.hid (hm.out.toF [] (by simp)); have HM11 := Lib.hid (HM9.out.only ho (by simp) (by simp)); have HD11 := Lib.hid (HD9.out.only ho (by simp) (by simp)); have HL11 := Lib.hid (HL9.out.only ho (by simp)); have HO11 := Lib.hid (HO9.out.trans ho); have HX11 := Lib.hid (ho.heap HX9.out (by simp)); clear hm ho; refine (fun (h : Hid _) => h.out) ?_)
  refine Lib.hid ?_
  clear k0 k1 k2 HO9 HX9 HD9 HL9 HM9
  go_wp2_with (go_at_call 18; refine (rbehind_any 39 m a c r M A11 c11 xs w11 (by omega) (by omega) HMLEN.out HR.out HM11.out HF11.out.plain).mono ?_; rintro e w12 ⟨m2, a2, c2, r2, rfl, hmd, hm2, ha2, ho⟩; have HB12 := Lib.hid hmd; have HM12 := Lib.hid (HM11.out.only ho (by simp) (by simp)); have HD12 := Lib.hid (HD11.out.only ho (by simp) (by simp)); have HL12 := Lib.hid (HL11.out.only ho (by simp)); have HO12 := Lib.hid (HO11.out.trans ho); have HX12 := Lib.hid (ho.heap HX11.out (by simp)); have HMS2 := Lib.hid (show w.heap.size < m2 ∧ w.heap.size < a2 from by have := heap_lt HX11.out; omega); clear hmd hm2 ha2 ho; refine (fun (h : Hid _) => h.out) ?_)
  refine Lib.hid ?_
  clear HO11 HX11 HD11 HL11 HM11 HF11
  have HAL := Lib.hid (alike_any q g s 80 1 39 80 m a c [] r F M w12 geo80e HFK.out HFO.out HFL.out HD12.out HL12.out HM12.out HMLEN.out)
  rw [dataOf_st0 HST.out] at HAL
  obtain ⟨eq, heq⟩ : ∃ eq, eq = decide (behind M xs = M) := ⟨_, rfl⟩
  rw [← heq] at HAL
  have HEQ := Lib.hid heq
  clear heq
  go_wp2_with (go_at_call 22; refine HAL.out.mono ?_; rintro e w13 ⟨rfl, ho⟩; have HB13 := Lib.hid (HB12.out.only ho (by simp) (by simp)); have HM13 := Lib.hid (HM12.out.only ho (by simp) (by simp)); have HO13 := Lib.hid (HO12.out.trans ho); have HX13 := Lib.hid (ho.heap HX12.out (by simp)); clear ho; refine (fun (h : Hid _) => h.out) ?_)
  refine Lib.hid ?_
  clear HAL HO12 HX12 HD12 HL12 HM12 HB12 HMO
  cases eq with
  | true =>
    go_wp2
    go_ret
    exact ⟨rfl, HO13.out⟩
  | false =>
  have HNEQ := Lib.hid (show ¬ behind M xs = M from of_decide_eq_false HEQ.out.symm)
  have hx0 : xs.length ≠ 0 := fun h => HNEQ.out (by rw [List.eq_nil_of_length_eq_zero h]; rfl)
  obtain ⟨f1, hf1⟩ : ∃ f1, f1 = xs.length + listsN xs.length + 1 := ⟨_, rfl⟩
  have HF1 := Lib.hid hf1
  have HFT := Lib.hid (show f1 ≤ T from by rw [hf1, HT.out]; unfold mostN; rw [if_neg hx0]; omega)
  have HTB9 : T ≤ 200 := HTB.out
  clear hf1 hx0 HEQ HST HFL HFO HFK HFW
  go_wp2
  go_loopw [12, 13] (fun cm i wr => ∃ (k : Nat) (come : Bool), k ≤ T + 1 ∧ cm = .bool come ∧ i = .int .i64 k ∧ Hid (come = decide (f1 < k)) ∧ Hid (IsMd wr m a c r M) ∧ Hid (IsMd wr m2 a2 c2 r2 (behind M xs)) ∧ Hid (wr.heap[w.heap.size]? = some (.cells #[.slice AA at_.length ca, .int .u8 x, .slice AO odd.length co] 37 (0, 0))) ∧ Hid (Only [] w wr)) (fun _ i _ => T + 1 - (Go.RowKit.intOf i).toNat)
  case atStart => exact ⟨0, false, by omega, rfl, rfl, Lib.hid (by simp), HM13, HB13, HX13, HO13⟩
  clear HM13 HB13 HX13 HO13
  case round =>
    obtain ⟨k, come, hk, rfl, rfl, HCO, HM, HB, HX, HO⟩ := hrel
    by_cases hlt : k ≤ T
    · have hlt' : (k : Int) ≤ T := by omega
      have hk0 : (0 : Int) ≤ k := by omega
      go_wp2_with (go_at_call 12; refine (opened_yes 80 (by omega) (by omega) wr).mono ?_; rw [room80e, lists39e]; rintro e w2 ⟨g2, s2, q2, rfl, hd, hlg, hg, hs, hq, hqg, hqs, ho⟩; have HD2 := Lib.hid hd; have HL2 := Lib.hid hlg; have HGE2 := Lib.hid (show wr.heap.size ≤ g2 ∧ wr.heap.size ≤ s2 ∧ wr.heap.size ≤ q2 from ⟨hg, hs, hq⟩); have HNE2 := Lib.hid (And.intro hqg hqs); have HLO := Lib.hid (show m < wr.heap.size ∧ a < wr.heap.size ∧ m2 < wr.heap.size ∧ a2 < wr.heap.size ∧ w.heap.size < wr.heap.size from ⟨heap_lt HM.out.hd, heap_lt HM.out.sec, heap_lt HB.out.hd, heap_lt HB.out.sec, heap_lt HX.out⟩); have HM2 := Lib.hid (HM.out.only ho (by simp) (by simp)); have HB2 := Lib.hid (HB.out.only ho (by simp) (by simp)); have HO2 := Lib.hid (HO.out.trans ho); have HX2 := Lib.hid (ho.heap HX.out (by simp)); have HOW := Lib.hid (show w.heap.size ≤ wr.heap.size from HO.out.size); clear hd hlg hg hs hq hqg hqs ho; refine (fun (h : Hid _) => h.out) ?_)
      refine Lib.hid ?_
      clear HM HB HX HO
      go_wp2_with (go_at_call 16; refine (cut_any g2 s2 80 [] (Dk.new 80) k w2 HD2.out).mono ?_; rintro e w3 ⟨rfl, hd, ho⟩; have HD3 := Lib.hid hd; have HL3 := Lib.hid (HL2.out.only ho (by have := HNE2.out; simp; omega)); have HM3 := Lib.hid (HM2.out.only ho (by have := HGE2.out; have := HLO.out; simp; omega) (by have := HGE2.out; have := HLO.out; simp; omega)); have HB3 := Lib.hid (HB2.out.only ho (by have := HGE2.out; have := HLO.out; simp; omega) (by have := HGE2.out; have := HLO.out; simp; omega)); have HX3 := Lib.hid (ho.heap HX2.out (by have := HGE2.out; have := HLO.out; simp; omega)); have HO3 := Lib.hid (HO2.out.then ho (by intro i hi; right; simp at hi; have := HGE2.out; have := HOW.out; omega)); clear hd ho; refine (fun (h : Hid _) => h.out) ?_)
      refine Lib.hid ?_
      clear HD2 HL2 HM2 HB2 HX2 HO2
      obtain ⟨D, hD⟩ : ∃ D, D = (Dk.new 80).cut k := ⟨_, rfl⟩
      rw [← hD] at HD3
      have hDL : D.L = (Dk.new 80).L := by rw [hD]; rfl
      have hDo : D.off = false := by rw [hD]; rfl
      have hDw : D.writes = 0 := by rw [hD]; rfl
      have hDl : D.left = (k : Int) := by rw [hD]; simp only [Dk.cut]; rw [if_neg (by omega)]
      have hDk : D.Ok := by rw [hD]; exact Dk.cut_ok HNK.out k (by omega)
      have HDK := Lib.hid hDk
      have HDW := Lib.hid hDw
      have HDLL := Lib.hid (show D.L.length = 80 from by rw [hDL]; exact new_len 80)
      have hcases : ∃ (v : Int) (F : Dk) (dead : Bool) (M3 : List (List UInt8)), commitP 1 39 false xs D = (v, F, dead) ∧ (v = 0 ↔ k = T) ∧ Lies 1 39 F.L (if k = T then behind M xs else M) (if k = T then [] else xs) ∧ F.L.length = 80 ∧ F.Ok ∧ F.writes ≤ 1000 ∧ M3 = (if f1 ≤ k then behind M xs else M) ∧ (∀ M', Turned 1 39 F.L (if k = T then behind M xs else M) M' (if k = T then [] else xs) → M' = M3) := by
        have hf := HFT.out
        rcases commit_on geo80e (xs := xs) (D := D) (M := M) (by rw [hDL]; exact HNEW.out) (by rw [hDL]; exact new_len 80) hDo hDk.left hDk with ⟨h, _⟩ | ⟨_, F, e, e2, e3, e4, e5, e6, e7⟩ | ⟨hr, F, kk, e, e2, e3, e4, e5, e6, e7, e8, e9, _⟩
        · exact (h HR.out).elim
        · rw [← HT.out] at e6 e7
          have hkT : k = T := by omega
          refine ⟨0, F, false, _, e, by simp [hkT], .inl (by rw [if_pos hkT]; exact e2), e3, e5, by omega, rfl, fun M' h => ?_⟩
          rw [if_pos hkT, if_pos hkT] at h
          rw [if_pos (by omega)]
          rcases h with ⟨h, _⟩ | ⟨_, _, h⟩
          · exact h
          · exact (st_not e2 h).elim
        · rw [← HT.out] at e2
          rw [← HF1.out] at e4 e5
          have hkk : kk = k := by omega
          subst hkk
          have hkT : ¬ kk = T := by omega
          have hL : Lies 1 39 F.L M xs := by
            by_cases h9 : kk < f1
            · exact .inl (e4 h9)
            · exact .inr ⟨hr, e5 (by omega)⟩
          refine ⟨6, F, true, _, e, by simp [hkT], by rw [if_neg hkT, if_neg hkT]; exact hL, e6, e8, by omega, rfl, fun M' h => ?_⟩
          rw [if_neg hkT, if_neg hkT] at h
          by_cases h9 : f1 ≤ kk
          · rw [if_pos h9]
            rcases h with ⟨_, h⟩ | ⟨h, _⟩
            · exact (st_not h (e5 h9)).elim
            · exact h
          · rw [if_neg h9]
            rcases h with ⟨h, _⟩ | ⟨_, _, h⟩
            · exact h
            · exact (st_not (e4 (by omega)) h).elim
      obtain ⟨v, F, dead, M3, e, hv, hlie, hFl, hFk, hFw, hM3, hturn⟩ := hcases
      have HV := Lib.hid hv
      have HLIE := Lib.hid hlie
      have HFL := Lib.hid hFl
      have HFK := Lib.hid hFk
      have HFW := Lib.hid hFw
      have HM3E := Lib.hid hM3
      have HTURN := Lib.hid hturn
      have HCE := Lib.hid e
      clear hD hDL hDo hDw hDl hDk hv hlie hFl hFk hFw hM3 hturn e
      have k0 : w3.cell? ⟨w.heap.size, 0, none⟩ = some (.slice AA at_.length ca) := (cell_of_row w3 _ 0 _ _ _ HX3.out).trans rfl
      have k1 : w3.cell? ⟨w.heap.size, 1, none⟩ = some (.int .u8 x) := (cell_of_row w3 _ 1 _ _ _ HX3.out).trans rfl
      have k2 : w3.cell? ⟨w.heap.size, 2, none⟩ = some (.slice AO odd.length co) := (cell_of_row w3 _ 2 _ _ _ HX3.out).trans rfl
      go_wp2_with (go_at_call 14; refine (HMADE.out _ HO3.out).mono ?_; rintro e w4 ⟨A4, c4, rfl, hm, ho⟩; have HF4 := Lib.hid (hm.out.toF [g2, s2] (by intro k hk; simp at hk; have h1 := heap_lt HD3.out.hd; have h2 := heap_lt HD3.out.sec; have := HGE2.out; have := HOW.out; omega)); have HM4 := Lib.hid (HM3.out.only ho (by simp) (by simp)); have HB4 := Lib.hid (HB3.out.only ho (by simp) (by simp)); have HD4 := Lib.hid (HD3.out.only ho (by simp) (by simp)); have HL4 := Lib.hid (HL3.out.only ho (by simp)); have HO4 := Lib.hid (HO3.out.trans ho); have HX4 := Lib.hid (ho.heap HX3.out (by simp)); clear hm ho; refine (fun (h : Hid _) => h.out) ?_)
      refine Lib.hid ?_
      clear k0 k1 k2 HD3 HL3 HM3 HB3 HX3 HO3
      have HCM := Lib.hid (commit_any q2 g2 s2 80 1 39 [] false D A4 c4 xs w4 (by omega) HI.out (by omega) (by omega) (by intro n hn; unfold listsN; omega) HDK.out (by rw [HDW.out]; omega) (by rw [HDLL.out]; omega) HD4.out HL4.out HNE2.out.1 HNE2.out.2 HF4.out (fun h => right_length h))
      rw [HCE.out] at HCM
      have hT200 : (T : Int) ≤ 200 := by omega
      go_wp2_with (go_at_call 17; refine HCM.out.mono ?_; rintro e w5 ⟨rfl, hd, hlg, ho⟩; have HD5 := Lib.hid hd; have HM5 := Lib.hid (HM4.out.only ho (by have := HGE2.out; have := HLO.out; simp; omega) (by have := HGE2.out; have := HLO.out; simp; omega)); have HB5 := Lib.hid (HB4.out.only ho (by have := HGE2.out; have := HLO.out; simp; omega) (by have := HGE2.out; have := HLO.out; simp; omega)); have HX5 := Lib.hid (ho.heap HX4.out (by have := HGE2.out; have := HLO.out; simp; omega)); have HO5 := Lib.hid (HO4.out.then ho (by intro i hi; right; simp at hi; have := HGE2.out; have := HOW.out; omega)); clear hd hlg ho; refine (fun (h : Hid _) => h.out) ?_)
      refine Lib.hid ?_
      clear HCM HCE HD4 HL4 HM4 HB4 HX4 HO4 HF4
      have hve : (v == 0) = ((k : Int) == (T : Int)) := by
        rw [Bool.eq_iff_iff, beq_iff_eq, beq_iff_eq]
        have := HV.out
        omega
      have HREC := Lib.hid (recovered_any g2 s2 80 1 39 80 1000 [] F none 0 [] _ _ w5 geo80e room80e (by omega) HFL.out HFK.out HFW.out (by simp) HLIE.out (by simp) (fun i x hx => by simp at hx) (fun x hx => by simp at hx) (fun h => by simp at h) HD5.out)
      go_wp2_with (go_at_call 21; refine HREC.out.mono ?_; rintro e w6 ⟨q3, E, M4, rfl, hd, hlg, hq3, hok, hoff, hleft, hln, hst, htu, hwr, ho⟩; have hm4 := HTURN.out _ htu; subst hm4; have HD6 := Lib.hid hd; have HL6 := Lib.hid hlg; have HEK := Lib.hid hok; have HEO := Lib.hid hoff; have HEL := Lib.hid hln; have HES := Lib.hid hst; have HM6 := Lib.hid (HM5.out.only ho (by have := HGE2.out; have := HLO.out; simp; omega) (by have := HGE2.out; have := HLO.out; simp; omega)); have HB6 := Lib.hid (HB5.out.only ho (by have := HGE2.out; have := HLO.out; simp; omega) (by have := HGE2.out; have := HLO.out; simp; omega)); have HX6 := Lib.hid (ho.heap HX5.out (by have := HGE2.out; have := HLO.out; simp; omega)); have HO6 := Lib.hid (HO5.out.then ho (by intro i hi; right; simp at hi; have := HGE2.out; have := HOW.out; omega)); clear hd hlg hq3 hok hoff hleft hln hst htu hwr ho; refine (fun (h : Hid _) => h.out) ?_)
      refine Lib.hid ?_
      clear HREC HD5 HM5 HB5 HX5 HO5 HTURN
      have HA1 := Lib.hid (alike_any q3 g2 s2 80 1 39 80 m2 a2 c2 [] r2 E (behind M xs) w6 geo80e HEK.out HEO.out HEL.out HD6.out HL6.out HB6.out (by rw [behind_length]; exact HMLEN.out))
      rw [dataOf_st0 HES.out] at HA1
      have HA2 := Lib.hid (fun W (hW : Only [] w6 W) => alike_any q3 g2 s2 80 1 39 80 m a c [] r E M W geo80e HEK.out HEO.out HEL.out (HD6.out.only hW (by simp) (by simp)) (HL6.out.only hW (by simp)) (HM6.out.only hW (by simp) (by simp)) HMLEN.out)
      rw [dataOf_st0 HES.out] at HA2
      obtain ⟨is, no, h1, h2, h3⟩ : ∃ is no : Bool, decide (M4 = behind M xs) = is ∧ decide (M4 = M) = no ∧ ((is = true ∧ no = false ∧ f1 ≤ k) ∨ (is = false ∧ no = true ∧ k < f1)) := by
        refine ⟨_, _, rfl, rfl, ?_⟩
        have hm := HM3E.out
        by_cases hf : f1 ≤ k
        · rw [if_pos hf] at hm
          exact .inl ⟨decide_eq_true hm, decide_eq_false (by rw [hm]; exact HNEQ.out), hf⟩
        · rw [if_neg hf] at hm
          exact .inr ⟨decide_eq_false (by rw [hm]; exact fun h => HNEQ.out h.symm), decide_eq_true hm, by omega⟩
      rw [h1] at HA1
      rw [h2] at HA2
      clear h1 h2 HM3E hve
      rcases h3 with ⟨rfl, rfl, hf⟩ | ⟨rfl, rfl, hf⟩
      · have HNX := Lib.hid (show true = decide (f1 < k + 1) from (decide_eq_true (by omega)).symm)
        cases come
        all_goals
          go_wp2_with (first
            | (go_at_call 22; refine HA1.out.mono ?_; rintro e w7 ⟨rfl, ho⟩; have HO7 := Lib.hid ho; clear ho; refine (fun (h : Hid _) => h.out) ?_))
          refine Lib.hid ?_
          go_wp2_with (first
            | (go_at_call 22; refine (HA2.out _ HO7.out).mono ?_; rintro e w8 ⟨rfl, ho⟩; have HO8 := Lib.hid (HO7.out.trans ho); clear ho))
          go_roundw
          case rel => exact ⟨k + 1, true, by omega, rfl, by go_num, HNX, Lib.hid (HM6.out.only HO8.out (by simp) (by simp)), Lib.hid (HB6.out.only HO8.out (by simp) (by simp)), Lib.hid (HO8.out.heap HX6.out (by simp)), Lib.hid (HO6.out.trans HO8.out)⟩
          case measure => simp [Go.RowKit.intOf]; omega
      · have HNX := Lib.hid (show false = decide (f1 < k + 1) from (decide_eq_false (by omega)).symm)
        have hco : come = false := by rw [HCO.out]; exact decide_eq_false (by omega)
        subst hco
        go_wp2_with (first
          | (go_at_call 22; refine HA1.out.mono ?_; rintro e w7 ⟨rfl, ho⟩; have HO7 := Lib.hid ho; clear ho; refine (fun (h : Hid _) => h.out) ?_))
        refine Lib.hid ?_
        go_wp2_with (first
          | (go_at_call 22; refine (HA2.out _ HO7.out).mono ?_; rintro e w8 ⟨rfl, ho⟩; have HO8 := Lib.hid (HO7.out.trans ho); clear ho))
        go_roundw
        case rel => exact ⟨k + 1, false, by omega, rfl, by go_num, HNX, Lib.hid (HM6.out.only HO8.out (by simp) (by simp)), Lib.hid (HB6.out.only HO8.out (by simp) (by simp)), Lib.hid (HO8.out.heap HX6.out (by simp)), Lib.hid (HO6.out.trans HO8.out)⟩
        case measure => simp [Go.RowKit.intOf]; omega
    · have hlt' : (T : Int) < k := by omega
      have hco : come = true := by rw [HCO.out]; exact decide_eq_true (by have := HFT.out; omega)
      subst hco
      go_wp2
      go_ret
      exact ⟨rfl, HO.out⟩
end Go.Proofs.Ytlngfelpmebemaa
