/-
  WalAgain over what came in.
-/
import Derived.Test.YtlngfelpmebemaaWalSm
namespace Go.Proofs.Ytlngfelpmebemaa
open Go Go.RowKit
set_option linter.unusedSimpArgs false
set_option linter.unusedVariables false
theorem geo60 : Geo 1 29 60 := ⟨by decide, by omega, by omega⟩
theorem room60 : roomN 60 = 29 := by decide +kernel
theorem lists29 : listsN 29 = 1 := by decide
set_option maxHeartbeats 8000000 in
set_option maxRecDepth 100000 in
theorem walAgain_walk (A0 : Option Addr) (cap0 : Nat) (y0 : List GroupR) (a1 : Int) (A2 : Option Addr) (cap2 : Nat) (y2 : List Int) (w : World) (hl0 : y0.length ≤ cap0) (hb0 : cap0 * 56 ≤ 140737488351232) (hr0 : rdRow 3 rGroup w A0 y0) (w1 : (Lit.int .i64 a1).wf = true)
    (hl2 : y2.length ≤ cap2) (hb2 : cap2 * 8 ≤ 140737488351232) (hr2 : rdRow 1 (rdInt .i64) w A2 y2) :
    Calls Try.prog 7 #[.slice A0 y0.length cap0, .int .i64 a1, .slice A2 y2.length cap2] w fun e w' => e = .returned (.bool true) ∧ Only [] w w' := by
  obtain ⟨Gs, hgl, hgs⟩ := groups_in hr0
  obtain ⟨hz, hzb⟩ := ints_in hr2
  rw [← hgl] at hl0 ⊢
  have HGS := Lib.hid (show GpsIn w A0 Gs from hgs)
  have HZ := Lib.hid hz
  have HZB := Lib.hid hzb
  have HW1 := Lib.hid (wf_i64 w1)
  have hgl9 : Gs.length ≤ 140737488351232 := by omega
  obtain ⟨sm, hsm⟩ : ∃ sm, sm = smallG Gs 6 := ⟨_, rfl⟩
  have HSM := Lib.hid hsm
  have HSA := Lib.hid (fun (W : World) (hW : Only [] w W) => small_any A0 cap0 Gs 6 W (by omega) hgl9 (fun i G hG => by
    obtain ⟨ad, cs, h1, h2, h3⟩ := hgs i G hG
    obtain ⟨AA, ca, AO, co, e, k1, k2, k3⟩ := h3
    exact ⟨ad, cs, h1, h2.only hW (by simp), AA, ca, AO, co, e, k1.only hW, (fun j x hx => by
      obtain ⟨ad2, Bb, cap, q1, q2, q3, q4⟩ := k2 j x hx
      refine ⟨ad2, Bb, cap, q1, q2.only hW (by simp), q3, fun h => ?_⟩
      obtain ⟨bd, r1, r2, r3⟩ := q4 h
      exact ⟨bd, r1, Nat.lt_of_lt_of_le r2 hW.size, r3.only hW (by simp)⟩), k3⟩))
  rw [← hsm] at HSA
  have hu := Try.underlying37
  have hu2 := Try.underlying58
  clear hgl hgs hz hzb w1 hr0 hr2 hsm
  go_enter Try.func7, Try.ntmps7
  go_wp2_with (go_at_call 8; refine (awake_any w).mono ?_; rintro e w1 ⟨rfl, ho⟩; have HO1 := Lib.hid ho; clear ho; refine (fun (h : Hid _) => h.out) ?_)
  refine Lib.hid ?_
  go_wp2_with (go_at_call 11; refine (HSA.out _ HO1.out).mono ?_; rintro e w2 ⟨rfl, ho⟩; have HO2 := Lib.hid (HO1.out.trans ho); clear ho; refine (fun (h : Hid _) => h.out) ?_)
  refine Lib.hid ?_
  clear HO1 HSA
  go_wp2_with (go_at_call 12; refine (opened_yes 60 (by omega) (by omega) w2).mono ?_; rw [room60, lists29]; rintro e w3 ⟨g, s, q, rfl, hd, hlg, hg, hs, hq, hqg, hqs, ho⟩; have HD := Lib.hid hd; have HLG := Lib.hid hlg; have HGE := Lib.hid (show w.heap.size ≤ g ∧ w.heap.size ≤ s ∧ w.heap.size ≤ q from by have := HO2.out.size; omega); have HNE := Lib.hid (And.intro hqg hqs); have HO3 := Lib.hid (HO2.out.trans ho); clear hd hlg hg hs hq hqg hqs ho; refine (fun (h : Hid _) => h.out) ?_)
  refine Lib.hid ?_
  clear HO2
  cases sm with
  | false =>
    go_wp2
    go_ret
    exact ⟨rfl, HO3.out⟩
  | true =>
  have HFAIR := Lib.hid (smallG_ok HSM.out.symm)
  by_cases h6 : 6 < y2.length
  · have h6' : (6 : Int) < y2.length := by omega
    go_wp2
    go_ret
    exact ⟨rfl, HO3.out⟩
  have h6' : (y2.length : Int) ≤ 6 := by omega
  go_wp2_with (go_at_call 16; refine (cut_any g s 60 [] (Dk.new 60) a1 w3 HD.out).mono ?_; rintro e w4 ⟨rfl, hd, ho⟩; have HD4 := Lib.hid hd; have HL4 := Lib.hid (HLG.out.only ho (by have := HNE.out; simp; omega)); have HO4 := Lib.hid (HO3.out.then ho (by intro i hi; right; simp at hi; have := HGE.out; omega)); clear hd ho; refine (fun (h : Hid _) => h.out) ?_)
  refine Lib.hid ?_
  clear HD HLG HO3
  have HNW := Lib.hid (new_st0 60 1 29 (by omega) (by omega))
  have HCK := Lib.hid (Dk.cut_ok (Dk.new_ok 60 (by omega)) a1 HW1.out.2)
  have hgl6 : Gs.length ≤ 6 := HFAIR.out.1
  go_wp2
  go_loopw [12] (fun i wr => ∃ (k : Nat) (D : Dk) (dead : Bool) (M : List (List UInt8)) (xs : List Wr), k ≤ Gs.length ∧ i = .int .i64 k ∧ Hid (IsDk wr g s 60 [] D) ∧ Hid (IsLg wr q g 1 29 dead) ∧ Hid D.Ok ∧ Hid (D.L.length = 60) ∧ Hid (Log 1 29 D dead M xs) ∧ Hid (D.writes ≤ (k * 200 : Nat)) ∧ Hid (Only [] w wr)) (fun i _ => Gs.length - (Go.RowKit.intOf i).toNat)
  case atStart => exact ⟨0, _, false, _, [], by omega, rfl, HD4, HL4, HCK, Lib.hid (by simp [Dk.cut, Dk.new]), Lib.hid (.on rfl rfl HNW.out), Lib.hid (by simp [Dk.cut, Dk.new]), HO4⟩
  clear HD4 HL4 HCK HO4 HNW
  case round =>
    obtain ⟨k, D, dead, M, xs, hk, rfl, HD, HLG, HOK, HLN, HLOG, HWR, HO⟩ := hrel
    by_cases hlt : k < Gs.length
    · have hlt' : (k : Int) < Gs.length := by omega
      have hk0 : (0 : Int) ≤ k := by omega
      obtain ⟨ad, cs, rfl, hcs, hgp⟩ := HGS.out k _ (List.getElem?_eq_getElem hlt)
      have hfair := HFAIR.out.2 k _ (List.getElem?_eq_getElem hlt)
      generalize Gs[k] = G at *
      have HHI := Lib.hid (Gp.made_hi hgp)
      obtain ⟨AA, ca, AO, co, rfl, hza, hwo, _⟩ := hgp
      have HZA := Lib.hid (hza.only HO.out)
      have HWO := Lib.hid (hwo.only HO.out)
      have HCS := Lib.hid (hcs.only HO.out (by simp))
      have HML := Lib.hid (show G.made.length ≤ 45 from by rw [G.made_length]; omega)
      have HFR := Lib.hid hfair
      have c0 : wr.cell? (ad.add (k * 3)) = some (.slice AA G.at_.length ca) := cellsAt_head HCS.out rfl
      have c1 : wr.cell? ⟨(ad.add (k * 3)).block, (ad.add (k * 3)).off + 1, none⟩ = some (.int .u8 G.x) := cellsAt_field HCS.out 1 (by omega) rfl
      have c2 : wr.cell? ⟨(ad.add (k * 3)).block, (ad.add (k * 3)).off + 2, none⟩ = some (.slice AO G.odd.length co) := cellsAt_field HCS.out 2 (by omega) rfl
      clear hza hwo hcs hfair
      go_wp2_with (go_at_call 14; refine (made_any AA ca G.at_ G.x AO co G.odd w.heap.size wr (by have := HFR.out; omega) (by have := HFR.out; omega) HZA.out HWO.out HO.out.size).mono ?_; rintro e w5 ⟨A5, c5, rfl, hm, ho⟩; have HM := hm; have HO5 := Lib.hid ho; clear hm ho; refine (fun (h : Hid _) => h.out) ?_)
      refine Lib.hid ?_
      have HF := Lib.hid (HM.out.toF [g, s] (by intro k hk; simp at hk; have := heap_lt HD.out.hd; have := heap_lt HD.out.sec; have := HGE.out; omega))
      have HD5 := Lib.hid (HD.out.only HO5.out (by simp) (by simp))
      have HL5 := Lib.hid (HLG.out.only HO5.out (by simp))
      have HO6 := Lib.hid (HO.out.trans HO5.out)
      have HMI := Lib.hid (show ∀ x ∈ G.made, x.1 ≤ 9223372036854775807 from HHI.out)
      have HCM := Lib.hid (commit_any q g s 60 1 29 [] dead D A5 c5 G.made w5 (by have := HML.out; omega) HMI.out (by omega) (by omega) (by intro n hn; unfold listsN; omega) HOK.out (by have := HWR.out; omega) (by rw [HLN.out]; omega) HD5.out HL5.out HNE.out.1 HNE.out.2 HF.out (fun h => right_length h))
      clear c0 c1 c2 HM HF HCS HZA HWO HHI
      obtain ⟨v, D', dead', M', xs', e, hok', hln', hlog', hwr'⟩ : ∃ v D' dead' M' xs', commitP 1 29 dead G.made D = (v, D', dead') ∧ D'.Ok ∧ D'.L.length = 60 ∧ Log 1 29 D' dead' M' xs' ∧ D'.writes ≤ D.writes + 200 := by
        have hmost : mostN G.made.length ≤ 200 := by have := HML.out; unfold mostN listsN; split <;> omega
        cases HLOG.out with
        | on h1 h2 h3 =>
          subst h2
          rcases commit_on geo60 (xs := G.made) h3 HLN.out h1 HOK.out.left HOK.out with ⟨_, e⟩ | ⟨_, E, e, e2, e3, e4, e5, e6, _⟩ | ⟨hr, E, kk, e, e2, e3, e4, e5, e6, e7, e8, e9, _⟩
          · exact ⟨1, D, false, M, xs, e, HOK.out, HLN.out, .on h1 rfl h3, by omega⟩
          · exact ⟨0, E, false, behind M G.made, [], e, e5, e3, .on e4 rfl e2, by omega⟩
          · refine ⟨6, E, true, M, G.made, e, e8, e6, .off e7 ?_, by omega⟩
            by_cases hk9 : kk < G.made.length + listsN G.made.length + 1
            · exact .inl (e4 hk9)
            · exact .inr ⟨hr, e5 (by omega)⟩
        | off h1 h3 => exact ⟨6, D, dead, M, xs, commit_off (.inr h1), HOK.out, HLN.out, .off h1 h3, by omega⟩
      rw [e] at HCM
      have HOK' := Lib.hid hok'
      have HLN' := Lib.hid hln'
      have HLOG' := Lib.hid hlog'
      have HWR' := Lib.hid (show D'.writes ≤ ((k + 1) * 200 : Nat) from by have := HWR.out; omega)
      clear e hok' hln' hlog' hwr'
      go_wp2_with (go_at_call 17; refine HCM.out.mono ?_; rintro e w6 ⟨rfl, hd, hlg, ho⟩; have HD6 := Lib.hid hd; have HL6 := Lib.hid hlg; have HO7 := Lib.hid (HO6.out.then ho (by intro i hi; right; simp at hi; have := HGE.out; omega)); clear hd hlg ho)
      go_roundw
      case rel => exact ⟨k + 1, D', dead', M', xs', by omega, by go_num, HD6, HL6, HOK', HLN', HLOG', HWR', HO7⟩
      case measure => simp [Go.RowKit.intOf]; omega
    · obtain rfl : k = Gs.length := by omega
      have HK6 := Lib.hid hgl6
      have hrec := recovered_any g s 60 1 29 60 2000 [] D A2 cap2 y2 M xs wr geo60 room60 (by omega) HLN.out HOK.out (by have := HWR.out; omega) (by omega) HLOG.out.lies (by omega) (HZ.out.only HO.out) HZB.out (by
        intro h0 ad had
        obtain ⟨ad', e, hc⟩ := HZ.out 0 _ (List.getElem?_eq_getElem h0)
        rw [had] at e
        obtain rfl := Option.some.inj e
        have := block_lt_of_cell hc
        rw [add_block] at this
        have := HGE.out
        omega) HD.out
      have HREC := Lib.hid hrec
      clear hrec hlt
      go_wp2_with (go_at_call 21; refine HREC.out.mono ?_; rintro e w5 ⟨q2, E, M2, rfl, hd, hlg, hq2, hok, hoff, hleft, hln, hst, _, hwr, ho⟩; have HD5 := Lib.hid hd; have HL5 := Lib.hid hlg; have HQ2 := Lib.hid hq2; have HE := Lib.hid hok; have HEO := Lib.hid hoff; have HEL := Lib.hid hln; have HST := Lib.hid hst; have HEW := Lib.hid hwr; have HO5 := Lib.hid (HO.out.then ho (by intro i hi; right; simp at hi; have := HGE.out; omega)); clear hd hlg hq2 hok hoff hleft hln hst hwr ho; refine (fun (h : Hid _) => h.out) ?_)
      refine Lib.hid ?_
      clear HREC HD HLG HOK HLN HLOG HWR HO
      go_wp2
      go_loopw [13, 14] (fun s9 i wr => ∃ (k : Nat) (A : Option Addr) (c : Nat), k ≤ 29 ∧ s9 = .slice A k c ∧ i = .int .i64 k ∧ Hid (wr.ownsRow w5.heap.size 9 1 (.slice A k c) k (txts (M2.take k))) ∧ Hid (Only [] w5 wr)) (fun _ i _ => 29 - (Go.RowKit.intOf i).toNat)
      case atStart => exact ⟨0, none, 0, by omega, rfl, rfl, Lib.hid (ownsRow_nil _ _ _ _), Lib.hid (Only.refl _ _)⟩
      case round =>
        obtain ⟨k, A, c, hk, rfl, rfl, HOW, HO⟩ := hrel
        have HL6 := Lib.hid (HL5.out.only HO.out (by simp))
        have HD6 := Lib.hid (HD5.out.only HO.out (by simp) (by simp))
        go_wp2_with (go_at_call 26; refine (lsectors_any q2 g 1 29 false wr HL6.out).mono ?_; rintro e w6 ⟨rfl, rfl⟩; refine (fun (h : Hid _) => h.out) ?_)
        refine Lib.hid ?_
        by_cases hlt : k < 29
        · have hlt' : (k : Int) < 29 := by omega
          obtain ⟨b, hb⟩ : ∃ b, E.L[1 + 1 + 29 + k]? = some b := ⟨_, List.getElem?_eq_getElem (by have := HEL.out; omega)⟩
          have HB := Lib.hid hb
          have HBL := Lib.hid (HE.out.secs b (List.mem_of_getElem? hb))
          have HBM := Lib.hid (show M2.getD k [] = b from by
            have := HST.out.data k hlt
            rw [← this, List.getD_eq_getElem?_getD, hb]
            rfl)
          clear hb
          go_wp2_with (go_at_call 19; refine (lread_yes q2 g s 60 1 29 [] E k b w6 HE.out HD6.out HL6.out HEO.out hlt (by omega) (by omega) HB.out).mono ?_; rintro e w7 ⟨pb, rfl, hpb, _, ho⟩; have HPB := Lib.hid hpb; have HO7 := Lib.hid (HO.out.trans ho); have HOW7 := Lib.hid (ownsRow_only HOW.out ho (by simp)); clear hpb ho; refine (fun (h : Hid _) => h.out) ?_)
          refine Lib.hid ?_
          have hsz := HO7.out.size
          have HBY := Lib.hid (show BytesAt w7 (some ⟨pb, 0, none⟩) b from fun _ => ⟨_, rfl, cellsAt_row HPB.out⟩)
          go_wp2_with (first
            | (with_reducible refine wpList_bytes_string rfl (.tmp 81) 43 9 rfl 5 Try.underlying43 Try.underlying5 Try.underlying9 (some ⟨pb, 0, none⟩) 256 256 b HBL.out rfl HBY.out ?_)
            | (at_builtin; refine wpList_append_row rfl _ _ 56 rfl w5.heap.size 9 1 16 (.string ⟨#[]⟩) Try.underlying56 infoStr rfl (by omega) (.slice A k c) k (txts (M2.take k)) rfl (ownsRow_only HOW7.out ((Only.refl [] w7).alloc (.cells #[.string ⟨b.toArray⟩] 9)) (by simp)) (some ⟨w7.heap.size, 0, none⟩) 1 1 [.string ⟨b.toArray⟩] rfl rfl (fun _ => ⟨_, rfl, cellsAt_row (heap_alloc_new w7 (.cells #[.string ⟨b.toArray⟩] 9))⟩) (by simp [Value.oneCell']) (by unfold maxLen; omega) (by omega) (by simp; omega) ?_; intro A8 c8 w8 hb8 ho8 hk8; have HB8 := Lib.hid hb8; have HO8 := Lib.hid ((HO7.out.alloc (.cells #[.string ⟨b.toArray⟩] 9)).then ho8 (fun i hi => .inr (ownsRow_lt HOW.out (by simpa using hi)).1)); clear hb8 ho8 hk8))
          go_roundw
          case rel =>
            refine ⟨k + 1, A8, c8, by omega, rfl, by go_num, Lib.hid ?_, HO8⟩
            have e : txts (M2.take (k + 1)) = txts (M2.take k) ++ [.string ⟨b.toArray⟩] := by
              have hlm : k < M2.length := by rw [HST.out.len]; exact hlt
              rw [List.take_succ_eq_append_getElem hlm]
              unfold txts
              rw [List.map_append]
              have h9 := HBM.out
              rw [List.getD_eq_getElem?_getD, List.getElem?_eq_getElem hlm] at h9
              have h9 : M2[k] = b := h9
              rw [h9]
              rfl
            rw [e]
            exact HB8.out
          case measure => simp [Go.RowKit.intOf]; omega
        · obtain rfl : k = 29 := by omega
          have hrow := HOW.out
          rw [List.take_of_length_le (by rw [HST.out.len]; exact Nat.le_refl _)] at hrow
          obtain ⟨a9, cur, e1, ha9, hh, htk⟩ : ∃ a9 cur, A = some ⟨a9, 0, none⟩ ∧ w5.heap.size ≤ a9 ∧ w6.heap[a9]? = some (.cells cur 9 (0, 0)) ∧ cur.toList.take 29 = txts M2 := by
            rcases hrow.2 with ⟨h9, h10⟩ | ⟨g', cap', cur, e, hg1, hh, hnc, _, hsz, htk⟩
            · injection h9 with _ h9 _
              omega
            · injection e with e _ _
              exact ⟨g', cur, e, hg1, hh, by simpa using htk⟩
          subst e1
          have HH := Lib.hid (show w6.heap[a9]? = some (.cells (txts M2 ++ cur.toList.drop 29).toArray 9 (0, 0)) from by rw [hh, ← htk, List.take_append_drop])
          have HA9 := Lib.hid ha9
          have HOX := Lib.hid (HO5.out.trans HO.out)
          generalize cur.toList.drop 29 = rr at *
          clear hrow hh htk ha9 HOW
          go_wp2_with (go_at_call 27; refine (writes_any g s 60 [] E w6 HD6.out).mono ?_; rintro e w7 ⟨rfl, rfl⟩; refine (fun (h : Hid _) => h.out) ?_)
          refine Lib.hid ?_
          have hop := open_st0 HST.out (by rw [HEL.out]; exact room60) (by omega) HEO.out
          have HOP := Lib.hid (open_any g s 60 [] E w6 HE.out (by have := HEW.out; omega) HD6.out)
          rw [hop, HEL.out, room60, lists29] at HOP
          clear hop
          go_wp2_with (first
            | (go_at_call 23; refine HOP.out.mono ?_; rintro e w8 ⟨v, rfl, _, hv, hd, ho⟩; obtain ⟨q3, rfl, hq3, hlg⟩ := hv.out rfl; have HL8 := Lib.hid hlg; have HD8 := Lib.hid hd; have HO8 := Lib.hid ho; clear hv hq3 hlg hd ho)
            | (go_at_call 27; refine (writes_any g s 60 [] E w8 HD8.out).mono ?_; rintro e w9 ⟨rfl, rfl⟩; refine (fun (h : Hid _) => h.out) ?_))
          refine Lib.hid ?_
          have HH8 := Lib.hid (HO8.out.heap HH.out (by have := heap_lt HD5.out.hd; have := heap_lt HD5.out.sec; have := HA9.out; simp; omega))
          have HMD := Lib.hid (show IsMd (w8.alloc (.cells #[.slice (some ⟨a9, 0, none⟩) 29 c] 58)) w8.heap.size a9 c rr M2 from ⟨by rw [heap_alloc_new, HST.out.len], ((Only.refl [] w8).alloc _).heap HH8.out (by simp)⟩)
          have HLZ := Lib.hid (HL8.out.only ((Only.refl [] w8).alloc (.cells #[.slice (some ⟨a9, 0, none⟩) 29 c] 58)) (by simp))
          have HDZ := Lib.hid (HD8.out.only ((Only.refl [] w8).alloc (.cells #[.slice (some ⟨a9, 0, none⟩) 29 c] 58)) (by simp) (by simp))
          have HOZ := Lib.hid ((HOX.out.then HO8.out (by intro i hi; right; simp at hi; have := HGE.out; omega)).alloc (.cells #[.slice (some ⟨a9, 0, none⟩) 29 c] 58))
          go_wp2_with (go_at_call 22; refine (alike_any q3 g s 60 1 29 60 w8.heap.size a9 c [] rr E M2 _ geo60 HE.out HEO.out HEL.out HDZ.out HLZ.out HMD.out HST.out.len).mono ?_; rw [decide_eq_true (dataOf_st0 HST.out)]; rintro e w9 ⟨rfl, ho⟩; have HO9 := Lib.hid (HOZ.out.trans ho); clear ho)
          go_ret
          exact ⟨rfl, HO9.out⟩
end Go.Proofs.Ytlngfelpmebemaa
