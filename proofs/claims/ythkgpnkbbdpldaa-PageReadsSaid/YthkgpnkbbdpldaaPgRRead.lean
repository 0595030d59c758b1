/-
  The document's Read.
-/
import Derived.Test.YthkgpnkbbdpldaaPgRead
namespace Go.Proofs.Ythkgpnkbbdpldaa
open Go.RowKit
set_option linter.unusedSimpArgs false
set_option linter.unusedVariables false
set_option maxHeartbeats 8000000 in
set_option maxRecDepth 100000 in
theorem rread_any (A : Option Addr) (cp : Nat) (b : List UInt8) (w : World) (hl : b.length ≤ 1000000) (hcp : b.length ≤ cp) (hcp2 : cp ≤ 9223372036854775807) (hA : BytesAt w A b) :
    Calls Try.prog 16 #[.slice A b.length cp] w fun e w' => ∃ v us, e = .returned (.tuple #[v, .int .i64 (readE b)]) ∧ RecsOwn w.heap.size 37 5 w' v (readR b) us ∧ Only [] w w' := by
  have HA := Lib.hid hA
  clear hA
  go_enter Try.func16, Try.ntmps16
  by_cases h256 : b.length = 256
  · obtain ⟨bd, rfl, hbd⟩ := BytesAt.get (i := 0) HA.out (by omega)
    have HBD := Lib.hid hbd
    have hc256 := u8_lt b 0
    have hb0 : ∀ w', Only [] w w' → w'.cell? bd = some (.int .u8 ((b.getD 0 0).toNat : Int)) := fun w' h => h.cell (by have := HBD.out 0 (by omega); simpa [Addr.add] using this) (by simp)
    have HLL := Lib.hid (fun l => readL_some (b := b) (l := l) h256)
    have HNN := Lib.hid (readL_none (b := b))
    clear hbd
    generalize (b.getD 0 0).toNat = c at *
    have HB0 := Lib.hid hb0
    clear hb0
    have h256' : (b.length : Int) = 256 := by omega
    go_wp2
    go_loopw [4, 5, 6, 7, 8] (fun l q i _ _ wr => ∃ (n p c4 : Nat) (A4 : Option Addr) (acc : List Rec) (us : List Value), n ≤ c ∧ i = .int .i64 n ∧ q = .int .i64 p ∧ l = .slice A4 n c4 ∧ p ≤ 256 ∧ acc.length = n ∧ Hid (RecsOwn w.heap.size 37 5 wr l acc us) ∧ Hid (Fit acc) ∧ Hid (readFrom b c 1 = (readFrom b (c - n) p).map (acc ++ ·)) ∧ Hid (Only [] w wr)) (fun _ _ i _ _ _ => c - (intOf i).toNat)
    case atStart => exact ⟨0, 1, 0, none, [], [], by omega, rfl, rfl, rfl, by omega, rfl, RecsOwn.nil _ _ _ _, (fun x hx => by cases hx), Lib.hid (by simp), Only.refl _ _⟩
    case round =>
      obtain ⟨n, p, c4, A4, acc, us, hn, rfl, rfl, rfl, hp, hacc, hown, hfit, hsp, hO⟩ := hrel
      have HACC := Lib.hid hacc
      have hb0 := HB0.out wr hO.out
      have hwc : IntKind.i64.wrap (c : Int) = c := IntWalk.i64_in _ (by omega)
      clear hacc
      by_cases hlt : n < c
      · have hlt' : (n : Int) < c := by omega
        by_cases h2 : 256 < p + 2
        · have h2' : (256 : Int) < (p : Int) + 2 := by omega
          have hn : readL b = none := HNN.out (by rw [hsp.out, show c - n = (c - n - 1) + 1 by omega, readFrom_short (.inl (by omega))]; rfl)
          have e1 := readE_none hn
          have e2 := readR_none hn
          have H1 := Lib.hid e1
          have H2 := Lib.hid e2
          clear e1 e2 hn
          go_wp2
          go_ret2
          exact ⟨_, [], by rw [H1.out]; rfl, by rw [H2.out]; exact RecsOwn.nil _ _ _ _, hO.out⟩
        · have h2' : (p : Int) + 2 ≤ 256 := by omega
          have e0 : wr.cell? (bd.add p) = some (.int .u8 ((b.getD p 0).toNat : Int)) := by have := hO.out.cell (HBD.out p (by omega)) (by simp); simpa using this
          have e1 : wr.cell? ⟨bd.block, bd.off + (p + 1), none⟩ = some (.int .u8 ((b.getD (p + 1) 0).toNat : Int)) := by have := hO.out.cell (HBD.out (p + 1) (by omega)) (by simp); simpa [Addr.add] using this
          have hkk := u8_lt b p
          have hmm := u8_lt b (p + 1)
          have HST := Lib.hid (readFrom_step (b := b) (n := c - n - 1) (i := p) acc (by omega))
          have HSH := Lib.hid (fun h => readFrom_short (b := b) (n := c - n - 1) (i := p) (.inr h))
          generalize (b.getD p 0).toNat = kk at *
          generalize (b.getD (p + 1) 0).toNat = mm at *
          have hwk : IntKind.i64.wrap (kk : Int) = kk := IntWalk.i64_in _ (by omega)
          have hwm : IntKind.i64.wrap (mm : Int) = mm := IntWalk.i64_in _ (by omega)
          have hp0 : (0 : Int) ≤ (p : Int) + 1 := by omega
          by_cases h3 : 256 < p + 2 + kk + mm
          · have h3' : (256 : Int) < (p : Int) + 2 + kk + mm := by omega
            clear h3
            have hn : readL b = none := HNN.out (by rw [hsp.out, show c - n = (c - n - 1) + 1 by omega, HSH.out (by omega)]; rfl)
            have e1 := readE_none hn
            have e2 := readR_none hn
            have H1 := Lib.hid e1
            have H2 := Lib.hid e2
            clear e1 e2 hn
            go_wp2
            go_ret2
            exact ⟨_, [], by rw [H1.out]; rfl, by rw [H2.out]; exact RecsOwn.nil _ _ _ _, hO.out⟩
          · have h3' : (p : Int) + 2 + kk + mm ≤ 256 := by omega
            have HST2 := Lib.hid (HST.out (by omega))
            have hbz : BytesAt w (some bd) (b.drop 0) := HA.out
            have HX1 := Lib.hid (hbz.cutB (p + 2) kk cp (by omega) (by omega))
            have HX2 := Lib.hid (hbz.cutB (p + 2 + kk) mm cp (by omega) (by omega))
            rw [Nat.zero_add] at HX1 HX2
            have hl1 := cutB_length b (p + 2) kk (by omega)
            have hl2 := cutB_length b (p + 2 + kk) mm (by omega)
            have HL1 := Lib.hid hl1
            have HL2 := Lib.hid hl2
            clear hl1 hl2 h3 hbz
            go_wp2
            refine L.grow_start (Value.slice A4 n c4).ownBlock.toList 16 ((0, true, false) :: (1, true, false) :: (2, true, false) :: (3, true, false) :: (4, true, false) :: (5, true, false) :: (6, true, false) :: (7, true, false) :: (8, true, false) :: (9, true, true) :: (10, true, true) :: (11, false, true) :: (12, true, true) :: (13, false, true) :: (14, false, true) :: (15, true, true) :: []) (by kernel_rfl) (([], [4], some 47) :: ([], [0], some 48) :: ([], [5], some 49) :: ([2], [49], some 50) :: ([], [7], some 51) :: ([1, 3, 4], [48, 50, 51], some 52) :: ([5], [52], some 53) :: ([], [0], some 54) :: ([], [7], some 55) :: ([], [8], some 56) :: ([7, 8, 9], [54, 55, 56], some 57) :: ([10], [57], some 58) :: ([6, 11], [53, 58], some 59) :: ([12], [59], some 60) :: ([0, 13, 11], [47, 60], some 61) :: ([14, 14, 0, 1, 2, 3, 4, 5, 6, 7, 8, 9, 10, 11, 12, 13, 14], [61], some 4) :: []) (by kernel_rfl) (by kernel_rfl) (n := 16) rfl (by kernel_rfl) (fun _ _ _ _ _ h => h) (fun wk hok => ?_)
            refine L.growe_start (N := 77) (by rfl) ?_
            have HO2 := Lib.hid (hO.out.trans hok)
            have HOWK := Lib.hid (hown.out.only hok)
            have hbs : ∀ k ∈ (Value.slice A4 n c4).ownBlock.toList, w.heap.size ≤ k := fun k hk => (ownsRow_lt HOWK.out.row (by simpa using hk)).1
            have HBS := Lib.hid hbs
            have hon : ∀ w', Only (Value.slice A4 n c4).ownBlock.toList wk w' → Only [] w w' := fun w' h => HO2.out.then h (fun i hi => .inr (HBS.out i hi))
            have HON := Lib.hid hon
            clear hok hbs hon hown hO e0 e1
            have hw1 : IntKind.i64.wrap ((p : Int) + 2) = p + 2 := IntWalk.i64_in _ (by omega)
            iterate 5 (first | (refine L.ge_off rfl rfl rfl (by rfl) ?_) | (refine L.ge_move rfl rfl rfl (by rfl) rfl (by simp [L.evE, L.lk, Act.eval]; rfl) ?_) | (refine L.ge_pick rfl rfl rfl (by rfl) rfl (by simp [L.evE, L.lk, Act.eval]; rfl) (by simp [L.evE, L.lk, Act.eval]; rfl) ?_) | (refine L.ge_val rfl rfl rfl (by rfl) (by intro w' hw'; simp [execOp, L.evE, L.lk, Act.eval]; go_simp; rfl) ?_))
            refine ge_slice rfl rfl rfl (by rfl) _ _ _ _ _ rfl 5 Try.underlying25 sizeU8 (some bd) b.length cp (by simp [L.evE, L.lk, Act.eval]) (p + 2) (p + 2 + kk) cp (fun w' => by simp [L.evE, L.lk, Act.eval]; exact bounds_lh w' b.length cp _ _ _ _ (p + 2) (p + 2 + kk) (by omega) (by omega) (by omega) (by omega)) ?_
            rw [show p + 2 + kk - (p + 2) = kk by omega]
            refine ge_bytes_string rfl rfl rfl (by rfl) _ _ _ rfl 5 Try.underlying25 Try.underlying5 Try.underlying9 (cutAt (some bd) (p + 2) cp) kk (cp - (p + 2)) (cutB b (p + 2) kk) HL1.out (by simp [L.evE, L.lk, Act.eval]) (fun w' h => HX1.out.only (HON.out w' h)) ?_
            iterate 3 (first | (refine L.ge_off rfl rfl rfl (by rfl) ?_) | (refine L.ge_move rfl rfl rfl (by rfl) rfl (by simp [L.evE, L.lk, Act.eval]; rfl) ?_) | (refine L.ge_pick rfl rfl rfl (by rfl) rfl (by simp [L.evE, L.lk, Act.eval]; rfl) (by simp [L.evE, L.lk, Act.eval]; rfl) ?_) | (refine L.ge_val rfl rfl rfl (by rfl) (by intro w' hw'; simp [execOp, L.evE, L.lk, Act.eval]; go_simp; rfl) ?_))
            refine ge_slice rfl rfl rfl (by rfl) _ _ _ _ _ rfl 5 Try.underlying25 sizeU8 (some bd) b.length cp (by simp [L.evE, L.lk, Act.eval]) (p + 2 + kk) (p + 2 + kk + mm) cp (fun w' => by simp [L.evE, L.lk, Act.eval]; exact bounds_lh w' b.length cp _ _ _ _ (p + 2 + kk) (p + 2 + kk + mm) (by omega) (by omega) (by omega) (by omega)) ?_
            rw [show p + 2 + kk + mm - (p + 2 + kk) = mm by omega]
            iterate 1 (refine ge_append_row rfl rfl rfl (by rfl) (.const (.slice none 0 0)) (.tmp 57) 25 rfl wk.heap.size 5 1 1 (.int .u8 0) Try.underlying25 infoU8 rfl (by omega) (.slice none 0 0) 0 [] (by simp [L.evE, L.lk, Act.eval]) (ownsRow_nil _ _ _ _) (cutAt (some bd) (p + 2 + kk) cp) mm (cp - (p + 2 + kk)) (bcells (cutB b (p + 2 + kk) mm)) (by simp [L.evE, L.lk, Act.eval]) (by rw [bcells_length, HL2.out]; omega) (fun h => HX2.out.only HO2.out (by rw [HL2.out]; exact h)) (bcells_one _) (by unfold maxLen; omega) (by omega) (Nat.le_refl _) ?_)
            intro A7 c7 w7 hb7 ho7 _
            rw [Nat.zero_add, List.nil_append] at hb7
            rw [Nat.zero_add]
            refine ⟨ho7.mono (by simp [Value.ownBlock]), ?_⟩
            have HO7 := Lib.hid (ho7.mono (T := []) (by simp [Value.ownBlock]))
            have HB7 := Lib.hid hb7
            clear hb7 ho7
            iterate 1 (first | (refine L.ge_off rfl rfl rfl (by rfl) ?_) | (refine L.ge_move rfl rfl rfl (by rfl) rfl (by simp [L.evE, L.lk, Act.eval]; rfl) ?_) | (refine L.ge_pick rfl rfl rfl (by rfl) rfl (by simp [L.evE, L.lk, Act.eval]; rfl) (by simp [L.evE, L.lk, Act.eval]; rfl) ?_) | (refine L.ge_val rfl rfl rfl (by rfl) (by intro w' hw'; simp [execOp, L.evE, L.lk, Act.eval]; go_simp; rfl) ?_))
            refine ge_one rfl rfl rfl (by rfl) _ (.tmp 59) rfl 37 Try.underlying22 (.agg #[.string ⟨#[]⟩, .slice none 0 0]) 2 40 infoPair (by omega) (by omega) #[.string ⟨(cutB b (p + 2) kk).toArray⟩, .slice A7 mm c7] (by have h := fill_one2 (.agg #[.string ⟨#[]⟩, .slice none 0 0]) (.string ⟨(cutB b (p + 2) kk).toArray⟩) (.slice A7 mm c7) rfl; simpa [L.evE, L.lk, Act.eval] using h) ?_
            have HPN := Lib.hid (heap_alloc_new w7 (.cells #[.string ⟨(cutB b (p + 2) kk).toArray⟩, .slice A7 mm c7] 37))
            have hrow := ((HOWK.out.only HO7.out).only ((Only.refl [] w7).alloc (.cells #[.string ⟨(cutB b (p + 2) kk).toArray⟩, .slice A7 mm c7] 37))).row
            rw [HACC.out] at hrow
            have hz : w.heap.size ≤ w7.heap.size := Nat.le_trans HO2.out.size HO7.out.size
            refine ge_append_row rfl rfl rfl (by rfl) (.tmp 47) (.tmp 60) 22 rfl w.heap.size 37 2 40 (.agg #[.string ⟨#[]⟩, .slice none 0 0]) Try.underlying22 infoPair rfl (by omega) (.slice A4 n c4) n (pairCells acc us) (by simp [L.evE, L.lk, Act.eval]) hrow (some ⟨w7.heap.size, 0, none⟩) 1 1 [.string ⟨(cutB b (p + 2) kk).toArray⟩, .slice A7 mm c7] (by simp [L.evE, L.lk, Act.eval]) rfl (fun _ => ⟨_, rfl, cellsAt_row HPN.out⟩) (by simp [Value.oneCell']) (by unfold maxLen; omega) (by omega) (by simp; omega) ?_
            intro A8 c8 w8 hb8 ho8 hk8
            refine ⟨ho8, ?_⟩
            have HN : Hid (RecsOwn w.heap.size 37 5 w8 (.slice A8 (n + 1) c8) (acc ++ [((⟨(cutB b (p + 2) kk).toArray⟩, cutB b (p + 2 + kk) mm) : Rec)]) (us ++ [.slice A7 mm c7])) := by
              refine RecsOwn.snoc HOWK.out (HO7.out.alloc (.cells #[.string ⟨(cutB b (p + 2) kk).toArray⟩, .slice A7 mm c7] 37)) ?_ (fun k hk => (ownsRow_lt HB7.out hk).1) ho8 (by rw [HACC.out]; exact hb8) (fun k hk => hk8 k hk)
              show World.ownsRow _ _ _ _ _ (cutB b (p + 2 + kk) mm).length _
              rw [HL2.out]
              exact ownsRow_mono (ownsRow_only HB7.out ((Only.refl [] _).alloc _) (by simp)) HO2.out.size
            have HO8 := Lib.hid (HON.out w8 (Only.trans (Only.mono (HO7.out.alloc (.cells #[.string ⟨(cutB b (p + 2) kk).toArray⟩, .slice A7 mm c7] 37)) (by simp)) ho8))
            clear hb8 ho8 hk8 hrow HPN
            iterate 1 (first | (refine L.ge_off rfl rfl rfl (by rfl) ?_) | (refine L.ge_move rfl rfl rfl (by rfl) rfl (by simp [L.evE, L.lk, Act.eval]; rfl) ?_) | (refine L.ge_pick rfl rfl rfl (by rfl) rfl (by simp [L.evE, L.lk, Act.eval]; rfl) (by simp [L.evE, L.lk, Act.eval]; rfl) ?_) | (refine L.ge_val rfl rfl rfl (by rfl) (by intro w' hw'; simp [execOp, L.evE, L.lk, Act.eval]; go_simp; rfl) ?_))
            refine L.ge_done ?_
            simp only [L.puts, Act.put, goInt, List.setIfInBounds_toArray, List.set_cons_zero, List.set_cons_succ]
            clear hb0 hwc hwk hwm hp0 hw1
            go_wp2
            go_roundw
            case rel =>
              refine ⟨n + 1, p + 2 + kk + mm, c8, A8, _, _, by omega, by go_num, by go_num, rfl, by omega, by rw [List.length_append, HACC.out]; rfl, HN, ?_, ?_, HO8⟩
              · refine Fit.snoc hfit.out ?_ ?_
                · show (cutB b (p + 2) kk).toArray.size ≤ _
                  rw [List.size_toArray, HL1.out]; omega
                · show (cutB b (p + 2 + kk) mm).length ≤ _
                  rw [HL2.out]; omega
              · have h9 := hsp.out
                rw [show c - n = (c - n - 1) + 1 by omega, HST2.out] at h9
                rw [show c - (n + 1) = c - n - 1 by omega]
                exact h9
            case measure => simp [intOf]; omega
      · have hnc : c = n := by omega
        have hspe : readFrom b c 1 = some acc := by
          rw [hsp.out, hnc, Nat.sub_self]
          simp [readFrom]
        have HLAST := Lib.hid (HLL.out acc hspe)
        clear hspe hsp HNN HLL
        have hac := HACC.out
        subst hnc
        subst hac
        have HPR := Lib.hid hown.out.pairs
        go_wp2_with (go_at_call 12; refine (rlay_any A4 c4 acc wr (by omega) hfit.out HPR.out).mono ?_; rintro e w5 ⟨rfl, ho5⟩; have HO5 := Lib.hid (hO.out.trans ho5); have HOW5 := Lib.hid (hown.out.only ho5); clear ho5 HPR hown; refine (fun (h : Hid _) => h.out) ?_)
        refine Lib.hid ?_
        obtain ⟨s1, hs1⟩ : ∃ s, s = (⟨(layB acc).toArray⟩ : ByteArray) := ⟨_, rfl⟩
        obtain ⟨s2, hs2⟩ : ∃ s, s = (⟨b.toArray⟩ : ByteArray) := ⟨_, rfl⟩
        have hcp2 : (convert 25 9 (.slice (some bd) 256 cp)).run Try.prog w5 = .ok (.string s2) w5 := by
          rw [hs2]
          exact run_bytes_string w5 25 9 5 Try.underlying25 Try.underlying5 Try.underlying9 (some bd) 256 cp b h256 (HA.out.only HO5.out)
        have hq : (s1.toList == s2.toList) = decide (layB acc = b) := by rw [hs1, hs2, str_eq]
        rw [← hs1]
        clear hs1 hs2
        by_cases h0 : layE acc = 0
        · have h0' : (layE acc : Int) = 0 := by omega
          rw [h0']
          by_cases hb : layB acc = b
          · rw [decide_eq_true hb] at hq
            have hr : readL b = some acc := by rw [HLAST.out, if_pos ⟨h0, hb⟩]
            have e1 := readE_some hr
            have e2 := readR_some hr
            have H1 := Lib.hid e1
            have H2 := Lib.hid e2
            clear e1 e2 hr h0 h0' hb
            go_wp2
            go_ret2
            exact ⟨_, us, by rw [H1.out]; rfl, by rw [H2.out]; exact HOW5.out, HO5.out⟩
          · rw [decide_eq_false hb] at hq
            have hr : readL b = none := by rw [HLAST.out, if_neg (fun h => hb h.2)]
            have e1 := readE_none hr
            have e2 := readR_none hr
            have H1 := Lib.hid e1
            have H2 := Lib.hid e2
            clear e1 e2 hr h0 h0' hb
            go_wp2
            go_ret2
            exact ⟨_, [], by rw [H1.out]; rfl, by rw [H2.out]; exact RecsOwn.nil _ _ _ _, HO5.out⟩
        · have hr : readL b = none := by rw [HLAST.out, if_neg (fun h => h0 h.1)]
          have e1 := readE_none hr
          have e2 := readR_none hr
          have H1 := Lib.hid e1
          have H2 := Lib.hid e2
          clear e1 e2 hr hq
          go_wp2
          go_ret2
          exact ⟨_, [], by rw [H1.out]; rfl, by rw [H2.out]; exact RecsOwn.nil _ _ _ _, HO5.out⟩
  · have hn : readL b = none := readL_long h256
    have e1 := readE_none hn
    have e2 := readR_none hn
    have H1 := Lib.hid e1
    have H2 := Lib.hid e2
    have h256' : ((b.length : Int) == 256) = false := by rw [beq_eq_false_iff_ne]; omega
    clear e1 e2 hn
    go_wp2
    go_ret2
    exact ⟨_, [], by rw [H1.out]; rfl, by rw [H2.out]; exact RecsOwn.nil _ _ _ _, Only.refl _ _⟩
end Go.Proofs.Ythkgpnkbbdpldaa
