/-
  DiskDoes, walked: a disk of any size answers any calls as the document says.
-/
import Derived.Test.YtcodnhknlhfalaaAlike
import Derived.Test.YtcodnhknlhfalaaClone
namespace Go.Proofs.Ytcodnhknlhfalaa
open Go.RowKit
set_option linter.unusedSimpArgs false
set_option linter.unusedVariables false
theorem op_cells {w : World} {A : Option Addr} {xs : List OpD} (h : rdRow 3 rdOp w A xs) (i : Nat) (hi : i < xs.length) :
    ∃ (ad : Addr) (B : Option Addr) (cap : Nat), A = some ad ∧ CellsAt w (ad.add (i * 3)) [.int .i64 xs[i].1, .int .i64 xs[i].2.1, .slice B xs[i].2.2.1.length cap] ∧ (Lit.int .i64 xs[i].2.1).wf = true ∧
      xs[i].2.2.1.length ≤ 140737488351232 ∧ rdRow 1 (rdInt .u8) w B xs[i].2.2.1 := by
  obtain ⟨ad, es, h1, h2, h3, h4⟩ := h i _ (List.getElem?_eq_getElem hi)
  match es, h2 with
  | [a, b, c], _ =>
    obtain ⟨⟨ha, wa⟩, ⟨hb, wb⟩, ⟨B, cap, hc, hl, hcap, _, hrow⟩, _⟩ := h4
    simp at ha hb hc
    subst ha hb hc
    exact ⟨ad, B, cap, h1, h3, wb, by omega, hrow⟩
theorem Only.keep_cells {w w' : World} {ad : Addr} {cs : List Value} (h : Only [] w w') (hc : CellsAt w ad cs) : CellsAt w' ad cs := hc.only h (by simp)
set_option maxHeartbeats 1000000 in
theorem doesw_no (n : Int) (A : Option Addr) (len cap : Nat) (w : World) (hn : n < 1 ∨ 2048 < n) :
    Calls Try.prog 5 #[.int .i64 n, .slice A len cap] w fun e w' => e = .returned (.bool true) ∧ Only [] w w' := by
  go_enter Try.func5, Try.ntmps5
  go_wp2_with (first
    | (go_at_call 7; refine (awake_any _).mono ?_; rintro e w1 ⟨rfl, ho1⟩; have HO1 := Lib.hid ho1; clear ho1)
    | (go_at_call 8; refine (new_no n hn _).mono ?_; rintro e w2 ⟨rfl, rfl⟩)
    | (go_at_call 17; refine (rnew_no n hn _).mono ?_; rintro e w2 ⟨rfl, rfl⟩))
  go_ret
  exact ⟨rfl, HO1.out⟩
set_option maxHeartbeats 1000000 in
theorem doesw_long (n : Nat) (h1 : 1 ≤ n) (h2 : n ≤ 2048) (A : Option Addr) (len cap : Nat) (w : World) (hl : 60 < len) (hlm : len ≤ 9223372036854775807) :
    Calls Try.prog 5 #[.int .i64 n, .slice A len cap] w fun e w' => e = .returned (.bool true) ∧ Only [] w w' := by
  have hl' : (60 : Int) < len := by omega
  go_enter Try.func5, Try.ntmps5
  go_wp2_with (first
    | (go_at_call 7; refine (awake_any _).mono ?_; rintro e w1 ⟨rfl, ho1⟩; have HO1 := Lib.hid ho1; clear ho1)
    | (go_at_call 8; refine (new_yes n h1 h2 _).mono ?_; rintro e w2 ⟨g, s, rfl, hI0, hg, hs, ho2⟩; have HO2 := Lib.hid (HO1.out.trans ho2); clear ho2 hI0)
    | (go_at_call 17; refine (rnew_yes n h1 h2 _).mono ?_; rintro e w3 ⟨g2, s2, cp2, r2, rfl, hI0, hg2, hs2, ho3⟩; have HO3 := Lib.hid (HO2.out.trans ho3); clear ho3 hI0))
  go_ret
  exact ⟨rfl, HO3.out⟩
set_option maxHeartbeats 8000000 in
set_option maxRecDepth 100000 in
theorem doesw_any (n : Nat) (h1 : 1 ≤ n) (h2 : n ≤ 2048) (A : Option Addr) (cap : Nat) (xs : List OpD) (w : World) (hl : xs.length ≤ 60) (hA : rdRow 3 rdOp w A xs) :
    Calls Try.prog 5 #[.int .i64 n, .slice A xs.length cap] w fun e w' => e = .returned (.bool true) ∧ Only [] w w' := by
  have hl' : (xs.length : Int) ≤ 60 := by omega
  have hd : (decide ((60 : Int) < xs.length)) = false := by simp; omega
  have HA := Lib.hid hA
  clear hA
  obtain ⟨len, hlen⟩ : ∃ len, len = xs.length := ⟨_, rfl⟩
  have HL := Lib.hid hlen
  rw [← hlen] at hl hl' hd ⊢
  clear hlen
  go_enter Try.func5, Try.ntmps5
  go_wp2_with (first
    | (go_at_call 7; refine (awake_any _).mono ?_; rintro e w1 ⟨rfl, ho1⟩; have HO1 := Lib.hid ho1; clear ho1)
    | (go_at_call 8; refine (new_yes n h1 h2 _).mono ?_; rintro e w2 ⟨g, s, rfl, hI0, hg, hs, ho2⟩; have HO2 := Lib.hid (HO1.out.trans ho2); have HI := Lib.hid hI0; have hsz1 := HO1.out.size; clear ho2 hI0)
    | (go_at_call 17; refine (rnew_yes n h1 h2 _).mono ?_; rintro e w3 ⟨g2, s2, cp2, r2, rfl, hI0, hg2, hs2, ho3⟩; have HO3 := Lib.hid (HO2.out.trans ho3); have HR := Lib.hid hI0; have HI := Lib.hid (HI.out.only ho3 (by simp) (by simp)); have hsz2 := HO2.out.size; clear ho3 hI0))
  have HTW := Lib.hid (show Two w3 ⟨g, s, n, [], g2, s2, cp2, r2⟩ (Dk.new n) from ⟨HI.out, HR.out⟩)
  have HNW := Lib.hid (show ∀ b ∈ (⟨g, s, n, [], g2, s2, cp2, r2⟩ : Where).blocks, w.heap.size ≤ b by
    intro b hb
    simp only [Where.blocks, List.mem_cons, List.not_mem_nil, or_false] at hb
    rcases hb with rfl | rfl | rfl | rfl <;> omega)
  clear HI HR HO2 HO1 hg hs hg2 hs2 hsz1 hsz2
  go_loopw [6, 8, 10, 11, 12] (fun d r i _ _ wr => ∃ (k : Nat) (p : Where) (D : Dk), k ≤ len ∧ d = .pointer (some ⟨p.g, 0, none⟩) ∧ r = .pointer (some ⟨p.g2, 0, none⟩) ∧ i = .int .i64 k ∧ Hid (Two wr p D) ∧ Hid D.Ok ∧ Hid (D.writes ≤ k ∧ 0 < D.L.length) ∧ Hid (∀ b ∈ p.blocks, w.heap.size ≤ b) ∧ Hid (Only [] w wr)) (fun _ _ i _ _ _ => len - (intOf i).toNat)
  case atStart => exact ⟨0, _, _, by omega, rfl, rfl, rfl, HTW, Dk.new_ok n h2, ⟨by simp [Dk.new], by simp [Dk.new]; omega⟩, HNW, HO3⟩
  case round =>
    obtain ⟨k, p, D, hk, rfl, rfl, rfl, hT, hOk, hW, hN, hO⟩ := hrel
    clear HTW HNW HO3
    by_cases hlt : k < len
    · have hlt' : (k : Int) < len := by omega
      obtain ⟨ad, B, cp, rfl, hcs, wf1, hlB, hrow⟩ := op_cells HA.out k (by rw [← HL.out]; exact hlt)
      have hab : (ad.add (k * 3)).block < w.heap.size := block_lt_of_cell (cellsAt_head hcs rfl)
      generalize (xs[k]'(by rw [← HL.out]; exact hlt)).1 = kind at *
      generalize (xs[k]'(by rw [← HL.out]; exact hlt)).2.1 = at_ at *
      generalize (xs[k]'(by rw [← HL.out]; exact hlt)).2.2.1 = bs at *
      have hat1 := (wf_i64 wf1).2
      have HCS := Lib.hid hcs
      have HRW := Lib.hid hrow
      have hc0 : wr.cell? (ad.add (k * 3)) = some (.int .i64 kind) := hO.out.cell (cellsAt_head hcs rfl) (by simp)
      clear hcs hrow wf1
      by_cases hkind : kind = 4
      · have hkb : (kind == 4) = true := by simpa using hkind
        have hgN := hT.out.lt p.g (by simp [Where.blocks])
        have hsN := hT.out.lt p.s (by simp [Where.blocks])
        have hg2N := hT.out.lt p.g2 (by simp [Where.blocks])
        have hs2N := hT.out.lt p.s2 (by simp [Where.blocks])
        have hapt := hT.out.apart
        have hgW := hN.out p.g (by simp [Where.blocks])
        have hsW := hN.out p.s (by simp [Where.blocks])
        clear hkind
        go_wp2_with fail
        refine (clone_any p.g p.s p.cp p.r D _ hT.out.dk hOk.out hW.out.2).mono ?_
        rintro e wa ⟨ga, sa, cpa, ra, rfl, hIa, hga, hsa, hoa⟩
        have HIa := Lib.hid hIa
        have HTa := Lib.hid (hT.out.only hoa (by simp))
        have HOa := Lib.hid (hO.out.trans hoa)
        have hza := hoa.size
        clear hIa hoa hc0
        go_wp2_with fail
        refine (up_any p.g p.s p.cp p.r D _ HTa.out.dk).mono ?_
        rintro e wb ⟨rfl, hIb, hob⟩
        have HIb := Lib.hid hIb
        have HIc := Lib.hid (HIa.out.only hob (by simp; omega) (by simp; omega))
        have HRb := Lib.hid (HTa.out.rf.only hob (by simp; omega) (by simp; omega))
        have HOb := Lib.hid (HOa.out.then hob (by simp; omega))
        have hzb := hob.size
        clear hIb hob
        go_wp2_with fail
        refine (full_int 99 (by omega) (by omega) _).mono ?_
        rintro e wc ⟨bf, rfl, hf, hbf, hoc⟩
        have HF := Lib.hid hf
        have HId := Lib.hid (HIb.out.only hoc (by simp) (by simp))
        have HIe := Lib.hid (HIc.out.only hoc (by simp) (by simp))
        have HRc := Lib.hid (HRb.out.only hoc (by simp) (by simp))
        have HOc := Lib.hid (HOb.out.trans hoc)
        have hzc := hoc.size
        clear hf hoc
        go_wp2_with fail
        refine (write_row p.g p.s p.cp p.r D.up 0 bf 256 _ _ wc HId.out (Dk.up_ok hOk.out) (by have := hW.out.1; simp only [Dk.up]; omega) HF.out 256 (sec_length _)).mono ?_
        rintro e wd ⟨rfl, _, hod⟩
        have HIf := Lib.hid (HIe.out.only hod (by simp; omega) (by simp; omega))
        have HRd := Lib.hid (HRc.out.only hod (by simp; omega) (by simp; omega))
        have HOd := Lib.hid (HOc.out.then hod (by simp; omega))
        have hzd := hod.size
        clear hod HF HId HIe HRc HRb HIc HIb HTa
        go_wp2_with fail
        refine (rclone_any p.g2 p.s2 p.cp2 p.r2 D _ HRd.out hOk.out hW.out.2).mono ?_
        rintro e we ⟨gb, sb, cpb, rb, rfl, hRe, hgb, hsb, hoe⟩
        have HTe := Lib.hid (show Two we ⟨ga, sa, cpa, ra, gb, sb, cpb, rb⟩ D from ⟨HIf.out.only hoe (by simp) (by simp), hRe⟩)
        have HNe := Lib.hid (show ∀ b ∈ (⟨ga, sa, cpa, ra, gb, sb, cpb, rb⟩ : Where).blocks, w.heap.size ≤ b by
          intro b hb
          have hz := hO.out.size
          simp only [Where.blocks, List.mem_cons, List.not_mem_nil, or_false] at hb
          rcases hb with rfl | rfl | rfl | rfl <;> omega)
        have HOe := Lib.hid (HOd.out.trans hoe)
        clear hRe hoe HIf HRd HOd HOc HOb HOa hO hN hT hgN hsN hg2N hs2N hapt hgW hsW hga hsa hgb hsb hza hzb hzc hzd hbf HIa
        go_wp2_with (with_reducible refine wpList_load_at rfl 37 (.tmp 75) rfl (ad.add (k * 3)) rfl _ _ (HOe.out.keep_cells HCS.out) Try.underlying37 rfl (by kernel_rfl) ?_)
        refine (does_any ⟨ga, sa, cpa, ra, gb, sb, cpb, rb⟩ D kind at_ B cp bs _ HTe.out hOk.out (by have := hW.out.1; omega) hlB hat1 (rdRow_below (rdInt_stable _) HRW.out HOe.out.nil_below)).mono ?_
        rintro e wf ⟨rfl, D', hTf, hOkf, hWf, hLf, hof⟩
        have HTf := Lib.hid hTf
        have HOkf := Lib.hid hOkf
        have HWf := Lib.hid (show D'.writes ≤ ((k + 1 : Nat) : Int) ∧ 0 < D'.L.length from ⟨by have := hW.out.1; omega, by have := hW.out.2; omega⟩)
        have HOf := Lib.hid (HOe.out.then hof (fun b hb => .inr (HNe.out b hb)))
        clear hTf hOkf hWf hLf hof HCS HRW
        go_wp2_with fail
        refine L.grow_start [] 20 ((0, true, true) :: (1, true, true) :: (2, true, true) :: (3, true, false) :: (5, true, false) :: (6, true, false) :: (7, true, false) :: (8, true, false) :: (4, true, true) :: (9, true, true) :: (10, true, true) :: (11, true, true) :: (12, true, false) :: (14, true, false) :: (15, true, false) :: (16, true, false) :: (17, true, false) :: (13, true, true) :: (18, true, true) :: (19, true, true) :: []) (by kernel_rfl) (([], [12], some 78) :: ([0], [78], some 79) :: ([1], [79], some 80) :: ([2], [6, 80], some 81) :: ([3, 2, 2], [81, 80], some 82) :: ([2], [8, 80], some 83) :: ([5, 2], [83, 80], some 84) :: ([6, 2], [84, 80], some 85) :: ([7, 2], [85, 80], some 86) :: ([4, 8, 2], [82, 86, 80], some 87) :: ([2, 9], [80, 87], some 88) :: ([10, 4], [88], some 89) :: ([11], [6, 89], some 90) :: ([12, 11, 11], [90, 89], some 91) :: ([11], [8, 89], some 92) :: ([14, 11], [92, 89], some 93) :: ([15, 11], [93, 89], some 94) :: ([16, 11], [94, 89], some 95) :: ([13, 17, 11], [91, 95, 89], some 96) :: ([11, 18], [89, 96], some 97) :: []) (by kernel_rfl) (by kernel_rfl) (n := 20) rfl (by kernel_rfl) (fun _ _ _ _ _ h => h) (fun wg hog => ?_)
        refine L.growe_start (N := 112) (by rfl) ?_
        have HTg := Lib.hid (HTf.out.only hog (by simp))
        have HOg := Lib.hid (HOf.out.trans hog)
        have f1 : ∀ w', Only [] wg w' → w'.cell? ⟨gb, 1, none⟩ = some (.bool D'.off) := fun w' h => h.cell (HTg.out.rf.c1) (by simp)
        have f3 : ∀ w', Only [] wg w' → w'.cell? ⟨gb, 3, none⟩ = some (.int .i64 D'.writes) := fun w' h => h.cell (HTg.out.rf.c3) (by simp)
        clear hog HTf HOf
        iterate 8 (first | (refine L.ge_off rfl rfl rfl (by rfl) ?_) | (refine L.ge_move rfl rfl rfl (by rfl) rfl (by simp [L.evE, L.lk, Act.eval]; rfl) ?_) | (refine L.ge_pick rfl rfl rfl (by rfl) rfl (by simp [L.evE, L.lk, Act.eval]; rfl) (by simp [L.evE, L.lk, Act.eval]; rfl) ?_) | (refine L.ge_val rfl rfl rfl (by rfl) (by intro w' hw'; simp [execOp, L.evE, L.lk, Act.eval]; go_simp; rfl) ?_))
        refine L.ge_call rfl rfl rfl (by rfl) rfl (by simp [L.evE, L.lk, Act.eval]; rfl) (by go_simp) ?_
        refine (on_any _ _ _ _ D' _ HTg.out.dk).mono ?_
        rintro e w' ⟨rfl, rfl⟩
        refine ⟨_, rfl, Only.refl _ _, ?_⟩
        have hbb : (!D'.off == D'.off) = false := by cases D'.off <;> rfl
        iterate 8 (first | (refine L.ge_off rfl rfl rfl (by rfl) ?_) | (refine L.ge_move rfl rfl rfl (by rfl) rfl (by simp [L.evE, L.lk, Act.eval]; rfl) ?_) | (refine L.ge_pick rfl rfl rfl (by rfl) rfl (by simp [L.evE, L.lk, Act.eval]; rfl) (by simp [L.evE, L.lk, Act.eval]; rfl) ?_) | (refine L.ge_val rfl rfl rfl (by rfl) (by intro w' hw'; simp [execOp, L.evE, L.lk, Act.eval]; go_simp; rfl) ?_))
        refine L.ge_call rfl rfl rfl (by rfl) rfl (by simp [L.evE, L.lk, Act.eval]; rfl) (by go_simp) ?_
        refine (writes_any _ _ _ _ D' _ HTg.out.dk).mono ?_
        rintro e w' ⟨rfl, rfl⟩
        refine ⟨_, rfl, Only.refl _ _, ?_⟩
        iterate 2 (first | (refine L.ge_off rfl rfl rfl (by rfl) ?_) | (refine L.ge_move rfl rfl rfl (by rfl) rfl (by simp [L.evE, L.lk, Act.eval]; rfl) ?_) | (refine L.ge_pick rfl rfl rfl (by rfl) rfl (by simp [L.evE, L.lk, Act.eval]; rfl) (by simp [L.evE, L.lk, Act.eval]; rfl) ?_) | (refine L.ge_val rfl rfl rfl (by rfl) (by intro w' hw'; simp [execOp, L.evE, L.lk, Act.eval]; go_simp; rfl) ?_))
        refine L.ge_done ?_
        simp only [L.puts, Act.put, goInt, List.setIfInBounds_toArray, List.set_cons_zero, List.set_cons_succ]
        clear f1 f3 hbb
        go_wp2
        go_roundw
        case rel => exact ⟨k + 1, ⟨ga, sa, cpa, ra, gb, sb, cpb, rb⟩, D', by omega, rfl, rfl, by go_num, HTg, HOkf, HWf, HNe, HOg⟩
        case measure => simp [intOf]; omega
      · have hkb : (kind == 4) = false := by simpa using hkind
        clear hkind
        go_wp2_with (with_reducible refine wpList_load_at rfl 37 (.tmp 75) rfl (ad.add (k * 3)) rfl _ _ (hO.out.keep_cells HCS.out) Try.underlying37 rfl (by kernel_rfl) ?_)
        refine (does_any p D kind at_ B cp bs _ hT.out hOk.out (by have := hW.out.1; omega) hlB hat1 (rdRow_below (rdInt_stable _) HRW.out hO.out.nil_below)).mono ?_
        rintro e wf ⟨rfl, D', hTf, hOkf, hWf, hLf, hof⟩
        have HTf := Lib.hid hTf
        have HOkf := Lib.hid hOkf
        have HWf := Lib.hid (show D'.writes ≤ ((k + 1 : Nat) : Int) ∧ 0 < D'.L.length from ⟨by have := hW.out.1; omega, by have := hW.out.2; omega⟩)
        have HOf := Lib.hid (hO.out.then hof (fun b hb => .inr (hN.out b hb)))
        clear hTf hOkf hWf hLf hof HCS HRW
        go_wp2_with fail
        refine L.grow_start [] 20 ((0, true, true) :: (1, true, true) :: (2, true, true) :: (3, true, false) :: (5, true, false) :: (6, true, false) :: (7, true, false) :: (8, true, false) :: (4, true, true) :: (9, true, true) :: (10, true, true) :: (11, true, true) :: (12, true, false) :: (14, true, false) :: (15, true, false) :: (16, true, false) :: (17, true, false) :: (13, true, true) :: (18, true, true) :: (19, true, true) :: []) (by kernel_rfl) (([], [12], some 78) :: ([0], [78], some 79) :: ([1], [79], some 80) :: ([2], [6, 80], some 81) :: ([3, 2, 2], [81, 80], some 82) :: ([2], [8, 80], some 83) :: ([5, 2], [83, 80], some 84) :: ([6, 2], [84, 80], some 85) :: ([7, 2], [85, 80], some 86) :: ([4, 8, 2], [82, 86, 80], some 87) :: ([2, 9], [80, 87], some 88) :: ([10, 4], [88], some 89) :: ([11], [6, 89], some 90) :: ([12, 11, 11], [90, 89], some 91) :: ([11], [8, 89], some 92) :: ([14, 11], [92, 89], some 93) :: ([15, 11], [93, 89], some 94) :: ([16, 11], [94, 89], some 95) :: ([13, 17, 11], [91, 95, 89], some 96) :: ([11, 18], [89, 96], some 97) :: []) (by kernel_rfl) (by kernel_rfl) (n := 20) rfl (by kernel_rfl) (fun _ _ _ _ _ h => h) (fun wg hog => ?_)
        refine L.growe_start (N := 112) (by rfl) ?_
        have HTg := Lib.hid (HTf.out.only hog (by simp))
        have HOg := Lib.hid (HOf.out.trans hog)
        have f1 : ∀ w', Only [] wg w' → w'.cell? ⟨p.g2, 1, none⟩ = some (.bool D'.off) := fun w' h => h.cell (HTg.out.rf.c1) (by simp)
        have f3 : ∀ w', Only [] wg w' → w'.cell? ⟨p.g2, 3, none⟩ = some (.int .i64 D'.writes) := fun w' h => h.cell (HTg.out.rf.c3) (by simp)
        clear hog HTf HOf
        iterate 8 (first | (refine L.ge_off rfl rfl rfl (by rfl) ?_) | (refine L.ge_move rfl rfl rfl (by rfl) rfl (by simp [L.evE, L.lk, Act.eval]; rfl) ?_) | (refine L.ge_pick rfl rfl rfl (by rfl) rfl (by simp [L.evE, L.lk, Act.eval]; rfl) (by simp [L.evE, L.lk, Act.eval]; rfl) ?_) | (refine L.ge_val rfl rfl rfl (by rfl) (by intro w' hw'; simp [execOp, L.evE, L.lk, Act.eval]; go_simp; rfl) ?_))
        refine L.ge_call rfl rfl rfl (by rfl) rfl (by simp [L.evE, L.lk, Act.eval]; rfl) (by go_simp) ?_
        refine (on_any _ _ _ _ D' _ HTg.out.dk).mono ?_
        rintro e w' ⟨rfl, rfl⟩
        refine ⟨_, rfl, Only.refl _ _, ?_⟩
        have hbb : (!D'.off == D'.off) = false := by cases D'.off <;> rfl
        iterate 8 (first | (refine L.ge_off rfl rfl rfl (by rfl) ?_) | (refine L.ge_move rfl rfl rfl (by rfl) rfl (by simp [L.evE, L.lk, Act.eval]; rfl) ?_) | (refine L.ge_pick rfl rfl rfl (by rfl) rfl (by simp [L.evE, L.lk, Act.eval]; rfl) (by simp [L.evE, L.lk, Act.eval]; rfl) ?_) | (refine L.ge_val rfl rfl rfl (by rfl) (by intro w' hw'; simp [execOp, L.evE, L.lk, Act.eval]; go_simp; rfl) ?_))
        refine L.ge_call rfl rfl rfl (by rfl) rfl (by simp [L.evE, L.lk, Act.eval]; rfl) (by go_simp) ?_
        refine (writes_any _ _ _ _ D' _ HTg.out.dk).mono ?_
        rintro e w' ⟨rfl, rfl⟩
        refine ⟨_, rfl, Only.refl _ _, ?_⟩
        iterate 2 (first | (refine L.ge_off rfl rfl rfl (by rfl) ?_) | (refine L.ge_move rfl rfl rfl (by rfl) rfl (by simp [L.evE, L.lk, Act.eval]; rfl) ?_) | (refine L.ge_pick rfl rfl rfl (by rfl) rfl (by simp [L.evE, L.lk, Act.eval]; rfl) (by simp [L.evE, L.lk, Act.eval]; rfl) ?_) | (refine L.ge_val rfl rfl rfl (by rfl) (by intro w' hw'; simp [execOp, L.evE, L.lk, Act.eval]; go_simp; rfl) ?_))
        refine L.ge_done ?_
        simp only [L.puts, Act.put, goInt, List.setIfInBounds_toArray, List.set_cons_zero, List.set_cons_succ]
        clear f1 f3 hbb
        go_wp2
        go_roundw
        case rel => exact ⟨k + 1, p, D', by omega, rfl, rfl, by go_num, HTg, HOkf, HWf, hN, HOg⟩
        case measure => simp [intOf]; omega
    · obtain rfl : k = len := by omega
      go_wp2_with fail
      refine (alike_any p D _ hT.out hOk.out).mono ?_
      rintro e wa ⟨rfl, hTa, hoa⟩
      have hap := hTa.apart
      have HTa := Lib.hid hTa
      have HOa := Lib.hid (hO.out.trans hoa)
      clear hTa hoa
      have hgW := hN.out p.g (by simp [Where.blocks])
      have hg2W := hN.out p.g2 (by simp [Where.blocks])
      go_wp2_with fail
      refine (up_any p.g p.s p.cp p.r D _ HTa.out.dk).mono ?_
      rintro e wb ⟨rfl, hIb, hob⟩
      have HIb := Lib.hid hIb
      have HRb := Lib.hid (HTa.out.rf.only hob (by simp; omega) (by simp; omega))
      have HOb := Lib.hid (HOa.out.then hob (by simp; omega))
      clear hIb hob
      go_wp2_with fail
      refine (rup_any p.g2 p.s2 p.cp2 p.r2 D _ HRb.out).mono ?_
      rintro e wc ⟨rfl, hRc, hoc⟩
      have HTc := Lib.hid (show Two wc p D.up from ⟨HIb.out.only hoc (by simp; omega) (by simp; omega), hRc⟩)
      have HOc := Lib.hid (HOb.out.then hoc (by simp; omega))
      clear hRc hoc
      go_wp2_with fail
      refine (alike_any p D.up _ HTc.out (Dk.up_ok hOk.out)).mono ?_
      rintro e wd ⟨rfl, hTd, hod⟩
      have HOd := Lib.hid (HOc.out.trans hod)
      clear hTd hod
      go_wp2
      go_ret
      exact ⟨rfl, HOd.out⟩
/-- The walk at whatever input. -/
theorem diskDoes_walk (n : Int) (A : Option Addr) (cap : Nat) (xs : List OpD) (w : World) (hn : (Lit.int .i64 n).wf = true) (hl : xs.length ≤ cap) (hb : cap * 40 ≤ 140737488351232) (hr : rdRow 3 rdOp w A xs) :
    Calls Try.prog 5 #[.int .i64 n, .slice A xs.length cap] w fun e w' => e = .returned (.bool true) ∧ Only [] w w' := by
  by_cases h : n < 1 ∨ 2048 < n
  · exact doesw_no n A _ _ w h
  · obtain ⟨m, rfl⟩ : ∃ m : Nat, n = m := ⟨n.toNat, by omega⟩
    by_cases h2 : xs.length ≤ 60
    · exact doesw_any m (by omega) (by omega) A cap xs w h2 hr
    · exact doesw_long m (by omega) (by omega) A xs.length cap w (by omega) (by omega)
end Go.Proofs.Ytcodnhknlhfalaa
