/-
  A call of both disks, whatever it is; both are alike.
-/
import Derived.Test.YtcodnhknlhfalaaDoes
namespace Go.Proofs.Ytcodnhknlhfalaa
open Go.RowKit
set_option linter.unusedSimpArgs false
set_option linter.unusedVariables false
theorem does_any (p : Where) (D : Dk) (kind at_ : Int) (B : Option Addr) (cp : Nat) (bs : List Int) (w : World) (h : Two w p D) (hD : D.Ok) (hwr : D.writes < 900000000) (hl : bs.length ≤ 140737488351232)
    (ha : at_ ≤ 9223372036854775807) (hrd : rdRow 1 (rdInt .u8) w B bs) :
    Calls Try.prog 20 #[.pointer (some ⟨p.g, 0, none⟩), .pointer (some ⟨p.g2, 0, none⟩), .agg #[.int .i64 kind, .int .i64 at_, .slice B bs.length cp]] w
      fun e w' => e = .returned (.bool true) ∧ ∃ D', Two w' p D' ∧ D'.Ok ∧ D'.writes ≤ D.writes + 1 ∧ D'.L.length = D.L.length ∧ Only p.blocks w w' := by
  obtain ⟨l, hll, hx, hB⟩ := bytes_at hrd
  have hwo := fun i b => write_more D i b
  rw [← hll] at hl hB ⊢
  by_cases k0 : kind = 0
  · subst k0
    exact (does_zero p D at_ B cp l w h hD hwr hl hB).mono fun e w' ⟨h1, h2, h3⟩ => ⟨h1, _, h2, Dk.write_ok hD _ _, (write_more D _ _).1, (write_more D _ _).2, h3⟩
  by_cases k5 : kind = 5
  · subst k5
    exact (does_five p D at_ B cp l w h hD hwr hl hB bs hll.symm hrd hx).mono fun e w' ⟨h1, h2, h3⟩ => ⟨h1, _, h2, Dk.write_ok hD _ _, (write_more D _ _).1, (write_more D _ _).2, h3⟩
  by_cases k1 : kind = 1
  · subst k1
    by_cases hw : D.wrong at_ = 0
    · have hoff : D.off = false := by
        cases ho : D.off with
        | false => rfl
        | true => simp [Dk.wrong, ho] at hw
      have hr : 0 ≤ at_ ∧ at_ < D.L.length := by
        have := hw
        simp only [Dk.wrong, hoff] at this
        rw [if_neg (by simp)] at this
        split at this
        · omega
        · omega
      exact (does_read_yes p D at_ B cp l w h hD hwr hw hoff at_.toNat (by omega) (by omega)).mono fun e w' ⟨h1, h2, h3⟩ => ⟨h1, D, h2, hD, by omega, rfl, h3⟩
    · exact (does_read_no p D at_ B cp l w h hD hwr _ hw rfl).mono fun e w' ⟨h1, h2, h3⟩ => ⟨h1, D, h2, hD, by omega, rfl, h3⟩
  by_cases k2 : kind = 2
  · subst k2
    exact (does_cut p D at_ B cp l w h hD hwr).mono fun e w' ⟨h1, h2, h3⟩ => ⟨h1, _, h2, Dk.cut_ok hD _ ha, by simp only [Dk.cut]; omega, rfl, h3⟩
  by_cases k3 : kind = 3
  · subst k3
    exact (does_up p D at_ B cp l w h hD hwr).mono fun e w' ⟨h1, h2, h3⟩ => ⟨h1, _, h2, Dk.up_ok hD, by simp only [Dk.up]; omega, rfl, h3⟩
  exact (does_else p D at_ B cp l w h hD hwr kind k0 k5 k1 k2 k3).mono fun e w' ⟨h1, h2, h3⟩ => ⟨h1, D, h2, hD, by omega, rfl, h3⟩
set_option maxRecDepth 100000 in
set_option maxHeartbeats 4000000 in
theorem alike_any (p : Where) (D : Dk) (w : World) (h : Two w p D) (hD : D.Ok) :
    Calls Try.prog 21 #[.pointer (some ⟨p.g, 0, none⟩), .pointer (some ⟨p.g2, 0, none⟩)] w fun e w' => e = .returned (.bool true) ∧ Two w' p D ∧ Only [] w w' := by
  have HT := Lib.hid h
  have HD := Lib.hid hD
  have hlen := hD.len
  have hsecs := Lib.hid hD.secs
  have e0 := Lib.hid h.rf.c0
  have e1 := Lib.hid h.rf.c1
  have e3 := Lib.hid h.rf.c3
  clear h hD
  go_enter Try.func21, Try.ntmps21
  go_wp2_with fail
  refine L.grow_start [] 26 ((0, true, false) :: (2, true, false) :: (3, true, false) :: (4, true, false) :: (5, true, false) :: (6, true, false) :: (1, false, true) :: (7, true, true) :: (8, true, true) :: (9, true, false) :: (11, true, false) :: (12, true, false) :: (13, true, false) :: (14, true, false) :: (10, true, true) :: (15, true, true) :: (16, true, true) :: (17, true, true) :: (18, true, false) :: (20, true, false) :: (21, true, false) :: (22, true, false) :: (23, true, false) :: (19, true, true) :: (24, true, true) :: (25, true, true) :: []) (by kernel_rfl) (([], [0], some 8) :: ([0], [8], some 9) :: ([], [1], some 10) :: ([2], [10], some 11) :: ([3], [11], some 12) :: ([4], [12], some 13) :: ([5], [13], some 14) :: ([1, 6], [9, 14], some 15) :: ([7, 1], [15], some 16) :: ([8], [0, 16], some 17) :: ([9, 8, 8], [17, 16], some 18) :: ([8], [1, 16], some 19) :: ([11, 8], [19, 16], some 20) :: ([12, 8], [20, 16], some 21) :: ([13, 8], [21, 16], some 22) :: ([10, 14, 8], [18, 22, 16], some 23) :: ([8, 15], [16, 23], some 24) :: ([16, 10], [24], some 25) :: ([17], [0, 25], some 26) :: ([18, 17, 17], [26, 25], some 27) :: ([17], [1, 25], some 28) :: ([20, 17], [28, 25], some 29) :: ([21, 17], [29, 25], some 30) :: ([22, 17], [30, 25], some 31) :: ([19, 23, 17], [27, 31, 25], some 32) :: ([17, 24], [25, 32], some 33) :: []) (by kernel_rfl) (by kernel_rfl) (n := 26) rfl (by kernel_rfl) (fun _ _ _ _ _ h => h) (fun wg hog => ?_)
  refine L.growe_start (N := 70) (by rfl) ?_
  have f0 : ∀ w', Only [] wg w' → w'.cell? ⟨p.g2, 0, none⟩ = some (.slice (some ⟨p.s2, 0, none⟩) D.L.length p.cp2) := fun w' h => h.cell (hog.cell e0.out (by simp)) (by simp)
  have f1 : ∀ w', Only [] wg w' → w'.cell? ⟨p.g2, 1, none⟩ = some (.bool D.off) := fun w' h => h.cell (hog.cell e1.out (by simp)) (by simp)
  have f3 : ∀ w', Only [] wg w' → w'.cell? ⟨p.g2, 3, none⟩ = some (.int .i64 D.writes) := fun w' h => h.cell (hog.cell e3.out (by simp)) (by simp)
  have HTg := Lib.hid (HT.out.only hog (by simp))
  have HOg := Lib.hid hog
  clear hog HT e0 e1 e3
  iterate 6 (first | (refine L.ge_off rfl rfl rfl (by rfl) ?_) | (refine L.ge_move rfl rfl rfl (by rfl) rfl (by simp [L.evE, L.lk, Act.eval]; rfl) ?_) | (refine L.ge_pick rfl rfl rfl (by rfl) rfl (by simp [L.evE, L.lk, Act.eval]; rfl) (by simp [L.evE, L.lk, Act.eval]; rfl) ?_) | (refine L.ge_val rfl rfl rfl (by rfl) (by intro w' hw'; simp [execOp, L.evE, L.lk, Act.eval]; go_simp; rfl) ?_))
  refine L.ge_call rfl rfl rfl (by rfl) rfl (by simp [L.evE, L.lk, Act.eval]; rfl) (by go_simp) ?_
  refine (sectors_any p.g p.s p.cp p.r D _ HTg.out.dk).mono ?_
  rintro e w' ⟨rfl, rfl⟩
  refine ⟨_, rfl, Only.refl _ _, ?_⟩
  iterate 7 (first | (refine L.ge_off rfl rfl rfl (by rfl) ?_) | (refine L.ge_move rfl rfl rfl (by rfl) rfl (by simp [L.evE, L.lk, Act.eval]; rfl) ?_) | (refine L.ge_pick rfl rfl rfl (by rfl) rfl (by simp [L.evE, L.lk, Act.eval]; rfl) (by simp [L.evE, L.lk, Act.eval]; rfl) ?_) | (refine L.ge_val rfl rfl rfl (by rfl) (by intro w' hw'; simp [execOp, L.evE, L.lk, Act.eval]; go_simp; rfl) ?_))
  refine L.ge_call rfl rfl rfl (by rfl) rfl (by simp [L.evE, L.lk, Act.eval]; rfl) (by go_simp) ?_
  refine (on_any p.g p.s p.cp p.r D _ HTg.out.dk).mono ?_
  rintro e w' ⟨rfl, rfl⟩
  refine ⟨_, rfl, Only.refl _ _, ?_⟩
  have hbb : (!D.off == D.off) = false := by cases D.off <;> rfl
  iterate 8 (first | (refine L.ge_off rfl rfl rfl (by rfl) ?_) | (refine L.ge_move rfl rfl rfl (by rfl) rfl (by simp [L.evE, L.lk, Act.eval]; rfl) ?_) | (refine L.ge_pick rfl rfl rfl (by rfl) rfl (by simp [L.evE, L.lk, Act.eval]; rfl) (by simp [L.evE, L.lk, Act.eval]; rfl) ?_) | (refine L.ge_val rfl rfl rfl (by rfl) (by intro w' hw'; simp [execOp, L.evE, L.lk, Act.eval]; go_simp; rfl) ?_))
  refine L.ge_call rfl rfl rfl (by rfl) rfl (by simp [L.evE, L.lk, Act.eval]; rfl) (by go_simp) ?_
  refine (writes_any p.g p.s p.cp p.r D _ HTg.out.dk).mono ?_
  rintro e w' ⟨rfl, rfl⟩
  refine ⟨_, rfl, Only.refl _ _, ?_⟩
  iterate 2 (first | (refine L.ge_off rfl rfl rfl (by rfl) ?_) | (refine L.ge_move rfl rfl rfl (by rfl) rfl (by simp [L.evE, L.lk, Act.eval]; rfl) ?_) | (refine L.ge_pick rfl rfl rfl (by rfl) rfl (by simp [L.evE, L.lk, Act.eval]; rfl) (by simp [L.evE, L.lk, Act.eval]; rfl) ?_) | (refine L.ge_val rfl rfl rfl (by rfl) (by intro w' hw'; simp [execOp, L.evE, L.lk, Act.eval]; go_simp; rfl) ?_))
  refine L.ge_done ?_
  simp only [L.puts, Act.put, goInt, List.setIfInBounds_toArray, List.set_cons_zero, List.set_cons_succ]
  clear f0 f1 f3 hbb
  go_wp2
  go_loopw [5, 6, 7] (fun i _ _ wr => ∃ j : Nat, j ≤ D.L.length ∧ i = .int .i64 j ∧ Hid (Two wr p D) ∧ Hid (Only [] w wr)) (fun i _ _ _ => D.L.length - (intOf i).toNat)
  case atStart => exact ⟨0, by omega, rfl, HTg.out, HOg.out⟩
  case round =>
    obtain ⟨j, hj, rfl, hT, hO⟩ := hrel
    have e0 := hT.out.rf.c0
    have e1 := hT.out.rf.c1
    by_cases hoff : D.off = true
    · rw [hoff] at e1
      go_wp2
      all_goals
        go_ret
        exact ⟨rfl, hT.out, hO.out⟩
    · have hoff' : D.off = false := by simpa using hoff
      rw [hoff'] at e1
      by_cases hlt : j < D.L.length
      · have hlt' : (j : Int) < D.L.length := by omega
        obtain ⟨bs, hbs⟩ : ∃ bs, D.L[j]? = some bs := ⟨_, List.getElem?_eq_getElem hlt⟩
        have hbl : bs.length = 256 := HD.out.secs _ (List.mem_of_getElem? hbs)
        have HB := Lib.hid hbs
        have HBL := Lib.hid hbl
        have HOF := Lib.hid hoff'
        have HCX := Lib.hid (show wr.cell? ⟨p.s2, j, none⟩ = some (.string ⟨bs.toArray⟩) by
          rw [hT.out.rf.get j hlt]
          rw [List.getElem?_eq_getElem hlt] at hbs
          rw [Option.some.inj hbs]
          rfl)
        clear hbs hbl hoff hoff'
        go_wp2_with fail
        refine (read_is p.g p.s p.cp p.r D j j bs wr hT.out.dk HD.out HOF.out rfl HB.out).mono ?_
        rintro e wa ⟨q, rfl, hq, hql, hoa⟩
        have HTa := Lib.hid (hT.out.only hoa (by simp))
        have HOa := Lib.hid (hO.out.trans hoa)
        have HCa := Lib.hid (hoa.cell HCX.out (by simp))
        have HQ := Lib.hid hq
        clear hq hql hoa e0 e1
        go_wp2_with fail
        refine L.grow_start [] 14 ((0, true, true) :: (1, true, true) :: (2, true, true) :: (3, true, false) :: (4, true, false) :: (5, true, false) :: (6, true, false) :: (7, true, false) :: (8, true, false) :: (9, true, true) :: (10, true, true) :: (11, true, true) :: (12, true, true) :: (13, true, true) :: []) (by kernel_rfl) (([], [7], some 56) :: ([0], [56], some 57) :: ([1], [57], some 58) :: ([2], [6, 58], some 59) :: ([3, 2], [59, 58], some 60) :: ([2], [1, 58], some 61) :: ([5, 2], [61, 58], some 62) :: ([6, 2], [62, 58], some 63) :: ([7, 2], [63, 58], some 64) :: ([2], [5, 58], some 65) :: ([8, 9, 2], [64, 65, 58], some 66) :: ([10, 2], [66, 58], some 67) :: ([4, 11, 2], [60, 67, 58], some 68) :: ([2, 12], [58, 68], some 69) :: []) (by kernel_rfl) (by kernel_rfl) (n := 14) rfl (by kernel_rfl) (fun _ _ _ _ _ h => h) (fun wg hog => ?_)
        refine L.growe_start (N := 70) (by rfl) ?_
        have f0 : ∀ w', Only [] wg w' → w'.cell? ⟨p.g2, 0, none⟩ = some (.slice (some ⟨p.s2, 0, none⟩) D.L.length p.cp2) := fun w' h => h.cell (hog.cell HTa.out.rf.c0 (by simp)) (by simp)
        obtain ⟨x, hx⟩ : ∃ x : ByteArray, x = ⟨bs.toArray⟩ := ⟨_, rfl⟩
        have f1 : ∀ w', Only [] wg w' → w'.cell? ⟨p.s2, j, none⟩ = some (.string x) := fun w' h => by rw [hx]; exact h.cell (hog.cell HCa.out (by simp)) (by simp)
        have hcp : ∀ w', Only [] wg w' → (convert 30 9 (.slice (some ⟨q, 0, none⟩) 256 256)).run Try.prog w' = .ok (.string x) w' := fun w' h => by
          rw [hx]
          exact run_string_row w' 30 9 5 Try.underlying30 Try.underlying5 Try.underlying9 q 256 256 bs _ _ HBL.out ((hog.trans h).heap HQ.out (by simp))
        have HTb := Lib.hid (HTa.out.only hog (by simp))
        have HOb := Lib.hid (HOa.out.trans hog)
        clear hog hx
        iterate 14 (first | (refine L.ge_off rfl rfl rfl (by rfl) ?_) | (refine L.ge_move rfl rfl rfl (by rfl) rfl (by simp [L.evE, L.lk, Act.eval]; rfl) ?_) | (refine L.ge_pick rfl rfl rfl (by rfl) rfl (by simp [L.evE, L.lk, Act.eval]; rfl) (by simp [L.evE, L.lk, Act.eval]; rfl) ?_) | (refine L.ge_val rfl rfl rfl (by rfl) (by intro w' hw'; simp [execOp, L.evE, L.lk, Act.eval]; go_simp; rfl) ?_))
        refine L.ge_done ?_
        simp only [L.puts, Act.put, goInt, List.setIfInBounds_toArray, List.set_cons_zero, List.set_cons_succ]
        clear f0 f1 hcp
        go_wp2
        go_roundw
        case rel => exact ⟨j + 1, by omega, by go_num, HTb, HOb⟩
        case measure => simp [intOf]; omega
      · obtain rfl : j = D.L.length := by omega
        go_wp2
        go_ret
        exact ⟨rfl, hT.out, hO.out⟩
end Go.Proofs.Ytcodnhknlhfalaa
