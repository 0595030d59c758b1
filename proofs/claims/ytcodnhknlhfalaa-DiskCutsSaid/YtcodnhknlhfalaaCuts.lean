/-
  DiskCuts, walked: behind Cut just so many writes are done. For every number 'after' and every list of places.
-/
import Derived.Test.YtcodnhknlhfalaaAwake
import Derived.Test.YtcodnhknlhfalaaCutsPure
namespace Go.Proofs.Ytcodnhknlhfalaa
open Go.RowKit
set_option linter.unusedSimpArgs false
set_option linter.unusedVariables false
set_option maxHeartbeats 1000000 in
set_option maxRecDepth 100000 in
theorem cuts_long (after : Int) (A : Option Addr) (len cap : Nat) (w : World) (hl : 200 < len) (hlm : len ≤ 9223372036854775807) :
    Calls Try.prog 3 #[.int .i64 after, .slice A len cap] w fun e w' => e = .returned (.bool true) ∧ Only [] w w' := by
  have hl' : (200 : Int) < len := by omega
  go_enter Try.func3, Try.ntmps3
  go_wp2_with (first
    | (go_at_call 7; refine (awake_any _).mono ?_; rintro e w1 ⟨rfl, ho1⟩; have HO1 := Lib.hid ho1; clear ho1)
    | (go_at_call 8; refine (new_yes 16 (by omega) (by omega) _).mono ?_; rintro e w2 ⟨g, s, rfl, hI0, hg, hs, ho2⟩; have HO2 := Lib.hid ho2; have HI := Lib.hid hI0; clear ho2 hI0))
  go_ret
  exact ⟨rfl, HO1.out.trans HO2.out⟩
set_option maxHeartbeats 4000000 in
set_option maxRecDepth 100000 in
theorem cuts_any (after : Int) (ha1 : after ≤ 9223372036854775807) (ad : Addr) (len cap : Nat) (z : List Int) (w : World) (hl : len ≤ 200) (hz : len ≤ z.length) (hb : 0 < len → ad.block < w.heap.size)
    (hc : ∀ i, i < len → w.cell? (ad.add i) = some (.int .i64 (z.getD i 0))) (A : Option Addr) (hA : 0 < len → A = some ad) :
    Calls Try.prog 3 #[.int .i64 after, .slice A len cap] w fun e w' => e = .returned (.bool true) ∧ Only [] w w' := by
  have hl' : (len : Int) ≤ 200 := by omega
  have HA := Lib.hid hA
  have HC := Lib.hid hc
  have HB := Lib.hid hb
  clear hA hc hb
  go_enter Try.func3, Try.ntmps3
  go_wp2_with (first
    | (go_at_call 7; refine (awake_any _).mono ?_; rintro e w1 ⟨rfl, ho1⟩; have HO1 := Lib.hid ho1; clear ho1)
    | (go_at_call 8; refine (new_yes 16 (by omega) (by omega) _).mono ?_; rintro e w2 ⟨g, s, rfl, hI0, hg, hs, ho2⟩; have HO2 := Lib.hid ho2; have HI := Lib.hid hI0; clear ho2 hI0)
    | (go_at_call 9; refine (cut_any g s 16 [] _ after _ HI.out).mono ?_; rintro e w3 ⟨rfl, hI3, ho3⟩; have HO3 := Lib.hid ho3; have HI3 := Lib.hid hI3; clear ho3 hI3))
  go_loopw [8, 9] (fun dn i wr => ∃ (k : Nat) (D : Dk), k ≤ len ∧ i = .int .i64 k ∧ dn = .int .i64 D.writes ∧ D.writes ≤ k ∧ Hid (IsDk wr g s 16 [] D) ∧ Hid (Cuts.Inv after D) ∧ Hid (Only [] w wr)) (fun _ i _ => len - (intOf i).toNat)
  case atStart => exact ⟨0, _, by omega, rfl, rfl, by simp [Dk.cut, Dk.new], HI3, Cuts.start after ha1, (HO1.out.trans HO2.out).then HO3.out (by simp; have := HO1.out.size; omega)⟩
  case round =>
    obtain ⟨k, D, hk, rfl, rfl, hwk, hI, hInv, hO⟩ := hrel
    by_cases hlt : k < len
    · obtain rfl := HA.out (by omega)
      have hck' := HC.out k hlt
      generalize z.getD k 0 = x at hck'
      have hbw := HB.out (by omega)
      have hck : wr.cell? (ad.add k) = some (.int .i64 x) := hO.out.cell hck' (by simp)
      have hHgs : w.heap.size ≤ g ∧ w.heap.size ≤ s := ⟨by have := HO1.out.size; omega, by have := HO1.out.size; omega⟩
      obtain ⟨hgw, hsw⟩ := hHgs
      clear hck'
      have hlt' : (k : Int) < len := by omega
      have hk0 : (0 : Int) ≤ k := by omega
      go_wp2_with fail
      refine grow_start [g, s] ((0, true, false) :: (1, true, false) :: (2, true, false) :: (3, true, false) :: (4, true, false) :: (5, true, true) :: (6, true, true) :: (7, false, true) :: (8, false, true) :: (9, true, true) :: []) (by kernel_rfl) (([], [6], some 48) :: ([], [1], some 49) :: ([], [9], some 50) :: ([1, 2], [49, 50], some 51) :: ([3], [51], some 52) :: ([], [9], some 53) :: ([5], [53], some 54) :: ([6], [54], some 55) :: ([0, 4, 7, 7], [48, 52, 55], some 56) :: ([8, 8, 0, 1, 2, 3, 4, 5, 6, 7, 8], [56], some 10) :: []) (by kernel_rfl) (by kernel_rfl) (n := 10) rfl (by kernel_rfl) (fun _ _ _ _ _ h => h) (fun wg hog => ?_)
      refine growe_start (N := 143) (by rfl) ?_
      have hcell : ∀ w', Only [g, s] wg w' → w'.cell? (ad.add k) = some (.int .i64 x) := fun w' h => h.cell (hog.cell hck (by simp)) (by rw [add_block]; simp; omega)
      iterate 7 (first
        | (refine ge_off rfl rfl rfl (by rfl) ?_)
        | (refine ge_move rfl rfl rfl (by rfl) rfl (by simp [evE, lk, Act.eval]; rfl) ?_)
        | (refine ge_pick rfl rfl rfl (by rfl) rfl (by simp [evE, lk, Act.eval]; rfl) (by simp [evE, lk, Act.eval]; rfl) ?_)
        | (refine ge_val rfl rfl rfl (by rfl) (by intro w' hw'; simp [execOp, evE, lk, Act.eval]; go_simp; rfl) ?_))
      -- operation 7: Op.call { callee := Callee.value (Operand.func 11), args := #[Operand.tmp 54], argTypes := #[5] }
      refine ge_call rfl rfl rfl (by rfl) rfl (by simp [evE, lk, Act.eval]; rfl) (by go_simp) ?_
      refine (full_int _ (u8_lo _) (u8_hi _) _).mono ?_
      rintro e wa ⟨b, rfl, hb, hbl, hoa⟩
      refine ⟨_, rfl, hoa.mono (by simp), ?_⟩
      -- operation 8: Op.call { callee := Callee.value (Operand.func 10), args := #[Operand.tmp 48, Operand.tmp 52, Operand.tmp 55], argTypes := #[24, 3, 30] }
      refine ge_call rfl rfl rfl (by rfl) rfl (by simp [evE, lk, Act.eval]; rfl) (by go_simp) ?_
      have hwr0 := hInv.out.ok.wr
      have hst := Cuts.step hInv.out x (sec (UInt8.ofNat (IntKind.u8.wrap (k : Int)).toNat)) (sec_length _)
      have hIa := hI.out.only (hog.trans (hoa.mono (T := []) (by simp))) (by simp) (by simp)
      refine (write_row g s 16 [] D x b 256 (sec (UInt8.ofNat (IntKind.u8.wrap (k : Int)).toNat)) _ wa hIa hInv.out.ok (by omega) hb 256 (sec_length _)).mono ?_
      generalize D.write x (sec (UInt8.ofNat (IntKind.u8.wrap (k : Int)).toNat)) = r at hst
      obtain ⟨f, D'⟩ := r
      simp only at hst
      obtain ⟨hInv', hst⟩ := hst
      have HInv' := Lib.hid hInv'
      have HOa := Lib.hid (Only.then (T := []) (Only.then (T := []) hO.out hog (by simp)) hoa (by simp))
      have HCk := Lib.hid (hoa.cell (hog.cell hck (by simp)) (by simp))
      clear hInv' hInv hI hO hIa hcell hck hog hoa hb hbl HI HI3 HO2 HO3 HC HB
      have hcs : (f = 0 ∧ (0 ≤ x ∧ x < 16) ∧ Hid (D'.off = false) ∧ Hid (D'.writes = D.writes + 1) ∧ after < 0) ∨ (f = 0 ∧ (0 ≤ x ∧ x < 16) ∧ Hid (D'.off = false) ∧ Hid (D'.writes = D.writes + 1) ∧ (0 ≤ after ∧ D.writes + 1 ≤ after)) ∨
          (f = 1 ∧ x < 0 ∧ Hid (D'.off = false) ∧ Hid (D'.writes = D.writes) ∧ True) ∨ (f = 1 ∧ (0 ≤ x ∧ 16 ≤ x) ∧ Hid (D'.off = false) ∧ Hid (D'.writes = D.writes) ∧ True) ∨
          (f = 6 ∧ x < 0 ∧ Hid (D'.off = true) ∧ Hid (D'.writes = D.writes) ∧ (0 ≤ after ∧ D.writes = after)) ∨ (f = 6 ∧ (0 ≤ x ∧ x < 16) ∧ Hid (D'.off = true) ∧ Hid (D'.writes = D.writes) ∧ (0 ≤ after ∧ D.writes = after)) ∨ (f = 6 ∧ (0 ≤ x ∧ 16 ≤ x) ∧ Hid (D'.off = true) ∧ Hid (D'.writes = D.writes) ∧ (0 ≤ after ∧ D.writes = after)) := by
        unfold Hid
        rcases hst with ⟨rfl, hx0, hx1, hw1, hw2, hoff⟩ | ⟨rfl, hx, rfl, hoff⟩ | ⟨rfl, ha0, hw1, hw2, hoff⟩
        · rcases Int.lt_or_le after 0 with h | h
          · exact .inl ⟨rfl, ⟨hx0, hx1⟩, hoff, hw1, h⟩
          · exact .inr (.inl ⟨rfl, ⟨hx0, hx1⟩, hoff, hw1, h, by omega⟩)
        · rcases Int.lt_or_le x 0 with h | h
          · exact .inr (.inr (.inl ⟨rfl, h, hoff, rfl, trivial⟩))
          · exact .inr (.inr (.inr (.inl ⟨rfl, ⟨h, by omega⟩, hoff, rfl, trivial⟩)))
        · rcases Int.lt_or_le x 0 with h | h
          · exact .inr (.inr (.inr (.inr (.inl ⟨rfl, h, hoff, hw1, ha0, hw2⟩))))
          · rcases Int.lt_or_le x 16 with h' | h'
            · exact .inr (.inr (.inr (.inr (.inr (.inl ⟨rfl, ⟨h, h'⟩, hoff, hw1, ha0, hw2⟩)))))
            · exact .inr (.inr (.inr (.inr (.inr (.inr ⟨rfl, ⟨h, h'⟩, hoff, hw1, ha0, hw2⟩)))))
      clear hst
      rcases hcs with ⟨rfl, ⟨hx0, hx1⟩, hoff, hw1, ha⟩ | ⟨rfl, ⟨hx0, hx1⟩, hoff, hw1, ha, ha2⟩ | ⟨rfl, hx, hoff, hw1, _⟩ | ⟨rfl, ⟨hx, hx1⟩, hoff, hw1, _⟩ | ⟨rfl, hx, hoff, hw1, ha, ha2⟩ | ⟨rfl, ⟨hx0, hx1⟩, hoff, hw1, ha, ha2⟩ | ⟨rfl, ⟨hx0, hx1⟩, hoff, hw1, ha, ha2⟩
      all_goals
        rintro e wb ⟨rfl, hIb, hob⟩
        refine ⟨_, rfl, hob, ?_⟩
        have hck2 : wb.cell? (ad.add k) = some (.int .i64 x) := hob.cell HCk.out (by rw [add_block]; simp; omega)
        have HIb := Lib.hid hIb
        have HOb := Lib.hid (HOa.out.then hob (by simp; omega))
        clear hIb hob HCk
        iterate 1 (first
          | (refine ge_off rfl rfl rfl (by rfl) ?_)
          | (refine ge_move rfl rfl rfl (by rfl) rfl (by simp [evE, lk, Act.eval]; rfl) ?_))
        refine ge_done ?_
        simp only [puts, Act.put, List.setIfInBounds_toArray, List.set_cons_zero, List.set_cons_succ]
        go_wp2_with (go_at_call 12; refine (on_any g s 16 [] _ _ HIb.out).mono ?_; rintro e w' ⟨rfl, rfl⟩; rw [hoff.out])
        go_roundw
        case rel =>
          refine ⟨k + 1, D', by omega, by go_num, ?_, by rw [hw1.out]; omega, HIb, HInv', HOb⟩
          rw [hw1.out]
          try (first | rfl | rw [ha2])
        case measure => simp [intOf]; omega
    · have hwr0 := hInv.out.ok.wr
      have hla := Cuts.last hInv.out (sec 1) (sec_length _)
      have hok := Dk.up_ok hInv.out.ok
      go_wp2_with fail
      refine (up_any g s 16 [] D _ hI.out).mono ?_
      rintro e wa ⟨rfl, hIa, hoa⟩
      have HIa := Lib.hid hIa
      have HOa := Lib.hid (hO.out.then hoa (by simp; have := HO1.out.size; omega))
      have HL := Lib.hid hla
      have HK := Lib.hid hok
      clear hIa hoa hla hok hO hI
      go_wp2_with fail
      refine (full_any 1 _).mono ?_
      rintro e wb ⟨rfl, hb, hob⟩
      have HIb := Lib.hid (HIa.out.only hob (by simp) (by simp))
      have HOb := Lib.hid (HOa.out.trans hob)
      have HBb := Lib.hid hb
      clear hb hob HIa HOa
      go_wp2_with fail
      refine (write_row g s 16 [] D.up 3 _ 256 (sec 1) _ wb HIb.out HK.out (by show D.writes < _; omega) HBb.out 256 (sec_length _)).mono ?_
      rw [HL.out.1]
      rintro e wc ⟨rfl, hIc, hoc⟩
      have HIc := Lib.hid hIc
      have HOc := Lib.hid (HOb.out.then hoc (by simp; have := HO1.out.size; omega))
      clear hIc hoc HIb HOb HBb
      go_wp2_with (first
        | (go_at_call 12; refine (on_any g s 16 [] _ _ HIc.out).mono ?_; rintro e w' ⟨rfl, rfl⟩; rw [HL.out.2.2])
        | (go_at_call 14; refine (writes_any g s 16 [] _ _ HIc.out).mono ?_; rintro e w' ⟨rfl, rfl⟩; rw [HL.out.2.1]))
      go_ret
      exact ⟨by simp, HOc.out⟩
end Go.Proofs.Ytcodnhknlhfalaa
