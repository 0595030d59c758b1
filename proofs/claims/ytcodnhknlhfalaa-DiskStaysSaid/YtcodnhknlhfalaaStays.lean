/-
  DiskStays, walked: what was written last to a sector stays there.
-/
import Derived.Test.YtcodnhknlhfalaaOps
import Derived.Test.YtcodnhknlhfalaaStaysPure
namespace Go.Proofs.Ytcodnhknlhfalaa
open Go.RowKit
set_option linter.unusedSimpArgs false
set_option linter.unusedVariables false
theorem arr8Info : (Try.prog.info? 35).map (fun i => (i.zero, i.size, i.bytes)) = some (some (.agg (bcells (List.replicate 8 0)).toArray), 8, 8) := by kernel_rfl
set_option maxHeartbeats 1000000 in
set_option maxRecDepth 100000 in
theorem stays_long (A : Option Addr) (len cap : Nat) (w : World) (hl : 100 < len) (hlm : len ≤ 9223372036854775807) :
    Calls Try.prog 4 #[.slice A len cap] w fun e w' => e = .returned (.bool true) ∧ Only [] w w' := by
  have hl' : (100 : Int) < len := by omega
  go_enter Try.func4, Try.ntmps4
  go_wp2_with (first
    | (go_at_call 7; refine (awake_any _).mono ?_; rintro e w1 ⟨rfl, ho1⟩; have HO1 := Lib.hid ho1; clear ho1)
    | (go_at_call 8; refine (new_yes 8 (by omega) (by omega) _).mono ?_; rintro e w2 ⟨g, s, rfl, hI0, hg, hs, ho2⟩; have HO2 := Lib.hid ho2; have HI := Lib.hid hI0; clear ho2 hI0))
  go_ret
  exact ⟨rfl, HO1.out.trans HO2.out⟩
set_option maxHeartbeats 8000000 in
set_option maxRecDepth 100000 in
theorem stays_any (A : Option Addr) (cap : Nat) (xs : List OpD) (w : World) (hl : xs.length ≤ 100) (hA : rdRow 3 rdOp w A xs) :
    Calls Try.prog 4 #[.slice A xs.length cap] w fun e w' => e = .returned (.bool true) ∧ Only [] w w' := by
  have hl' : (xs.length : Int) ≤ 100 := by omega
  have hd : (decide ((100 : Int) < xs.length)) = false := by simp; omega
  have HA := Lib.hid hA
  clear hA
  obtain ⟨len, hlen⟩ : ∃ len, len = xs.length := ⟨_, rfl⟩
  have HL := Lib.hid hlen
  rw [← hlen] at hl hl' hd ⊢
  clear hlen
  go_enter Try.func4, Try.ntmps4
  go_wp2_with (first
    | (go_at_call 7; refine (awake_any _).mono ?_; rintro e w1 ⟨rfl, ho1⟩; have HO1 := Lib.hid ho1; clear ho1)
    | (go_at_call 8; refine (new_yes 8 (by omega) (by omega) _).mono ?_; rintro e w2 ⟨g, s, rfl, hI0, hg, hs, ho2⟩; have HO2 := Lib.hid (HO1.out.trans ho2); have HI := Lib.hid hI0; clear ho2 hI0)
    | (with_reducible refine wpList_alloc_new rfl 35 rfl _ 8 8 arr8Info ?_; intro w3 hh3 hs3 ho3))
  have HI3 := Lib.hid (HI.out.only ho3 (by simp) (by simp))
  have HO3 := Lib.hid (HO2.out.trans ho3)
  have hp : w.heap.size ≤ w2.heap.size := HO2.out.size
  have hB1 := HO1.out.size
  have hgW : w.heap.size ≤ g := by omega
  have hsW : w.heap.size ≤ s := by omega
  have hgl := heap_lt HI.out.hd
  have hsl := heap_lt HI.out.sec
  generalize w2.heap.size = pl at *
  clear HI HO2 hs3 ho3
  go_loopw [7] (fun i wr => ∃ (k : Nat) (D : Dk) (last : List UInt8), k ≤ len ∧ i = .int .i64 k ∧ Hid (IsDk wr g s 8 [] D) ∧ Hid (Stays.Inv D last) ∧ Hid (wr.heap[pl]? = some (.cells (bcells last).toArray 35 (0, 0))) ∧ Hid (D.writes ≤ k) ∧ Hid (Only [] w wr)) (fun i _ => len - (intOf i).toNat)
  case atStart => exact ⟨0, _, _, by omega, rfl, HI3, Stays.start, hh3, by simp [Dk.new, Hid], HO3⟩
  case round =>
    obtain ⟨k, D, last, hk, rfl, hI, hInv, hP, hW, hO⟩ := hrel
    clear HI3 HO3 hh3
    by_cases hlt : k < len
    · have hb := hO.out.nil_below
      obtain ⟨ad, B, cp, rfl, hc0, hc1, hc2, wf0, wf1, hlB, hcB, hrow⟩ := op_at (rdRow_below rdOp_stable HA.out hb) k (by rw [← HL.out]; exact hlt)
      have hab : ad.block < w.heap.size := by
        obtain ⟨ad', B', cp', he, h0, _⟩ := op_at HA.out k (by rw [← HL.out]; exact hlt)
        cases he
        have := block_lt_of_cell h0
        rwa [add_block] at this
      have hrow0 : rdRow 1 (rdInt .u8) w B (xs[k]'(by rw [← HL.out]; exact hlt)).2.2.1 := by
        obtain ⟨ad', B', cp', he, h0, h1, h2, _, _, _, _, hr⟩ := op_at HA.out k (by rw [← HL.out]; exact hlt)
        cases he
        have := (hb.cell (by simp only [add_block]; exact hab)).trans h2
        rw [hc2] at this
        cases this
        exact hr
      generalize xs[k]'(by rw [← HL.out]; exact hlt) = o at *
      obtain ⟨kind, at_, bs, _⟩ := o
      simp only at hc0 hc1 hc2 wf0 wf1 hlB hrow hrow0
      have hat1 := (wf_i64 wf1).2
      have hlt' : (k : Int) < len := by omega
      have hk0 : (0 : Int) ≤ k := by omega
      clear wf0 wf1
      by_cases hkind : kind = 2
      · subst hkind
        go_wp2_with fail
        refine (cut_any g s 8 [] D at_ _ hI.out).mono ?_
        rintro e wa ⟨rfl, hIa, hoa⟩
        have HIa := Lib.hid hIa
        have HPa := Lib.hid (hoa.heap hP.out (by simp; omega))
        have HOa := Lib.hid (hO.out.then hoa (by simp; omega))
        clear hIa hoa hI hP hO
        go_wp2
        go_roundw
        case rel => exact ⟨k + 1, _, last, by omega, by go_num, HIa, Stays.cut hInv.out at_ hat1, HPa, by have := hW.out; simp only [Hid, Dk.cut]; omega, HOa⟩
        case measure => simp [intOf]; omega
      · have hkb : (kind == 2) = false := by simpa using hkind
        clear hkind
        go_wp2_with (go_at_call 15; refine (first_any B cp bs wr hrow).mono ?_; rintro e w' ⟨rfl, rfl⟩)
        refine grow_start [g, s] ((0, true, false) :: (1, true, false) :: (2, true, false) :: (3, true, false) :: (4, true, false) :: (5, true, false) :: (6, true, true) :: (7, false, true) :: (8, false, true) :: (9, true, true) :: []) (by kernel_rfl) (([], [4], some 63) :: ([], [0], some 64) :: ([], [7], some 65) :: ([1, 2], [64, 65], some 66) :: ([3], [66], some 67) :: ([4], [67], some 68) :: ([], [8], some 69) :: ([6], [69], some 70) :: ([0, 5, 7, 7], [63, 68, 70], some 71) :: ([8, 8, 0, 1, 2, 3, 4, 5, 6, 7, 8], [71], some 9) :: []) (by kernel_rfl) (by kernel_rfl) (n := 10) rfl (by kernel_rfl) (fun _ _ _ _ _ h => h) (fun wg hog => ?_)
        refine growe_start (N := 123) (by rfl) ?_
        have hcell : ∀ w', Only [g, s] wg w' → w'.cell? ⟨(ad.add (k * 3)).block, (ad.add (k * 3)).off + 1, none⟩ = some (.int .i64 at_) := fun w' h => h.cell (hog.cell hc1 (by simp)) (by simp only [add_block]; simp; omega)
        iterate 7 (first
          | (refine ge_off rfl rfl rfl (by rfl) ?_)
          | (refine ge_move rfl rfl rfl (by rfl) rfl (by simp [evE, lk, Act.eval]; rfl) ?_)
          | (refine ge_pick rfl rfl rfl (by rfl) rfl (by simp [evE, lk, Act.eval]; rfl) (by simp [evE, lk, Act.eval]; rfl) ?_)
          | (refine ge_val rfl rfl rfl (by rfl) (by intro w' hw'; simp [execOp, evE, lk, Act.eval]; go_simp; rfl) ?_))
        -- operation 7: Op.call { callee := Callee.value (Operand.func 11), args := #[Operand.tmp 69], argTypes := #[5] }
        refine ge_call rfl rfl rfl (by rfl) rfl (by simp [evE, lk, Act.eval]; rfl) (by go_simp) ?_
        have hx := fst8_range bs wr B hrow
        refine (full_int _ hx.1 hx.2 _).mono ?_
        obtain ⟨x, hxd⟩ : ∃ x : UInt8, x = UInt8.ofNat (fst8 bs).toNat := ⟨_, rfl⟩
        have hxn : ((x.toNat : Nat) : Int) = fst8 bs := by rw [hxd]; simp; omega
        rw [← hxd]
        rintro e wa ⟨b, rfl, hb2, hbl, hoa⟩
        refine ⟨_, rfl, hoa.mono (by simp), ?_⟩
        -- operation 8: Op.call { callee := Callee.value (Operand.func 10), args := #[Operand.tmp 63, Operand.tmp 68, Operand.tmp 70], argTypes := #[24, 3, 30] }
        refine ge_call rfl rfl rfl (by rfl) rfl (by simp [evE, lk, Act.eval]; rfl) (by go_simp) ?_
        have hst := Stays.step hInv.out at_ x
        have hIa := hI.out.only (hog.trans (hoa.mono (T := []) (by simp))) (by simp) (by simp)
        have hwr := hW.out
        refine (write_row g s 8 [] D at_ b 256 (sec x) _ wa hIa hInv.out.ok (by omega) hb2 256 (sec_length _)).mono ?_
        generalize D.write at_ (sec x) = r at hst
        obtain ⟨f, D'⟩ := r
        simp only at hst
        have HOa := Lib.hid (Only.then (T := []) (Only.then (T := []) hO.out hog (by simp)) hoa (by simp))
        have HPa := Lib.hid (hoa.heap (hog.heap hP.out (by simp)) (by simp))
        have HC1 := Lib.hid (hoa.cell (hog.cell hc1 (by simp)) (by simp))
        have HXN := Lib.hid hxn
        clear hInv hI hO hP hIa hcell hog hoa hb2 hbl hc0 hc1 hc2 hrow hrow0 hxd hx hb hwr hxn
        rcases hst with ⟨rfl, ha0, ha1, hInv', hw1⟩ | ⟨rfl, hInv', hw1⟩ | ⟨rfl, hInv', hw1⟩
        · have HInv := Lib.hid hInv'
          have HW1 := Lib.hid hw1
          clear hInv' hw1
          rintro e wb ⟨rfl, hIb, hob⟩
          refine ⟨_, rfl, hob, ?_⟩
          have hc1b : wb.cell? ⟨(ad.add (k * 3)).block, (ad.add (k * 3)).off + 1, none⟩ = some (.int .i64 at_) := hob.cell HC1.out (by simp only [add_block]; simp; omega)
          have HIb := Lib.hid hIb
          have HPb := Lib.hid (hob.heap HPa.out (by simp; omega))
          have HOb := Lib.hid (HOa.out.then hob (by simp; omega))
          clear hIb hob HC1 HOa HPa
          iterate 1 (first
            | (refine ge_off rfl rfl rfl (by rfl) ?_)
            | (refine ge_move rfl rfl rfl (by rfl) rfl (by simp [evE, lk, Act.eval]; rfl) ?_)
            | (refine ge_pick rfl rfl rfl (by rfl) rfl (by simp [evE, lk, Act.eval]; rfl) (by simp [evE, lk, Act.eval]; rfl) ?_)
            | (refine ge_val rfl rfl rfl (by rfl) (by intro w' hw'; simp [execOp, evE, lk, Act.eval]; go_simp; rfl) ?_))
          refine ge_done ?_
          simp only [puts, Act.put, List.setIfInBounds_toArray, List.set_cons_zero, List.set_cons_succ]
          obtain ⟨j, rfl⟩ : ∃ j : Nat, at_ = j := ⟨at_.toNat, by omega⟩
          have hj : j < 8 := by omega
          have hj1 : (j : Int) ≤ 7 := by omega
          have hj0 : (0 : Int) ≤ j := by omega
          have hlast : ∃ v, wb.cell? ⟨pl, j, none⟩ = some v := by
            rw [cell_of_row wb pl j _ _ _ HPb.out, List.getElem?_toArray, bcells_get, List.getElem?_eq_getElem (by
              have := HInv.out.len
              rw [List.length_set] at this
              omega)]
            exact ⟨_, rfl⟩
          obtain ⟨v, hlast⟩ := hlast
          have hfz : wb.frozen? ⟨pl, j, none⟩ = false := frozen_of_row wb pl j _ _ HPb.out
          go_wp2
          go_roundw
          case rel =>
            refine ⟨k + 1, D', _, by omega, by go_num, ⟨?_, ?_⟩, HInv, ?_, by have := HW1.out; have := hW.out; simp only [Hid]; omega, HOb.out.setCell (by simp; omega) _⟩
            · rw [heap_setCell_other _ _ _ _ (by simp; omega)]; exact HIb.out.hd
            · rw [heap_setCell_other _ _ _ _ (by simp; omega)]; exact HIb.out.sec
            · show _ = _
              rw [heap_setCell_same _ pl j _ _ _ HPb.out]
              simp only [Int.toNat_natCast, bcells, List.map_set, List.setIfInBounds_toArray]
              rw [← HXN.out]
              rfl
          case measure => simp [intOf]; omega
        · have HInv := Lib.hid hInv'
          have HW1 := Lib.hid hw1
          clear hInv' hw1
          rintro e wb ⟨rfl, hIb, hob⟩
          refine ⟨_, rfl, hob, ?_⟩
          have hc1b : wb.cell? ⟨(ad.add (k * 3)).block, (ad.add (k * 3)).off + 1, none⟩ = some (.int .i64 at_) := hob.cell HC1.out (by simp only [add_block]; simp; omega)
          have HIb := Lib.hid hIb
          have HPb := Lib.hid (hob.heap HPa.out (by simp; omega))
          have HOb := Lib.hid (HOa.out.then hob (by simp; omega))
          clear hIb hob HC1 HOa HPa
          iterate 1 (first
            | (refine ge_off rfl rfl rfl (by rfl) ?_)
            | (refine ge_move rfl rfl rfl (by rfl) rfl (by simp [evE, lk, Act.eval]; rfl) ?_)
            | (refine ge_pick rfl rfl rfl (by rfl) rfl (by simp [evE, lk, Act.eval]; rfl) (by simp [evE, lk, Act.eval]; rfl) ?_)
            | (refine ge_val rfl rfl rfl (by rfl) (by intro w' hw'; simp [execOp, evE, lk, Act.eval]; go_simp; rfl) ?_))
          refine ge_done ?_
          simp only [puts, Act.put, List.setIfInBounds_toArray, List.set_cons_zero, List.set_cons_succ]
          go_wp2
          go_roundw
          case rel => exact ⟨k + 1, D', last, by omega, by go_num, HIb, HInv, HPb, by have := HW1.out; have := hW.out; simp only [Hid]; omega, HOb⟩
          case measure => simp [intOf]; omega
        · have HInv := Lib.hid hInv'
          have HW1 := Lib.hid hw1
          clear hInv' hw1
          rintro e wb ⟨rfl, hIb, hob⟩
          refine ⟨_, rfl, hob, ?_⟩
          have hc1b : wb.cell? ⟨(ad.add (k * 3)).block, (ad.add (k * 3)).off + 1, none⟩ = some (.int .i64 at_) := hob.cell HC1.out (by simp only [add_block]; simp; omega)
          have HIb := Lib.hid hIb
          have HPb := Lib.hid (hob.heap HPa.out (by simp; omega))
          have HOb := Lib.hid (HOa.out.then hob (by simp; omega))
          clear hIb hob HC1 HOa HPa
          iterate 1 (first
            | (refine ge_off rfl rfl rfl (by rfl) ?_)
            | (refine ge_move rfl rfl rfl (by rfl) rfl (by simp [evE, lk, Act.eval]; rfl) ?_)
            | (refine ge_pick rfl rfl rfl (by rfl) rfl (by simp [evE, lk, Act.eval]; rfl) (by simp [evE, lk, Act.eval]; rfl) ?_)
            | (refine ge_val rfl rfl rfl (by rfl) (by intro w' hw'; simp [execOp, evE, lk, Act.eval]; go_simp; rfl) ?_))
          refine ge_done ?_
          simp only [puts, Act.put, List.setIfInBounds_toArray, List.set_cons_zero, List.set_cons_succ]
          go_wp2_with (go_at_call 13; refine (up_any g s 8 [] D' _ HIb.out).mono ?_; rintro e wc ⟨rfl, hIc, hoc⟩; have HIc := Lib.hid hIc; have HPc := Lib.hid (hoc.heap HPb.out (by simp; omega)); have HOc := Lib.hid (HOb.out.then hoc (by simp; omega)); clear hIc hoc)
          go_roundw
          case rel => exact ⟨k + 1, D'.up, last, by omega, by go_num, HIc, Stays.up HInv.out, HPc, by have := HW1.out; have := hW.out; simp only [Hid, Dk.up]; omega, HOc⟩
          case measure => simp [intOf]; omega
    · go_wp2_with fail
      refine (up_any g s 8 [] D _ hI.out).mono ?_
      rintro e wa ⟨rfl, hIa, hoa⟩
      have HIa := Lib.hid hIa
      have HPa := Lib.hid (hoa.heap hP.out (by simp; omega))
      have HOa := Lib.hid (hO.out.then hoa (by simp; omega))
      have hwr := hW.out
      clear hIa hoa hI hP hO
      go_wp2
      go_loopw [10] (fun i wr => ∃ j : Nat, j ≤ 8 ∧ i = .int .i64 j ∧ Hid (IsDk wr g s 8 [] D.up) ∧ Hid (wr.heap[pl]? = some (.cells (bcells last).toArray 35 (0, 0))) ∧ Hid (Only [] w wr)) (fun i _ => 8 - (intOf i).toNat)
      case atStart => exact ⟨0, by omega, rfl, HIa, HPa, HOa⟩
      case round =>
        obtain ⟨j, hj, rfl, hI, hP, hO⟩ := hrel
        clear HIa HPa HOa
        by_cases hlt3 : j < 8
        · have hlt3' : (j : Int) < 8 := by omega
          have hj0 : (0 : Int) ≤ j := by omega
          obtain ⟨x, hx⟩ : ∃ x, last[j]? = some x := ⟨_, List.getElem?_eq_getElem (by rw [hInv.out.len]; exact hlt3)⟩
          go_wp2_with fail
          refine (read_is g s 8 [] _ j j (sec x) _ hI.out (Stays.up hInv.out).ok rfl rfl (Stays.get hInv.out j x hx)).mono ?_
          rintro e we ⟨p2, rfl, hp, hpl2, hoe⟩
          have HP2 := Lib.hid hp
          have HIe := Lib.hid (hI.out.only hoe (by simp) (by simp))
          have HPe := Lib.hid (hoe.heap hP.out (by simp))
          have HOe := Lib.hid (hO.out.trans hoe)
          have HCL := Lib.hid (show we.cell? ⟨pl, j, none⟩ = some (.int .u8 x.toNat) by
            rw [cell_of_row we pl j _ _ _ HPe.out, List.getElem?_toArray, bcells_get, hx]; rfl)
          clear hp hoe hI hO hP hx
          go_wp2_with fail
          refine grow_start [] ((0, true, true) :: (1, true, true) :: (2, true, true) :: (3, true, false) :: (4, true, false) :: (5, true, true) :: (6, true, true) :: (7, true, true) :: (8, true, true) :: (9, true, true) :: (10, true, true) :: (11, true, true) :: []) (by kernel_rfl) (([], [12], some 111) :: ([0], [111], some 112) :: ([1], [112], some 113) :: ([2], [11, 113], some 114) :: ([3, 2], [114, 113], some 115) :: ([2], [10, 113], some 116) :: ([5, 2], [6, 116, 113], some 117) :: ([6, 2], [117, 113], some 118) :: ([7, 2, 2], [118, 113], some 119) :: ([8, 2], [119, 113], some 120) :: ([4, 9, 2], [115, 120, 113], some 121) :: ([2, 10], [113, 121], some 122) :: []) (by kernel_rfl) (by kernel_rfl) (n := 12) rfl (by kernel_rfl) (fun _ _ _ _ _ h => h) (fun wg hog => ?_)
          refine growe_start (N := 123) (by rfl) ?_
          have hcp : ∀ w', Only [] wg w' → (convert 30 9 (.slice (some ⟨p2, 0, none⟩) 256 256)).run Try.prog w' = .ok (.string ⟨(sec x).toArray⟩) w' := fun w' h =>
            run_string_row w' 30 9 5 Try.underlying30 Try.underlying5 Try.underlying9 p2 256 256 (sec x) _ _ (sec_length _) ((hog.trans h).heap HP2.out (by simp))
          have hlc : ∀ w', Only [] wg w' → w'.cell? ⟨pl, j, none⟩ = some (.int .u8 x.toNat) := fun w' h => h.cell (hog.cell HCL.out (by simp)) (by simp)
          iterate 8 (first
            | (refine ge_off rfl rfl rfl (by rfl) ?_)
            | (refine ge_move rfl rfl rfl (by rfl) rfl (by simp [evE, lk, Act.eval]; rfl) ?_)
            | (refine ge_pick rfl rfl rfl (by rfl) rfl (by simp [evE, lk, Act.eval]; rfl) (by simp [evE, lk, Act.eval]; rfl) ?_)
            | (refine ge_val rfl rfl rfl (by rfl) (by intro w' hw'; simp [execOp, evE, lk, Act.eval]; go_simp; rfl) ?_))
          -- operation 8: Op.call { callee := Callee.value (Operand.func 11), args := #[Operand.tmp 118], argTypes := #[5] }
          refine ge_call rfl rfl rfl (by rfl) rfl (by simp [evE, lk, Act.eval]; rfl) (by go_simp) ?_
          refine (full_any x _).mono ?_
          rintro e wa ⟨rfl, hb11, hoa⟩
          generalize wg.heap.size = b11 at *
          have hca : ∀ w', Only [] wa w' → (convert 30 9 (.slice (some ⟨b11, 0, none⟩) 256 256)).run Try.prog w' = .ok (.string ⟨(sec x).toArray⟩) w' := fun w' h =>
            run_string_row w' 30 9 5 Try.underlying30 Try.underlying5 Try.underlying9 b11 256 256 (sec x) _ _ (sec_length _) (h.heap hb11 (by simp))
          have HIf := Lib.hid (HIe.out.only (hog.trans hoa) (by simp) (by simp))
          have HPf := Lib.hid ((hog.trans hoa).heap HPe.out (by simp))
          have HOf := Lib.hid (HOe.out.trans (hog.trans hoa))
          refine ⟨_, rfl, hoa, ?_⟩
          clear hcp hlc hog hoa hb11 HP2 HIe HOe HPe HCL
          iterate 3 (first
            | (refine ge_off rfl rfl rfl (by rfl) ?_)
            | (refine ge_move rfl rfl rfl (by rfl) rfl (by simp [evE, lk, Act.eval]; rfl) ?_)
            | (refine ge_pick rfl rfl rfl (by rfl) rfl (by simp [evE, lk, Act.eval]; rfl) (by simp [evE, lk, Act.eval]; rfl) ?_)
            | (refine ge_val rfl rfl rfl (by rfl) (by intro w' hw'; simp [execOp, evE, lk, Act.eval]; go_simp; rfl) ?_))
          refine ge_done ?_
          simp only [puts, Act.put, List.setIfInBounds_toArray, List.set_cons_zero, List.set_cons_succ]
          go_wp2
          go_roundw
          case rel => exact ⟨j + 1, by omega, by go_num, HIf, HPf, HOf⟩
          case measure => simp [intOf]; omega
        · obtain rfl : j = 8 := by omega
          go_wp2
          go_ret
          exact ⟨rfl, hO.out⟩
/-- The walk at whatever input. -/
theorem diskStays_walk (A : Option Addr) (cap : Nat) (xs : List OpD) (w : World) (hl : xs.length ≤ cap) (hb : cap * 40 ≤ 140737488351232) (hr : rdRow 3 rdOp w A xs) :
    Calls Try.prog 4 #[.slice A xs.length cap] w fun e w' => e = .returned (.bool true) ∧ Only [] w w' := by
  by_cases h : xs.length ≤ 100
  · exact stays_any A cap xs w h hr
  · exact stays_long A xs.length cap w (by omega) (by omega)
end Go.Proofs.Ytcodnhknlhfalaa
