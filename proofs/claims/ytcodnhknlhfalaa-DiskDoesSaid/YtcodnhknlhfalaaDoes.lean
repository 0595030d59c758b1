/-
  A call of both disks.
-/
import Derived.Test.YtcodnhknlhfalaaDoesK
namespace Go.Proofs.Ytcodnhknlhfalaa
open Go.RowKit
set_option linter.unusedSimpArgs false
set_option linter.unusedVariables false
set_option linter.unusedSectionVars false
section
variable (p : Where) (D : Dk) (at_ : Int) (B : Option Addr) (cp : Nat) (l : List UInt8) (w : World) (h : Two w p D) (hD : D.Ok) (hwr : D.writes < 900000000)
include h hD hwr
theorem does_cut :
    Calls Try.prog 20 #[.pointer (some ⟨p.g, 0, none⟩), .pointer (some ⟨p.g2, 0, none⟩), .agg #[.int .i64 2, .int .i64 at_, .slice B l.length cp]] w fun e w' => e = .returned (.bool true) ∧ Two w' p (D.cut at_) ∧ Only p.blocks w w' := by
  have HT := Lib.hid h
  have HD := Lib.hid hD
  have hlt := h.lt
  have hg := hlt p.g (by simp [Where.blocks])
  have hs := hlt p.s (by simp [Where.blocks])
  have hg2 := hlt p.g2 (by simp [Where.blocks])
  have hs2 := hlt p.s2 (by simp [Where.blocks])
  have hap := h.apart
  have hne := h.dk.ne
  have hne2 := h.rf.ne
  clear hlt h hD hwr
  go_enter Try.func20, Try.ntmps20
  go_wp2_with fail
  refine (cut_any p.g p.s p.cp p.r D at_ _ (HT.out.dk.only ((Only.refl [] w).alloc _) (by simp) (by simp))).mono ?_
  rintro e w1 ⟨rfl, hk1, ho1⟩
  have HK1 := Lib.hid hk1
  have hr1 := HT.out.rf.only (((Only.refl [p.g] w).alloc _).trans ho1) (by simp; omega) (by simp; omega)
  have HR1 := Lib.hid hr1
  have hca : w1.cell? ⟨w.heap.size, 1, none⟩ = some (.int .i64 at_) := by
    rw [cell_of_row w1 _ 1 _ _ _ (ho1.heap (heap_alloc_new w _) (by simp; omega))]; rfl
  have HO1 := Lib.hid (((Only.refl [p.g] w).alloc _).trans ho1)
  clear hk1 hr1 ho1
  go_wp2_with fail
  refine (rcut_any p.g2 p.s2 p.cp2 p.r2 D at_ _ HR1.out).mono ?_
  rintro e w2 ⟨rfl, hr2, ho2⟩
  have HR2 := Lib.hid hr2
  have HK2 := Lib.hid (HK1.out.only ho2 (by simp; omega) (by simp; omega))
  have HO2 := Lib.hid ((HO1.out.mono (T := p.blocks) (by simp [Where.blocks])).trans (ho2.mono (T := p.blocks) (by simp [Where.blocks])))
  clear hr2 ho2
  go_wp2
  go_ret
  exact ⟨rfl, ⟨HK2.out, HR2.out⟩, HO2.out⟩
theorem does_up :
    Calls Try.prog 20 #[.pointer (some ⟨p.g, 0, none⟩), .pointer (some ⟨p.g2, 0, none⟩), .agg #[.int .i64 3, .int .i64 at_, .slice B l.length cp]] w fun e w' => e = .returned (.bool true) ∧ Two w' p (D.up) ∧ Only p.blocks w w' := by
  have HT := Lib.hid h
  have HD := Lib.hid hD
  have hlt := h.lt
  have hg := hlt p.g (by simp [Where.blocks])
  have hs := hlt p.s (by simp [Where.blocks])
  have hg2 := hlt p.g2 (by simp [Where.blocks])
  have hs2 := hlt p.s2 (by simp [Where.blocks])
  have hap := h.apart
  have hne := h.dk.ne
  have hne2 := h.rf.ne
  clear hlt h hD hwr
  go_enter Try.func20, Try.ntmps20
  go_wp2_with fail
  refine (up_any p.g p.s p.cp p.r D _ (HT.out.dk.only ((Only.refl [] w).alloc _) (by simp) (by simp))).mono ?_
  rintro e w1 ⟨rfl, hk1, ho1⟩
  have HK1 := Lib.hid hk1
  have hr1 := HT.out.rf.only (((Only.refl [p.g] w).alloc _).trans ho1) (by simp; omega) (by simp; omega)
  have HR1 := Lib.hid hr1
  have HO1 := Lib.hid (((Only.refl [p.g] w).alloc _).trans ho1)
  clear hk1 hr1 ho1
  go_wp2_with fail
  refine (rup_any p.g2 p.s2 p.cp2 p.r2 D _ HR1.out).mono ?_
  rintro e w2 ⟨rfl, hr2, ho2⟩
  have HR2 := Lib.hid hr2
  have HK2 := Lib.hid (HK1.out.only ho2 (by simp; omega) (by simp; omega))
  have HO2 := Lib.hid ((HO1.out.mono (T := p.blocks) (by simp [Where.blocks])).trans (ho2.mono (T := p.blocks) (by simp [Where.blocks])))
  clear hr2 ho2
  go_wp2
  go_ret
  exact ⟨rfl, ⟨HK2.out, HR2.out⟩, HO2.out⟩
theorem does_else (k : Int) (h0 : k ≠ 0) (h5 : k ≠ 5) (h1 : k ≠ 1) (h2 : k ≠ 2) (h3 : k ≠ 3) :
    Calls Try.prog 20 #[.pointer (some ⟨p.g, 0, none⟩), .pointer (some ⟨p.g2, 0, none⟩), .agg #[.int .i64 k, .int .i64 at_, .slice B l.length cp]] w fun e w' => e = .returned (.bool true) ∧ Two w' p (D) ∧ Only p.blocks w w' := by
  have HT := Lib.hid h
  have e0 : (k == 0) = false := by simpa using h0
  have e5 : (k == 5) = false := by simpa using h5
  have e1 : (k == 1) = false := by simpa using h1
  have e2 : (k == 2) = false := by simpa using h2
  have e3 : (k == 3) = false := by simpa using h3
  clear h hD hwr h0 h1 h2 h3 h5
  go_enter Try.func20, Try.ntmps20
  go_wp2
  go_ret
  exact ⟨rfl, HT.out.only ((Only.refl [] w).alloc _) (by simp), (Only.refl _ w).alloc _⟩
theorem does_read_no (v : Int) (hv : v ≠ 0) (hw : D.wrong at_ = v) :
    Calls Try.prog 20 #[.pointer (some ⟨p.g, 0, none⟩), .pointer (some ⟨p.g2, 0, none⟩), .agg #[.int .i64 1, .int .i64 at_, .slice B l.length cp]] w fun e w' => e = .returned (.bool true) ∧ Two w' p (D) ∧ Only p.blocks w w' := by
  have HT := Lib.hid h
  have HD := Lib.hid hD
  have hlt := h.lt
  have hg := hlt p.g (by simp [Where.blocks])
  have hs := hlt p.s (by simp [Where.blocks])
  have hg2 := hlt p.g2 (by simp [Where.blocks])
  have hs2 := hlt p.s2 (by simp [Where.blocks])
  have hap := h.apart
  have hne := h.dk.ne
  have hne2 := h.rf.ne
  have HV := Lib.hid hv
  have HW := Lib.hid hw
  clear hlt h hD hwr hw hv
  go_enter Try.func20, Try.ntmps20
  go_wp2_with fail
  have ho0 := (Only.refl [] w).alloc (.cells #[.int .i64 1, .int .i64 at_, .slice B l.length cp] 37)
  refine (read_no p.g p.s p.cp p.r D at_ _ (HT.out.dk.only ho0 (by simp) (by simp)) v HV.out HW.out).mono ?_
  rintro e w1 ⟨rfl, rfl⟩
  clear ho0
  go_wp2_with fail
  have ho0 := (Only.refl [] w).alloc (.cells #[.int .i64 1, .int .i64 at_, .slice B l.length cp] 37)
  refine (rread_any p.g2 p.s2 p.cp2 p.r2 D at_ _ (HT.out.rf.only ho0 (by simp) (by simp))).mono ?_
  have e0 : txt (D.rd at_) = .string ⟨#[]⟩ := by unfold Dk.rd; rw [if_neg (by rw [HW.out]; exact HV.out)]; rfl
  rw [e0, HW.out]
  rintro e w1 ⟨rfl, rfl⟩
  clear e0 ho0
  have hcn := fun w => run_string_none (P := Try.prog) w 30 9 5 Try.underlying30 Try.underlying5 Try.underlying9
  go_wp2
  go_loopw [16] (fun i wr => i = .int .i64 0 ∧ Hid (Two wr p D) ∧ Hid (Only p.blocks w wr)) (fun i _ => 0)
  case atStart => exact ⟨rfl, HT.out.only ((Only.refl [] w).alloc _) (by simp), (Only.refl _ _).alloc _⟩
  case round =>
    obtain ⟨rfl, hT, hO⟩ := hrel
    go_wp2
    go_ret
    exact ⟨rfl, hT.out, hO.out⟩
set_option maxRecDepth 100000 in
theorem does_read_yes (hw : D.wrong at_ = 0) (hoff : D.off = false) (k : Nat) (hk : at_ = k) (hkl : k < D.L.length) :
    Calls Try.prog 20 #[.pointer (some ⟨p.g, 0, none⟩), .pointer (some ⟨p.g2, 0, none⟩), .agg #[.int .i64 1, .int .i64 at_, .slice B l.length cp]] w fun e w' => e = .returned (.bool true) ∧ Two w' p (D) ∧ Only p.blocks w w' := by
  have hb : D.L[k]? = some D.L[k] := List.getElem?_eq_getElem hkl
  have hrd : D.rd at_ = D.L[k] := by unfold Dk.rd; rw [if_pos hw, hk, Int.toNat_natCast, List.getD_eq_getElem?_getD, hb]; rfl
  have hbl := hD.secs _ (List.getElem_mem hkl)
  generalize D.L[k] = bs at *
  have HT := Lib.hid h
  have HD := Lib.hid hD
  have hlt := h.lt
  have hg := hlt p.g (by simp [Where.blocks])
  have hs := hlt p.s (by simp [Where.blocks])
  have hg2 := hlt p.g2 (by simp [Where.blocks])
  have hs2 := hlt p.s2 (by simp [Where.blocks])
  have hap := h.apart
  have hne := h.dk.ne
  have hne2 := h.rf.ne
  have HW := Lib.hid hw
  have HB := Lib.hid hb
  have HRD := Lib.hid hrd
  have HBL := Lib.hid hbl
  have HKK := Lib.hid hk
  have HOF := Lib.hid hoff
  clear hlt h hD hwr hw hb hrd hbl hk hoff hkl
  go_enter Try.func20, Try.ntmps20
  go_wp2_with fail
  have ho0 := (Only.refl [] w).alloc (.cells #[.int .i64 1, .int .i64 at_, .slice B l.length cp] 37)
  refine (read_is p.g p.s p.cp p.r D at_ k bs _ (HT.out.dk.only ho0 (by simp) (by simp)) HD.out HOF.out HKK.out HB.out).mono ?_
  rintro e w1 ⟨q, rfl, hq, hql, ho1⟩
  have HT1 := Lib.hid (HT.out.only (ho0.trans ho1) (by simp))
  have HO1 := Lib.hid (ho0.trans ho1)
  have hcp : (convert 30 9 (.slice (some ⟨q, 0, none⟩) 256 256)).run Try.prog w1 = .ok (.string ⟨bs.toArray⟩) w1 :=
    run_string_row w1 30 9 5 Try.underlying30 Try.underlying5 Try.underlying9 q 256 256 bs _ _ HBL.out hq
  have hca : w1.cell? ⟨w.heap.size, 1, none⟩ = some (.int .i64 at_) := by
    rw [cell_of_row w1 _ 1 _ _ _ (ho1.heap (heap_alloc_new w _) (by simp))]; rfl
  have hq' : w.heap.size ≤ q := by simp at hql; omega
  have HOW := Lib.hid (Own8.row (c := 0) hq' hq 256 HBL.out)
  clear hq hql ho1 ho0
  go_wp2_with fail
  refine (rread_any p.g2 p.s2 p.cp2 p.r2 D at_ _ HT1.out.rf).mono ?_
  rw [HRD.out, HW.out, show txt bs = .string ⟨bs.toArray⟩ from rfl]
  rintro e w2 ⟨rfl, rfl⟩
  generalize (⟨bs.toArray⟩ : ByteArray) = x at hcp ⊢
  go_wp2
  go_loopw [16] (fun i wr => ∃ j : Nat, j ≤ 256 ∧ i = .int .i64 j ∧ Hid (Two wr p D) ∧ Hid (Only p.blocks w wr) ∧ Hid (Own8 wr (some ⟨q, 0, none⟩) 256 w.heap.size)) (fun i _ => 256 - (intOf i).toNat)
  case atStart => exact ⟨0, by omega, rfl, HT1.out, HO1.out.mono (by simp), HOW⟩
  case round =>
    obtain ⟨j, hj, rfl, hT, hO, hW⟩ := hrel
    by_cases hlt : j < 256
    · have hlt' : (j : Int) < 256 := by omega
      obtain ⟨q', u, hqq, _, hcell, hfz⟩ := hW.out.cell j hlt
      obtain rfl : q = q' := by simpa using hqq
      clear hqq
      go_wp2
      go_roundw
      case rel =>
        refine ⟨j + 1, by omega, by go_num, hT.out.only ((Only.refl [q] _).setCell (by simp) _) (fun k hk => ?_), hO.out.setCell (.inr (by simpa using hq')) _, hW.out.set _⟩
        have := HT.out.lt k hk
        simp
        omega
      case measure => simp [intOf]; omega
    · obtain rfl : j = 256 := by omega
      go_wp2
      go_ret
      exact ⟨rfl, hT.out, hO.out⟩
set_option maxRecDepth 100000 in
theorem does_zero (hl : l.length ≤ 140737488351232) (hB : 0 < l.length → ∃ ad, B = some ad ∧ CellsAt w ad (bcells l)) :
    Calls Try.prog 20 #[.pointer (some ⟨p.g, 0, none⟩), .pointer (some ⟨p.g2, 0, none⟩), .agg #[.int .i64 0, .int .i64 at_, .slice B l.length cp]] w fun e w' => e = .returned (.bool true) ∧ Two w' p ((D.write at_ l).2) ∧ Only p.blocks w w' := by
  have HT := Lib.hid h
  have HD := Lib.hid hD
  have hlt := h.lt
  have hg := hlt p.g (by simp [Where.blocks])
  have hs := hlt p.s (by simp [Where.blocks])
  have hg2 := hlt p.g2 (by simp [Where.blocks])
  have hs2 := hlt p.s2 (by simp [Where.blocks])
  have hap := h.apart
  have hne := h.dk.ne
  have hne2 := h.rf.ne
  have ho0 := (Only.refl [] w).alloc (.cells #[.int .i64 0, .int .i64 at_, .slice B l.length cp] 37)
  have HO0 := Lib.hid ho0
  have HSRC := Lib.hid (show 0 < l.length → ∃ ad, B = some ad ∧ CellsAt (w.alloc (.cells #[.int .i64 0, .int .i64 at_, .slice B l.length cp] 37)) ad (bcells l) from fun h0 => by obtain ⟨ad, h1, h2⟩ := hB h0; exact ⟨ad, h1, h2.only ho0 (by simp)⟩)
  clear hlt h hD ho0 hB
  generalize hbl : l = bl at *
  go_enter Try.func20, Try.ntmps20
  go_wp2_with (at_builtin; refine wpList_append_row rfl _ _ 30 rfl w.heap.size 5 1 1 (.int .u8 0) Try.underlying30 infoU8 rfl (by omega) (.slice none 0 0) 0 [] rfl (World.ownsRow_nil _ _ _ _) B bl.length cp (bcells bl) rfl (by simp [bcells_length]) HSRC.out (bcells_one bl) (by unfold maxLen; omega) (by omega) (by simp) ?_; intro A' c' w2 hown ho hblk; rw [Nat.zero_add, List.nil_append] at hown; have hown := Lib.hid hown; have ho := Lib.hid (show Only [] _ w2 from ho); have hblk := True.intro; have hc0 : w2.cell? ⟨w.heap.size, 0, none⟩ = some (.int .i64 0) := ho.out.cell ((cell_of_row _ _ 0 _ _ _ (heap_alloc_new w _)).trans rfl) (by simp); have hc1 : w2.cell? ⟨w.heap.size, 1, none⟩ = some (.int .i64 at_) := ho.out.cell ((cell_of_row _ _ 1 _ _ _ (heap_alloc_new w _)).trans rfl) (by simp); have hc2 : w2.cell? ⟨w.heap.size, 2, none⟩ = some (.slice B bl.length cp) := ho.out.cell ((cell_of_row _ _ 2 _ _ _ (heap_alloc_new w _)).trans rfl) (by simp))
  have HO2 := Lib.hid (HO0.out.trans ho.out)
  have HT2 := Lib.hid (HT.out.only HO2.out (by simp))
  have HBY := Lib.hid (fun hn => owns_cells hown.out hn)
  have HOW := Lib.hid (Own8.owns hown.out (Nat.le_refl _))
  clear hown ho hblk hc0 hc2 HO0 HSRC

  go_wp2_with fail
  refine (rwrite_n p.g2 p.s2 p.cp2 p.r2 D at_ A' c' bl _ rfl w2 HT2.out.rf HD.out (by omega) (fun hn => by obtain ⟨ad, hA, hc, hb⟩ := HBY.out hn; exact ⟨ad, hA, hc, by omega⟩)).mono ?_
  rintro e w3 ⟨rfl, hr3, ho3⟩
  have HR3 := Lib.hid hr3
  have HK3 := Lib.hid (HT2.out.dk.only ho3 (by simp; omega) (by simp; omega))
  have HBY3 := Lib.hid (show bl ≠ [] → ∃ ad, A' = some ad ∧ CellsAt w3 ad (bcells bl) from fun hn => by obtain ⟨ad, hA, hc, hb⟩ := HBY.out hn; exact ⟨ad, hA, hc.only ho3 (by simp; omega)⟩)
  have HOW3 := Lib.hid (HOW.out.only ho3 (by intro q hq; simp; omega))
  have HO3 := Lib.hid ((HO2.out.mono (T := p.blocks) (by simp)).trans (ho3.mono (T := p.blocks) (by simp [Where.blocks])))
  have hc1' := ho3.cell hc1 (by simp; omega)
  clear hr3 ho3 HBY HOW HO2 HT2 hc1
  go_wp2_with fail
  refine (write_n p.g p.s p.cp p.r D at_ A' c' bl _ rfl w3 HK3.out HD.out (by omega) HBY3.out).mono ?_
  rintro e w4 ⟨rfl, hk4, ho4⟩
  have HT4 := Lib.hid (show Two w4 p (D.write at_ bl).2 from ⟨hk4, HR3.out.only ho4 (by simp; omega) (by simp; omega)⟩)
  have HOW4 := Lib.hid (HOW3.out.only ho4 (by intro q hq; simp; omega))
  have HO4 := Lib.hid (HO3.out.trans (ho4.mono (T := p.blocks) (by simp [Where.blocks])))
  clear hk4 ho4 HR3 HK3 HBY3 HOW3 HO3
  generalize (D.write at_ bl).1 = v at *
  generalize hnn : bl.length = n at *
  clear hnn
  go_wp2
  go_loopw [10] (fun i wr => ∃ j : Nat, j ≤ n ∧ i = .int .i64 j ∧ Hid (Two wr p (D.write at_ bl).2) ∧ Hid (Only p.blocks w wr) ∧ Hid (Own8 wr A' n w.heap.size)) (fun i _ => n - (intOf i).toNat)
  case atStart => exact ⟨0, by omega, rfl, HT4.out, HO4.out, HOW4.out⟩
  case round =>
    obtain ⟨j, hj, rfl, hT, hO, hW⟩ := hrel
    by_cases hlt : j < n
    · have hlt' : (j : Int) < n := by omega
      have hj9 : (j : Int) ≤ 9223372036854775806 := by omega
      obtain ⟨q, u, hqq, hq', hcell, hfz⟩ := hW.out.cell j hlt
      rw [hqq] at hW ⊢
      clear hqq
      go_wp2
      go_roundw
      case rel =>
        refine ⟨j + 1, by omega, by go_num, hT.out.only ((Only.refl [q] _).setCell (by simp) _) (fun k hk => ?_), hO.out.setCell (.inr (by simpa using hq')) _, hW.out.set _⟩
        have := HT.out.lt k hk
        simp
        omega
      case measure => simp [intOf]; omega
    · obtain rfl : j = n := by omega
      go_wp2
      go_ret
      exact ⟨rfl, hT.out, hO.out⟩
set_option maxRecDepth 100000 in
theorem does_five (hl : l.length ≤ 140737488351232) (hB : 0 < l.length → ∃ ad, B = some ad ∧ CellsAt w ad (bcells l)) (xs : List Int) (hxs : xs.length = l.length) (hrd : rdRow 1 (rdInt .u8) w B xs) (hx : ((l.headD 0).toNat : Int) = fst8 xs) :
    Calls Try.prog 20 #[.pointer (some ⟨p.g, 0, none⟩), .pointer (some ⟨p.g2, 0, none⟩), .agg #[.int .i64 5, .int .i64 at_, .slice B l.length cp]] w fun e w' => e = .returned (.bool true) ∧ Two w' p ((D.write at_ (sec (l.headD 0))).2) ∧ Only p.blocks w w' := by
  have HT := Lib.hid h
  have HD := Lib.hid hD
  have hlt := h.lt
  have hg := hlt p.g (by simp [Where.blocks])
  have hs := hlt p.s (by simp [Where.blocks])
  have hg2 := hlt p.g2 (by simp [Where.blocks])
  have hs2 := hlt p.s2 (by simp [Where.blocks])
  have hap := h.apart
  have hne := h.dk.ne
  have hne2 := h.rf.ne
  have ho0 := (Only.refl [] w).alloc (.cells #[.int .i64 5, .int .i64 at_, .slice B l.length cp] 37)
  have HO0 := Lib.hid ho0
  have HSRC := Lib.hid (show 0 < l.length → ∃ ad, B = some ad ∧ CellsAt (w.alloc (.cells #[.int .i64 5, .int .i64 at_, .slice B l.length cp] 37)) ad (bcells l) from fun h0 => by obtain ⟨ad, h1, h2⟩ := hB h0; exact ⟨ad, h1, h2.only ho0 (by simp)⟩)
  clear hlt h hD ho0 hB
  generalize hxh : l.headD 0 = xh at *
  have HX := Lib.hid hx
  have HRD := Lib.hid (rdRow_below (rdInt_stable _) hrd (HO0.out.nil_below))
  have HXS := Lib.hid hxs
  clear hrd hxh hx hxs
  generalize hbl : l = bl at *
  go_enter Try.func20, Try.ntmps20
  go_wp2_with (at_builtin; refine wpList_append_row rfl _ _ 30 rfl w.heap.size 5 1 1 (.int .u8 0) Try.underlying30 infoU8 rfl (by omega) (.slice none 0 0) 0 [] rfl (World.ownsRow_nil _ _ _ _) B bl.length cp (bcells bl) rfl (by simp [bcells_length]) HSRC.out (bcells_one bl) (by unfold maxLen; omega) (by omega) (by simp) ?_; intro A' c' w2 hown ho hblk; rw [Nat.zero_add, List.nil_append] at hown; have hown := Lib.hid hown; have ho := Lib.hid (show Only [] _ w2 from ho); have hblk := True.intro; have hc0 : w2.cell? ⟨w.heap.size, 0, none⟩ = some (.int .i64 5) := ho.out.cell ((cell_of_row _ _ 0 _ _ _ (heap_alloc_new w _)).trans rfl) (by simp); have hc1 : w2.cell? ⟨w.heap.size, 1, none⟩ = some (.int .i64 at_) := ho.out.cell ((cell_of_row _ _ 1 _ _ _ (heap_alloc_new w _)).trans rfl) (by simp); have hc2 : w2.cell? ⟨w.heap.size, 2, none⟩ = some (.slice B bl.length cp) := ho.out.cell ((cell_of_row _ _ 2 _ _ _ (heap_alloc_new w _)).trans rfl) (by simp))
  have HO2 := Lib.hid (HO0.out.trans ho.out)
  have HT2 := Lib.hid (HT.out.only HO2.out (by simp))
  have HXS := HXS.out
  rw [← HXS] at hc2 ⊢
  have hrd2 := rdRow_below (rdInt_stable _) HRD.out ho.out.nil_below
  clear hown ho hblk HO0 HSRC
  go_wp2_with fail
  refine (first_any B cp xs w2 hrd2).mono ?_
  rintro e w' ⟨rfl, rfl⟩
  rw [← HX.out]
  go_wp2_with fail
  refine (full_any xh _).mono ?_
  rintro e wf ⟨rfl, hf, hof⟩
  have hsz : w.heap.size ≤ w2.heap.size := HO2.out.size
  generalize w2.heap.size = q at *
  have hc0 := hof.cell hc0 (by simp)
  have hc1 := hof.cell hc1 (by simp)
  have HOW := Lib.hid (Own8.row (c := 0) (B0 := w.heap.size) hsz hf 256 (sec_length _))
  have HBY := Lib.hid (show sec xh ≠ [] → ∃ ad, some (⟨q, 0, none⟩ : Addr) = some ad ∧ CellsAt wf ad (bcells (sec xh)) ∧ w.heap.size ≤ ad.block from fun _ => ⟨_, rfl, cellsAt_row hf, hsz⟩)
  have HT2 := Lib.hid (HT2.out.only hof (by simp))
  have HO2 := Lib.hid (HO2.out.trans hof)
  clear hf hof hc2 hrd2 HRD HX HXS

  go_wp2_with fail
  refine (rwrite_n p.g2 p.s2 p.cp2 p.r2 D at_ (some ⟨q, 0, none⟩) 256 (sec xh) 256 (sec_length _) wf HT2.out.rf HD.out (by omega) (fun hn => by obtain ⟨ad, hA, hc, hb⟩ := HBY.out hn; exact ⟨ad, hA, hc, by omega⟩)).mono ?_
  rintro e w3 ⟨rfl, hr3, ho3⟩
  have HR3 := Lib.hid hr3
  have HK3 := Lib.hid (HT2.out.dk.only ho3 (by simp; omega) (by simp; omega))
  have HBY3 := Lib.hid (show (sec xh) ≠ [] → ∃ ad, (some (⟨q, 0, none⟩ : Addr)) = some ad ∧ CellsAt w3 ad (bcells (sec xh)) from fun hn => by obtain ⟨ad, hA, hc, hb⟩ := HBY.out hn; exact ⟨ad, hA, hc.only ho3 (by simp; omega)⟩)
  have HOW3 := Lib.hid (HOW.out.only ho3 (by intro q hq; simp; omega))
  have HO3 := Lib.hid ((HO2.out.mono (T := p.blocks) (by simp)).trans (ho3.mono (T := p.blocks) (by simp [Where.blocks])))
  have hc1' := ho3.cell hc1 (by simp; omega)
  clear hr3 ho3 HBY HOW HO2 HT2 hc1
  go_wp2_with fail
  refine (write_n p.g p.s p.cp p.r D at_ (some ⟨q, 0, none⟩) 256 (sec xh) 256 (sec_length _) w3 HK3.out HD.out (by omega) HBY3.out).mono ?_
  rintro e w4 ⟨rfl, hk4, ho4⟩
  have HT4 := Lib.hid (show Two w4 p (D.write at_ (sec xh)).2 from ⟨hk4, HR3.out.only ho4 (by simp; omega) (by simp; omega)⟩)
  have HOW4 := Lib.hid (HOW3.out.only ho4 (by intro q hq; simp; omega))
  have HO4 := Lib.hid (HO3.out.trans (ho4.mono (T := p.blocks) (by simp [Where.blocks])))
  clear hk4 ho4 HR3 HK3 HBY3 HOW3 HO3
  generalize (D.write at_ (sec xh)).1 = v at *
  go_wp2
  go_loopw [10] (fun i wr => ∃ j : Nat, j ≤ 256 ∧ i = .int .i64 j ∧ Hid (Two wr p (D.write at_ (sec xh)).2) ∧ Hid (Only p.blocks w wr) ∧ Hid (Own8 wr (some ⟨q, 0, none⟩) 256 w.heap.size)) (fun i _ => 256 - (intOf i).toNat)
  case atStart => exact ⟨0, by omega, rfl, HT4.out, HO4.out, HOW4.out⟩
  case round =>
    obtain ⟨j, hj, rfl, hT, hO, hW⟩ := hrel
    by_cases hlt : j < 256
    · have hlt' : (j : Int) < 256 := by omega
      have hj9 : (j : Int) ≤ 9223372036854775806 := by omega
      obtain ⟨q', u, hqq, hq', hcell, hfz⟩ := hW.out.cell j hlt
      obtain rfl : q = q' := by simpa using hqq
      clear hqq
      go_wp2
      go_roundw
      case rel =>
        refine ⟨j + 1, by omega, by go_num, hT.out.only ((Only.refl [q] _).setCell (by simp) _) (fun k hk => ?_), hO.out.setCell (.inr (by simpa using hq')) _, hW.out.set _⟩
        have := HT.out.lt k hk
        simp
        omega
      case measure => simp [intOf]; omega
    · obtain rfl : j = 256 := by omega
      go_wp2
      go_ret
      exact ⟨rfl, hT.out, hO.out⟩
end
end Go.Proofs.Ytcodnhknlhfalaa
