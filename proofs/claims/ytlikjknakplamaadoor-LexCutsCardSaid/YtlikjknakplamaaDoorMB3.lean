import Derived.Test.YtlikjknakplamaaDoorMB2
import Derived.Below
import Derived.ChangeOld
import Derived.Handed
import Derived.LaidLaws
import Derived.LaidOnce
import Derived.LaidSub
import Derived.Lay
import Derived.Lib.LaidTab
import Derived.Lib.LaidU8T
import Derived.OpenShut
import Derived.PinnedBridge
import Derived.ProofKit
import Derived.SevenTiedAt
import Derived.Shelf.Lay
import Derived.ShutString
import Derived.SizedLaws
import Derived.Test.YtlikjknakplamaaDoorCards
import Derived.Test.YtlikjknakplamaaDoorRows
import Derived.Test.YtlikjknakplamaaDoorTie
import Derived.WalkKit
set_option linter.unusedVariables false
set_option linter.unusedSimpArgs false
namespace Go.Proofs.YtlikjknakplamaaDoorW.PrintWords
end Go.Proofs.YtlikjknakplamaaDoorW.PrintWords
namespace Go.Proofs.YtlikjknakplamaaDoorW.PrintLast
end Go.Proofs.YtlikjknakplamaaDoorW.PrintLast
namespace Go.Proofs.YtlikjknakplamaaDoorW.PrintMore
end Go.Proofs.YtlikjknakplamaaDoorW.PrintMore
/-! ### ERefToken -/
namespace Go.Proofs.YtlikjknakplamaaDoor.Print
open Go.RowKit Go.Proofs.YtlikjknakplamaaDoorW.PrintWords Go.Proofs.YtlikjknakplamaaDoorW.PrintLast Go.Proofs.YtlikjknakplamaaDoorW.PrintMore Go.Lib
set_option linter.unusedSimpArgs false
set_option linter.unusedVariables false
def okRb (r : Nat) : Bool := decide (decodeL (enc r) = (r, (enc r).length)) && !(decide (r = 65533) && decide ((enc r).length = 1))
theorem okRb_ok {r : Nat} (h : okRb r = true) : okR r := by
  unfold okRb at h
  simp only [Bool.and_eq_true, decide_eq_true_eq, Bool.not_eq_true', Bool.and_eq_false_iff, decide_eq_false_iff_not] at h
  exact ⟨h.1, fun hh => by rcases h.2 with h2 | h2; exact h2 hh.1; exact h2 hh.2⟩
theorem okR_okRb {r : Nat} (h : okR r) : okRb r = true := by
  unfold okRb
  simp only [Bool.and_eq_true, decide_eq_true_eq, Bool.not_eq_true', Bool.and_eq_false_iff, decide_eq_false_iff_not]
  refine ⟨h.1, ?_⟩
  by_cases h1 : r = 65533
  · exact .inr fun h2 => h.2 ⟨h1, h2⟩
  · exact .inl h1
/-- Are a text, its runes and where they begin, what the reference's Runes tells? -/
def validT (S : ByteArray) (R At : List Int) : Bool :=
  decide (R = intsN (R.map Int.toNat)) && decide (At = atsN 0 (R.map Int.toNat)) && decide (S.data.toList = txt (R.map Int.toNat)) && (R.map Int.toNat).all okRb && decide (R.length ≤ 1000000)
theorem validT_open {S : ByteArray} {R At : List Int} (h : validT S R At = true) : ∃ rs, S = str rs ∧ R = intsN rs ∧ At = atsN 0 rs ∧ (∀ r ∈ rs, okR r) ∧ rs.length ≤ 1000000 ∧ R.map Int.toNat = rs := by
  unfold validT at h
  simp only [Bool.and_eq_true, decide_eq_true_eq] at h
  obtain ⟨⟨⟨⟨h1, h2⟩, h3⟩, h4⟩, h5⟩ := h
  exact ⟨R.map Int.toNat, str_of h3, h1, h2, fun r hr => okRb_ok (List.all_eq_true.1 h4 r hr), by rw [List.length_map]; exact h5, rfl⟩
theorem ints_nat (rs : List Nat) : (intsN rs).map Int.toNat = rs := by
  unfold intsN
  rw [List.map_map]
  exact List.map_id' rs
theorem validT_mk (rs : List Nat) (hok : ∀ r ∈ rs, okR r) (hl : rs.length ≤ 1000000) : validT (str rs) (intsN rs) (atsN 0 rs) = true := by
  unfold validT
  rw [ints_nat, str_list]
  simp only [Bool.and_eq_true, decide_eq_true_eq]
  exact ⟨⟨⟨⟨trivial, trivial⟩, trivial⟩, List.all_eq_true.2 fun r hr => okR_okRb (hok r hr)⟩, by rw [intsN_len]; exact hl⟩
def malthouseref01_token.f (S : ByteArray) (R At : List Int) (i : Int) : Option (Int × ByteArray × Int × Int × Int × Int) :=
  if validT S R At = true ∧ 0 ≤ i ∧ i < R.length then some (refTok i.toNat (tokR ((R.map Int.toNat).drop i.toNat))) else none
theorem take_word (t : List Nat) : t.take (t.takeWhile isW).length = t.takeWhile isW := take_takeWhile isW t
theorem two_text (r : Nat) (h : r < 128) : str [r, 61] = ⟨#[UInt8.ofNat r, 61]⟩ := by
  unfold str
  rw [show txt [r, 61] = [UInt8.ofNat r, 61] by rw [txt_cons, txt_cons, enc_small r h, enc_small 61 (by omega)]; rfl]
theorem two_list (r : Nat) (h : r < 128) : (str [r, 61]).toList = [UInt8.ofNat r, 61] := by
  rw [two_text r h, ByteArray.toList_eq]
theorem two_not (r c : Nat) (hr : r < 128) (hc : c < 128) (h : r ≠ c) : ((str [r, 61]).toList == [UInt8.ofNat c, 61]) = false := by
  rw [two_list r hr, beq_eq_false_iff_ne]
  intro e
  injection e with e
  have := congrArg UInt8.toNat e
  simp at this
  omega
set_option maxHeartbeats 8000000 in
set_option maxRecDepth 100000 in
theorem ref_token_any (rs : List Nat) (hok : ∀ r ∈ rs, okR r) (hl : rs.length ≤ 1000000) (A1 A2 : Option Addr) (c1 c2 : Nat) (i : Nat) (hi : i < rs.length) (w : World)
    (hr1 : Kd.C (Kd.int .i64) w A1 (intsN rs).length (intsN rs)) (hc1 : (intsN rs).length ≤ c1) (hr2 : Kd.C (Kd.int .i64) w A2 (atsN 0 rs).length (atsN 0 rs)) (hc2 : (atsN 0 rs).length ≤ c2) :
    Calls Tryd.prog 34 #[.agg #[.string (str rs), .slice A1 (intsN rs).length c1, .slice A2 (atsN 0 rs).length c2], .int .i64 i] w fun e w' =>
      e = .returned (.tuple #[.agg #[.int .i64 (refTok i (tokR (rs.drop i))).1, .string (refTok i (tokR (rs.drop i))).2.1, .int .i64 (refTok i (tokR (rs.drop i))).2.2.1, .int .i64 (refTok i (tokR (rs.drop i))).2.2.2.1], .int .i64 (refTok i (tokR (rs.drop i))).2.2.2.2.1, .int .i64 (refTok i (tokR (rs.drop i))).2.2.2.2.2]) ∧ Below w.heap.size w w' := by
  obtain ⟨V, hV⟩ : ∃ V, V = refTok i (tokR (rs.drop i)) := ⟨_, rfl⟩
  rw [← hV]
  have hd := List.drop_eq_getElem_cons hi
  have hll : rs.length ≤ 1000000000 := by omega
  have hsz := str_size rs
  have hK1 := fun W (hW : Only [] w W) => Kd.C_below hr1 hW.nil_below
  have hK2 := fun W (hW : Only [] w W) => Kd.C_below hr2 hW.nil_below
  have hwf := word_ref (str rs) (atsN 0 rs) rs hll (rs.length - i) i (3 * rs.length + 100) (by omega) (by omega) (by omega)
  obtain ⟨m, hm⟩ : ∃ m, m = ((rs.drop i).takeWhile isW).length := ⟨_, rfl⟩
  have hml : i + m ≤ rs.length := by rw [hm]; have := takeWhile_len isW (rs.drop i); rw [List.length_drop] at this; omega
  rw [← hm] at hwf
  have HWD := Lib.hid (fun W (hW : Only [] w W) => malthouseref01_word.calls (3 * rs.length + 100) (str rs) A1 c1 (intsN rs) A2 c2 (atsN 0 rs) (i : Int) ((i + m : Nat) : Int) W (hK1 W hW) hc1 (hK2 W hW) hc2 hwf)
  have HPT := Lib.hid (fun W (hW : Only [] w W) (j : Nat) (h1 : i ≤ j) (h2 : j ≤ rs.length) => malthouseref01_part.calls (str rs) A1 c1 (intsN rs) A2 c2 (atsN 0 rs) (i : Int) (j : Int) _ W (hK1 W hW) hc1 (hK2 W hW) hc2 (part_ref rs i j h1 h2))
  have HQD := Lib.hid (fun W (hW : Only [] w W) => malthouseref01_quoted.calls (3 * rs.length + 100) (str rs) A1 c1 (intsN rs) A2 c2 (atsN 0 rs) (i : Int) (refTok i (textR (rs.drop (i + 1)))).1 (refTok i (textR (rs.drop (i + 1)))).2.1 (refTok i (textR (rs.drop (i + 1)))).2.2.1 (refTok i (textR (rs.drop (i + 1)))).2.2.2.1 (refTok i (textR (rs.drop (i + 1)))).2.2.2.2.1 (refTok i (textR (rs.drop (i + 1)))).2.2.2.2.2 W (hK1 W hW) hc1 (hK2 W hW) hc2 (quoted_ref rs hll i _ hi (by omega)))
  have HCL := Lib.hid (fun W => malthouseref01_Class.calls (rs[i] : Int) (classZ (rs[i] : Int)) W rfl)
  have hwk : ∀ r ∈ (rs.drop i).takeWhile isW, okR r := fun r hr => hok r (List.mem_of_mem_drop (takeWhile_sub _ _ _ hr))
  have HNU := Lib.hid (fun W => malthouseref01_Number.calls (2 * (str ((rs.drop i).takeWhile isW)).size + 100) (str ((rs.drop i).takeWhile isW)) (numR ((rs.drop i).takeWhile isW)).1 (numR ((rs.drop i).takeWhile isW)).2 W (by
    rw [ref_number_is _ (by rw [str_size]; have h1 : (txt (rs.drop i)).length = (txt ((rs.drop i).takeWhile isW)).length + (txt ((rs.drop i).dropWhile isW)).length := by rw [← txt_len_append, ← take_drop_while]
                            have h2 : ∀ l : List Nat, (txt l).length ≤ 4 * l.length := by
                              intro l
                              induction l with
                              | nil => simp [txt]
                              | cons r l ih => rw [txt_len_cons, List.length_cons]; have := (enc_len r).2; omega
                            have h3 := h2 (rs.drop i)
                            rw [List.length_drop] at h3
                            omega) _ (by omega), num_is _ hwk]))
  have HPW := Lib.hid (show (rs.drop i).take (i + m - i) = (rs.drop i).takeWhile isW by rw [show i + m - i = m by omega, hm]; exact take_word _)
  have hce : ∃ ad, A1 = some ad ∧ ∀ (j : Nat) (hj : j < rs.length), w.cell? (ad.add j) = some (.int .i64 (rs[j] : Int)) := by
    obtain ⟨ad, cs, e1, _, hKK, hcs⟩ := Kd.C_cells hr1 i (by rw [intsN_len]; exact hi)
    refine ⟨ad, e1, fun j hj => ?_⟩
    obtain ⟨ad', cs', e1', _, hKK', hcs'⟩ := Kd.C_cells hr1 j (by rw [intsN_len]; exact hj)
    obtain rfl := Option.some.inj (e1.symm.trans e1')
    have hk' : cs' = [.int .i64 ((intsN rs)[j]'(by rw [intsN_len]; exact hj))] := hKK'
    subst hk'
    have h0 := hcs' 0 _ rfl
    rw [show j * (Kd.int .i64).sz = j from Nat.mul_one j, Go.Deep.add_add, Nat.add_zero] at h0
    rw [h0]
    simp [intsN]
  obtain ⟨ad, rfl, hcell⟩ := hce
  have HCE := Lib.hid hcell
  rw [hd] at hV
  have HV := Lib.hid (show V = refTok i (tokR (rs[i] :: rs.drop (i + 1))) from hV)
  have HD := Lib.hid hd
  have HMM := Lib.hid hm
  have HOK := Lib.hid hok
  have hL1 : (intsN rs).length = rs.length := intsN_len rs
  have hu1 := Tryd.underlying53
  have hu3 := Tryd.underlying38
  have hi' : (i : Int) < rs.length := by omega
  have hi0 : (0 : Int) ≤ i := by omega
  obtain ⟨la, hla⟩ : ∃ la, la = (atsN 0 rs).length := ⟨_, rfl⟩
  rw [← hla] at HWD HPT HQD hc2 ⊢
  rw [hL1] at HWD HPT HQD hc1 ⊢
  generalize hst : str rs = S at *
  have HST := Lib.hid hst
  clear hV hd hK1 hK2 hwf hm hr1 hr2 hcell hwk hok hla hsz hst
  obtain ⟨b0, hb0⟩ : ∃ b0, b0 = w.heap.size := ⟨_, rfl⟩
  have HA := Lib.hid (show Only [] w ((w.alloc (.cells #[.string S, .slice (some ad) rs.length c1, .slice A2 la c2] 53)).alloc (.cells #[.int .i64 0, .string ⟨#[]⟩, .int .i64 0, .int .i64 0] 38)) from ((Only.refl _ _).alloc _).alloc _)
  have HX := Lib.hid (show ((w.alloc (.cells #[.string S, .slice (some ad) rs.length c1, .slice A2 la c2] 53)).alloc (.cells #[.int .i64 0, .string ⟨#[]⟩, .int .i64 0, .int .i64 0] 38)).heap[b0]? = some (.cells #[.string S, .slice (some ad) rs.length c1, .slice A2 la c2] 53 (0, 0)) by rw [hb0]; exact (Below.heap_alloc _ _ _ (by simp)).trans (heap_alloc_new w _))
  have HR := Lib.hid (show ((w.alloc (.cells #[.string S, .slice (some ad) rs.length c1, .slice A2 la c2] 53)).alloc (.cells #[.int .i64 0, .string ⟨#[]⟩, .int .i64 0, .int .i64 0] 38)).heap[b0 + 1]? = some (.cells #[.int .i64 0, .string ⟨#[]⟩, .int .i64 0, .int .i64 0] 38 (0, 0)) by
    have := heap_alloc_new (w.alloc (.cells #[.string S, .slice (some ad) rs.length c1, .slice A2 la c2] 53)) (.cells #[.int .i64 0, .string ⟨#[]⟩, .int .i64 0, .int .i64 0] 38)
    rw [hb0]
    simpa using this)
  have HBS := Lib.hid (show w.heap.size ≤ b0 + 1 by omega)
  have hbb : w.heap.size = b0 := hb0.symm
  clear hb0
  go_enter Tryd.func34, Tryd.ntmps34
  have HB0 := HA
  have HX0 := HX
  have HR0 := HR
  clear HA HX HR
  have x0_0 : ((w.alloc (.cells #[.string S, .slice (some ad) rs.length c1, .slice A2 la c2] 53)).alloc (.cells #[.int .i64 0, .string ⟨#[]⟩, .int .i64 0, .int .i64 0] 38)).cell? ⟨b0, 0, none⟩ = some (.string S) := (cell_of_row ((w.alloc (.cells #[.string S, .slice (some ad) rs.length c1, .slice A2 la c2] 53)).alloc (.cells #[.int .i64 0, .string ⟨#[]⟩, .int .i64 0, .int .i64 0] 38)) _ 0 _ _ _ HX0.out).trans rfl
  have x0_1 : ((w.alloc (.cells #[.string S, .slice (some ad) rs.length c1, .slice A2 la c2] 53)).alloc (.cells #[.int .i64 0, .string ⟨#[]⟩, .int .i64 0, .int .i64 0] 38)).cell? ⟨b0, 1, none⟩ = some (.slice (some ad) rs.length c1) := (cell_of_row ((w.alloc (.cells #[.string S, .slice (some ad) rs.length c1, .slice A2 la c2] 53)).alloc (.cells #[.int .i64 0, .string ⟨#[]⟩, .int .i64 0, .int .i64 0] 38)) _ 1 _ _ _ HX0.out).trans rfl
  have x0_2 : ((w.alloc (.cells #[.string S, .slice (some ad) rs.length c1, .slice A2 la c2] 53)).alloc (.cells #[.int .i64 0, .string ⟨#[]⟩, .int .i64 0, .int .i64 0] 38)).cell? ⟨b0, 2, none⟩ = some (.slice A2 la c2) := (cell_of_row ((w.alloc (.cells #[.string S, .slice (some ad) rs.length c1, .slice A2 la c2] 53)).alloc (.cells #[.int .i64 0, .string ⟨#[]⟩, .int .i64 0, .int .i64 0] 38)) _ 2 _ _ _ HX0.out).trans rfl
  go_wp2_with (go_at_call 45; refine (HWD.out _ HB0.out).mono ?_; rintro e w1 ⟨rfl, hb1⟩; have HB1 := Lib.hid (HB0.out.trans (Only.of_below hb1)); have HX1 := Lib.hid ((Only.of_below hb1).heap HX0.out (by simp)); have HR1 := Lib.hid ((Only.of_below hb1).heap HR0.out (by simp)); clear hb1; refine (fun (h : Hid _) => h.out) ?_)
  refine Lib.hid ?_
  clear HB0 HX0 HR0
  have x1_0 : w1.cell? ⟨b0, 0, none⟩ = some (.string S) := (cell_of_row w1 _ 0 _ _ _ HX1.out).trans rfl
  have x1_1 : w1.cell? ⟨b0, 1, none⟩ = some (.slice (some ad) rs.length c1) := (cell_of_row w1 _ 1 _ _ _ HX1.out).trans rfl
  have x1_2 : w1.cell? ⟨b0, 2, none⟩ = some (.slice A2 la c2) := (cell_of_row w1 _ 2 _ _ _ HX1.out).trans rfl
  have hcl0 : w1.cell? (ad.add i) = some (.int .i64 (rs[i] : Int)) := by
    have := HCE.out i hi
    exact (HB1.out.nil_below.cell (World.block_lt_of_cell? w _ this)).trans this
  generalize hgr : rs[i] = r at *
  have HGR := Lib.hid hgr
  clear hgr
  have HCL2 := Lib.hid (show ∀ W, Calls Tryd.prog 17 #[.int .i64 (r : Int)] W fun e w' => e = .returned (.int .i64 (classZ (r : Int))) ∧ Below W.heap.size W w' from fun W => (HCL.out W).mono fun e w' ⟨he, n, hn⟩ => ⟨he, hn ▸ pw_below_drewN (Below.refl _ _) n⟩)
  generalize hcc : classZ (r : Int) = c at *
  have HCC := Lib.hid hcc
  clear hcc HCL
  go_wp2_with (go_at_call 17; refine (HCL2.out _).mono ?_; rintro e w2 ⟨rfl, hb2⟩; have HB2 := Lib.hid (HB1.out.trans (Only.of_below hb2)); have HX2 := Lib.hid ((Only.of_below hb2).heap HX1.out (by simp)); have HR2 := Lib.hid ((Only.of_below hb2).heap HR1.out (by simp)); clear hb2; refine (fun (h : Hid _) => h.out) ?_)
  refine Lib.hid ?_
  clear HB1 HX1 HR1
  have x2_0 : w2.cell? ⟨b0, 0, none⟩ = some (.string S) := (cell_of_row w2 _ 0 _ _ _ HX2.out).trans rfl
  have x2_1 : w2.cell? ⟨b0, 1, none⟩ = some (.slice (some ad) rs.length c1) := (cell_of_row w2 _ 1 _ _ _ HX2.out).trans rfl
  have x2_2 : w2.cell? ⟨b0, 2, none⟩ = some (.slice A2 la c2) := (cell_of_row w2 _ 2 _ _ _ HX2.out).trans rfl
  clear hcl0
  have hW : (r :: rs.drop (i + 1)).takeWhile isW = (rs.drop i).takeWhile isW := by rw [HD.out]
  have HHW := Lib.hid hW
  clear hW
  by_cases h2 : c = 2
  · have hv := HV.out
    rw [tokR_cons, if_pos (by rw [HCC.out]; exact h2), HHW.out, ← HMM.out] at hv
    have HV2 := Lib.hid hv
    subst h2
    clear hv HV
    have hsub : IntKind.i64.wrap (((i + m : Nat) : Int) - i) = m := by rw [IntWalk.i64_in _ (by omega)]; omega
    have hsub2 : ((i + m : Nat) : Int) - i = m := by omega
    by_cases h12 : 12 < m
    · have h12' : (12 : Int) < m := by omega
      have hv := HV2.out
      rw [if_pos h12] at hv
      have HV3 := Lib.hid hv
      clear hv HV2
      have y0 : w2.cell? ⟨b0 + 1, 0, none⟩ = some (.int .i64 0) := (cell_of_row w2 _ 0 _ _ _ HR2.out).trans rfl
      have y1 : w2.cell? ⟨b0 + 1, 1, none⟩ = some (.string ⟨#[]⟩) := (cell_of_row w2 _ 1 _ _ _ HR2.out).trans rfl
      have y2 : w2.cell? ⟨b0 + 1, 2, none⟩ = some (.int .i64 0) := (cell_of_row w2 _ 2 _ _ _ HR2.out).trans rfl
      have y3 : w2.cell? ⟨b0 + 1, 3, none⟩ = some (.int .i64 0) := (cell_of_row w2 _ 3 _ _ _ HR2.out).trans rfl
      have z0 : w2.frozen? ⟨b0 + 1, 0, none⟩ = false := frozen_of_row w2 _ 0 _ _ HR2.out
      have z1 : w2.frozen? ⟨b0 + 1, 1, none⟩ = false := frozen_of_row w2 _ 1 _ _ HR2.out
      have z2 : w2.frozen? ⟨b0 + 1, 2, none⟩ = false := frozen_of_row w2 _ 2 _ _ HR2.out
      have z3 : w2.frozen? ⟨b0 + 1, 3, none⟩ = false := frozen_of_row w2 _ 3 _ _ HR2.out
      go_wp2
      have hr := tok_store w2 (b0 + 1) _ _ _ _ (.int .i64 0) (.string ⟨#[]⟩) (.int .i64 0) (.int .i64 0) HR2.out
      have k0 := cell_of_row _ _ 0 _ _ _ hr
      have k1 := cell_of_row _ _ 1 _ _ _ hr
      have k2 := cell_of_row _ _ 2 _ _ _ hr
      have k3 := cell_of_row _ _ 3 _ _ _ hr
      simp only [List.getElem?_toArray, List.getElem?_cons_zero, List.getElem?_cons_succ] at k0 k1 k2 k3
      refine bodyPost_ret (v := .tuple #[.agg #[.int .i64 0, .string ⟨#[]⟩, .int .i64 0, .int .i64 0], .int .i64 0, .int .i64 2]) (by simp [results, Tryd.results34, go_sem, k0, k1, k2, k3]) rfl ⟨?_, ?_⟩
      · rw [HV3.out]; rfl
      · first | exact (tok_only _ _ _ _ _ HB2.out HBS.out).nil_below | (have hfin := (tok_only (b0 + 1) (.int .i64 0) (.string ⟨#[]⟩) (.int .i64 0) (.int .i64 0) HB2.out HBS.out).nil_below; rw [hbb] at hfin; exact hfin)
    · have h12' : (m : Int) ≤ 12 := by omega
      have hv := HV2.out
      rw [if_neg h12] at hv
      have HV3 := Lib.hid hv
      clear hv HV2
      have HP2 := Lib.hid (fun W hW => HPT.out W hW (i + m) (by omega) hml)
      rw [HPW.out] at HP2
      go_wp2_with (go_at_call 46; refine (HP2.out _ HB2.out).mono ?_; rintro e w3 ⟨rfl, hb3⟩; have HB3 := Lib.hid (HB2.out.trans (Only.of_below hb3)); have HX3 := Lib.hid ((Only.of_below hb3).heap HX2.out (by simp)); have HR3 := Lib.hid ((Only.of_below hb3).heap HR2.out (by simp)); clear hb3; refine (fun (h : Hid _) => h.out) ?_)
      refine Lib.hid ?_
      clear HB2 HX2 HR2
      have x3_0 : w3.cell? ⟨b0, 0, none⟩ = some (.string S) := (cell_of_row w3 _ 0 _ _ _ HX3.out).trans rfl
      have x3_1 : w3.cell? ⟨b0, 1, none⟩ = some (.slice (some ad) rs.length c1) := (cell_of_row w3 _ 1 _ _ _ HX3.out).trans rfl
      have x3_2 : w3.cell? ⟨b0, 2, none⟩ = some (.slice A2 la c2) := (cell_of_row w3 _ 2 _ _ _ HX3.out).trans rfl
      have y0 : w3.cell? ⟨b0 + 1, 0, none⟩ = some (.int .i64 0) := (cell_of_row w3 _ 0 _ _ _ HR3.out).trans rfl
      have y1 : w3.cell? ⟨b0 + 1, 1, none⟩ = some (.string ⟨#[]⟩) := (cell_of_row w3 _ 1 _ _ _ HR3.out).trans rfl
      have y2 : w3.cell? ⟨b0 + 1, 2, none⟩ = some (.int .i64 0) := (cell_of_row w3 _ 2 _ _ _ HR3.out).trans rfl
      have y3 : w3.cell? ⟨b0 + 1, 3, none⟩ = some (.int .i64 0) := (cell_of_row w3 _ 3 _ _ _ HR3.out).trans rfl
      have z0 : w3.frozen? ⟨b0 + 1, 0, none⟩ = false := frozen_of_row w3 _ 0 _ _ HR3.out
      have z1 : w3.frozen? ⟨b0 + 1, 1, none⟩ = false := frozen_of_row w3 _ 1 _ _ HR3.out
      have z2 : w3.frozen? ⟨b0 + 1, 2, none⟩ = false := frozen_of_row w3 _ 2 _ _ HR3.out
      have z3 : w3.frozen? ⟨b0 + 1, 3, none⟩ = false := frozen_of_row w3 _ 3 _ _ HR3.out
      go_wp2
      have hr := tok_store w3 (b0 + 1) _ _ _ _ (.int .i64 1) (.string (str ((rs.drop i).takeWhile isW))) (.int .i64 0) (.int .i64 i) HR3.out
      have k0 := cell_of_row _ _ 0 _ _ _ hr
      have k1 := cell_of_row _ _ 1 _ _ _ hr
      have k2 := cell_of_row _ _ 2 _ _ _ hr
      have k3 := cell_of_row _ _ 3 _ _ _ hr
      simp only [List.getElem?_toArray, List.getElem?_cons_zero, List.getElem?_cons_succ] at k0 k1 k2 k3
      refine bodyPost_ret (v := .tuple #[.agg #[.int .i64 1, .string (str ((rs.drop i).takeWhile isW)), .int .i64 0, .int .i64 i], .int .i64 ((i + m : Nat) : Int), .int .i64 0]) (by simp [results, Tryd.results34, go_sem, k0, k1, k2, k3]) rfl ⟨?_, ?_⟩
      · rw [HV3.out]; rfl
      · first | exact (tok_only _ _ _ _ _ HB3.out HBS.out).nil_below | (have hfin := (tok_only (b0 + 1) (.int .i64 1) (.string (str ((rs.drop i).takeWhile isW))) (.int .i64 0) (.int .i64 i) HB3.out HBS.out).nil_below; rw [hbb] at hfin; exact hfin)
  · have h2b : (c == 2) = false := by simpa using h2
    have h2c : ¬ classZ (r : Int) = 2 := by rw [HCC.out]; exact h2
    by_cases h3 : c = 3
    · have hv := HV.out
      rw [tokR_cons, if_neg h2c, if_pos (by rw [HCC.out]; exact h3), HHW.out, ← HMM.out] at hv
      have HV2 := Lib.hid hv
      subst h3
      clear hv HV h2 h2c
      have HP2 := Lib.hid (fun W hW => HPT.out W hW (i + m) (by omega) hml)
      rw [HPW.out] at HP2
      obtain ⟨nv, hnv⟩ : ∃ nv, nv = (numR ((rs.drop i).takeWhile isW)).1 := ⟨_, rfl⟩
      obtain ⟨nb, hnb⟩ : ∃ nb, nb = (numR ((rs.drop i).takeWhile isW)).2 := ⟨_, rfl⟩
      have hv := HV2.out
      have hnu := HNU.out
      rw [← hnv, ← hnb] at hv hnu
      have HV3 := Lib.hid hv
      have HNU2 := Lib.hid (show ∀ W, Calls Tryd.prog 19 #[.string (str ((rs.drop i).takeWhile isW))] W fun e w' => e = .returned (.tuple #[.int .i64 nv, .bool nb]) ∧ Below W.heap.size W w' from fun W => (hnu W).mono fun e w' ⟨he, n, hn⟩ => ⟨he, hn ▸ pw_below_drewN (Below.refl _ _) n⟩)
      clear hv hnu hnv hnb HV2 HNU
      go_wp2_with (go_at_call 46; refine (HP2.out _ HB2.out).mono ?_; rintro e w4 ⟨rfl, hb4⟩; have HB4 := Lib.hid (HB2.out.trans (Only.of_below hb4)); have HX4 := Lib.hid ((Only.of_below hb4).heap HX2.out (by simp)); have HR4 := Lib.hid ((Only.of_below hb4).heap HR2.out (by simp)); clear hb4; refine (fun (h : Hid _) => h.out) ?_)
      refine Lib.hid ?_
      clear HB2 HX2 HR2
      have x4_0 : w4.cell? ⟨b0, 0, none⟩ = some (.string S) := (cell_of_row w4 _ 0 _ _ _ HX4.out).trans rfl
      have x4_1 : w4.cell? ⟨b0, 1, none⟩ = some (.slice (some ad) rs.length c1) := (cell_of_row w4 _ 1 _ _ _ HX4.out).trans rfl
      have x4_2 : w4.cell? ⟨b0, 2, none⟩ = some (.slice A2 la c2) := (cell_of_row w4 _ 2 _ _ _ HX4.out).trans rfl
      go_wp2_with (go_at_call 19; refine (HNU2.out _).mono ?_; rintro e w5 ⟨rfl, hb5⟩; have HB5 := Lib.hid (HB4.out.trans (Only.of_below hb5)); have HX5 := Lib.hid ((Only.of_below hb5).heap HX4.out (by simp)); have HR5 := Lib.hid ((Only.of_below hb5).heap HR4.out (by simp)); clear hb5; refine (fun (h : Hid _) => h.out) ?_)
      refine Lib.hid ?_
      clear HB4 HX4 HR4
      have x5_0 : w5.cell? ⟨b0, 0, none⟩ = some (.string S) := (cell_of_row w5 _ 0 _ _ _ HX5.out).trans rfl
      have x5_1 : w5.cell? ⟨b0, 1, none⟩ = some (.slice (some ad) rs.length c1) := (cell_of_row w5 _ 1 _ _ _ HX5.out).trans rfl
      have x5_2 : w5.cell? ⟨b0, 2, none⟩ = some (.slice A2 la c2) := (cell_of_row w5 _ 2 _ _ _ HX5.out).trans rfl
      cases nb with
      | false =>
        have hv := HV3.out
        rw [if_neg (by simp)] at hv
        have HV4 := Lib.hid hv
        clear hv HV3
        have y0 : w5.cell? ⟨b0 + 1, 0, none⟩ = some (.int .i64 0) := (cell_of_row w5 _ 0 _ _ _ HR5.out).trans rfl
        have y1 : w5.cell? ⟨b0 + 1, 1, none⟩ = some (.string ⟨#[]⟩) := (cell_of_row w5 _ 1 _ _ _ HR5.out).trans rfl
        have y2 : w5.cell? ⟨b0 + 1, 2, none⟩ = some (.int .i64 0) := (cell_of_row w5 _ 2 _ _ _ HR5.out).trans rfl
        have y3 : w5.cell? ⟨b0 + 1, 3, none⟩ = some (.int .i64 0) := (cell_of_row w5 _ 3 _ _ _ HR5.out).trans rfl
        have z0 : w5.frozen? ⟨b0 + 1, 0, none⟩ = false := frozen_of_row w5 _ 0 _ _ HR5.out
        have z1 : w5.frozen? ⟨b0 + 1, 1, none⟩ = false := frozen_of_row w5 _ 1 _ _ HR5.out
        have z2 : w5.frozen? ⟨b0 + 1, 2, none⟩ = false := frozen_of_row w5 _ 2 _ _ HR5.out
        have z3 : w5.frozen? ⟨b0 + 1, 3, none⟩ = false := frozen_of_row w5 _ 3 _ _ HR5.out
        go_wp2
        have hr := tok_store w5 (b0 + 1) _ _ _ _ (.int .i64 0) (.string ⟨#[]⟩) (.int .i64 0) (.int .i64 0) HR5.out
        have k0 := cell_of_row _ _ 0 _ _ _ hr
        have k1 := cell_of_row _ _ 1 _ _ _ hr
        have k2 := cell_of_row _ _ 2 _ _ _ hr
        have k3 := cell_of_row _ _ 3 _ _ _ hr
        simp only [List.getElem?_toArray, List.getElem?_cons_zero, List.getElem?_cons_succ] at k0 k1 k2 k3
        refine bodyPost_ret (v := .tuple #[.agg #[.int .i64 0, .string ⟨#[]⟩, .int .i64 0, .int .i64 0], .int .i64 0, .int .i64 11]) (by simp [results, Tryd.results34, go_sem, k0, k1, k2, k3]) rfl ⟨?_, ?_⟩
        · rw [HV4.out]; rfl
        · first | exact (tok_only _ _ _ _ _ HB5.out HBS.out).nil_below | (have hfin := (tok_only (b0 + 1) (.int .i64 0) (.string ⟨#[]⟩) (.int .i64 0) (.int .i64 0) HB5.out HBS.out).nil_below; rw [hbb] at hfin; exact hfin)
      | true =>
        have hv := HV3.out
        rw [if_pos rfl] at hv
        have HV4 := Lib.hid hv
        clear hv HV3
        go_wp2_with (go_at_call 46; refine (HP2.out _ HB5.out).mono ?_; rintro e w6 ⟨rfl, hb6⟩; have HB6 := Lib.hid (HB5.out.trans (Only.of_below hb6)); have HX6 := Lib.hid ((Only.of_below hb6).heap HX5.out (by simp)); have HR6 := Lib.hid ((Only.of_below hb6).heap HR5.out (by simp)); clear hb6; refine (fun (h : Hid _) => h.out) ?_)
        refine Lib.hid ?_
        clear HB5 HX5 HR5
        have x6_0 : w6.cell? ⟨b0, 0, none⟩ = some (.string S) := (cell_of_row w6 _ 0 _ _ _ HX6.out).trans rfl
        have x6_1 : w6.cell? ⟨b0, 1, none⟩ = some (.slice (some ad) rs.length c1) := (cell_of_row w6 _ 1 _ _ _ HX6.out).trans rfl
        have x6_2 : w6.cell? ⟨b0, 2, none⟩ = some (.slice A2 la c2) := (cell_of_row w6 _ 2 _ _ _ HX6.out).trans rfl
        have y0 : w6.cell? ⟨b0 + 1, 0, none⟩ = some (.int .i64 0) := (cell_of_row w6 _ 0 _ _ _ HR6.out).trans rfl
        have y1 : w6.cell? ⟨b0 + 1, 1, none⟩ = some (.string ⟨#[]⟩) := (cell_of_row w6 _ 1 _ _ _ HR6.out).trans rfl
        have y2 : w6.cell? ⟨b0 + 1, 2, none⟩ = some (.int .i64 0) := (cell_of_row w6 _ 2 _ _ _ HR6.out).trans rfl
        have y3 : w6.cell? ⟨b0 + 1, 3, none⟩ = some (.int .i64 0) := (cell_of_row w6 _ 3 _ _ _ HR6.out).trans rfl
        have z0 : w6.frozen? ⟨b0 + 1, 0, none⟩ = false := frozen_of_row w6 _ 0 _ _ HR6.out
        have z1 : w6.frozen? ⟨b0 + 1, 1, none⟩ = false := frozen_of_row w6 _ 1 _ _ HR6.out
        have z2 : w6.frozen? ⟨b0 + 1, 2, none⟩ = false := frozen_of_row w6 _ 2 _ _ HR6.out
        have z3 : w6.frozen? ⟨b0 + 1, 3, none⟩ = false := frozen_of_row w6 _ 3 _ _ HR6.out
        go_wp2
        have hr := tok_store w6 (b0 + 1) _ _ _ _ (.int .i64 2) (.string (str ((rs.drop i).takeWhile isW))) (.int .i64 nv) (.int .i64 i) HR6.out
        have k0 := cell_of_row _ _ 0 _ _ _ hr
        have k1 := cell_of_row _ _ 1 _ _ _ hr
        have k2 := cell_of_row _ _ 2 _ _ _ hr
        have k3 := cell_of_row _ _ 3 _ _ _ hr
        simp only [List.getElem?_toArray, List.getElem?_cons_zero, List.getElem?_cons_succ] at k0 k1 k2 k3
        refine bodyPost_ret (v := .tuple #[.agg #[.int .i64 2, .string (str ((rs.drop i).takeWhile isW)), .int .i64 nv, .int .i64 i], .int .i64 ((i + m : Nat) : Int), .int .i64 0]) (by simp [results, Tryd.results34, go_sem, k0, k1, k2, k3]) rfl ⟨?_, ?_⟩
        · rw [HV4.out]; rfl
        · first | exact (tok_only _ _ _ _ _ HB6.out HBS.out).nil_below | (have hfin := (tok_only (b0 + 1) (.int .i64 2) (.string (str ((rs.drop i).takeWhile isW))) (.int .i64 nv) (.int .i64 i) HB6.out HBS.out).nil_below; rw [hbb] at hfin; exact hfin)
    · have h3b : (c == 3) = false := by simpa using h3
      have h3c : ¬ classZ (r : Int) = 3 := by rw [HCC.out]; exact h3
      by_cases h5 : c = 5
      · have hv := HV.out
        rw [tokR_cons, if_neg h2c, if_neg h3c, if_pos (by rw [HCC.out]; exact h5)] at hv
        rw [← hv] at HQD
        subst h5
        clear hv HV h2 h2c h3 h3c
        obtain ⟨v1, v2, v3, v4, v5, v6⟩ := V
        go_wp2_with (go_at_call 47; refine (HQD.out _ HB2.out).mono ?_; rintro e w7 ⟨rfl, hb7⟩; have HB7 := Lib.hid (HB2.out.trans (Only.of_below hb7)); have HX7 := Lib.hid ((Only.of_below hb7).heap HX2.out (by simp)); have HR7 := Lib.hid ((Only.of_below hb7).heap HR2.out (by simp)); clear hb7; refine (fun (h : Hid _) => h.out) ?_)
        refine Lib.hid ?_
        clear HB2 HX2 HR2
        have x7_0 : w7.cell? ⟨b0, 0, none⟩ = some (.string S) := (cell_of_row w7 _ 0 _ _ _ HX7.out).trans rfl
        have x7_1 : w7.cell? ⟨b0, 1, none⟩ = some (.slice (some ad) rs.length c1) := (cell_of_row w7 _ 1 _ _ _ HX7.out).trans rfl
        have x7_2 : w7.cell? ⟨b0, 2, none⟩ = some (.slice A2 la c2) := (cell_of_row w7 _ 2 _ _ _ HX7.out).trans rfl
        have y0 : w7.cell? ⟨b0 + 1, 0, none⟩ = some (.int .i64 0) := (cell_of_row w7 _ 0 _ _ _ HR7.out).trans rfl
        have y1 : w7.cell? ⟨b0 + 1, 1, none⟩ = some (.string ⟨#[]⟩) := (cell_of_row w7 _ 1 _ _ _ HR7.out).trans rfl
        have y2 : w7.cell? ⟨b0 + 1, 2, none⟩ = some (.int .i64 0) := (cell_of_row w7 _ 2 _ _ _ HR7.out).trans rfl
        have y3 : w7.cell? ⟨b0 + 1, 3, none⟩ = some (.int .i64 0) := (cell_of_row w7 _ 3 _ _ _ HR7.out).trans rfl
        have z0 : w7.frozen? ⟨b0 + 1, 0, none⟩ = false := frozen_of_row w7 _ 0 _ _ HR7.out
        have z1 : w7.frozen? ⟨b0 + 1, 1, none⟩ = false := frozen_of_row w7 _ 1 _ _ HR7.out
        have z2 : w7.frozen? ⟨b0 + 1, 2, none⟩ = false := frozen_of_row w7 _ 2 _ _ HR7.out
        have z3 : w7.frozen? ⟨b0 + 1, 3, none⟩ = false := frozen_of_row w7 _ 3 _ _ HR7.out
        go_wp2
        have hr := tok_store w7 (b0 + 1) _ _ _ _ (.int .i64 v1) (.string v2) (.int .i64 v3) (.int .i64 v4) HR7.out
        have k0 := cell_of_row _ _ 0 _ _ _ hr
        have k1 := cell_of_row _ _ 1 _ _ _ hr
        have k2 := cell_of_row _ _ 2 _ _ _ hr
        have k3 := cell_of_row _ _ 3 _ _ _ hr
        simp only [List.getElem?_toArray, List.getElem?_cons_zero, List.getElem?_cons_succ] at k0 k1 k2 k3
        refine bodyPost_ret (v := .tuple #[.agg #[.int .i64 v1, .string v2, .int .i64 v3, .int .i64 v4], .int .i64 v5, .int .i64 v6]) (by simp [results, Tryd.results34, go_sem, k0, k1, k2, k3]) rfl ⟨?_, ?_⟩
        · rfl
        · first | exact (tok_only _ _ _ _ _ HB7.out HBS.out).nil_below | (have hfin := (tok_only (b0 + 1) (.int .i64 v1) (.string v2) (.int .i64 v3) (.int .i64 v4) HB7.out HBS.out).nil_below; rw [hbb] at hfin; exact hfin)
      · have h5b : (c == 5) = false := by simpa using h5
        have h5c : ¬ classZ (r : Int) = 5 := by rw [HCC.out]; exact h5
        by_cases h4 : c = 4
        · have hv := HV.out
          rw [tokR_cons, if_neg h2c, if_neg h3c, if_neg h5c, if_pos (by rw [HCC.out]; exact h4)] at hv
          have hr128 : r < 128 := by have := signs_small _ (class_four ((HCC.out).trans h4)); omega
          have HV2 := Lib.hid hv
          subst h4
          clear hv HV h2 h2c h3 h3c h5 h5c
          obtain ⟨j, hj⟩ : ∃ j : Int, (i : Int) + 1 = j := ⟨_, rfl⟩
          have hjn : j.toNat = i + 1 := by omega
          have hj0 : 0 ≤ j := by omega
          have HONE := Lib.hid (show ∀ t : List Nat, (rs.drop i).take (i + 1 - i) = [r] by intro _; rw [HD.out, show i + 1 - i = 1 by omega]; rfl)
          by_cases hk : i + 1 < rs.length
          · have hk' : j < rs.length := by omega
            have hd2 := List.drop_eq_getElem_cons hk
            have hcl1 : w2.cell? (ad.add j.toNat) = some (.int .i64 (rs[i + 1] : Int)) := by
              rw [hjn]
              have := HCE.out (i + 1) hk
              exact (HB2.out.nil_below.cell (World.block_lt_of_cell? w _ this)).trans this
            clear hjn
            by_cases h61 : rs[i + 1] = 61
            · have h61b : (((rs[i + 1] : Nat) : Int) == 61) = true := by rw [h61]; rfl
              have htwo : (rs.drop i).take (i + 2 - i) = [r, 61] := by rw [HD.out, show i + 2 - i = 2 by omega, hd2, h61]; rfl
              have HP3 := Lib.hid (fun W hW => HPT.out W hW (i + 2) (by omega) (by omega))
              rw [htwo] at HP3
              have ei2 : ((i + 2 : Nat) : Int) = (i : Int) + 2 := by omega
              rw [ei2] at HP3
              clear ei2
              have hv := HV2.out
              rw [hd2, h61] at hv
              have hs : signR r (61 :: rs.drop (i + 1 + 1)) = if (r == 60 || r == 62 || r == 61 || r == 33 || r == 58) = true then 2 else 1 := by
                unfold signR two
                simp only [List.head?_cons, beq_self_eq_true, Bool.true_and]
              rw [hs] at hv
              have HV3 := Lib.hid hv
              clear hv HV2 hs
              have hcl2 : w2.cell? (ad.add j.toNat) = some (.int .i64 61) := by rw [hcl1, h61]; rfl
              clear h61b hcl1
              by_cases h5s : r = 60 ∨ r = 62 ∨ r = 61 ∨ r = 33 ∨ r = 58
              · have hv := HV3.out
                rw [if_pos (by rcases h5s with rfl | rfl | rfl | rfl | rfl <;> rfl)] at hv
                have HV4 := Lib.hid (show V = (4, str [r, 61], 0, (i : Int), j + 1, 0) by rw [show j + 1 = ((i + 2 : Nat) : Int) by omega]; exact hv)
                clear hv HV3
                have HP4 := Lib.hid (show ∀ W, Only [] w W → Calls Tryd.prog 46 #[.agg #[.string S, .slice (some ad) rs.length c1, .slice A2 la c2], .int .i64 i, .int .i64 ((i : Int) + 2)] W fun e w' => e = .returned (.string ⟨#[UInt8.ofNat r, 61]⟩) ∧ Below W.heap.size W w' by
                  have := HP3.out
                  rw [two_text r hr128] at this
                  exact this)
                rw [two_text r hr128] at HV4
                clear HP3 htwo
                rcases h5s with rfl | rfl | rfl | rfl | rfl
                · have HP5 : Hid (∀ W, Only [] w W → Calls Tryd.prog 46 #[.agg #[.string S, .slice (some ad) rs.length c1, .slice A2 la c2], .int .i64 i, .int .i64 ((i : Int) + 2)] W fun e w' => e = .returned (.string ⟨#[60, 61]⟩) ∧ Below W.heap.size W w') := HP4
                  have HP6 : Hid (∀ W, Only [] w W → Calls Tryd.prog 46 #[.agg #[.string S, .slice (some ad) rs.length c1, .slice A2 la c2], .int .i64 i, .int .i64 (j + 1)] W fun e w' => e = .returned (.string ⟨#[60, 61]⟩) ∧ Below W.heap.size W w') := Lib.hid (by rw [show j + 1 = (i : Int) + 2 by omega]; exact HP4.out)
                  go_wp2_with (go_at_call 46; refine (HP5.out _ HB2.out).mono ?_; rintro e w8 ⟨rfl, hb8⟩; have HB8 := Lib.hid (HB2.out.trans (Only.of_below hb8)); have HX8 := Lib.hid ((Only.of_below hb8).heap HX2.out (by simp)); have HR8 := Lib.hid ((Only.of_below hb8).heap HR2.out (by simp)); clear hb8; refine (fun (h : Hid _) => h.out) ?_)
                  refine Lib.hid ?_
                  clear HB2 HX2 HR2
                  have x8_0 : w8.cell? ⟨b0, 0, none⟩ = some (.string S) := (cell_of_row w8 _ 0 _ _ _ HX8.out).trans rfl
                  have x8_1 : w8.cell? ⟨b0, 1, none⟩ = some (.slice (some ad) rs.length c1) := (cell_of_row w8 _ 1 _ _ _ HX8.out).trans rfl
                  have x8_2 : w8.cell? ⟨b0, 2, none⟩ = some (.slice A2 la c2) := (cell_of_row w8 _ 2 _ _ _ HX8.out).trans rfl
                  go_wp2_with (go_at_call 46; refine (HP6.out _ HB8.out).mono ?_; rintro e w9 ⟨rfl, hb9⟩; have HB9 := Lib.hid (HB8.out.trans (Only.of_below hb9)); have HX9 := Lib.hid ((Only.of_below hb9).heap HX8.out (by simp)); have HR9 := Lib.hid ((Only.of_below hb9).heap HR8.out (by simp)); clear hb9; refine (fun (h : Hid _) => h.out) ?_)
                  refine Lib.hid ?_
                  clear HB8 HX8 HR8
                  have x9_0 : w9.cell? ⟨b0, 0, none⟩ = some (.string S) := (cell_of_row w9 _ 0 _ _ _ HX9.out).trans rfl
                  have x9_1 : w9.cell? ⟨b0, 1, none⟩ = some (.slice (some ad) rs.length c1) := (cell_of_row w9 _ 1 _ _ _ HX9.out).trans rfl
                  have x9_2 : w9.cell? ⟨b0, 2, none⟩ = some (.slice A2 la c2) := (cell_of_row w9 _ 2 _ _ _ HX9.out).trans rfl
                  have y0 : w9.cell? ⟨b0 + 1, 0, none⟩ = some (.int .i64 0) := (cell_of_row w9 _ 0 _ _ _ HR9.out).trans rfl
                  have y1 : w9.cell? ⟨b0 + 1, 1, none⟩ = some (.string ⟨#[]⟩) := (cell_of_row w9 _ 1 _ _ _ HR9.out).trans rfl
                  have y2 : w9.cell? ⟨b0 + 1, 2, none⟩ = some (.int .i64 0) := (cell_of_row w9 _ 2 _ _ _ HR9.out).trans rfl
                  have y3 : w9.cell? ⟨b0 + 1, 3, none⟩ = some (.int .i64 0) := (cell_of_row w9 _ 3 _ _ _ HR9.out).trans rfl
                  have z0 : w9.frozen? ⟨b0 + 1, 0, none⟩ = false := frozen_of_row w9 _ 0 _ _ HR9.out
                  have z1 : w9.frozen? ⟨b0 + 1, 1, none⟩ = false := frozen_of_row w9 _ 1 _ _ HR9.out
                  have z2 : w9.frozen? ⟨b0 + 1, 2, none⟩ = false := frozen_of_row w9 _ 2 _ _ HR9.out
                  have z3 : w9.frozen? ⟨b0 + 1, 3, none⟩ = false := frozen_of_row w9 _ 3 _ _ HR9.out
                  go_wp2
                  have hr := tok_store w9 (b0 + 1) _ _ _ _ (.int .i64 4) (.string ⟨#[60, 61]⟩) (.int .i64 0) (.int .i64 i) HR9.out
                  have k0 := cell_of_row _ _ 0 _ _ _ hr
                  have k1 := cell_of_row _ _ 1 _ _ _ hr
                  have k2 := cell_of_row _ _ 2 _ _ _ hr
                  have k3 := cell_of_row _ _ 3 _ _ _ hr
                  simp only [List.getElem?_toArray, List.getElem?_cons_zero, List.getElem?_cons_succ] at k0 k1 k2 k3
                  refine bodyPost_ret (v := .tuple #[.agg #[.int .i64 4, .string ⟨#[60, 61]⟩, .int .i64 0, .int .i64 i], .int .i64 (j + 1), .int .i64 0]) (by simp [results, Tryd.results34, go_sem, k0, k1, k2, k3]) rfl ⟨?_, ?_⟩
                  · rw [HV4.out]; rfl
                  · first | exact (tok_only _ _ _ _ _ HB9.out HBS.out).nil_below | (have hfin := (tok_only (b0 + 1) (.int .i64 4) (.string ⟨#[60, 61]⟩) (.int .i64 0) (.int .i64 i) HB9.out HBS.out).nil_below; rw [hbb] at hfin; exact hfin)
                · have HP5 : Hid (∀ W, Only [] w W → Calls Tryd.prog 46 #[.agg #[.string S, .slice (some ad) rs.length c1, .slice A2 la c2], .int .i64 i, .int .i64 ((i : Int) + 2)] W fun e w' => e = .returned (.string ⟨#[62, 61]⟩) ∧ Below W.heap.size W w') := HP4
                  have HP6 : Hid (∀ W, Only [] w W → Calls Tryd.prog 46 #[.agg #[.string S, .slice (some ad) rs.length c1, .slice A2 la c2], .int .i64 i, .int .i64 (j + 1)] W fun e w' => e = .returned (.string ⟨#[62, 61]⟩) ∧ Below W.heap.size W w') := Lib.hid (by rw [show j + 1 = (i : Int) + 2 by omega]; exact HP4.out)
                  go_wp2_with (go_at_call 46; refine (HP5.out _ HB2.out).mono ?_; rintro e w10 ⟨rfl, hb10⟩; have HB10 := Lib.hid (HB2.out.trans (Only.of_below hb10)); have HX10 := Lib.hid ((Only.of_below hb10).heap HX2.out (by simp)); have HR10 := Lib.hid ((Only.of_below hb10).heap HR2.out (by simp)); clear hb10; refine (fun (h : Hid _) => h.out) ?_)
                  refine Lib.hid ?_
                  clear HB2 HX2 HR2
                  have x10_0 : w10.cell? ⟨b0, 0, none⟩ = some (.string S) := (cell_of_row w10 _ 0 _ _ _ HX10.out).trans rfl
                  have x10_1 : w10.cell? ⟨b0, 1, none⟩ = some (.slice (some ad) rs.length c1) := (cell_of_row w10 _ 1 _ _ _ HX10.out).trans rfl
                  have x10_2 : w10.cell? ⟨b0, 2, none⟩ = some (.slice A2 la c2) := (cell_of_row w10 _ 2 _ _ _ HX10.out).trans rfl
                  go_wp2_with (go_at_call 46; refine (HP6.out _ HB10.out).mono ?_; rintro e w11 ⟨rfl, hb11⟩; have HB11 := Lib.hid (HB10.out.trans (Only.of_below hb11)); have HX11 := Lib.hid ((Only.of_below hb11).heap HX10.out (by simp)); have HR11 := Lib.hid ((Only.of_below hb11).heap HR10.out (by simp)); clear hb11; refine (fun (h : Hid _) => h.out) ?_)
                  refine Lib.hid ?_
                  clear HB10 HX10 HR10
                  have x11_0 : w11.cell? ⟨b0, 0, none⟩ = some (.string S) := (cell_of_row w11 _ 0 _ _ _ HX11.out).trans rfl
                  have x11_1 : w11.cell? ⟨b0, 1, none⟩ = some (.slice (some ad) rs.length c1) := (cell_of_row w11 _ 1 _ _ _ HX11.out).trans rfl
                  have x11_2 : w11.cell? ⟨b0, 2, none⟩ = some (.slice A2 la c2) := (cell_of_row w11 _ 2 _ _ _ HX11.out).trans rfl
                  have y0 : w11.cell? ⟨b0 + 1, 0, none⟩ = some (.int .i64 0) := (cell_of_row w11 _ 0 _ _ _ HR11.out).trans rfl
                  have y1 : w11.cell? ⟨b0 + 1, 1, none⟩ = some (.string ⟨#[]⟩) := (cell_of_row w11 _ 1 _ _ _ HR11.out).trans rfl
                  have y2 : w11.cell? ⟨b0 + 1, 2, none⟩ = some (.int .i64 0) := (cell_of_row w11 _ 2 _ _ _ HR11.out).trans rfl
                  have y3 : w11.cell? ⟨b0 + 1, 3, none⟩ = some (.int .i64 0) := (cell_of_row w11 _ 3 _ _ _ HR11.out).trans rfl
                  have z0 : w11.frozen? ⟨b0 + 1, 0, none⟩ = false := frozen_of_row w11 _ 0 _ _ HR11.out
                  have z1 : w11.frozen? ⟨b0 + 1, 1, none⟩ = false := frozen_of_row w11 _ 1 _ _ HR11.out
                  have z2 : w11.frozen? ⟨b0 + 1, 2, none⟩ = false := frozen_of_row w11 _ 2 _ _ HR11.out
                  have z3 : w11.frozen? ⟨b0 + 1, 3, none⟩ = false := frozen_of_row w11 _ 3 _ _ HR11.out
                  go_wp2
                  have hr := tok_store w11 (b0 + 1) _ _ _ _ (.int .i64 4) (.string ⟨#[62, 61]⟩) (.int .i64 0) (.int .i64 i) HR11.out
                  have k0 := cell_of_row _ _ 0 _ _ _ hr
                  have k1 := cell_of_row _ _ 1 _ _ _ hr
                  have k2 := cell_of_row _ _ 2 _ _ _ hr
                  have k3 := cell_of_row _ _ 3 _ _ _ hr
                  simp only [List.getElem?_toArray, List.getElem?_cons_zero, List.getElem?_cons_succ] at k0 k1 k2 k3
                  refine bodyPost_ret (v := .tuple #[.agg #[.int .i64 4, .string ⟨#[62, 61]⟩, .int .i64 0, .int .i64 i], .int .i64 (j + 1), .int .i64 0]) (by simp [results, Tryd.results34, go_sem, k0, k1, k2, k3]) rfl ⟨?_, ?_⟩
                  · rw [HV4.out]; rfl
                  · first | exact (tok_only _ _ _ _ _ HB11.out HBS.out).nil_below | (have hfin := (tok_only (b0 + 1) (.int .i64 4) (.string ⟨#[62, 61]⟩) (.int .i64 0) (.int .i64 i) HB11.out HBS.out).nil_below; rw [hbb] at hfin; exact hfin)
                · have HP5 : Hid (∀ W, Only [] w W → Calls Tryd.prog 46 #[.agg #[.string S, .slice (some ad) rs.length c1, .slice A2 la c2], .int .i64 i, .int .i64 ((i : Int) + 2)] W fun e w' => e = .returned (.string ⟨#[61, 61]⟩) ∧ Below W.heap.size W w') := HP4
                  have HP6 : Hid (∀ W, Only [] w W → Calls Tryd.prog 46 #[.agg #[.string S, .slice (some ad) rs.length c1, .slice A2 la c2], .int .i64 i, .int .i64 (j + 1)] W fun e w' => e = .returned (.string ⟨#[61, 61]⟩) ∧ Below W.heap.size W w') := Lib.hid (by rw [show j + 1 = (i : Int) + 2 by omega]; exact HP4.out)
                  go_wp2_with (go_at_call 46; refine (HP5.out _ HB2.out).mono ?_; rintro e w12 ⟨rfl, hb12⟩; have HB12 := Lib.hid (HB2.out.trans (Only.of_below hb12)); have HX12 := Lib.hid ((Only.of_below hb12).heap HX2.out (by simp)); have HR12 := Lib.hid ((Only.of_below hb12).heap HR2.out (by simp)); clear hb12; refine (fun (h : Hid _) => h.out) ?_)
                  refine Lib.hid ?_
                  clear HB2 HX2 HR2
                  have x12_0 : w12.cell? ⟨b0, 0, none⟩ = some (.string S) := (cell_of_row w12 _ 0 _ _ _ HX12.out).trans rfl
                  have x12_1 : w12.cell? ⟨b0, 1, none⟩ = some (.slice (some ad) rs.length c1) := (cell_of_row w12 _ 1 _ _ _ HX12.out).trans rfl
                  have x12_2 : w12.cell? ⟨b0, 2, none⟩ = some (.slice A2 la c2) := (cell_of_row w12 _ 2 _ _ _ HX12.out).trans rfl
                  go_wp2_with (go_at_call 46; refine (HP6.out _ HB12.out).mono ?_; rintro e w13 ⟨rfl, hb13⟩; have HB13 := Lib.hid (HB12.out.trans (Only.of_below hb13)); have HX13 := Lib.hid ((Only.of_below hb13).heap HX12.out (by simp)); have HR13 := Lib.hid ((Only.of_below hb13).heap HR12.out (by simp)); clear hb13; refine (fun (h : Hid _) => h.out) ?_)
                  refine Lib.hid ?_
                  clear HB12 HX12 HR12
                  have x13_0 : w13.cell? ⟨b0, 0, none⟩ = some (.string S) := (cell_of_row w13 _ 0 _ _ _ HX13.out).trans rfl
                  have x13_1 : w13.cell? ⟨b0, 1, none⟩ = some (.slice (some ad) rs.length c1) := (cell_of_row w13 _ 1 _ _ _ HX13.out).trans rfl
                  have x13_2 : w13.cell? ⟨b0, 2, none⟩ = some (.slice A2 la c2) := (cell_of_row w13 _ 2 _ _ _ HX13.out).trans rfl
                  have y0 : w13.cell? ⟨b0 + 1, 0, none⟩ = some (.int .i64 0) := (cell_of_row w13 _ 0 _ _ _ HR13.out).trans rfl
                  have y1 : w13.cell? ⟨b0 + 1, 1, none⟩ = some (.string ⟨#[]⟩) := (cell_of_row w13 _ 1 _ _ _ HR13.out).trans rfl
                  have y2 : w13.cell? ⟨b0 + 1, 2, none⟩ = some (.int .i64 0) := (cell_of_row w13 _ 2 _ _ _ HR13.out).trans rfl
                  have y3 : w13.cell? ⟨b0 + 1, 3, none⟩ = some (.int .i64 0) := (cell_of_row w13 _ 3 _ _ _ HR13.out).trans rfl
                  have z0 : w13.frozen? ⟨b0 + 1, 0, none⟩ = false := frozen_of_row w13 _ 0 _ _ HR13.out
                  have z1 : w13.frozen? ⟨b0 + 1, 1, none⟩ = false := frozen_of_row w13 _ 1 _ _ HR13.out
                  have z2 : w13.frozen? ⟨b0 + 1, 2, none⟩ = false := frozen_of_row w13 _ 2 _ _ HR13.out
                  have z3 : w13.frozen? ⟨b0 + 1, 3, none⟩ = false := frozen_of_row w13 _ 3 _ _ HR13.out
                  go_wp2
                  have hr := tok_store w13 (b0 + 1) _ _ _ _ (.int .i64 4) (.string ⟨#[61, 61]⟩) (.int .i64 0) (.int .i64 i) HR13.out
                  have k0 := cell_of_row _ _ 0 _ _ _ hr
                  have k1 := cell_of_row _ _ 1 _ _ _ hr
                  have k2 := cell_of_row _ _ 2 _ _ _ hr
                  have k3 := cell_of_row _ _ 3 _ _ _ hr
                  simp only [List.getElem?_toArray, List.getElem?_cons_zero, List.getElem?_cons_succ] at k0 k1 k2 k3
                  refine bodyPost_ret (v := .tuple #[.agg #[.int .i64 4, .string ⟨#[61, 61]⟩, .int .i64 0, .int .i64 i], .int .i64 (j + 1), .int .i64 0]) (by simp [results, Tryd.results34, go_sem, k0, k1, k2, k3]) rfl ⟨?_, ?_⟩
                  · rw [HV4.out]; rfl
                  · first | exact (tok_only _ _ _ _ _ HB13.out HBS.out).nil_below | (have hfin := (tok_only (b0 + 1) (.int .i64 4) (.string ⟨#[61, 61]⟩) (.int .i64 0) (.int .i64 i) HB13.out HBS.out).nil_below; rw [hbb] at hfin; exact hfin)
                · have HP5 : Hid (∀ W, Only [] w W → Calls Tryd.prog 46 #[.agg #[.string S, .slice (some ad) rs.length c1, .slice A2 la c2], .int .i64 i, .int .i64 ((i : Int) + 2)] W fun e w' => e = .returned (.string ⟨#[33, 61]⟩) ∧ Below W.heap.size W w') := HP4
                  have HP6 : Hid (∀ W, Only [] w W → Calls Tryd.prog 46 #[.agg #[.string S, .slice (some ad) rs.length c1, .slice A2 la c2], .int .i64 i, .int .i64 (j + 1)] W fun e w' => e = .returned (.string ⟨#[33, 61]⟩) ∧ Below W.heap.size W w') := Lib.hid (by rw [show j + 1 = (i : Int) + 2 by omega]; exact HP4.out)
                  go_wp2_with (go_at_call 46; refine (HP5.out _ HB2.out).mono ?_; rintro e w14 ⟨rfl, hb14⟩; have HB14 := Lib.hid (HB2.out.trans (Only.of_below hb14)); have HX14 := Lib.hid ((Only.of_below hb14).heap HX2.out (by simp)); have HR14 := Lib.hid ((Only.of_below hb14).heap HR2.out (by simp)); clear hb14; refine (fun (h : Hid _) => h.out) ?_)
                  refine Lib.hid ?_
                  clear HB2 HX2 HR2
                  have x14_0 : w14.cell? ⟨b0, 0, none⟩ = some (.string S) := (cell_of_row w14 _ 0 _ _ _ HX14.out).trans rfl
                  have x14_1 : w14.cell? ⟨b0, 1, none⟩ = some (.slice (some ad) rs.length c1) := (cell_of_row w14 _ 1 _ _ _ HX14.out).trans rfl
                  have x14_2 : w14.cell? ⟨b0, 2, none⟩ = some (.slice A2 la c2) := (cell_of_row w14 _ 2 _ _ _ HX14.out).trans rfl
                  go_wp2_with (go_at_call 46; refine (HP6.out _ HB14.out).mono ?_; rintro e w15 ⟨rfl, hb15⟩; have HB15 := Lib.hid (HB14.out.trans (Only.of_below hb15)); have HX15 := Lib.hid ((Only.of_below hb15).heap HX14.out (by simp)); have HR15 := Lib.hid ((Only.of_below hb15).heap HR14.out (by simp)); clear hb15; refine (fun (h : Hid _) => h.out) ?_)
                  refine Lib.hid ?_
                  clear HB14 HX14 HR14
                  have x15_0 : w15.cell? ⟨b0, 0, none⟩ = some (.string S) := (cell_of_row w15 _ 0 _ _ _ HX15.out).trans rfl
                  have x15_1 : w15.cell? ⟨b0, 1, none⟩ = some (.slice (some ad) rs.length c1) := (cell_of_row w15 _ 1 _ _ _ HX15.out).trans rfl
                  have x15_2 : w15.cell? ⟨b0, 2, none⟩ = some (.slice A2 la c2) := (cell_of_row w15 _ 2 _ _ _ HX15.out).trans rfl
                  have y0 : w15.cell? ⟨b0 + 1, 0, none⟩ = some (.int .i64 0) := (cell_of_row w15 _ 0 _ _ _ HR15.out).trans rfl
                  have y1 : w15.cell? ⟨b0 + 1, 1, none⟩ = some (.string ⟨#[]⟩) := (cell_of_row w15 _ 1 _ _ _ HR15.out).trans rfl
                  have y2 : w15.cell? ⟨b0 + 1, 2, none⟩ = some (.int .i64 0) := (cell_of_row w15 _ 2 _ _ _ HR15.out).trans rfl
                  have y3 : w15.cell? ⟨b0 + 1, 3, none⟩ = some (.int .i64 0) := (cell_of_row w15 _ 3 _ _ _ HR15.out).trans rfl
                  have z0 : w15.frozen? ⟨b0 + 1, 0, none⟩ = false := frozen_of_row w15 _ 0 _ _ HR15.out
                  have z1 : w15.frozen? ⟨b0 + 1, 1, none⟩ = false := frozen_of_row w15 _ 1 _ _ HR15.out
                  have z2 : w15.frozen? ⟨b0 + 1, 2, none⟩ = false := frozen_of_row w15 _ 2 _ _ HR15.out
                  have z3 : w15.frozen? ⟨b0 + 1, 3, none⟩ = false := frozen_of_row w15 _ 3 _ _ HR15.out
                  go_wp2
                  have hr := tok_store w15 (b0 + 1) _ _ _ _ (.int .i64 4) (.string ⟨#[33, 61]⟩) (.int .i64 0) (.int .i64 i) HR15.out
                  have k0 := cell_of_row _ _ 0 _ _ _ hr
                  have k1 := cell_of_row _ _ 1 _ _ _ hr
                  have k2 := cell_of_row _ _ 2 _ _ _ hr
                  have k3 := cell_of_row _ _ 3 _ _ _ hr
                  simp only [List.getElem?_toArray, List.getElem?_cons_zero, List.getElem?_cons_succ] at k0 k1 k2 k3
                  refine bodyPost_ret (v := .tuple #[.agg #[.int .i64 4, .string ⟨#[33, 61]⟩, .int .i64 0, .int .i64 i], .int .i64 (j + 1), .int .i64 0]) (by simp [results, Tryd.results34, go_sem, k0, k1, k2, k3]) rfl ⟨?_, ?_⟩
                  · rw [HV4.out]; rfl
                  · first | exact (tok_only _ _ _ _ _ HB15.out HBS.out).nil_below | (have hfin := (tok_only (b0 + 1) (.int .i64 4) (.string ⟨#[33, 61]⟩) (.int .i64 0) (.int .i64 i) HB15.out HBS.out).nil_below; rw [hbb] at hfin; exact hfin)
                · have HP5 : Hid (∀ W, Only [] w W → Calls Tryd.prog 46 #[.agg #[.string S, .slice (some ad) rs.length c1, .slice A2 la c2], .int .i64 i, .int .i64 ((i : Int) + 2)] W fun e w' => e = .returned (.string ⟨#[58, 61]⟩) ∧ Below W.heap.size W w') := HP4
                  have HP6 : Hid (∀ W, Only [] w W → Calls Tryd.prog 46 #[.agg #[.string S, .slice (some ad) rs.length c1, .slice A2 la c2], .int .i64 i, .int .i64 (j + 1)] W fun e w' => e = .returned (.string ⟨#[58, 61]⟩) ∧ Below W.heap.size W w') := Lib.hid (by rw [show j + 1 = (i : Int) + 2 by omega]; exact HP4.out)
                  go_wp2_with (go_at_call 46; refine (HP5.out _ HB2.out).mono ?_; rintro e w16 ⟨rfl, hb16⟩; have HB16 := Lib.hid (HB2.out.trans (Only.of_below hb16)); have HX16 := Lib.hid ((Only.of_below hb16).heap HX2.out (by simp)); have HR16 := Lib.hid ((Only.of_below hb16).heap HR2.out (by simp)); clear hb16; refine (fun (h : Hid _) => h.out) ?_)
                  refine Lib.hid ?_
                  clear HB2 HX2 HR2
                  have x16_0 : w16.cell? ⟨b0, 0, none⟩ = some (.string S) := (cell_of_row w16 _ 0 _ _ _ HX16.out).trans rfl
                  have x16_1 : w16.cell? ⟨b0, 1, none⟩ = some (.slice (some ad) rs.length c1) := (cell_of_row w16 _ 1 _ _ _ HX16.out).trans rfl
                  have x16_2 : w16.cell? ⟨b0, 2, none⟩ = some (.slice A2 la c2) := (cell_of_row w16 _ 2 _ _ _ HX16.out).trans rfl
                  go_wp2_with (go_at_call 46; refine (HP6.out _ HB16.out).mono ?_; rintro e w17 ⟨rfl, hb17⟩; have HB17 := Lib.hid (HB16.out.trans (Only.of_below hb17)); have HX17 := Lib.hid ((Only.of_below hb17).heap HX16.out (by simp)); have HR17 := Lib.hid ((Only.of_below hb17).heap HR16.out (by simp)); clear hb17; refine (fun (h : Hid _) => h.out) ?_)
                  refine Lib.hid ?_
                  clear HB16 HX16 HR16
                  have x17_0 : w17.cell? ⟨b0, 0, none⟩ = some (.string S) := (cell_of_row w17 _ 0 _ _ _ HX17.out).trans rfl
                  have x17_1 : w17.cell? ⟨b0, 1, none⟩ = some (.slice (some ad) rs.length c1) := (cell_of_row w17 _ 1 _ _ _ HX17.out).trans rfl
                  have x17_2 : w17.cell? ⟨b0, 2, none⟩ = some (.slice A2 la c2) := (cell_of_row w17 _ 2 _ _ _ HX17.out).trans rfl
                  have y0 : w17.cell? ⟨b0 + 1, 0, none⟩ = some (.int .i64 0) := (cell_of_row w17 _ 0 _ _ _ HR17.out).trans rfl
                  have y1 : w17.cell? ⟨b0 + 1, 1, none⟩ = some (.string ⟨#[]⟩) := (cell_of_row w17 _ 1 _ _ _ HR17.out).trans rfl
                  have y2 : w17.cell? ⟨b0 + 1, 2, none⟩ = some (.int .i64 0) := (cell_of_row w17 _ 2 _ _ _ HR17.out).trans rfl
                  have y3 : w17.cell? ⟨b0 + 1, 3, none⟩ = some (.int .i64 0) := (cell_of_row w17 _ 3 _ _ _ HR17.out).trans rfl
                  have z0 : w17.frozen? ⟨b0 + 1, 0, none⟩ = false := frozen_of_row w17 _ 0 _ _ HR17.out
                  have z1 : w17.frozen? ⟨b0 + 1, 1, none⟩ = false := frozen_of_row w17 _ 1 _ _ HR17.out
                  have z2 : w17.frozen? ⟨b0 + 1, 2, none⟩ = false := frozen_of_row w17 _ 2 _ _ HR17.out
                  have z3 : w17.frozen? ⟨b0 + 1, 3, none⟩ = false := frozen_of_row w17 _ 3 _ _ HR17.out
                  go_wp2
                  have hr := tok_store w17 (b0 + 1) _ _ _ _ (.int .i64 4) (.string ⟨#[58, 61]⟩) (.int .i64 0) (.int .i64 i) HR17.out
                  have k0 := cell_of_row _ _ 0 _ _ _ hr
                  have k1 := cell_of_row _ _ 1 _ _ _ hr
                  have k2 := cell_of_row _ _ 2 _ _ _ hr
                  have k3 := cell_of_row _ _ 3 _ _ _ hr
                  simp only [List.getElem?_toArray, List.getElem?_cons_zero, List.getElem?_cons_succ] at k0 k1 k2 k3
                  refine bodyPost_ret (v := .tuple #[.agg #[.int .i64 4, .string ⟨#[58, 61]⟩, .int .i64 0, .int .i64 i], .int .i64 (j + 1), .int .i64 0]) (by simp [results, Tryd.results34, go_sem, k0, k1, k2, k3]) rfl ⟨?_, ?_⟩
                  · rw [HV4.out]; rfl
                  · first | exact (tok_only _ _ _ _ _ HB17.out HBS.out).nil_below | (have hfin := (tok_only (b0 + 1) (.int .i64 4) (.string ⟨#[58, 61]⟩) (.int .i64 0) (.int .i64 i) HB17.out HBS.out).nil_below; rw [hbb] at hfin; exact hfin)
              · have hn1 : ((str [r, 61]).toList == [60, 61]) = false := two_not r 60 hr128 (by omega) (fun h => h5s (.inl h))
                have hn2 : ((str [r, 61]).toList == [62, 61]) = false := two_not r 62 hr128 (by omega) (fun h => h5s (.inr (.inl h)))
                have hn3 : ((str [r, 61]).toList == [61, 61]) = false := two_not r 61 hr128 (by omega) (fun h => h5s (.inr (.inr (.inl h))))
                have hn4 : ((str [r, 61]).toList == [33, 61]) = false := two_not r 33 hr128 (by omega) (fun h => h5s (.inr (.inr (.inr (.inl h)))))
                have hn5 : ((str [r, 61]).toList == [58, 61]) = false := two_not r 58 hr128 (by omega) (fun h => h5s (.inr (.inr (.inr (.inr h)))))
                have hv := HV3.out
                rw [if_neg (by simp; omega)] at hv
                have HV4 := Lib.hid (show V = (4, str [r], 0, (i : Int), j, 0) by rw [show j = ((i + 1 : Nat) : Int) by omega]; exact hv)
                clear hv HV3 h5s htwo
                have HP4 := Lib.hid (fun W hW => HPT.out W hW (i + 1) (by omega) (by omega))
                rw [HONE.out []] at HP4
                have ei1 : ((i + 1 : Nat) : Int) = j := by omega
                rw [ei1] at HP4
                clear ei1
                generalize str [r, 61] = s2 at *
                go_wp2_with (go_at_call 46; refine (HP3.out _ HB2.out).mono ?_; rintro e w18 ⟨rfl, hb18⟩; have HB18 := Lib.hid (HB2.out.trans (Only.of_below hb18)); have HX18 := Lib.hid ((Only.of_below hb18).heap HX2.out (by simp)); have HR18 := Lib.hid ((Only.of_below hb18).heap HR2.out (by simp)); clear hb18; refine (fun (h : Hid _) => h.out) ?_)
                refine Lib.hid ?_
                clear HB2 HX2 HR2
                have x18_0 : w18.cell? ⟨b0, 0, none⟩ = some (.string S) := (cell_of_row w18 _ 0 _ _ _ HX18.out).trans rfl
                have x18_1 : w18.cell? ⟨b0, 1, none⟩ = some (.slice (some ad) rs.length c1) := (cell_of_row w18 _ 1 _ _ _ HX18.out).trans rfl
                have x18_2 : w18.cell? ⟨b0, 2, none⟩ = some (.slice A2 la c2) := (cell_of_row w18 _ 2 _ _ _ HX18.out).trans rfl
                go_wp2_with (go_at_call 46; refine (HP4.out _ HB18.out).mono ?_; rintro e w19 ⟨rfl, hb19⟩; have HB19 := Lib.hid (HB18.out.trans (Only.of_below hb19)); have HX19 := Lib.hid ((Only.of_below hb19).heap HX18.out (by simp)); have HR19 := Lib.hid ((Only.of_below hb19).heap HR18.out (by simp)); clear hb19; refine (fun (h : Hid _) => h.out) ?_)
                refine Lib.hid ?_
                clear HB18 HX18 HR18
                have x19_0 : w19.cell? ⟨b0, 0, none⟩ = some (.string S) := (cell_of_row w19 _ 0 _ _ _ HX19.out).trans rfl
                have x19_1 : w19.cell? ⟨b0, 1, none⟩ = some (.slice (some ad) rs.length c1) := (cell_of_row w19 _ 1 _ _ _ HX19.out).trans rfl
                have x19_2 : w19.cell? ⟨b0, 2, none⟩ = some (.slice A2 la c2) := (cell_of_row w19 _ 2 _ _ _ HX19.out).trans rfl
                have y0 : w19.cell? ⟨b0 + 1, 0, none⟩ = some (.int .i64 0) := (cell_of_row w19 _ 0 _ _ _ HR19.out).trans rfl
                have y1 : w19.cell? ⟨b0 + 1, 1, none⟩ = some (.string ⟨#[]⟩) := (cell_of_row w19 _ 1 _ _ _ HR19.out).trans rfl
                have y2 : w19.cell? ⟨b0 + 1, 2, none⟩ = some (.int .i64 0) := (cell_of_row w19 _ 2 _ _ _ HR19.out).trans rfl
                have y3 : w19.cell? ⟨b0 + 1, 3, none⟩ = some (.int .i64 0) := (cell_of_row w19 _ 3 _ _ _ HR19.out).trans rfl
                have z0 : w19.frozen? ⟨b0 + 1, 0, none⟩ = false := frozen_of_row w19 _ 0 _ _ HR19.out
                have z1 : w19.frozen? ⟨b0 + 1, 1, none⟩ = false := frozen_of_row w19 _ 1 _ _ HR19.out
                have z2 : w19.frozen? ⟨b0 + 1, 2, none⟩ = false := frozen_of_row w19 _ 2 _ _ HR19.out
                have z3 : w19.frozen? ⟨b0 + 1, 3, none⟩ = false := frozen_of_row w19 _ 3 _ _ HR19.out
                go_wp2
                have hr := tok_store w19 (b0 + 1) _ _ _ _ (.int .i64 4) (.string (str [r])) (.int .i64 0) (.int .i64 i) HR19.out
                have k0 := cell_of_row _ _ 0 _ _ _ hr
                have k1 := cell_of_row _ _ 1 _ _ _ hr
                have k2 := cell_of_row _ _ 2 _ _ _ hr
                have k3 := cell_of_row _ _ 3 _ _ _ hr
                simp only [List.getElem?_toArray, List.getElem?_cons_zero, List.getElem?_cons_succ] at k0 k1 k2 k3
                refine bodyPost_ret (v := .tuple #[.agg #[.int .i64 4, .string (str [r]), .int .i64 0, .int .i64 i], .int .i64 j, .int .i64 0]) (by simp [results, Tryd.results34, go_sem, k0, k1, k2, k3]) rfl ⟨?_, ?_⟩
                · rw [HV4.out]
                · first | exact (tok_only _ _ _ _ _ HB19.out HBS.out).nil_below | (have hfin := (tok_only (b0 + 1) (.int .i64 4) (.string (str [r])) (.int .i64 0) (.int .i64 i) HB19.out HBS.out).nil_below; rw [hbb] at hfin; exact hfin)
            · have h61b : (((rs[i + 1] : Nat) : Int) == 61) = false := by rw [beq_eq_false_iff_ne]; omega
              have hv := HV2.out
              have hs : signR r (rs.drop (i + 1)) = 1 := by
                unfold signR two
                rw [hd2, List.head?_cons]
                have : (some rs[i + 1] == some 61) = false := by simpa using h61
                rw [this]
                rfl
              rw [hs] at hv
              have HV4 := Lib.hid (show V = (4, str [r], 0, (i : Int), j, 0) by rw [show j = ((i + 1 : Nat) : Int) by omega]; exact hv)
              clear hv HV2 hs hd2
              have HP4 := Lib.hid (fun W hW => HPT.out W hW (i + 1) (by omega) (by omega))
              rw [HONE.out []] at HP4
              have ei1 : ((i + 1 : Nat) : Int) = j := by omega
              rw [ei1] at HP4
              clear ei1
              generalize rs[i + 1] = r2 at *
              go_wp2_with (go_at_call 46; refine (HP4.out _ HB2.out).mono ?_; rintro e w20 ⟨rfl, hb20⟩; have HB20 := Lib.hid (HB2.out.trans (Only.of_below hb20)); have HX20 := Lib.hid ((Only.of_below hb20).heap HX2.out (by simp)); have HR20 := Lib.hid ((Only.of_below hb20).heap HR2.out (by simp)); clear hb20; refine (fun (h : Hid _) => h.out) ?_)
              refine Lib.hid ?_
              clear HB2 HX2 HR2
              have x20_0 : w20.cell? ⟨b0, 0, none⟩ = some (.string S) := (cell_of_row w20 _ 0 _ _ _ HX20.out).trans rfl
              have x20_1 : w20.cell? ⟨b0, 1, none⟩ = some (.slice (some ad) rs.length c1) := (cell_of_row w20 _ 1 _ _ _ HX20.out).trans rfl
              have x20_2 : w20.cell? ⟨b0, 2, none⟩ = some (.slice A2 la c2) := (cell_of_row w20 _ 2 _ _ _ HX20.out).trans rfl
              have y0 : w20.cell? ⟨b0 + 1, 0, none⟩ = some (.int .i64 0) := (cell_of_row w20 _ 0 _ _ _ HR20.out).trans rfl
              have y1 : w20.cell? ⟨b0 + 1, 1, none⟩ = some (.string ⟨#[]⟩) := (cell_of_row w20 _ 1 _ _ _ HR20.out).trans rfl
              have y2 : w20.cell? ⟨b0 + 1, 2, none⟩ = some (.int .i64 0) := (cell_of_row w20 _ 2 _ _ _ HR20.out).trans rfl
              have y3 : w20.cell? ⟨b0 + 1, 3, none⟩ = some (.int .i64 0) := (cell_of_row w20 _ 3 _ _ _ HR20.out).trans rfl
              have z0 : w20.frozen? ⟨b0 + 1, 0, none⟩ = false := frozen_of_row w20 _ 0 _ _ HR20.out
              have z1 : w20.frozen? ⟨b0 + 1, 1, none⟩ = false := frozen_of_row w20 _ 1 _ _ HR20.out
              have z2 : w20.frozen? ⟨b0 + 1, 2, none⟩ = false := frozen_of_row w20 _ 2 _ _ HR20.out
              have z3 : w20.frozen? ⟨b0 + 1, 3, none⟩ = false := frozen_of_row w20 _ 3 _ _ HR20.out
              go_wp2
              have hr := tok_store w20 (b0 + 1) _ _ _ _ (.int .i64 4) (.string (str [r])) (.int .i64 0) (.int .i64 i) HR20.out
              have k0 := cell_of_row _ _ 0 _ _ _ hr
              have k1 := cell_of_row _ _ 1 _ _ _ hr
              have k2 := cell_of_row _ _ 2 _ _ _ hr
              have k3 := cell_of_row _ _ 3 _ _ _ hr
              simp only [List.getElem?_toArray, List.getElem?_cons_zero, List.getElem?_cons_succ] at k0 k1 k2 k3
              refine bodyPost_ret (v := .tuple #[.agg #[.int .i64 4, .string (str [r]), .int .i64 0, .int .i64 i], .int .i64 j, .int .i64 0]) (by simp [results, Tryd.results34, go_sem, k0, k1, k2, k3]) rfl ⟨?_, ?_⟩
              · rw [HV4.out]
              · first | exact (tok_only _ _ _ _ _ HB20.out HBS.out).nil_below | (have hfin := (tok_only (b0 + 1) (.int .i64 4) (.string (str [r])) (.int .i64 0) (.int .i64 i) HB20.out HBS.out).nil_below; rw [hbb] at hfin; exact hfin)
          · have hk' : (rs.length : Int) ≤ j := by omega
            have hv := HV2.out
            have hs : signR r (rs.drop (i + 1)) = 1 := by
              unfold signR two
              rw [List.drop_eq_nil_of_le (by omega)]
              rfl
            rw [hs] at hv
            have HV4 := Lib.hid (show V = (4, str [r], 0, (i : Int), j, 0) by rw [show j = ((i + 1 : Nat) : Int) by omega]; exact hv)
            clear hv HV2 hs
            have HP4 := Lib.hid (fun W hW => HPT.out W hW (i + 1) (by omega) (by omega))
            rw [HONE.out []] at HP4
            have ei1 : ((i + 1 : Nat) : Int) = j := by omega
            rw [ei1] at HP4
            clear ei1
            go_wp2_with (go_at_call 46; refine (HP4.out _ HB2.out).mono ?_; rintro e w21 ⟨rfl, hb21⟩; have HB21 := Lib.hid (HB2.out.trans (Only.of_below hb21)); have HX21 := Lib.hid ((Only.of_below hb21).heap HX2.out (by simp)); have HR21 := Lib.hid ((Only.of_below hb21).heap HR2.out (by simp)); clear hb21; refine (fun (h : Hid _) => h.out) ?_)
            refine Lib.hid ?_
            clear HB2 HX2 HR2
            have x21_0 : w21.cell? ⟨b0, 0, none⟩ = some (.string S) := (cell_of_row w21 _ 0 _ _ _ HX21.out).trans rfl
            have x21_1 : w21.cell? ⟨b0, 1, none⟩ = some (.slice (some ad) rs.length c1) := (cell_of_row w21 _ 1 _ _ _ HX21.out).trans rfl
            have x21_2 : w21.cell? ⟨b0, 2, none⟩ = some (.slice A2 la c2) := (cell_of_row w21 _ 2 _ _ _ HX21.out).trans rfl
            have y0 : w21.cell? ⟨b0 + 1, 0, none⟩ = some (.int .i64 0) := (cell_of_row w21 _ 0 _ _ _ HR21.out).trans rfl
            have y1 : w21.cell? ⟨b0 + 1, 1, none⟩ = some (.string ⟨#[]⟩) := (cell_of_row w21 _ 1 _ _ _ HR21.out).trans rfl
            have y2 : w21.cell? ⟨b0 + 1, 2, none⟩ = some (.int .i64 0) := (cell_of_row w21 _ 2 _ _ _ HR21.out).trans rfl
            have y3 : w21.cell? ⟨b0 + 1, 3, none⟩ = some (.int .i64 0) := (cell_of_row w21 _ 3 _ _ _ HR21.out).trans rfl
            have z0 : w21.frozen? ⟨b0 + 1, 0, none⟩ = false := frozen_of_row w21 _ 0 _ _ HR21.out
            have z1 : w21.frozen? ⟨b0 + 1, 1, none⟩ = false := frozen_of_row w21 _ 1 _ _ HR21.out
            have z2 : w21.frozen? ⟨b0 + 1, 2, none⟩ = false := frozen_of_row w21 _ 2 _ _ HR21.out
            have z3 : w21.frozen? ⟨b0 + 1, 3, none⟩ = false := frozen_of_row w21 _ 3 _ _ HR21.out
            go_wp2
            have hr := tok_store w21 (b0 + 1) _ _ _ _ (.int .i64 4) (.string (str [r])) (.int .i64 0) (.int .i64 i) HR21.out
            have k0 := cell_of_row _ _ 0 _ _ _ hr
            have k1 := cell_of_row _ _ 1 _ _ _ hr
            have k2 := cell_of_row _ _ 2 _ _ _ hr
            have k3 := cell_of_row _ _ 3 _ _ _ hr
            simp only [List.getElem?_toArray, List.getElem?_cons_zero, List.getElem?_cons_succ] at k0 k1 k2 k3
            refine bodyPost_ret (v := .tuple #[.agg #[.int .i64 4, .string (str [r]), .int .i64 0, .int .i64 i], .int .i64 j, .int .i64 0]) (by simp [results, Tryd.results34, go_sem, k0, k1, k2, k3]) rfl ⟨?_, ?_⟩
            · rw [HV4.out]
            · first | exact (tok_only _ _ _ _ _ HB21.out HBS.out).nil_below | (have hfin := (tok_only (b0 + 1) (.int .i64 4) (.string (str [r])) (.int .i64 0) (.int .i64 i) HB21.out HBS.out).nil_below; rw [hbb] at hfin; exact hfin)
        · have h4b : (c == 4) = false := by simpa using h4
          have hv := HV.out
          rw [tokR_cons, if_neg h2c, if_neg h3c, if_neg h5c, if_neg (by rw [HCC.out]; exact h4)] at hv
          have HV2 := Lib.hid hv
          clear hv HV
          have y0 : w2.cell? ⟨b0 + 1, 0, none⟩ = some (.int .i64 0) := (cell_of_row w2 _ 0 _ _ _ HR2.out).trans rfl
          have y1 : w2.cell? ⟨b0 + 1, 1, none⟩ = some (.string ⟨#[]⟩) := (cell_of_row w2 _ 1 _ _ _ HR2.out).trans rfl
          have y2 : w2.cell? ⟨b0 + 1, 2, none⟩ = some (.int .i64 0) := (cell_of_row w2 _ 2 _ _ _ HR2.out).trans rfl
          have y3 : w2.cell? ⟨b0 + 1, 3, none⟩ = some (.int .i64 0) := (cell_of_row w2 _ 3 _ _ _ HR2.out).trans rfl
          have z0 : w2.frozen? ⟨b0 + 1, 0, none⟩ = false := frozen_of_row w2 _ 0 _ _ HR2.out
          have z1 : w2.frozen? ⟨b0 + 1, 1, none⟩ = false := frozen_of_row w2 _ 1 _ _ HR2.out
          have z2 : w2.frozen? ⟨b0 + 1, 2, none⟩ = false := frozen_of_row w2 _ 2 _ _ HR2.out
          have z3 : w2.frozen? ⟨b0 + 1, 3, none⟩ = false := frozen_of_row w2 _ 3 _ _ HR2.out
          go_wp2
          have hr := tok_store w2 (b0 + 1) _ _ _ _ (.int .i64 0) (.string ⟨#[]⟩) (.int .i64 0) (.int .i64 0) HR2.out
          have k0 := cell_of_row _ _ 0 _ _ _ hr
          have k1 := cell_of_row _ _ 1 _ _ _ hr
          have k2 := cell_of_row _ _ 2 _ _ _ hr
          have k3 := cell_of_row _ _ 3 _ _ _ hr
          simp only [List.getElem?_toArray, List.getElem?_cons_zero, List.getElem?_cons_succ] at k0 k1 k2 k3
          refine bodyPost_ret (v := .tuple #[.agg #[.int .i64 0, .string ⟨#[]⟩, .int .i64 0, .int .i64 0], .int .i64 0, .int .i64 11]) (by simp [results, Tryd.results34, go_sem, k0, k1, k2, k3]) rfl ⟨?_, ?_⟩
          · rw [HV2.out]; rfl
          · first | exact (tok_only _ _ _ _ _ HB2.out HBS.out).nil_below | (have hfin := (tok_only (b0 + 1) (.int .i64 0) (.string ⟨#[]⟩) (.int .i64 0) (.int .i64 0) HB2.out HBS.out).nil_below; rw [hbb] at hfin; exact hfin)
theorem malthouseref01_token.calls (a0_0 : ByteArray) (A0_1 : Option Addr) (c0_1 : Nat) (l0_1 : List Int) (A0_2 : Option Addr) (c0_2 : Nat) (l0_2 : List Int) (a1 : Int) (r1 : Int) (r2 : ByteArray) (r3 : Int) (r4 : Int) (r5 : Int) (r6 : Int) (w : World) (hr0_1 : Kd.C (Kd.int .i64) w A0_1 l0_1.length l0_1) (hc0_1 : l0_1.length ≤ c0_1) (hr0_2 : Kd.C (Kd.int .i64) w A0_2 l0_2.length l0_2) (hc0_2 : l0_2.length ≤ c0_2) (h : malthouseref01_token.f a0_0 l0_1 l0_2 a1 = some (r1, r2, r3, r4, r5, r6)) :
    Calls Tryd.prog 34 #[.agg #[.string a0_0, .slice A0_1 l0_1.length c0_1, .slice A0_2 l0_2.length c0_2], .int .i64 a1] w fun e w' => e = .returned (.tuple #[.agg #[.int .i64 r1, .string r2, .int .i64 r3, .int .i64 r4], .int .i64 r5, .int .i64 r6]) ∧ Below w.heap.size w w' := by
  unfold malthouseref01_token.f at h
  split at h
  · rename_i hv
    obtain ⟨hv, h0, h1⟩ := hv
    obtain ⟨rs, rfl, rfl, rfl, hok, hl, hm⟩ := validT_open hv
    rw [hm] at h
    obtain ⟨i, rfl⟩ : ∃ i : Nat, a1 = i := ⟨a1.toNat, by omega⟩
    rw [Int.toNat_natCast] at h
    rw [intsN_len] at h1
    have := ref_token_any rs hok hl A0_1 A0_2 c0_1 c0_2 i (by omega) w hr0_1 hc0_1 hr0_2 hc0_2
    rw [Option.some.inj h] at this
    exact this
  · cases h
end Go.Proofs.YtlikjknakplamaaDoor.Print
/-! ### Print6 -/
namespace Go.Proofs.YtlikjknakplamaaDoor.Print
open Go.RowKit Go.Proofs.YtlikjknakplamaaDoorW.PrintWords Go.Proofs.YtlikjknakplamaaDoorW.PrintLast Go.Proofs.YtlikjknakplamaaDoorW.PrintMore
set_option linter.unusedVariables false
set_option linter.unusedSimpArgs false
def malthouseref01_Cut.l0 : Nat → List (S38) → Int → ByteArray → List Int → List Int → Option ((List (S38)) × Int × Int)
  | 0, _, _, _, _, _ => none
  | k + 1, x7, x8, x141000, x141001, x141002 => if x8 < (x141001.length : Int) then (if (x7.length : Int) = 2000 then (some (([] : List (S38)), 2, x8)) else ((malthouseref01_token.f x141000 x141001 x141002 x8).bind fun bt145 => (if bt145.2.2.2.2.2 = 0 then (if x7.length < 3518437208883 then ((malthouseref01_past.f k x141000 x141001 x141002 bt145.2.2.2.2.1).bind fun t155 => (malthouseref01_Cut.l0 k (x7 ++ [(⟨bt145.1, bt145.2.1, bt145.2.2.1, bt145.2.2.2.1⟩ : S38)]) t155 x141000 x141001 x141002)) else (none)) else (some (([] : List (S38)), bt145.2.2.2.2.2, x8))))) else (if x7.length < 3518437208883 then (some ((x7 ++ [(⟨0, (⟨#[]⟩ : ByteArray), 0, x8⟩ : S38)]), 0, 0)) else (none))
def malthouseref01_Cut.f (k : Nat) (a0 : ByteArray) : Option ((List (S38)) × Int × Int) := if (a0.size : Int) > 8192 then (some (([] : List (S38)), 2, 0)) else ((malthouseref01_Runes.f k a0).bind fun bt132 => (if bt132.2.2.2 = true then ((malthouseref01_past.f k bt132.1 bt132.2.1 bt132.2.2.1 0).bind fun t141 => (malthouseref01_Cut.l0 k ([] : List (S38)) t141 bt132.1 bt132.2.1 bt132.2.2.1)) else (some (([] : List (S38)), 10, (bt132.2.1.length : Int)))))
set_option maxHeartbeats 8000000 in
set_option maxRecDepth 100000 in
theorem malthouseref01_Cut.calls (k : Nat) (a0 : ByteArray) (r1 : List (S38)) (r2 : Int) (r3 : Int) (w : World) (h : malthouseref01_Cut.f k a0 = some (r1, r2, r3)) :
    Calls Tryd.prog 14 #[.string a0] w fun e w' => ∃ v0_ : Value, e = .returned (.tuple #[v0_, .int .i64 r2, .int .i64 r3]) ∧ Kd.R k38 38 w' w.heap.size (fun _ => True) v0_ r1 ∧ Below w.heap.size w w' := by
  have hu53 := Tryd.underlying53
  have hu38 := Tryd.underlying38
  have HB := Aside0.mk (Below.refl w.heap.size w)
  have H : (if (a0.size : Int) > 8192 then (some (([] : List (S38)), 2, 0)) else ((malthouseref01_Runes.f k a0).bind fun bt132 => (if bt132.2.2.2 = true then ((malthouseref01_past.f k bt132.1 bt132.2.1 bt132.2.2.1 0).bind fun t141 => (malthouseref01_Cut.l0 k ([] : List (S38)) t141 bt132.1 bt132.2.1 bt132.2.2.1)) else (some (([] : List (S38)), 10, (bt132.2.1.length : Int)))))) = some (r1, r2, r3) := h
  clear h
  by_cases c2 : (a0.size : Int) > 8192
  · rw [if_pos c2] at H
    have c2b0 : decide (8192 < (a0.size : Int)) = true := decide_eq_true c2
    have c2b1 : decide (8192 < a0.size) = true := decide_eq_true (by omega)
    clear c2
    simp only [Option.some.injEq, Prod.mk.injEq] at H
    obtain ⟨rfl, rfl, rfl⟩ := H
    go_enter Tryd.func14, Tryd.ntmps14
    go_wp2
    repeat (go_quiet (fail); try go_wp2)
    go_ret3
    exact ⟨_, by first | rfl | (simp [errW_none, errW_some] <;> rfl) | (simp [*, errW_none, errW_some] <;> rfl), by first | exact Kd.R_nil _ _ _ _ _ | exact Kd.N_nil _ _ _ _ _ | exact Kd.V_nil _ _ _ _ _ | exact Kd.Q_nil _ _ _ _ _ | exact Kd.S_nil _ _ _ _ _, by repeat (first | (with_reducible first | exact HB.out | apply below_alloc | apply pw_below_drewN | apply below_drew1) | exact HB.out)⟩
  · rw [if_neg c2] at H
    have c2b0 : decide (8192 < (a0.size : Int)) = false := decide_eq_false c2
    have c2b1 : decide (8192 < a0.size) = false := decide_eq_false (by omega)
    clear c2
    replace H := Option.bind_eq_some_iff.mp H
    obtain ⟨⟨t132, t133, t136, t139⟩, A30, H⟩ := H
    replace H : (if t139 = true then ((malthouseref01_past.f k t132 t133 t136 0).bind fun t141 => (malthouseref01_Cut.l0 k ([] : List (S38)) t141 t132 t133 t136)) else (some (([] : List (S38)), 10, (t133.length : Int)))) = some (r1, r2, r3) := H
    have A3 := Aside0.mk A30
    clear A30
    by_cases c4 : t139 = true
    · subst c4
      have H1 : ((malthouseref01_past.f k t132 t133 t136 0).bind fun t141 => (malthouseref01_Cut.l0 k ([] : List (S38)) t141 t132 t133 t136)) = some (r1, r2, r3) := by rw [if_pos rfl] at H; exact H
      clear H
      have H := H1
      clear H1
      replace H := Option.bind_eq_some_iff.mp H
      obtain ⟨t141, A50, H⟩ := H
      replace H : (malthouseref01_Cut.l0 k ([] : List (S38)) t141 t132 t133 t136) = some (r1, r2, r3) := H
      have A5 := Aside0.mk A50
      clear A50
      have H' := Aside0.mk H
      clear H
      go_enter Tryd.func14, Tryd.ntmps14
      go_wp2_with (first | (go_at_call 32; (with_reducible refine (malthouseref01_Runes.calls k a0 t132 t133 t136 true _ A3.out).mono ?_); rintro e w6 ⟨v134, v137, rfl, ho0, ho1, hb⟩; have n0_ := Aside0.mk (Kd.R_lower ho0 (below_size (by repeat (first | (with_reducible first | exact HB.out | apply below_alloc | apply pw_below_drewN | apply below_drew1) | exact HB.out)))); have n1_ := Aside0.mk (Kd.R_lower ho1 (below_size (by repeat (first | (with_reducible first | exact HB.out | apply below_alloc | apply pw_below_drewN | apply below_drew1) | exact HB.out)))); have n2_ := Aside0.mk (below_step (by repeat (first | (with_reducible first | exact HB.out | apply below_alloc | apply pw_below_drewN | apply below_drew1) | exact HB.out)) hb); clear HB; have HO135 := n0_; have HO138 := n1_; have HB := n2_; clear n0_ n1_ n2_; (try clear hb); (try clear hb2); (try clear hk); (try clear hi); (try clear ho0); (try clear ho1)) | ((with_reducible refine gate_dst (N := 5) rfl ?_); refine box_event ?hg (N := 5) ?hd (cs := #[.string (⟨#[]⟩ : ByteArray), .slice none 0 0, .slice none 0 0]) (t := 53) ?hr ?_; (case hd => rfl); (case hg => rfl); (case hr => first | (go_simp; done) | (go_simp; rfl)); intro gb140 hg w7 hbox hb; have n0_ := Aside0.mk (Kd.R_below (by (with_reducible repeat (first | apply Kd.R_alloc | apply Kd.R_drewN | apply Kd.R_drew)); exact HO135.out) hb); have n1_ := Aside0.mk (Kd.R_below (by (with_reducible repeat (first | apply Kd.R_alloc | apply Kd.R_drewN | apply Kd.R_drew)); exact HO138.out) hb); have n2_ := Aside0.mk (below_step (by repeat (first | (with_reducible first | exact HB.out | apply below_alloc | apply pw_below_drewN | apply below_drew1) | exact HB.out)) hb); have n3_ := Aside0.mk (hbox); have n4_ := Aside0.mk ((by rw [hg]; exact (below_size (by repeat (first | (with_reducible first | exact HB.out | apply below_alloc | apply pw_below_drewN | apply below_drew1) | exact HB.out))) : w.heap.size ≤ gb140)); have n5_ := Aside0.mk ((by rw [hg]; exact (below_size (by repeat (first | (with_reducible first | exact HB.out | apply below_alloc | apply pw_below_drewN | apply below_drew1) | exact HB.out))) : w.heap.size ≤ gb140)); clear HO135; clear HO138; clear HB; have HO135 := n0_; have HO138 := n1_; have HB := n2_; have BK140 := n3_; have GW140 := n4_; have GE140 := n5_; clear n0_ n1_ n2_ n3_ n4_ n5_; clear hb hbox hg; have hcz8_0 : w7.cell? ⟨gb140, 0, none⟩ = some (.string (⟨#[]⟩ : ByteArray)) := (blk_cell BK140.out 0).trans rfl; have hcz8_1 : w7.cell? ⟨gb140, 1, none⟩ = some (.slice none 0 0) := (blk_cell BK140.out 1).trans rfl; have hcz8_2 : w7.cell? ⟨gb140, 2, none⟩ = some (.slice none 0 0) := (blk_cell BK140.out 2).trans rfl; have hfz8_0 := blk_frozen BK140.out 0; have hfz8_1 := blk_frozen BK140.out 1; have hfz8_2 := blk_frozen BK140.out 2; obtain ⟨Ao9, co9, eo9⟩ := Kd.R_slice HO135.out; subst eo9; obtain ⟨Ao10, co10, eo10⟩ := Kd.R_slice HO138.out; subst eo10) | (go_at_call 33; (with_reducible refine (malthouseref01_past.calls k t132 _ _ t133 _ _ t136 0 t141 _ ?side1 ?side2 ?side3 ?side4 A5.out).mono ?_); (case side1 => refine (Kd.R_reads' (e := 3) (base := w.heap.size) (ok := fun k_ => some k_ ≠ (.slice Ao10 t136.length co10 : Value).ownBlock) (n := t133.length) (c := co9) ?_).2.2; exact (by (with_reducible repeat (first | apply Kd.R_alloc | apply Kd.R_drewN | apply Kd.R_drew)); exact (Kd.R_mono (Kd.R_far (p := ⟨gb140, 2, none⟩) (Kd.R_far (p := ⟨gb140, 1, none⟩) (Kd.R_far (p := ⟨gb140, 0, none⟩) (Kd.R_types HO135.out BK140.out (by decide)) (fun _ hk => hk.2) (.string t132)) (fun _ hk => hk.2) (.slice Ao9 t133.length co9)) (fun _ hk => hk.2) (.slice Ao10 t136.length co10)) (fun _ h_ => h_.1)))); (case side2 => exact (Kd.R_reads' HO135.out).2.1); (case side3 => refine (Kd.R_reads' (e := 3) (base := w.heap.size) (ok := fun k_ => some k_ ≠ (.slice Ao9 t133.length co9 : Value).ownBlock) (n := t136.length) (c := co10) ?_).2.2; exact (by (with_reducible repeat (first | apply Kd.R_alloc | apply Kd.R_drewN | apply Kd.R_drew)); exact (Kd.R_mono (Kd.R_far (p := ⟨gb140, 2, none⟩) (Kd.R_far (p := ⟨gb140, 1, none⟩) (Kd.R_far (p := ⟨gb140, 0, none⟩) (Kd.R_types HO138.out BK140.out (by decide)) (fun _ hk => hk.2) (.string t132)) (fun _ hk => hk.2) (.slice Ao9 t133.length co9)) (fun _ hk => hk.2) (.slice Ao10 t136.length co10)) (fun _ h_ => h_.1)))); (case side4 => exact (Kd.R_reads' HO138.out).2.1); rintro e w11 ⟨rfl, hb⟩; have n0_ := Aside0.mk (Kd.R_below (by (with_reducible repeat (first | apply Kd.R_alloc | apply Kd.R_drewN | apply Kd.R_drew)); exact (Kd.R_mono (Kd.R_far (p := ⟨gb140, 2, none⟩) (Kd.R_far (p := ⟨gb140, 1, none⟩) (Kd.R_far (p := ⟨gb140, 0, none⟩) (Kd.R_types HO135.out BK140.out (by decide)) (fun _ hk => hk.2) (.string t132)) (fun _ hk => hk.2) (.slice Ao9 t133.length co9)) (fun _ hk => hk.2) (.slice Ao10 t136.length co10)) (fun _ h_ => h_.1))) hb); have n1_ := Aside0.mk (Kd.R_below (by (with_reducible repeat (first | apply Kd.R_alloc | apply Kd.R_drewN | apply Kd.R_drew)); exact (Kd.R_mono (Kd.R_far (p := ⟨gb140, 2, none⟩) (Kd.R_far (p := ⟨gb140, 1, none⟩) (Kd.R_far (p := ⟨gb140, 0, none⟩) (Kd.R_types HO138.out BK140.out (by decide)) (fun _ hk => hk.2) (.string t132)) (fun _ hk => hk.2) (.slice Ao9 t133.length co9)) (fun _ hk => hk.2) (.slice Ao10 t136.length co10)) (fun _ h_ => h_.1))) hb); have n2_ := Aside0.mk (blk_below (g := gb140) (o := .cells #[.string t132, .slice Ao9 t133.length co9, .slice Ao10 t136.length co10] 53 (0, 0)) (by (with_reducible repeat (first | refine blk_drewN ?_ _ | refine blk_drew ?_ | refine blk_alloc ?_ _)); refine blk_put (cs := #[.string t132, .slice Ao9 t133.length co9, .slice none 0 0]) ?_ 2 _ rfl; (with_reducible repeat (first | refine blk_drewN ?_ _ | refine blk_drew ?_ | refine blk_alloc ?_ _)); refine blk_put (cs := #[.string t132, .slice none 0 0, .slice none 0 0]) ?_ 1 _ rfl; (with_reducible repeat (first | refine blk_drewN ?_ _ | refine blk_drew ?_ | refine blk_alloc ?_ _)); refine blk_put (cs := #[.string (⟨#[]⟩ : ByteArray), .slice none 0 0, .slice none 0 0]) ?_ 0 _ rfl; (with_reducible repeat (first | refine blk_drewN ?_ _ | refine blk_drew ?_ | refine blk_alloc ?_ _)); exact BK140.out) hb); have n3_ := Aside0.mk (below_step (by repeat (first | (with_reducible first | exact HB.out | apply below_alloc | apply pw_below_drewN | apply below_drew1 | refine below_set ?_ GE140.out) | exact HB.out)) hb); clear HO135; clear HO138; clear BK140; clear HB; have HO135 := n0_; have HO138 := n1_; have BK140 := n2_; have HB := n3_; clear n0_ n1_ n2_ n3_; (try clear hb); (try clear hb2); (try clear hk); (try clear hi)))
      repeat (go_quiet (first | (go_at_call 32; (with_reducible refine (malthouseref01_Runes.calls k a0 t132 t133 t136 true _ A3.out).mono ?_); rintro e w6 ⟨v134, v137, rfl, ho0, ho1, hb⟩; have n0_ := Aside0.mk (Kd.R_lower ho0 (below_size (by repeat (first | (with_reducible first | exact HB.out | apply below_alloc | apply pw_below_drewN | apply below_drew1) | exact HB.out)))); have n1_ := Aside0.mk (Kd.R_lower ho1 (below_size (by repeat (first | (with_reducible first | exact HB.out | apply below_alloc | apply pw_below_drewN | apply below_drew1) | exact HB.out)))); have n2_ := Aside0.mk (below_step (by repeat (first | (with_reducible first | exact HB.out | apply below_alloc | apply pw_below_drewN | apply below_drew1) | exact HB.out)) hb); clear HB; have HO135 := n0_; have HO138 := n1_; have HB := n2_; clear n0_ n1_ n2_; (try clear hb); (try clear hb2); (try clear hk); (try clear hi); (try clear ho0); (try clear ho1)) | ((with_reducible refine gate_dst (N := 5) rfl ?_); refine box_event ?hg (N := 5) ?hd (cs := #[.string (⟨#[]⟩ : ByteArray), .slice none 0 0, .slice none 0 0]) (t := 53) ?hr ?_; (case hd => rfl); (case hg => rfl); (case hr => first | (go_simp; done) | (go_simp; rfl)); intro gb140 hg w7 hbox hb; have n0_ := Aside0.mk (Kd.R_below (by (with_reducible repeat (first | apply Kd.R_alloc | apply Kd.R_drewN | apply Kd.R_drew)); exact HO135.out) hb); have n1_ := Aside0.mk (Kd.R_below (by (with_reducible repeat (first | apply Kd.R_alloc | apply Kd.R_drewN | apply Kd.R_drew)); exact HO138.out) hb); have n2_ := Aside0.mk (below_step (by repeat (first | (with_reducible first | exact HB.out | apply below_alloc | apply pw_below_drewN | apply below_drew1) | exact HB.out)) hb); have n3_ := Aside0.mk (hbox); have n4_ := Aside0.mk ((by rw [hg]; exact (below_size (by repeat (first | (with_reducible first | exact HB.out | apply below_alloc | apply pw_below_drewN | apply below_drew1) | exact HB.out))) : w.heap.size ≤ gb140)); have n5_ := Aside0.mk ((by rw [hg]; exact (below_size (by repeat (first | (with_reducible first | exact HB.out | apply below_alloc | apply pw_below_drewN | apply below_drew1) | exact HB.out))) : w.heap.size ≤ gb140)); clear HO135; clear HO138; clear HB; have HO135 := n0_; have HO138 := n1_; have HB := n2_; have BK140 := n3_; have GW140 := n4_; have GE140 := n5_; clear n0_ n1_ n2_ n3_ n4_ n5_; clear hb hbox hg; have hcz8_0 : w7.cell? ⟨gb140, 0, none⟩ = some (.string (⟨#[]⟩ : ByteArray)) := (blk_cell BK140.out 0).trans rfl; have hcz8_1 : w7.cell? ⟨gb140, 1, none⟩ = some (.slice none 0 0) := (blk_cell BK140.out 1).trans rfl; have hcz8_2 : w7.cell? ⟨gb140, 2, none⟩ = some (.slice none 0 0) := (blk_cell BK140.out 2).trans rfl; have hfz8_0 := blk_frozen BK140.out 0; have hfz8_1 := blk_frozen BK140.out 1; have hfz8_2 := blk_frozen BK140.out 2; obtain ⟨Ao9, co9, eo9⟩ := Kd.R_slice HO135.out; subst eo9; obtain ⟨Ao10, co10, eo10⟩ := Kd.R_slice HO138.out; subst eo10) | (go_at_call 33; (with_reducible refine (malthouseref01_past.calls k t132 _ _ t133 _ _ t136 0 t141 _ ?side1 ?side2 ?side3 ?side4 A5.out).mono ?_); (case side1 => refine (Kd.R_reads' (e := 3) (base := w.heap.size) (ok := fun k_ => some k_ ≠ (.slice Ao10 t136.length co10 : Value).ownBlock) (n := t133.length) (c := co9) ?_).2.2; exact (by (with_reducible repeat (first | apply Kd.R_alloc | apply Kd.R_drewN | apply Kd.R_drew)); exact (Kd.R_mono (Kd.R_far (p := ⟨gb140, 2, none⟩) (Kd.R_far (p := ⟨gb140, 1, none⟩) (Kd.R_far (p := ⟨gb140, 0, none⟩) (Kd.R_types HO135.out BK140.out (by decide)) (fun _ hk => hk.2) (.string t132)) (fun _ hk => hk.2) (.slice Ao9 t133.length co9)) (fun _ hk => hk.2) (.slice Ao10 t136.length co10)) (fun _ h_ => h_.1)))); (case side2 => exact (Kd.R_reads' HO135.out).2.1); (case side3 => refine (Kd.R_reads' (e := 3) (base := w.heap.size) (ok := fun k_ => some k_ ≠ (.slice Ao9 t133.length co9 : Value).ownBlock) (n := t136.length) (c := co10) ?_).2.2; exact (by (with_reducible repeat (first | apply Kd.R_alloc | apply Kd.R_drewN | apply Kd.R_drew)); exact (Kd.R_mono (Kd.R_far (p := ⟨gb140, 2, none⟩) (Kd.R_far (p := ⟨gb140, 1, none⟩) (Kd.R_far (p := ⟨gb140, 0, none⟩) (Kd.R_types HO138.out BK140.out (by decide)) (fun _ hk => hk.2) (.string t132)) (fun _ hk => hk.2) (.slice Ao9 t133.length co9)) (fun _ hk => hk.2) (.slice Ao10 t136.length co10)) (fun _ h_ => h_.1)))); (case side4 => exact (Kd.R_reads' HO138.out).2.1); rintro e w11 ⟨rfl, hb⟩; have n0_ := Aside0.mk (Kd.R_below (by (with_reducible repeat (first | apply Kd.R_alloc | apply Kd.R_drewN | apply Kd.R_drew)); exact (Kd.R_mono (Kd.R_far (p := ⟨gb140, 2, none⟩) (Kd.R_far (p := ⟨gb140, 1, none⟩) (Kd.R_far (p := ⟨gb140, 0, none⟩) (Kd.R_types HO135.out BK140.out (by decide)) (fun _ hk => hk.2) (.string t132)) (fun _ hk => hk.2) (.slice Ao9 t133.length co9)) (fun _ hk => hk.2) (.slice Ao10 t136.length co10)) (fun _ h_ => h_.1))) hb); have n1_ := Aside0.mk (Kd.R_below (by (with_reducible repeat (first | apply Kd.R_alloc | apply Kd.R_drewN | apply Kd.R_drew)); exact (Kd.R_mono (Kd.R_far (p := ⟨gb140, 2, none⟩) (Kd.R_far (p := ⟨gb140, 1, none⟩) (Kd.R_far (p := ⟨gb140, 0, none⟩) (Kd.R_types HO138.out BK140.out (by decide)) (fun _ hk => hk.2) (.string t132)) (fun _ hk => hk.2) (.slice Ao9 t133.length co9)) (fun _ hk => hk.2) (.slice Ao10 t136.length co10)) (fun _ h_ => h_.1))) hb); have n2_ := Aside0.mk (blk_below (g := gb140) (o := .cells #[.string t132, .slice Ao9 t133.length co9, .slice Ao10 t136.length co10] 53 (0, 0)) (by (with_reducible repeat (first | refine blk_drewN ?_ _ | refine blk_drew ?_ | refine blk_alloc ?_ _)); refine blk_put (cs := #[.string t132, .slice Ao9 t133.length co9, .slice none 0 0]) ?_ 2 _ rfl; (with_reducible repeat (first | refine blk_drewN ?_ _ | refine blk_drew ?_ | refine blk_alloc ?_ _)); refine blk_put (cs := #[.string t132, .slice none 0 0, .slice none 0 0]) ?_ 1 _ rfl; (with_reducible repeat (first | refine blk_drewN ?_ _ | refine blk_drew ?_ | refine blk_alloc ?_ _)); refine blk_put (cs := #[.string (⟨#[]⟩ : ByteArray), .slice none 0 0, .slice none 0 0]) ?_ 0 _ rfl; (with_reducible repeat (first | refine blk_drewN ?_ _ | refine blk_drew ?_ | refine blk_alloc ?_ _)); exact BK140.out) hb); have n3_ := Aside0.mk (below_step (by repeat (first | (with_reducible first | exact HB.out | apply below_alloc | apply pw_below_drewN | apply below_drew1 | refine below_set ?_ GE140.out) | exact HB.out)) hb); clear HO135; clear HO138; clear BK140; clear HB; have HO135 := n0_; have HO138 := n1_; have BK140 := n2_; have HB := n3_; clear n0_ n1_ n2_ n3_; (try clear hb); (try clear hb2); (try clear hk); (try clear hi))); try go_wp2_with (first | (go_at_call 32; (with_reducible refine (malthouseref01_Runes.calls k a0 t132 t133 t136 true _ A3.out).mono ?_); rintro e w6 ⟨v134, v137, rfl, ho0, ho1, hb⟩; have n0_ := Aside0.mk (Kd.R_lower ho0 (below_size (by repeat (first | (with_reducible first | exact HB.out | apply below_alloc | apply pw_below_drewN | apply below_drew1) | exact HB.out)))); have n1_ := Aside0.mk (Kd.R_lower ho1 (below_size (by repeat (first | (with_reducible first | exact HB.out | apply below_alloc | apply pw_below_drewN | apply below_drew1) | exact HB.out)))); have n2_ := Aside0.mk (below_step (by repeat (first | (with_reducible first | exact HB.out | apply below_alloc | apply pw_below_drewN | apply below_drew1) | exact HB.out)) hb); clear HB; have HO135 := n0_; have HO138 := n1_; have HB := n2_; clear n0_ n1_ n2_; (try clear hb); (try clear hb2); (try clear hk); (try clear hi); (try clear ho0); (try clear ho1)) | ((with_reducible refine gate_dst (N := 5) rfl ?_); refine box_event ?hg (N := 5) ?hd (cs := #[.string (⟨#[]⟩ : ByteArray), .slice none 0 0, .slice none 0 0]) (t := 53) ?hr ?_; (case hd => rfl); (case hg => rfl); (case hr => first | (go_simp; done) | (go_simp; rfl)); intro gb140 hg w7 hbox hb; have n0_ := Aside0.mk (Kd.R_below (by (with_reducible repeat (first | apply Kd.R_alloc | apply Kd.R_drewN | apply Kd.R_drew)); exact HO135.out) hb); have n1_ := Aside0.mk (Kd.R_below (by (with_reducible repeat (first | apply Kd.R_alloc | apply Kd.R_drewN | apply Kd.R_drew)); exact HO138.out) hb); have n2_ := Aside0.mk (below_step (by repeat (first | (with_reducible first | exact HB.out | apply below_alloc | apply pw_below_drewN | apply below_drew1) | exact HB.out)) hb); have n3_ := Aside0.mk (hbox); have n4_ := Aside0.mk ((by rw [hg]; exact (below_size (by repeat (first | (with_reducible first | exact HB.out | apply below_alloc | apply pw_below_drewN | apply below_drew1) | exact HB.out))) : w.heap.size ≤ gb140)); have n5_ := Aside0.mk ((by rw [hg]; exact (below_size (by repeat (first | (with_reducible first | exact HB.out | apply below_alloc | apply pw_below_drewN | apply below_drew1) | exact HB.out))) : w.heap.size ≤ gb140)); clear HO135; clear HO138; clear HB; have HO135 := n0_; have HO138 := n1_; have HB := n2_; have BK140 := n3_; have GW140 := n4_; have GE140 := n5_; clear n0_ n1_ n2_ n3_ n4_ n5_; clear hb hbox hg; have hcz8_0 : w7.cell? ⟨gb140, 0, none⟩ = some (.string (⟨#[]⟩ : ByteArray)) := (blk_cell BK140.out 0).trans rfl; have hcz8_1 : w7.cell? ⟨gb140, 1, none⟩ = some (.slice none 0 0) := (blk_cell BK140.out 1).trans rfl; have hcz8_2 : w7.cell? ⟨gb140, 2, none⟩ = some (.slice none 0 0) := (blk_cell BK140.out 2).trans rfl; have hfz8_0 := blk_frozen BK140.out 0; have hfz8_1 := blk_frozen BK140.out 1; have hfz8_2 := blk_frozen BK140.out 2; obtain ⟨Ao9, co9, eo9⟩ := Kd.R_slice HO135.out; subst eo9; obtain ⟨Ao10, co10, eo10⟩ := Kd.R_slice HO138.out; subst eo10) | (go_at_call 33; (with_reducible refine (malthouseref01_past.calls k t132 _ _ t133 _ _ t136 0 t141 _ ?side1 ?side2 ?side3 ?side4 A5.out).mono ?_); (case side1 => refine (Kd.R_reads' (e := 3) (base := w.heap.size) (ok := fun k_ => some k_ ≠ (.slice Ao10 t136.length co10 : Value).ownBlock) (n := t133.length) (c := co9) ?_).2.2; exact (by (with_reducible repeat (first | apply Kd.R_alloc | apply Kd.R_drewN | apply Kd.R_drew)); exact (Kd.R_mono (Kd.R_far (p := ⟨gb140, 2, none⟩) (Kd.R_far (p := ⟨gb140, 1, none⟩) (Kd.R_far (p := ⟨gb140, 0, none⟩) (Kd.R_types HO135.out BK140.out (by decide)) (fun _ hk => hk.2) (.string t132)) (fun _ hk => hk.2) (.slice Ao9 t133.length co9)) (fun _ hk => hk.2) (.slice Ao10 t136.length co10)) (fun _ h_ => h_.1)))); (case side2 => exact (Kd.R_reads' HO135.out).2.1); (case side3 => refine (Kd.R_reads' (e := 3) (base := w.heap.size) (ok := fun k_ => some k_ ≠ (.slice Ao9 t133.length co9 : Value).ownBlock) (n := t136.length) (c := co10) ?_).2.2; exact (by (with_reducible repeat (first | apply Kd.R_alloc | apply Kd.R_drewN | apply Kd.R_drew)); exact (Kd.R_mono (Kd.R_far (p := ⟨gb140, 2, none⟩) (Kd.R_far (p := ⟨gb140, 1, none⟩) (Kd.R_far (p := ⟨gb140, 0, none⟩) (Kd.R_types HO138.out BK140.out (by decide)) (fun _ hk => hk.2) (.string t132)) (fun _ hk => hk.2) (.slice Ao9 t133.length co9)) (fun _ hk => hk.2) (.slice Ao10 t136.length co10)) (fun _ h_ => h_.1)))); (case side4 => exact (Kd.R_reads' HO138.out).2.1); rintro e w11 ⟨rfl, hb⟩; have n0_ := Aside0.mk (Kd.R_below (by (with_reducible repeat (first | apply Kd.R_alloc | apply Kd.R_drewN | apply Kd.R_drew)); exact (Kd.R_mono (Kd.R_far (p := ⟨gb140, 2, none⟩) (Kd.R_far (p := ⟨gb140, 1, none⟩) (Kd.R_far (p := ⟨gb140, 0, none⟩) (Kd.R_types HO135.out BK140.out (by decide)) (fun _ hk => hk.2) (.string t132)) (fun _ hk => hk.2) (.slice Ao9 t133.length co9)) (fun _ hk => hk.2) (.slice Ao10 t136.length co10)) (fun _ h_ => h_.1))) hb); have n1_ := Aside0.mk (Kd.R_below (by (with_reducible repeat (first | apply Kd.R_alloc | apply Kd.R_drewN | apply Kd.R_drew)); exact (Kd.R_mono (Kd.R_far (p := ⟨gb140, 2, none⟩) (Kd.R_far (p := ⟨gb140, 1, none⟩) (Kd.R_far (p := ⟨gb140, 0, none⟩) (Kd.R_types HO138.out BK140.out (by decide)) (fun _ hk => hk.2) (.string t132)) (fun _ hk => hk.2) (.slice Ao9 t133.length co9)) (fun _ hk => hk.2) (.slice Ao10 t136.length co10)) (fun _ h_ => h_.1))) hb); have n2_ := Aside0.mk (blk_below (g := gb140) (o := .cells #[.string t132, .slice Ao9 t133.length co9, .slice Ao10 t136.length co10] 53 (0, 0)) (by (with_reducible repeat (first | refine blk_drewN ?_ _ | refine blk_drew ?_ | refine blk_alloc ?_ _)); refine blk_put (cs := #[.string t132, .slice Ao9 t133.length co9, .slice none 0 0]) ?_ 2 _ rfl; (with_reducible repeat (first | refine blk_drewN ?_ _ | refine blk_drew ?_ | refine blk_alloc ?_ _)); refine blk_put (cs := #[.string t132, .slice none 0 0, .slice none 0 0]) ?_ 1 _ rfl; (with_reducible repeat (first | refine blk_drewN ?_ _ | refine blk_drew ?_ | refine blk_alloc ?_ _)); refine blk_put (cs := #[.string (⟨#[]⟩ : ByteArray), .slice none 0 0, .slice none 0 0]) ?_ 0 _ rfl; (with_reducible repeat (first | refine blk_drewN ?_ _ | refine blk_drew ?_ | refine blk_alloc ?_ _)); exact BK140.out) hb); have n3_ := Aside0.mk (below_step (by repeat (first | (with_reducible first | exact HB.out | apply below_alloc | apply pw_below_drewN | apply below_drew1 | refine below_set ?_ GE140.out) | exact HB.out)) hb); clear HO135; clear HO138; clear BK140; clear HB; have HO135 := n0_; have HO138 := n1_; have BK140 := n2_; have HB := n3_; clear n0_ n1_ n2_ n3_; (try clear hb); (try clear hb2); (try clear hk); (try clear hi))))
      go_loopg [7, 8] k (fun kq v7 v8 w' => ∃ (x7_1 : List (S38)) (x8_1 : Int), v8 = .int .i64 x8_1 ∧ Aside0 (malthouseref01_Cut.l0 kq x7_1 x8_1 t132 t133 t136 = some (r1, r2, r3)) ∧ Aside0 (kq ≤ k) ∧ Aside0 (Kd.R k38 38 w' w.heap.size (fun _ => True) v7 x7_1) ∧ Aside0 (Kd.R (Kd.int .i64) 3 w' w.heap.size (fun k_ => some k_ ≠ ((.slice Ao10 t136.length co10) : Value).ownBlock) (.slice Ao9 t133.length co9) t133) ∧ Aside0 (Kd.R (Kd.int .i64) 3 w' w.heap.size (fun k_ => some k_ ≠ ((.slice Ao9 t133.length co9) : Value).ownBlock) (.slice Ao10 t136.length co10) t136) ∧ Aside0 (w'.heap[gb140]? = some (.cells #[.string t132, (.slice Ao9 t133.length co9), (.slice Ao10 t136.length co10)] 53 (0, 0))) ∧ Aside0 (Below w.heap.size w w'))
      case atStart => exact ⟨(([] : List (S38))), (t141), (by first | rfl | (simp; done) | (simp [*]; done)), H', ⟨Nat.le_refl _⟩, ⟨by first | exact Kd.R_nil _ _ _ _ _ | exact Kd.N_nil _ _ _ _ _ | exact Kd.V_nil _ _ _ _ _ | exact Kd.Q_nil _ _ _ _ _ | exact Kd.S_nil _ _ _ _ _⟩, ⟨by (with_reducible repeat (first | apply Kd.R_alloc | apply Kd.R_drewN | apply Kd.R_drew)); exact HO135.out⟩, ⟨by (with_reducible repeat (first | apply Kd.R_alloc | apply Kd.R_drewN | apply Kd.R_drew)); exact HO138.out⟩, ⟨by (with_reducible repeat (first | refine blk_drewN ?_ _ | refine blk_drew ?_ | refine blk_alloc ?_ _)); exact BK140.out⟩, ⟨by repeat (first | (with_reducible first | exact HB.out | apply below_alloc | apply pw_below_drewN | apply below_drew1 | refine below_set ?_ GE140.out) | exact HB.out)⟩⟩
      case round =>
        clear H'
        try clear c1
        try clear c2
        try clear c2b0
        try clear c2b1
        try clear p2
        try clear c4
        try clear hcz8_0
        try clear hcz8_1
        try clear hcz8_2
        try clear hfz8_0
        try clear hfz8_1
        try clear hfz8_2
        obtain ⟨x7_1, x8_1, rfl, HA, HK1, HO_7, HO_141001, HO_141002, BK140, HB⟩ := hrel
        cases gk with
        | zero => exact absurd HA.out (by simp [malthouseref01_Cut.l0])
        | succ k1 =>
          have H := HA.out
          clear HA
          simp only [malthouseref01_Cut.l0] at H
          by_cases c12 : x8_1 < (t133.length : Int)
          · rw [if_pos c12] at H
            have c12b0 : decide (x8_1 < (t133.length : Int)) = true := decide_eq_true c12
            clear c12
            by_cases c13 : (x7_1.length : Int) = 2000
            · rw [if_pos c13] at H
              have c13b0 : ((x7_1.length : Int) == 2000) = true := beq_iff_eq.mpr c13
              have c13b1 : ((x7_1.length : Int) != 2000) = false := bne_eq_false_iff_eq.mpr c13
              clear c13
              simp only [Option.some.injEq, Prod.mk.injEq] at H
              obtain ⟨rfl, rfl, rfl⟩ := H
              have hcz14_0 : wr.cell? ⟨gb140, 0, none⟩ = some (.string t132) := (blk_cell BK140.out 0).trans rfl
              have hcz14_1 : wr.cell? ⟨gb140, 1, none⟩ = some (.slice Ao9 t133.length co9) := (blk_cell BK140.out 1).trans rfl
              have hcz14_2 : wr.cell? ⟨gb140, 2, none⟩ = some (.slice Ao10 t136.length co10) := (blk_cell BK140.out 2).trans rfl
              have hfz14_0 := blk_frozen BK140.out 0
              have hfz14_1 := blk_frozen BK140.out 1
              have hfz14_2 := blk_frozen BK140.out 2
              obtain ⟨Ao15, co15, eo15⟩ := Kd.R_slice HO_7.out
              subst eo15
              go_wp2
              repeat (go_quiet (fail); try go_wp2)
              go_ret3
              exact ⟨_, by first | rfl | (simp [errW_none, errW_some] <;> rfl) | (simp [*, errW_none, errW_some] <;> rfl), by first | exact Kd.R_nil _ _ _ _ _ | exact Kd.N_nil _ _ _ _ _ | exact Kd.V_nil _ _ _ _ _ | exact Kd.Q_nil _ _ _ _ _ | exact Kd.S_nil _ _ _ _ _, by repeat (first | (with_reducible first | exact HB.out | apply below_alloc | apply pw_below_drewN | apply below_drew1 | refine below_set ?_ GE140.out) | exact HB.out)⟩
            · rw [if_neg c13] at H
              have c13b0 : ((x7_1.length : Int) == 2000) = false := beq_eq_false_iff_ne.mpr c13
              have c13b1 : ((x7_1.length : Int) != 2000) = true := bne_iff_ne.mpr c13
              replace H := Option.bind_eq_some_iff.mp H
              obtain ⟨⟨t145, t146, t147, t148, t149, t150⟩, A160, H⟩ := H
              replace H : (if t150 = 0 then (if x7_1.length < 3518437208883 then ((malthouseref01_past.f k1 t132 t133 t136 t149).bind fun t155 => (malthouseref01_Cut.l0 k1 (x7_1 ++ [(⟨t145, t146, t147, t148⟩ : S38)]) t155 t132 t133 t136)) else (none)) else (some (([] : List (S38)), t150, x8_1))) = some (r1, r2, r3) := H
              have A16 := Aside0.mk A160
              clear A160
              by_cases c17 : t150 = 0
              · rw [if_pos c17] at H
                have c17b0 : (t150 == 0) = true := beq_iff_eq.mpr c17
                have c17b1 : (t150 != 0) = false := bne_eq_false_iff_eq.mpr c17
                clear c17
                by_cases c18 : x7_1.length < 3518437208883
                · rw [if_pos c18] at H
                  have LMc18 := Aside0.mk c18
                  clear c18
                  obtain ⟨y152, hy152⟩ : ∃ y_ : List (S38), y_ = (x7_1 ++ [(⟨t145, t146, t147, t148⟩ : S38)]) := ⟨_, rfl⟩
                  replace H : ((malthouseref01_past.f k1 t132 t133 t136 t149).bind fun t155 => (malthouseref01_Cut.l0 k1 y152 t155 t132 t133 t136)) = some (r1, r2, r3) := by first | (rw [hy152]; with_reducible exact H) | (have H2_ := (Option.bind_some _ _).symm.trans H; rw [hy152]; with_reducible exact H2_) | (have H2_ := (Option.bind_some _ _).symm.trans H; with_reducible exact H2_) | with_reducible exact H | (rw [hy152]; exact H) | exact H
                  have Ny152 := Aside0.mk hy152
                  clear hy152
                  replace H := Option.bind_eq_some_iff.mp H
                  obtain ⟨t155, A190, H⟩ := H
                  replace H : (malthouseref01_Cut.l0 k1 y152 t155 t132 t133 t136) = some (r1, r2, r3) := H
                  have A19 := Aside0.mk A190
                  clear A190
                  have H' := Aside0.mk H
                  clear H
                  have hcz20_0 : wr.cell? ⟨gb140, 0, none⟩ = some (.string t132) := (blk_cell BK140.out 0).trans rfl
                  have hcz20_1 : wr.cell? ⟨gb140, 1, none⟩ = some (.slice Ao9 t133.length co9) := (blk_cell BK140.out 1).trans rfl
                  have hcz20_2 : wr.cell? ⟨gb140, 2, none⟩ = some (.slice Ao10 t136.length co10) := (blk_cell BK140.out 2).trans rfl
                  have hfz20_0 := blk_frozen BK140.out 0
                  have hfz20_1 := blk_frozen BK140.out 1
                  have hfz20_2 := blk_frozen BK140.out 2
                  obtain ⟨Ao21, co21, eo21⟩ := Kd.R_slice HO_7.out
                  subst eo21
                  go_wp2_with (first | (go_at_call 34; (with_reducible refine (malthouseref01_token.calls t132 _ _ t133 _ _ t136 x8_1 t145 t146 t147 t148 t149 t150 _ ?side1 ?side2 ?side3 ?side4 A16.out).mono ?_); (case side1 => repeat (first | exact (Kd.R_reads' HO_141001.out).2.2 | (with_reducible refine Kd.C_alloc ?_ _) | (with_reducible refine Kd.C_drewN ?_ _) | (with_reducible refine Kd.C_drew ?_))); (case side2 => exact (Kd.R_reads' HO_141001.out).2.1); (case side3 => repeat (first | exact (Kd.R_reads' HO_141002.out).2.2 | (with_reducible refine Kd.C_alloc ?_ _) | (with_reducible refine Kd.C_drewN ?_ _) | (with_reducible refine Kd.C_drew ?_))); (case side4 => exact (Kd.R_reads' HO_141002.out).2.1); rintro e w22 ⟨rfl, hb⟩; have n0_ := Aside0.mk (Kd.R_below (by (with_reducible repeat (first | apply Kd.R_alloc | apply Kd.R_drewN | apply Kd.R_drew)); exact HO_7.out) hb); have n1_ := Aside0.mk (Kd.R_below (by (with_reducible repeat (first | apply Kd.R_alloc | apply Kd.R_drewN | apply Kd.R_drew)); exact HO_141001.out) hb); have n2_ := Aside0.mk (Kd.R_below (by (with_reducible repeat (first | apply Kd.R_alloc | apply Kd.R_drewN | apply Kd.R_drew)); exact HO_141002.out) hb); have n3_ := Aside0.mk (blk_below (g := gb140) (o := .cells #[.string t132, .slice Ao9 t133.length co9, .slice Ao10 t136.length co10] 53 (0, 0)) (by (with_reducible repeat (first | refine blk_drewN ?_ _ | refine blk_drew ?_ | refine blk_alloc ?_ _)); exact BK140.out) hb); have n4_ := Aside0.mk (below_step (by repeat (first | (with_reducible first | exact HB.out | apply below_alloc | apply pw_below_drewN | apply below_drew1 | refine below_set ?_ GE140.out) | exact HB.out)) hb); clear HO_7; clear HO_141001; clear HO_141002; clear BK140; clear HB; have HO_7 := n0_; have HO_141001 := n1_; have HO_141002 := n2_; have BK140 := n3_; have HB := n4_; clear n0_ n1_ n2_ n3_ n4_; (try clear hb); (try clear hb2); (try clear hk); (try clear hi)) | ((with_reducible refine gate_dst (N := 9) rfl ?_); refine box_event ?hg (N := 9) ?hd (cs := #[.int .i64 0, .string (⟨#[]⟩ : ByteArray), .int .i64 0, .int .i64 0]) (t := 38) ?hr ?_; (case hd => rfl); (case hg => rfl); (case hr => first | (go_simp; done) | (go_simp; rfl)); intro gb151 hg w23 hbox hb; have n0_ := Aside0.mk (Kd.R_below (Kd.R_elderB (by (with_reducible repeat (first | apply Kd.R_alloc | apply Kd.R_drewN | apply Kd.R_drew)); exact HO_7.out) gb151 (Nat.le_of_eq hg.symm)) hb); have n1_ := Aside0.mk (Kd.R_below (by (with_reducible repeat (first | apply Kd.R_alloc | apply Kd.R_drewN | apply Kd.R_drew)); exact HO_141001.out) hb); have n2_ := Aside0.mk (Kd.R_below (by (with_reducible repeat (first | apply Kd.R_alloc | apply Kd.R_drewN | apply Kd.R_drew)); exact HO_141002.out) hb); have n3_ := Aside0.mk (blk_below (g := gb140) (o := .cells #[.string t132, .slice Ao9 t133.length co9, .slice Ao10 t136.length co10] 53 (0, 0)) (by (with_reducible repeat (first | refine blk_drewN ?_ _ | refine blk_drew ?_ | refine blk_alloc ?_ _)); exact BK140.out) hb); have n4_ := Aside0.mk (below_step (by repeat (first | (with_reducible first | exact HB.out | apply below_alloc | apply pw_below_drewN | apply below_drew1 | refine below_set ?_ GE140.out) | exact HB.out)) hb); have n5_ := Aside0.mk (hbox); have n6_ := Aside0.mk ((by rw [hg]; exact (below_size (by repeat (first | (with_reducible first | exact HB.out | apply below_alloc | apply pw_below_drewN | apply below_drew1 | refine below_set ?_ GE140.out) | exact HB.out))) : w.heap.size ≤ gb151)); have n7_ := Aside0.mk ((by rw [hg]; exact (below_size (by repeat (first | (with_reducible first | exact HB.out | apply below_alloc | apply pw_below_drewN | apply below_drew1 | refine below_set ?_ GE140.out) | exact HB.out))) : w.heap.size ≤ gb151)); have n8_ := Aside0.mk ((by rw [hg]; exact Nat.ne_of_lt (blk_lt (g := gb140) (o := .cells #[.string t132, .slice Ao9 t133.length co9, .slice Ao10 t136.length co10] 53 (0, 0)) (by (with_reducible repeat (first | refine blk_drewN ?_ _ | refine blk_drew ?_ | refine blk_alloc ?_ _)); exact BK140.out)) : gb140 ≠ gb151)); have n9_ := Aside0.mk ((by rw [hg]; exact Nat.ne_of_gt (blk_lt (g := gb140) (o := .cells #[.string t132, .slice Ao9 t133.length co9, .slice Ao10 t136.length co10] 53 (0, 0)) (by (with_reducible repeat (first | refine blk_drewN ?_ _ | refine blk_drew ?_ | refine blk_alloc ?_ _)); exact BK140.out)) : gb151 ≠ gb140)); clear HO_7; clear HO_141001; clear HO_141002; clear BK140; clear HB; have HO_7 := n0_; have HO_141001 := n1_; have HO_141002 := n2_; have BK140 := n3_; have HB := n4_; have BK151 := n5_; have GW151 := n6_; have GE151 := n7_; have NB140_151 := n8_; have NB151_140 := n9_; clear n0_ n1_ n2_ n3_ n4_ n5_ n6_ n7_ n8_ n9_; clear hb hbox hg; have hnb24 := NB151_140.out; have hnc24 := NB140_151.out; have hcz25_0 : w23.cell? ⟨gb151, 0, none⟩ = some (.int .i64 0) := (blk_cell BK151.out 0).trans rfl; have hcz25_1 : w23.cell? ⟨gb151, 1, none⟩ = some (.string (⟨#[]⟩ : ByteArray)) := (blk_cell BK151.out 1).trans rfl; have hcz25_2 : w23.cell? ⟨gb151, 2, none⟩ = some (.int .i64 0) := (blk_cell BK151.out 2).trans rfl; have hcz25_3 : w23.cell? ⟨gb151, 3, none⟩ = some (.int .i64 0) := (blk_cell BK151.out 3).trans rfl; have hfz25_0 := blk_frozen BK151.out 0; have hfz25_1 := blk_frozen BK151.out 1; have hfz25_2 := blk_frozen BK151.out 2; have hfz25_3 := blk_frozen BK151.out 3) | ((with_reducible refine gate_builtin (b := .append) (xs := #[.tmp 47, .tmp 49]) rfl ?_); at_builtin; refine Kd.R_append k38 (w0 := w) w.heap.size rfl (.tmp 47) (.tmp 49) 23 38 (.agg #[(.int .i64 0), (.string ⟨#[]⟩), (.int .i64 0), (.int .i64 0)]) 40 rfl Tryd.underlying23 info38 rfl (by decide) (by omega) (.slice Ao21 x7_1.length co21) x7_1 (⟨t145, t146, t147, t148⟩ : S38) [.int .i64 t145, .string t146, .int .i64 t147, .int .i64 t148] (fun k_ => k_ ≠ gb151) (fun _ => False) rfl (by first | (go_simp; done) | (go_simp; rfl)) ?aP (fun _ hk => hk.elim) ?aF ?aO ?aB ?aS ?aL ?_; (case aP => exact k38_mkM _ _ _ (⟨t145, t146, t147, t148⟩ : S38)); (case aB => exact (by repeat (first | (with_reducible first | exact HB.out | apply below_alloc | apply pw_below_drewN | apply below_drew1 | refine below_set ?_ GE140.out | refine below_set ?_ GE151.out) | exact HB.out))); (case aF => exact (fun k_ hk => Kd.freshB (g := gb151) (o := .cells #[.int .i64 t145, .string t146, .int .i64 t147, .int .i64 t148] 38 (0, 0)) (by (with_reducible repeat (first | refine blk_drewN ?_ _ | refine blk_drew ?_ | refine blk_alloc ?_ _)); refine blk_put (cs := #[.int .i64 t145, .string t146, .int .i64 t147, .int .i64 0]) ?_ 3 _ rfl; (with_reducible repeat (first | refine blk_drewN ?_ _ | refine blk_drew ?_ | refine blk_alloc ?_ _)); refine blk_put (cs := #[.int .i64 t145, .string t146, .int .i64 0, .int .i64 0]) ?_ 2 _ rfl; (with_reducible repeat (first | refine blk_drewN ?_ _ | refine blk_drew ?_ | refine blk_alloc ?_ _)); refine blk_put (cs := #[.int .i64 t145, .string (⟨#[]⟩ : ByteArray), .int .i64 0, .int .i64 0]) ?_ 1 _ rfl; (with_reducible repeat (first | refine blk_drewN ?_ _ | refine blk_drew ?_ | refine blk_alloc ?_ _)); refine blk_put (cs := #[.int .i64 0, .string (⟨#[]⟩ : ByteArray), .int .i64 0, .int .i64 0]) ?_ 0 _ rfl; (with_reducible repeat (first | refine blk_drewN ?_ _ | refine blk_drew ?_ | refine blk_alloc ?_ _)); exact BK151.out) k_ hk)); (case aO => exact (by (with_reducible repeat (first | apply Kd.R_alloc | apply Kd.R_drewN | apply Kd.R_drew)); exact Kd.R_mono (Kd.R_far (p := ⟨gb151, 3, none⟩) (Kd.R_far (p := ⟨gb151, 2, none⟩) (Kd.R_far (p := ⟨gb151, 1, none⟩) (Kd.R_far (p := ⟨gb151, 0, none⟩) (Kd.R_mono HO_7.out (fun k_ hk => (⟨hk, hk.2⟩ : _ ∧ k_ ≠ gb151))) (fun _ hk => hk.2) (.int .i64 t145)) (fun _ hk => hk.2) (.string t146)) (fun _ hk => hk.2) (.int .i64 t147)) (fun _ hk => hk.2) (.int .i64 t148)) (fun _ hk => hk.1.2))); (case aS => exact (below_size (by repeat (first | (with_reducible first | exact HB.out | apply below_alloc | apply pw_below_drewN | apply below_drew1 | refine below_set ?_ GE140.out | refine below_set ?_ GE151.out) | exact HB.out)))); (case aL => have := LMc18.out; omega); intro v153 w26 ho hb hg hat; rw [← Ny152.out] at ho; have n0_ := Aside0.mk (Kd.R_over' (by (with_reducible repeat (first | apply Kd.R_alloc | apply Kd.R_drewN | apply Kd.R_drew)); exact (Kd.R_mono (Kd.R_far (p := ⟨gb151, 3, none⟩) (Kd.R_far (p := ⟨gb151, 2, none⟩) (Kd.R_far (p := ⟨gb151, 1, none⟩) (Kd.R_far (p := ⟨gb151, 0, none⟩) (Kd.R_types HO_141001.out BK151.out (by decide)) (fun _ hk => hk.2) (.int .i64 t145)) (fun _ hk => hk.2) (.string t146)) (fun _ hk => hk.2) (.int .i64 t147)) (fun _ hk => hk.2) (.int .i64 t148)) (fun _ h_ => h_.1))) (Kd.R_typed (by (with_reducible repeat (first | apply Kd.R_alloc | apply Kd.R_drewN | apply Kd.R_drew)); exact (Kd.R_mono (Kd.R_far (p := ⟨gb151, 3, none⟩) (Kd.R_far (p := ⟨gb151, 2, none⟩) (Kd.R_far (p := ⟨gb151, 1, none⟩) (Kd.R_far (p := ⟨gb151, 0, none⟩) (Kd.R_mono HO_7.out (fun k_ hk => (⟨hk, hk.2⟩ : _ ∧ k_ ≠ gb151))) (fun _ hk => hk.2) (.int .i64 t145)) (fun _ hk => hk.2) (.string t146)) (fun _ hk => hk.2) (.int .i64 t147)) (fun _ hk => hk.2) (.int .i64 t148)) (fun _ h_ => h_.1)))) (by decide) hg); have n1_ := Aside0.mk (Kd.R_over' (by (with_reducible repeat (first | apply Kd.R_alloc | apply Kd.R_drewN | apply Kd.R_drew)); exact (Kd.R_mono (Kd.R_far (p := ⟨gb151, 3, none⟩) (Kd.R_far (p := ⟨gb151, 2, none⟩) (Kd.R_far (p := ⟨gb151, 1, none⟩) (Kd.R_far (p := ⟨gb151, 0, none⟩) (Kd.R_types HO_141002.out BK151.out (by decide)) (fun _ hk => hk.2) (.int .i64 t145)) (fun _ hk => hk.2) (.string t146)) (fun _ hk => hk.2) (.int .i64 t147)) (fun _ hk => hk.2) (.int .i64 t148)) (fun _ h_ => h_.1))) (Kd.R_typed (by (with_reducible repeat (first | apply Kd.R_alloc | apply Kd.R_drewN | apply Kd.R_drew)); exact (Kd.R_mono (Kd.R_far (p := ⟨gb151, 3, none⟩) (Kd.R_far (p := ⟨gb151, 2, none⟩) (Kd.R_far (p := ⟨gb151, 1, none⟩) (Kd.R_far (p := ⟨gb151, 0, none⟩) (Kd.R_mono HO_7.out (fun k_ hk => (⟨hk, hk.2⟩ : _ ∧ k_ ≠ gb151))) (fun _ hk => hk.2) (.int .i64 t145)) (fun _ hk => hk.2) (.string t146)) (fun _ hk => hk.2) (.int .i64 t147)) (fun _ hk => hk.2) (.int .i64 t148)) (fun _ h_ => h_.1)))) (by decide) hg); have n2_ := Aside0.mk (blk_grown (g := gb140) (o := .cells #[.string t132, .slice Ao9 t133.length co9, .slice Ao10 t136.length co10] 53 (0, 0)) (by (with_reducible repeat (first | refine blk_drewN ?_ _ | refine blk_drew ?_ | refine blk_alloc ?_ _)); refine blk_far ?_ NB140_151.out _; (with_reducible repeat (first | refine blk_drewN ?_ _ | refine blk_drew ?_ | refine blk_alloc ?_ _)); refine blk_far ?_ NB140_151.out _; (with_reducible repeat (first | refine blk_drewN ?_ _ | refine blk_drew ?_ | refine blk_alloc ?_ _)); refine blk_far ?_ NB140_151.out _; (with_reducible repeat (first | refine blk_drewN ?_ _ | refine blk_drew ?_ | refine blk_alloc ?_ _)); refine blk_far ?_ NB140_151.out _; (with_reducible repeat (first | refine blk_drewN ?_ _ | refine blk_drew ?_ | refine blk_alloc ?_ _)); exact BK140.out) hg (Kd.R_ne HO_7.out BK140.out (by decide))); have n3_ := Aside0.mk (blk_grown (g := gb151) (o := .cells #[.int .i64 t145, .string t146, .int .i64 t147, .int .i64 t148] 38 (0, 0)) (by (with_reducible repeat (first | refine blk_drewN ?_ _ | refine blk_drew ?_ | refine blk_alloc ?_ _)); refine blk_put (cs := #[.int .i64 t145, .string t146, .int .i64 t147, .int .i64 0]) ?_ 3 _ rfl; (with_reducible repeat (first | refine blk_drewN ?_ _ | refine blk_drew ?_ | refine blk_alloc ?_ _)); refine blk_put (cs := #[.int .i64 t145, .string t146, .int .i64 0, .int .i64 0]) ?_ 2 _ rfl; (with_reducible repeat (first | refine blk_drewN ?_ _ | refine blk_drew ?_ | refine blk_alloc ?_ _)); refine blk_put (cs := #[.int .i64 t145, .string (⟨#[]⟩ : ByteArray), .int .i64 0, .int .i64 0]) ?_ 1 _ rfl; (with_reducible repeat (first | refine blk_drewN ?_ _ | refine blk_drew ?_ | refine blk_alloc ?_ _)); refine blk_put (cs := #[.int .i64 0, .string (⟨#[]⟩ : ByteArray), .int .i64 0, .int .i64 0]) ?_ 0 _ rfl; (with_reducible repeat (first | refine blk_drewN ?_ _ | refine blk_drew ?_ | refine blk_alloc ?_ _)); exact BK151.out) hg (Kd.R_away HO_7.out (fun _ hk => hk.2))); have n4_ := Aside0.mk (hb); have n5_ := Aside0.mk (ho); clear HO_141001; clear HO_141002; clear BK140; clear BK151; clear HB; clear HO_7; have HO_141001 := n0_; have HO_141002 := n1_; have BK140 := n2_; have BK151 := n3_; have HB := n4_; have HO154 := n5_; clear n0_ n1_ n2_ n3_ n4_ n5_; clear ho hb hg hat; have hcz27_0 : w26.cell? ⟨gb140, 0, none⟩ = some (.string t132) := (blk_cell BK140.out 0).trans rfl; have hcz27_1 : w26.cell? ⟨gb140, 1, none⟩ = some (.slice Ao9 t133.length co9) := (blk_cell BK140.out 1).trans rfl; have hcz27_2 : w26.cell? ⟨gb140, 2, none⟩ = some (.slice Ao10 t136.length co10) := (blk_cell BK140.out 2).trans rfl; have hfz27_0 := blk_frozen BK140.out 0; have hfz27_1 := blk_frozen BK140.out 1; have hfz27_2 := blk_frozen BK140.out 2) | (go_at_call 33; (with_reducible refine (malthouseref01_past.calls k1 t132 _ _ t133 _ _ t136 t149 t155 _ ?side1 ?side2 ?side3 ?side4 A19.out).mono ?_); (case side1 => repeat (first | exact (Kd.R_reads' HO_141001.out).2.2 | (with_reducible refine Kd.C_alloc ?_ _) | (with_reducible refine Kd.C_drewN ?_ _) | (with_reducible refine Kd.C_drew ?_))); (case side2 => exact (Kd.R_reads' HO_141001.out).2.1); (case side3 => repeat (first | exact (Kd.R_reads' HO_141002.out).2.2 | (with_reducible refine Kd.C_alloc ?_ _) | (with_reducible refine Kd.C_drewN ?_ _) | (with_reducible refine Kd.C_drew ?_))); (case side4 => exact (Kd.R_reads' HO_141002.out).2.1); rintro e w28 ⟨rfl, hb⟩; have n0_ := Aside0.mk (Kd.R_below (by (with_reducible repeat (first | apply Kd.R_alloc | apply Kd.R_drewN | apply Kd.R_drew)); exact HO_141001.out) hb); have n1_ := Aside0.mk (Kd.R_below (by (with_reducible repeat (first | apply Kd.R_alloc | apply Kd.R_drewN | apply Kd.R_drew)); exact HO_141002.out) hb); have n2_ := Aside0.mk (Kd.R_below (by (with_reducible repeat (first | apply Kd.R_alloc | apply Kd.R_drewN | apply Kd.R_drew)); exact HO154.out) hb); have n3_ := Aside0.mk (blk_below (g := gb140) (o := .cells #[.string t132, .slice Ao9 t133.length co9, .slice Ao10 t136.length co10] 53 (0, 0)) (by (with_reducible repeat (first | refine blk_drewN ?_ _ | refine blk_drew ?_ | refine blk_alloc ?_ _)); exact BK140.out) hb); have n4_ := Aside0.mk (blk_below (g := gb151) (o := .cells #[.int .i64 t145, .string t146, .int .i64 t147, .int .i64 t148] 38 (0, 0)) (by (with_reducible repeat (first | refine blk_drewN ?_ _ | refine blk_drew ?_ | refine blk_alloc ?_ _)); exact BK151.out) hb); have n5_ := Aside0.mk (below_step (by repeat (first | (with_reducible first | exact HB.out | apply below_alloc | apply pw_below_drewN | apply below_drew1 | refine below_set ?_ GE140.out | refine below_set ?_ GE151.out) | exact HB.out)) hb); clear HO_141001; clear HO_141002; clear HO154; clear BK140; clear BK151; clear HB; have HO_141001 := n0_; have HO_141002 := n1_; have HO154 := n2_; have BK140 := n3_; have BK151 := n4_; have HB := n5_; clear n0_ n1_ n2_ n3_ n4_ n5_; (try clear hb); (try clear hb2); (try clear hk); (try clear hi)))
                  repeat (go_quiet (first | (go_at_call 34; (with_reducible refine (malthouseref01_token.calls t132 _ _ t133 _ _ t136 x8_1 t145 t146 t147 t148 t149 t150 _ ?side1 ?side2 ?side3 ?side4 A16.out).mono ?_); (case side1 => repeat (first | exact (Kd.R_reads' HO_141001.out).2.2 | (with_reducible refine Kd.C_alloc ?_ _) | (with_reducible refine Kd.C_drewN ?_ _) | (with_reducible refine Kd.C_drew ?_))); (case side2 => exact (Kd.R_reads' HO_141001.out).2.1); (case side3 => repeat (first | exact (Kd.R_reads' HO_141002.out).2.2 | (with_reducible refine Kd.C_alloc ?_ _) | (with_reducible refine Kd.C_drewN ?_ _) | (with_reducible refine Kd.C_drew ?_))); (case side4 => exact (Kd.R_reads' HO_141002.out).2.1); rintro e w22 ⟨rfl, hb⟩; have n0_ := Aside0.mk (Kd.R_below (by (with_reducible repeat (first | apply Kd.R_alloc | apply Kd.R_drewN | apply Kd.R_drew)); exact HO_7.out) hb); have n1_ := Aside0.mk (Kd.R_below (by (with_reducible repeat (first | apply Kd.R_alloc | apply Kd.R_drewN | apply Kd.R_drew)); exact HO_141001.out) hb); have n2_ := Aside0.mk (Kd.R_below (by (with_reducible repeat (first | apply Kd.R_alloc | apply Kd.R_drewN | apply Kd.R_drew)); exact HO_141002.out) hb); have n3_ := Aside0.mk (blk_below (g := gb140) (o := .cells #[.string t132, .slice Ao9 t133.length co9, .slice Ao10 t136.length co10] 53 (0, 0)) (by (with_reducible repeat (first | refine blk_drewN ?_ _ | refine blk_drew ?_ | refine blk_alloc ?_ _)); exact BK140.out) hb); have n4_ := Aside0.mk (below_step (by repeat (first | (with_reducible first | exact HB.out | apply below_alloc | apply pw_below_drewN | apply below_drew1 | refine below_set ?_ GE140.out) | exact HB.out)) hb); clear HO_7; clear HO_141001; clear HO_141002; clear BK140; clear HB; have HO_7 := n0_; have HO_141001 := n1_; have HO_141002 := n2_; have BK140 := n3_; have HB := n4_; clear n0_ n1_ n2_ n3_ n4_; (try clear hb); (try clear hb2); (try clear hk); (try clear hi)) | ((with_reducible refine gate_dst (N := 9) rfl ?_); refine box_event ?hg (N := 9) ?hd (cs := #[.int .i64 0, .string (⟨#[]⟩ : ByteArray), .int .i64 0, .int .i64 0]) (t := 38) ?hr ?_; (case hd => rfl); (case hg => rfl); (case hr => first | (go_simp; done) | (go_simp; rfl)); intro gb151 hg w23 hbox hb; have n0_ := Aside0.mk (Kd.R_below (Kd.R_elderB (by (with_reducible repeat (first | apply Kd.R_alloc | apply Kd.R_drewN | apply Kd.R_drew)); exact HO_7.out) gb151 (Nat.le_of_eq hg.symm)) hb); have n1_ := Aside0.mk (Kd.R_below (by (with_reducible repeat (first | apply Kd.R_alloc | apply Kd.R_drewN | apply Kd.R_drew)); exact HO_141001.out) hb); have n2_ := Aside0.mk (Kd.R_below (by (with_reducible repeat (first | apply Kd.R_alloc | apply Kd.R_drewN | apply Kd.R_drew)); exact HO_141002.out) hb); have n3_ := Aside0.mk (blk_below (g := gb140) (o := .cells #[.string t132, .slice Ao9 t133.length co9, .slice Ao10 t136.length co10] 53 (0, 0)) (by (with_reducible repeat (first | refine blk_drewN ?_ _ | refine blk_drew ?_ | refine blk_alloc ?_ _)); exact BK140.out) hb); have n4_ := Aside0.mk (below_step (by repeat (first | (with_reducible first | exact HB.out | apply below_alloc | apply pw_below_drewN | apply below_drew1 | refine below_set ?_ GE140.out) | exact HB.out)) hb); have n5_ := Aside0.mk (hbox); have n6_ := Aside0.mk ((by rw [hg]; exact (below_size (by repeat (first | (with_reducible first | exact HB.out | apply below_alloc | apply pw_below_drewN | apply below_drew1 | refine below_set ?_ GE140.out) | exact HB.out))) : w.heap.size ≤ gb151)); have n7_ := Aside0.mk ((by rw [hg]; exact (below_size (by repeat (first | (with_reducible first | exact HB.out | apply below_alloc | apply pw_below_drewN | apply below_drew1 | refine below_set ?_ GE140.out) | exact HB.out))) : w.heap.size ≤ gb151)); have n8_ := Aside0.mk ((by rw [hg]; exact Nat.ne_of_lt (blk_lt (g := gb140) (o := .cells #[.string t132, .slice Ao9 t133.length co9, .slice Ao10 t136.length co10] 53 (0, 0)) (by (with_reducible repeat (first | refine blk_drewN ?_ _ | refine blk_drew ?_ | refine blk_alloc ?_ _)); exact BK140.out)) : gb140 ≠ gb151)); have n9_ := Aside0.mk ((by rw [hg]; exact Nat.ne_of_gt (blk_lt (g := gb140) (o := .cells #[.string t132, .slice Ao9 t133.length co9, .slice Ao10 t136.length co10] 53 (0, 0)) (by (with_reducible repeat (first | refine blk_drewN ?_ _ | refine blk_drew ?_ | refine blk_alloc ?_ _)); exact BK140.out)) : gb151 ≠ gb140)); clear HO_7; clear HO_141001; clear HO_141002; clear BK140; clear HB; have HO_7 := n0_; have HO_141001 := n1_; have HO_141002 := n2_; have BK140 := n3_; have HB := n4_; have BK151 := n5_; have GW151 := n6_; have GE151 := n7_; have NB140_151 := n8_; have NB151_140 := n9_; clear n0_ n1_ n2_ n3_ n4_ n5_ n6_ n7_ n8_ n9_; clear hb hbox hg; have hnb24 := NB151_140.out; have hnc24 := NB140_151.out; have hcz25_0 : w23.cell? ⟨gb151, 0, none⟩ = some (.int .i64 0) := (blk_cell BK151.out 0).trans rfl; have hcz25_1 : w23.cell? ⟨gb151, 1, none⟩ = some (.string (⟨#[]⟩ : ByteArray)) := (blk_cell BK151.out 1).trans rfl; have hcz25_2 : w23.cell? ⟨gb151, 2, none⟩ = some (.int .i64 0) := (blk_cell BK151.out 2).trans rfl; have hcz25_3 : w23.cell? ⟨gb151, 3, none⟩ = some (.int .i64 0) := (blk_cell BK151.out 3).trans rfl; have hfz25_0 := blk_frozen BK151.out 0; have hfz25_1 := blk_frozen BK151.out 1; have hfz25_2 := blk_frozen BK151.out 2; have hfz25_3 := blk_frozen BK151.out 3) | ((with_reducible refine gate_builtin (b := .append) (xs := #[.tmp 47, .tmp 49]) rfl ?_); at_builtin; refine Kd.R_append k38 (w0 := w) w.heap.size rfl (.tmp 47) (.tmp 49) 23 38 (.agg #[(.int .i64 0), (.string ⟨#[]⟩), (.int .i64 0), (.int .i64 0)]) 40 rfl Tryd.underlying23 info38 rfl (by decide) (by omega) (.slice Ao21 x7_1.length co21) x7_1 (⟨t145, t146, t147, t148⟩ : S38) [.int .i64 t145, .string t146, .int .i64 t147, .int .i64 t148] (fun k_ => k_ ≠ gb151) (fun _ => False) rfl (by first | (go_simp; done) | (go_simp; rfl)) ?aP (fun _ hk => hk.elim) ?aF ?aO ?aB ?aS ?aL ?_; (case aP => exact k38_mkM _ _ _ (⟨t145, t146, t147, t148⟩ : S38)); (case aB => exact (by repeat (first | (with_reducible first | exact HB.out | apply below_alloc | apply pw_below_drewN | apply below_drew1 | refine below_set ?_ GE140.out | refine below_set ?_ GE151.out) | exact HB.out))); (case aF => exact (fun k_ hk => Kd.freshB (g := gb151) (o := .cells #[.int .i64 t145, .string t146, .int .i64 t147, .int .i64 t148] 38 (0, 0)) (by (with_reducible repeat (first | refine blk_drewN ?_ _ | refine blk_drew ?_ | refine blk_alloc ?_ _)); refine blk_put (cs := #[.int .i64 t145, .string t146, .int .i64 t147, .int .i64 0]) ?_ 3 _ rfl; (with_reducible repeat (first | refine blk_drewN ?_ _ | refine blk_drew ?_ | refine blk_alloc ?_ _)); refine blk_put (cs := #[.int .i64 t145, .string t146, .int .i64 0, .int .i64 0]) ?_ 2 _ rfl; (with_reducible repeat (first | refine blk_drewN ?_ _ | refine blk_drew ?_ | refine blk_alloc ?_ _)); refine blk_put (cs := #[.int .i64 t145, .string (⟨#[]⟩ : ByteArray), .int .i64 0, .int .i64 0]) ?_ 1 _ rfl; (with_reducible repeat (first | refine blk_drewN ?_ _ | refine blk_drew ?_ | refine blk_alloc ?_ _)); refine blk_put (cs := #[.int .i64 0, .string (⟨#[]⟩ : ByteArray), .int .i64 0, .int .i64 0]) ?_ 0 _ rfl; (with_reducible repeat (first | refine blk_drewN ?_ _ | refine blk_drew ?_ | refine blk_alloc ?_ _)); exact BK151.out) k_ hk)); (case aO => exact (by (with_reducible repeat (first | apply Kd.R_alloc | apply Kd.R_drewN | apply Kd.R_drew)); exact Kd.R_mono (Kd.R_far (p := ⟨gb151, 3, none⟩) (Kd.R_far (p := ⟨gb151, 2, none⟩) (Kd.R_far (p := ⟨gb151, 1, none⟩) (Kd.R_far (p := ⟨gb151, 0, none⟩) (Kd.R_mono HO_7.out (fun k_ hk => (⟨hk, hk.2⟩ : _ ∧ k_ ≠ gb151))) (fun _ hk => hk.2) (.int .i64 t145)) (fun _ hk => hk.2) (.string t146)) (fun _ hk => hk.2) (.int .i64 t147)) (fun _ hk => hk.2) (.int .i64 t148)) (fun _ hk => hk.1.2))); (case aS => exact (below_size (by repeat (first | (with_reducible first | exact HB.out | apply below_alloc | apply pw_below_drewN | apply below_drew1 | refine below_set ?_ GE140.out | refine below_set ?_ GE151.out) | exact HB.out)))); (case aL => have := LMc18.out; omega); intro v153 w26 ho hb hg hat; rw [← Ny152.out] at ho; have n0_ := Aside0.mk (Kd.R_over' (by (with_reducible repeat (first | apply Kd.R_alloc | apply Kd.R_drewN | apply Kd.R_drew)); exact (Kd.R_mono (Kd.R_far (p := ⟨gb151, 3, none⟩) (Kd.R_far (p := ⟨gb151, 2, none⟩) (Kd.R_far (p := ⟨gb151, 1, none⟩) (Kd.R_far (p := ⟨gb151, 0, none⟩) (Kd.R_types HO_141001.out BK151.out (by decide)) (fun _ hk => hk.2) (.int .i64 t145)) (fun _ hk => hk.2) (.string t146)) (fun _ hk => hk.2) (.int .i64 t147)) (fun _ hk => hk.2) (.int .i64 t148)) (fun _ h_ => h_.1))) (Kd.R_typed (by (with_reducible repeat (first | apply Kd.R_alloc | apply Kd.R_drewN | apply Kd.R_drew)); exact (Kd.R_mono (Kd.R_far (p := ⟨gb151, 3, none⟩) (Kd.R_far (p := ⟨gb151, 2, none⟩) (Kd.R_far (p := ⟨gb151, 1, none⟩) (Kd.R_far (p := ⟨gb151, 0, none⟩) (Kd.R_mono HO_7.out (fun k_ hk => (⟨hk, hk.2⟩ : _ ∧ k_ ≠ gb151))) (fun _ hk => hk.2) (.int .i64 t145)) (fun _ hk => hk.2) (.string t146)) (fun _ hk => hk.2) (.int .i64 t147)) (fun _ hk => hk.2) (.int .i64 t148)) (fun _ h_ => h_.1)))) (by decide) hg); have n1_ := Aside0.mk (Kd.R_over' (by (with_reducible repeat (first | apply Kd.R_alloc | apply Kd.R_drewN | apply Kd.R_drew)); exact (Kd.R_mono (Kd.R_far (p := ⟨gb151, 3, none⟩) (Kd.R_far (p := ⟨gb151, 2, none⟩) (Kd.R_far (p := ⟨gb151, 1, none⟩) (Kd.R_far (p := ⟨gb151, 0, none⟩) (Kd.R_types HO_141002.out BK151.out (by decide)) (fun _ hk => hk.2) (.int .i64 t145)) (fun _ hk => hk.2) (.string t146)) (fun _ hk => hk.2) (.int .i64 t147)) (fun _ hk => hk.2) (.int .i64 t148)) (fun _ h_ => h_.1))) (Kd.R_typed (by (with_reducible repeat (first | apply Kd.R_alloc | apply Kd.R_drewN | apply Kd.R_drew)); exact (Kd.R_mono (Kd.R_far (p := ⟨gb151, 3, none⟩) (Kd.R_far (p := ⟨gb151, 2, none⟩) (Kd.R_far (p := ⟨gb151, 1, none⟩) (Kd.R_far (p := ⟨gb151, 0, none⟩) (Kd.R_mono HO_7.out (fun k_ hk => (⟨hk, hk.2⟩ : _ ∧ k_ ≠ gb151))) (fun _ hk => hk.2) (.int .i64 t145)) (fun _ hk => hk.2) (.string t146)) (fun _ hk => hk.2) (.int .i64 t147)) (fun _ hk => hk.2) (.int .i64 t148)) (fun _ h_ => h_.1)))) (by decide) hg); have n2_ := Aside0.mk (blk_grown (g := gb140) (o := .cells #[.string t132, .slice Ao9 t133.length co9, .slice Ao10 t136.length co10] 53 (0, 0)) (by (with_reducible repeat (first | refine blk_drewN ?_ _ | refine blk_drew ?_ | refine blk_alloc ?_ _)); refine blk_far ?_ NB140_151.out _; (with_reducible repeat (first | refine blk_drewN ?_ _ | refine blk_drew ?_ | refine blk_alloc ?_ _)); refine blk_far ?_ NB140_151.out _; (with_reducible repeat (first | refine blk_drewN ?_ _ | refine blk_drew ?_ | refine blk_alloc ?_ _)); refine blk_far ?_ NB140_151.out _; (with_reducible repeat (first | refine blk_drewN ?_ _ | refine blk_drew ?_ | refine blk_alloc ?_ _)); refine blk_far ?_ NB140_151.out _; (with_reducible repeat (first | refine blk_drewN ?_ _ | refine blk_drew ?_ | refine blk_alloc ?_ _)); exact BK140.out) hg (Kd.R_ne HO_7.out BK140.out (by decide))); have n3_ := Aside0.mk (blk_grown (g := gb151) (o := .cells #[.int .i64 t145, .string t146, .int .i64 t147, .int .i64 t148] 38 (0, 0)) (by (with_reducible repeat (first | refine blk_drewN ?_ _ | refine blk_drew ?_ | refine blk_alloc ?_ _)); refine blk_put (cs := #[.int .i64 t145, .string t146, .int .i64 t147, .int .i64 0]) ?_ 3 _ rfl; (with_reducible repeat (first | refine blk_drewN ?_ _ | refine blk_drew ?_ | refine blk_alloc ?_ _)); refine blk_put (cs := #[.int .i64 t145, .string t146, .int .i64 0, .int .i64 0]) ?_ 2 _ rfl; (with_reducible repeat (first | refine blk_drewN ?_ _ | refine blk_drew ?_ | refine blk_alloc ?_ _)); refine blk_put (cs := #[.int .i64 t145, .string (⟨#[]⟩ : ByteArray), .int .i64 0, .int .i64 0]) ?_ 1 _ rfl; (with_reducible repeat (first | refine blk_drewN ?_ _ | refine blk_drew ?_ | refine blk_alloc ?_ _)); refine blk_put (cs := #[.int .i64 0, .string (⟨#[]⟩ : ByteArray), .int .i64 0, .int .i64 0]) ?_ 0 _ rfl; (with_reducible repeat (first | refine blk_drewN ?_ _ | refine blk_drew ?_ | refine blk_alloc ?_ _)); exact BK151.out) hg (Kd.R_away HO_7.out (fun _ hk => hk.2))); have n4_ := Aside0.mk (hb); have n5_ := Aside0.mk (ho); clear HO_141001; clear HO_141002; clear BK140; clear BK151; clear HB; clear HO_7; have HO_141001 := n0_; have HO_141002 := n1_; have BK140 := n2_; have BK151 := n3_; have HB := n4_; have HO154 := n5_; clear n0_ n1_ n2_ n3_ n4_ n5_; clear ho hb hg hat; have hcz27_0 : w26.cell? ⟨gb140, 0, none⟩ = some (.string t132) := (blk_cell BK140.out 0).trans rfl; have hcz27_1 : w26.cell? ⟨gb140, 1, none⟩ = some (.slice Ao9 t133.length co9) := (blk_cell BK140.out 1).trans rfl; have hcz27_2 : w26.cell? ⟨gb140, 2, none⟩ = some (.slice Ao10 t136.length co10) := (blk_cell BK140.out 2).trans rfl; have hfz27_0 := blk_frozen BK140.out 0; have hfz27_1 := blk_frozen BK140.out 1; have hfz27_2 := blk_frozen BK140.out 2) | (go_at_call 33; (with_reducible refine (malthouseref01_past.calls k1 t132 _ _ t133 _ _ t136 t149 t155 _ ?side1 ?side2 ?side3 ?side4 A19.out).mono ?_); (case side1 => repeat (first | exact (Kd.R_reads' HO_141001.out).2.2 | (with_reducible refine Kd.C_alloc ?_ _) | (with_reducible refine Kd.C_drewN ?_ _) | (with_reducible refine Kd.C_drew ?_))); (case side2 => exact (Kd.R_reads' HO_141001.out).2.1); (case side3 => repeat (first | exact (Kd.R_reads' HO_141002.out).2.2 | (with_reducible refine Kd.C_alloc ?_ _) | (with_reducible refine Kd.C_drewN ?_ _) | (with_reducible refine Kd.C_drew ?_))); (case side4 => exact (Kd.R_reads' HO_141002.out).2.1); rintro e w28 ⟨rfl, hb⟩; have n0_ := Aside0.mk (Kd.R_below (by (with_reducible repeat (first | apply Kd.R_alloc | apply Kd.R_drewN | apply Kd.R_drew)); exact HO_141001.out) hb); have n1_ := Aside0.mk (Kd.R_below (by (with_reducible repeat (first | apply Kd.R_alloc | apply Kd.R_drewN | apply Kd.R_drew)); exact HO_141002.out) hb); have n2_ := Aside0.mk (Kd.R_below (by (with_reducible repeat (first | apply Kd.R_alloc | apply Kd.R_drewN | apply Kd.R_drew)); exact HO154.out) hb); have n3_ := Aside0.mk (blk_below (g := gb140) (o := .cells #[.string t132, .slice Ao9 t133.length co9, .slice Ao10 t136.length co10] 53 (0, 0)) (by (with_reducible repeat (first | refine blk_drewN ?_ _ | refine blk_drew ?_ | refine blk_alloc ?_ _)); exact BK140.out) hb); have n4_ := Aside0.mk (blk_below (g := gb151) (o := .cells #[.int .i64 t145, .string t146, .int .i64 t147, .int .i64 t148] 38 (0, 0)) (by (with_reducible repeat (first | refine blk_drewN ?_ _ | refine blk_drew ?_ | refine blk_alloc ?_ _)); exact BK151.out) hb); have n5_ := Aside0.mk (below_step (by repeat (first | (with_reducible first | exact HB.out | apply below_alloc | apply pw_below_drewN | apply below_drew1 | refine below_set ?_ GE140.out | refine below_set ?_ GE151.out) | exact HB.out)) hb); clear HO_141001; clear HO_141002; clear HO154; clear BK140; clear BK151; clear HB; have HO_141001 := n0_; have HO_141002 := n1_; have HO154 := n2_; have BK140 := n3_; have BK151 := n4_; have HB := n5_; clear n0_ n1_ n2_ n3_ n4_ n5_; (try clear hb); (try clear hb2); (try clear hk); (try clear hi))); try go_wp2_with (first | (go_at_call 34; (with_reducible refine (malthouseref01_token.calls t132 _ _ t133 _ _ t136 x8_1 t145 t146 t147 t148 t149 t150 _ ?side1 ?side2 ?side3 ?side4 A16.out).mono ?_); (case side1 => repeat (first | exact (Kd.R_reads' HO_141001.out).2.2 | (with_reducible refine Kd.C_alloc ?_ _) | (with_reducible refine Kd.C_drewN ?_ _) | (with_reducible refine Kd.C_drew ?_))); (case side2 => exact (Kd.R_reads' HO_141001.out).2.1); (case side3 => repeat (first | exact (Kd.R_reads' HO_141002.out).2.2 | (with_reducible refine Kd.C_alloc ?_ _) | (with_reducible refine Kd.C_drewN ?_ _) | (with_reducible refine Kd.C_drew ?_))); (case side4 => exact (Kd.R_reads' HO_141002.out).2.1); rintro e w22 ⟨rfl, hb⟩; have n0_ := Aside0.mk (Kd.R_below (by (with_reducible repeat (first | apply Kd.R_alloc | apply Kd.R_drewN | apply Kd.R_drew)); exact HO_7.out) hb); have n1_ := Aside0.mk (Kd.R_below (by (with_reducible repeat (first | apply Kd.R_alloc | apply Kd.R_drewN | apply Kd.R_drew)); exact HO_141001.out) hb); have n2_ := Aside0.mk (Kd.R_below (by (with_reducible repeat (first | apply Kd.R_alloc | apply Kd.R_drewN | apply Kd.R_drew)); exact HO_141002.out) hb); have n3_ := Aside0.mk (blk_below (g := gb140) (o := .cells #[.string t132, .slice Ao9 t133.length co9, .slice Ao10 t136.length co10] 53 (0, 0)) (by (with_reducible repeat (first | refine blk_drewN ?_ _ | refine blk_drew ?_ | refine blk_alloc ?_ _)); exact BK140.out) hb); have n4_ := Aside0.mk (below_step (by repeat (first | (with_reducible first | exact HB.out | apply below_alloc | apply pw_below_drewN | apply below_drew1 | refine below_set ?_ GE140.out) | exact HB.out)) hb); clear HO_7; clear HO_141001; clear HO_141002; clear BK140; clear HB; have HO_7 := n0_; have HO_141001 := n1_; have HO_141002 := n2_; have BK140 := n3_; have HB := n4_; clear n0_ n1_ n2_ n3_ n4_; (try clear hb); (try clear hb2); (try clear hk); (try clear hi)) | ((with_reducible refine gate_dst (N := 9) rfl ?_); refine box_event ?hg (N := 9) ?hd (cs := #[.int .i64 0, .string (⟨#[]⟩ : ByteArray), .int .i64 0, .int .i64 0]) (t := 38) ?hr ?_; (case hd => rfl); (case hg => rfl); (case hr => first | (go_simp; done) | (go_simp; rfl)); intro gb151 hg w23 hbox hb; have n0_ := Aside0.mk (Kd.R_below (Kd.R_elderB (by (with_reducible repeat (first | apply Kd.R_alloc | apply Kd.R_drewN | apply Kd.R_drew)); exact HO_7.out) gb151 (Nat.le_of_eq hg.symm)) hb); have n1_ := Aside0.mk (Kd.R_below (by (with_reducible repeat (first | apply Kd.R_alloc | apply Kd.R_drewN | apply Kd.R_drew)); exact HO_141001.out) hb); have n2_ := Aside0.mk (Kd.R_below (by (with_reducible repeat (first | apply Kd.R_alloc | apply Kd.R_drewN | apply Kd.R_drew)); exact HO_141002.out) hb); have n3_ := Aside0.mk (blk_below (g := gb140) (o := .cells #[.string t132, .slice Ao9 t133.length co9, .slice Ao10 t136.length co10] 53 (0, 0)) (by (with_reducible repeat (first | refine blk_drewN ?_ _ | refine blk_drew ?_ | refine blk_alloc ?_ _)); exact BK140.out) hb); have n4_ := Aside0.mk (below_step (by repeat (first | (with_reducible first | exact HB.out | apply below_alloc | apply pw_below_drewN | apply below_drew1 | refine below_set ?_ GE140.out) | exact HB.out)) hb); have n5_ := Aside0.mk (hbox); have n6_ := Aside0.mk ((by rw [hg]; exact (below_size (by repeat (first | (with_reducible first | exact HB.out | apply below_alloc | apply pw_below_drewN | apply below_drew1 | refine below_set ?_ GE140.out) | exact HB.out))) : w.heap.size ≤ gb151)); have n7_ := Aside0.mk ((by rw [hg]; exact (below_size (by repeat (first | (with_reducible first | exact HB.out | apply below_alloc | apply pw_below_drewN | apply below_drew1 | refine below_set ?_ GE140.out) | exact HB.out))) : w.heap.size ≤ gb151)); have n8_ := Aside0.mk ((by rw [hg]; exact Nat.ne_of_lt (blk_lt (g := gb140) (o := .cells #[.string t132, .slice Ao9 t133.length co9, .slice Ao10 t136.length co10] 53 (0, 0)) (by (with_reducible repeat (first | refine blk_drewN ?_ _ | refine blk_drew ?_ | refine blk_alloc ?_ _)); exact BK140.out)) : gb140 ≠ gb151)); have n9_ := Aside0.mk ((by rw [hg]; exact Nat.ne_of_gt (blk_lt (g := gb140) (o := .cells #[.string t132, .slice Ao9 t133.length co9, .slice Ao10 t136.length co10] 53 (0, 0)) (by (with_reducible repeat (first | refine blk_drewN ?_ _ | refine blk_drew ?_ | refine blk_alloc ?_ _)); exact BK140.out)) : gb151 ≠ gb140)); clear HO_7; clear HO_141001; clear HO_141002; clear BK140; clear HB; have HO_7 := n0_; have HO_141001 := n1_; have HO_141002 := n2_; have BK140 := n3_; have HB := n4_; have BK151 := n5_; have GW151 := n6_; have GE151 := n7_; have NB140_151 := n8_; have NB151_140 := n9_; clear n0_ n1_ n2_ n3_ n4_ n5_ n6_ n7_ n8_ n9_; clear hb hbox hg; have hnb24 := NB151_140.out; have hnc24 := NB140_151.out; have hcz25_0 : w23.cell? ⟨gb151, 0, none⟩ = some (.int .i64 0) := (blk_cell BK151.out 0).trans rfl; have hcz25_1 : w23.cell? ⟨gb151, 1, none⟩ = some (.string (⟨#[]⟩ : ByteArray)) := (blk_cell BK151.out 1).trans rfl; have hcz25_2 : w23.cell? ⟨gb151, 2, none⟩ = some (.int .i64 0) := (blk_cell BK151.out 2).trans rfl; have hcz25_3 : w23.cell? ⟨gb151, 3, none⟩ = some (.int .i64 0) := (blk_cell BK151.out 3).trans rfl; have hfz25_0 := blk_frozen BK151.out 0; have hfz25_1 := blk_frozen BK151.out 1; have hfz25_2 := blk_frozen BK151.out 2; have hfz25_3 := blk_frozen BK151.out 3) | ((with_reducible refine gate_builtin (b := .append) (xs := #[.tmp 47, .tmp 49]) rfl ?_); at_builtin; refine Kd.R_append k38 (w0 := w) w.heap.size rfl (.tmp 47) (.tmp 49) 23 38 (.agg #[(.int .i64 0), (.string ⟨#[]⟩), (.int .i64 0), (.int .i64 0)]) 40 rfl Tryd.underlying23 info38 rfl (by decide) (by omega) (.slice Ao21 x7_1.length co21) x7_1 (⟨t145, t146, t147, t148⟩ : S38) [.int .i64 t145, .string t146, .int .i64 t147, .int .i64 t148] (fun k_ => k_ ≠ gb151) (fun _ => False) rfl (by first | (go_simp; done) | (go_simp; rfl)) ?aP (fun _ hk => hk.elim) ?aF ?aO ?aB ?aS ?aL ?_; (case aP => exact k38_mkM _ _ _ (⟨t145, t146, t147, t148⟩ : S38)); (case aB => exact (by repeat (first | (with_reducible first | exact HB.out | apply below_alloc | apply pw_below_drewN | apply below_drew1 | refine below_set ?_ GE140.out | refine below_set ?_ GE151.out) | exact HB.out))); (case aF => exact (fun k_ hk => Kd.freshB (g := gb151) (o := .cells #[.int .i64 t145, .string t146, .int .i64 t147, .int .i64 t148] 38 (0, 0)) (by (with_reducible repeat (first | refine blk_drewN ?_ _ | refine blk_drew ?_ | refine blk_alloc ?_ _)); refine blk_put (cs := #[.int .i64 t145, .string t146, .int .i64 t147, .int .i64 0]) ?_ 3 _ rfl; (with_reducible repeat (first | refine blk_drewN ?_ _ | refine blk_drew ?_ | refine blk_alloc ?_ _)); refine blk_put (cs := #[.int .i64 t145, .string t146, .int .i64 0, .int .i64 0]) ?_ 2 _ rfl; (with_reducible repeat (first | refine blk_drewN ?_ _ | refine blk_drew ?_ | refine blk_alloc ?_ _)); refine blk_put (cs := #[.int .i64 t145, .string (⟨#[]⟩ : ByteArray), .int .i64 0, .int .i64 0]) ?_ 1 _ rfl; (with_reducible repeat (first | refine blk_drewN ?_ _ | refine blk_drew ?_ | refine blk_alloc ?_ _)); refine blk_put (cs := #[.int .i64 0, .string (⟨#[]⟩ : ByteArray), .int .i64 0, .int .i64 0]) ?_ 0 _ rfl; (with_reducible repeat (first | refine blk_drewN ?_ _ | refine blk_drew ?_ | refine blk_alloc ?_ _)); exact BK151.out) k_ hk)); (case aO => exact (by (with_reducible repeat (first | apply Kd.R_alloc | apply Kd.R_drewN | apply Kd.R_drew)); exact Kd.R_mono (Kd.R_far (p := ⟨gb151, 3, none⟩) (Kd.R_far (p := ⟨gb151, 2, none⟩) (Kd.R_far (p := ⟨gb151, 1, none⟩) (Kd.R_far (p := ⟨gb151, 0, none⟩) (Kd.R_mono HO_7.out (fun k_ hk => (⟨hk, hk.2⟩ : _ ∧ k_ ≠ gb151))) (fun _ hk => hk.2) (.int .i64 t145)) (fun _ hk => hk.2) (.string t146)) (fun _ hk => hk.2) (.int .i64 t147)) (fun _ hk => hk.2) (.int .i64 t148)) (fun _ hk => hk.1.2))); (case aS => exact (below_size (by repeat (first | (with_reducible first | exact HB.out | apply below_alloc | apply pw_below_drewN | apply below_drew1 | refine below_set ?_ GE140.out | refine below_set ?_ GE151.out) | exact HB.out)))); (case aL => have := LMc18.out; omega); intro v153 w26 ho hb hg hat; rw [← Ny152.out] at ho; have n0_ := Aside0.mk (Kd.R_over' (by (with_reducible repeat (first | apply Kd.R_alloc | apply Kd.R_drewN | apply Kd.R_drew)); exact (Kd.R_mono (Kd.R_far (p := ⟨gb151, 3, none⟩) (Kd.R_far (p := ⟨gb151, 2, none⟩) (Kd.R_far (p := ⟨gb151, 1, none⟩) (Kd.R_far (p := ⟨gb151, 0, none⟩) (Kd.R_types HO_141001.out BK151.out (by decide)) (fun _ hk => hk.2) (.int .i64 t145)) (fun _ hk => hk.2) (.string t146)) (fun _ hk => hk.2) (.int .i64 t147)) (fun _ hk => hk.2) (.int .i64 t148)) (fun _ h_ => h_.1))) (Kd.R_typed (by (with_reducible repeat (first | apply Kd.R_alloc | apply Kd.R_drewN | apply Kd.R_drew)); exact (Kd.R_mono (Kd.R_far (p := ⟨gb151, 3, none⟩) (Kd.R_far (p := ⟨gb151, 2, none⟩) (Kd.R_far (p := ⟨gb151, 1, none⟩) (Kd.R_far (p := ⟨gb151, 0, none⟩) (Kd.R_mono HO_7.out (fun k_ hk => (⟨hk, hk.2⟩ : _ ∧ k_ ≠ gb151))) (fun _ hk => hk.2) (.int .i64 t145)) (fun _ hk => hk.2) (.string t146)) (fun _ hk => hk.2) (.int .i64 t147)) (fun _ hk => hk.2) (.int .i64 t148)) (fun _ h_ => h_.1)))) (by decide) hg); have n1_ := Aside0.mk (Kd.R_over' (by (with_reducible repeat (first | apply Kd.R_alloc | apply Kd.R_drewN | apply Kd.R_drew)); exact (Kd.R_mono (Kd.R_far (p := ⟨gb151, 3, none⟩) (Kd.R_far (p := ⟨gb151, 2, none⟩) (Kd.R_far (p := ⟨gb151, 1, none⟩) (Kd.R_far (p := ⟨gb151, 0, none⟩) (Kd.R_types HO_141002.out BK151.out (by decide)) (fun _ hk => hk.2) (.int .i64 t145)) (fun _ hk => hk.2) (.string t146)) (fun _ hk => hk.2) (.int .i64 t147)) (fun _ hk => hk.2) (.int .i64 t148)) (fun _ h_ => h_.1))) (Kd.R_typed (by (with_reducible repeat (first | apply Kd.R_alloc | apply Kd.R_drewN | apply Kd.R_drew)); exact (Kd.R_mono (Kd.R_far (p := ⟨gb151, 3, none⟩) (Kd.R_far (p := ⟨gb151, 2, none⟩) (Kd.R_far (p := ⟨gb151, 1, none⟩) (Kd.R_far (p := ⟨gb151, 0, none⟩) (Kd.R_mono HO_7.out (fun k_ hk => (⟨hk, hk.2⟩ : _ ∧ k_ ≠ gb151))) (fun _ hk => hk.2) (.int .i64 t145)) (fun _ hk => hk.2) (.string t146)) (fun _ hk => hk.2) (.int .i64 t147)) (fun _ hk => hk.2) (.int .i64 t148)) (fun _ h_ => h_.1)))) (by decide) hg); have n2_ := Aside0.mk (blk_grown (g := gb140) (o := .cells #[.string t132, .slice Ao9 t133.length co9, .slice Ao10 t136.length co10] 53 (0, 0)) (by (with_reducible repeat (first | refine blk_drewN ?_ _ | refine blk_drew ?_ | refine blk_alloc ?_ _)); refine blk_far ?_ NB140_151.out _; (with_reducible repeat (first | refine blk_drewN ?_ _ | refine blk_drew ?_ | refine blk_alloc ?_ _)); refine blk_far ?_ NB140_151.out _; (with_reducible repeat (first | refine blk_drewN ?_ _ | refine blk_drew ?_ | refine blk_alloc ?_ _)); refine blk_far ?_ NB140_151.out _; (with_reducible repeat (first | refine blk_drewN ?_ _ | refine blk_drew ?_ | refine blk_alloc ?_ _)); refine blk_far ?_ NB140_151.out _; (with_reducible repeat (first | refine blk_drewN ?_ _ | refine blk_drew ?_ | refine blk_alloc ?_ _)); exact BK140.out) hg (Kd.R_ne HO_7.out BK140.out (by decide))); have n3_ := Aside0.mk (blk_grown (g := gb151) (o := .cells #[.int .i64 t145, .string t146, .int .i64 t147, .int .i64 t148] 38 (0, 0)) (by (with_reducible repeat (first | refine blk_drewN ?_ _ | refine blk_drew ?_ | refine blk_alloc ?_ _)); refine blk_put (cs := #[.int .i64 t145, .string t146, .int .i64 t147, .int .i64 0]) ?_ 3 _ rfl; (with_reducible repeat (first | refine blk_drewN ?_ _ | refine blk_drew ?_ | refine blk_alloc ?_ _)); refine blk_put (cs := #[.int .i64 t145, .string t146, .int .i64 0, .int .i64 0]) ?_ 2 _ rfl; (with_reducible repeat (first | refine blk_drewN ?_ _ | refine blk_drew ?_ | refine blk_alloc ?_ _)); refine blk_put (cs := #[.int .i64 t145, .string (⟨#[]⟩ : ByteArray), .int .i64 0, .int .i64 0]) ?_ 1 _ rfl; (with_reducible repeat (first | refine blk_drewN ?_ _ | refine blk_drew ?_ | refine blk_alloc ?_ _)); refine blk_put (cs := #[.int .i64 0, .string (⟨#[]⟩ : ByteArray), .int .i64 0, .int .i64 0]) ?_ 0 _ rfl; (with_reducible repeat (first | refine blk_drewN ?_ _ | refine blk_drew ?_ | refine blk_alloc ?_ _)); exact BK151.out) hg (Kd.R_away HO_7.out (fun _ hk => hk.2))); have n4_ := Aside0.mk (hb); have n5_ := Aside0.mk (ho); clear HO_141001; clear HO_141002; clear BK140; clear BK151; clear HB; clear HO_7; have HO_141001 := n0_; have HO_141002 := n1_; have BK140 := n2_; have BK151 := n3_; have HB := n4_; have HO154 := n5_; clear n0_ n1_ n2_ n3_ n4_ n5_; clear ho hb hg hat; have hcz27_0 : w26.cell? ⟨gb140, 0, none⟩ = some (.string t132) := (blk_cell BK140.out 0).trans rfl; have hcz27_1 : w26.cell? ⟨gb140, 1, none⟩ = some (.slice Ao9 t133.length co9) := (blk_cell BK140.out 1).trans rfl; have hcz27_2 : w26.cell? ⟨gb140, 2, none⟩ = some (.slice Ao10 t136.length co10) := (blk_cell BK140.out 2).trans rfl; have hfz27_0 := blk_frozen BK140.out 0; have hfz27_1 := blk_frozen BK140.out 1; have hfz27_2 := blk_frozen BK140.out 2) | (go_at_call 33; (with_reducible refine (malthouseref01_past.calls k1 t132 _ _ t133 _ _ t136 t149 t155 _ ?side1 ?side2 ?side3 ?side4 A19.out).mono ?_); (case side1 => repeat (first | exact (Kd.R_reads' HO_141001.out).2.2 | (with_reducible refine Kd.C_alloc ?_ _) | (with_reducible refine Kd.C_drewN ?_ _) | (with_reducible refine Kd.C_drew ?_))); (case side2 => exact (Kd.R_reads' HO_141001.out).2.1); (case side3 => repeat (first | exact (Kd.R_reads' HO_141002.out).2.2 | (with_reducible refine Kd.C_alloc ?_ _) | (with_reducible refine Kd.C_drewN ?_ _) | (with_reducible refine Kd.C_drew ?_))); (case side4 => exact (Kd.R_reads' HO_141002.out).2.1); rintro e w28 ⟨rfl, hb⟩; have n0_ := Aside0.mk (Kd.R_below (by (with_reducible repeat (first | apply Kd.R_alloc | apply Kd.R_drewN | apply Kd.R_drew)); exact HO_141001.out) hb); have n1_ := Aside0.mk (Kd.R_below (by (with_reducible repeat (first | apply Kd.R_alloc | apply Kd.R_drewN | apply Kd.R_drew)); exact HO_141002.out) hb); have n2_ := Aside0.mk (Kd.R_below (by (with_reducible repeat (first | apply Kd.R_alloc | apply Kd.R_drewN | apply Kd.R_drew)); exact HO154.out) hb); have n3_ := Aside0.mk (blk_below (g := gb140) (o := .cells #[.string t132, .slice Ao9 t133.length co9, .slice Ao10 t136.length co10] 53 (0, 0)) (by (with_reducible repeat (first | refine blk_drewN ?_ _ | refine blk_drew ?_ | refine blk_alloc ?_ _)); exact BK140.out) hb); have n4_ := Aside0.mk (blk_below (g := gb151) (o := .cells #[.int .i64 t145, .string t146, .int .i64 t147, .int .i64 t148] 38 (0, 0)) (by (with_reducible repeat (first | refine blk_drewN ?_ _ | refine blk_drew ?_ | refine blk_alloc ?_ _)); exact BK151.out) hb); have n5_ := Aside0.mk (below_step (by repeat (first | (with_reducible first | exact HB.out | apply below_alloc | apply pw_below_drewN | apply below_drew1 | refine below_set ?_ GE140.out | refine below_set ?_ GE151.out) | exact HB.out)) hb); clear HO_141001; clear HO_141002; clear HO154; clear BK140; clear BK151; clear HB; have HO_141001 := n0_; have HO_141002 := n1_; have HO154 := n2_; have BK140 := n3_; have BK151 := n4_; have HB := n5_; clear n0_ n1_ n2_ n3_ n4_ n5_; (try clear hb); (try clear hb2); (try clear hk); (try clear hi))))
                  go_roundg k1
                  case measure => have := HK1.out; omega
                  case rel => exact ⟨(y152), (t155), (by first | rfl | (simp; done) | (simp [*]; done)), H', ⟨by have := HK1.out; omega⟩, ⟨by (with_reducible repeat (first | apply Kd.R_alloc | apply Kd.R_drewN | apply Kd.R_drew)); exact Kd.R_mono HO154.out (fun _ hk => trivial)⟩, ⟨by (with_reducible repeat (first | apply Kd.R_alloc | apply Kd.R_drewN | apply Kd.R_drew)); exact HO_141001.out⟩, ⟨by (with_reducible repeat (first | apply Kd.R_alloc | apply Kd.R_drewN | apply Kd.R_drew)); exact HO_141002.out⟩, ⟨by (with_reducible repeat (first | refine blk_drewN ?_ _ | refine blk_drew ?_ | refine blk_alloc ?_ _)); exact BK140.out⟩, ⟨by repeat (first | (with_reducible first | exact HB.out | apply below_alloc | apply pw_below_drewN | apply below_drew1 | refine below_set ?_ GE140.out | refine below_set ?_ GE151.out) | exact HB.out)⟩⟩
                · rw [if_neg c18] at H
                  exact absurd H (by simp)
              · rw [if_neg c17] at H
                have c17b0 : (t150 == 0) = false := beq_eq_false_iff_ne.mpr c17
                have c17b1 : (t150 != 0) = true := bne_iff_ne.mpr c17
                simp only [Option.some.injEq, Prod.mk.injEq] at H
                obtain ⟨rfl, rfl, rfl⟩ := H
                have hcz29_0 : wr.cell? ⟨gb140, 0, none⟩ = some (.string t132) := (blk_cell BK140.out 0).trans rfl
                have hcz29_1 : wr.cell? ⟨gb140, 1, none⟩ = some (.slice Ao9 t133.length co9) := (blk_cell BK140.out 1).trans rfl
                have hcz29_2 : wr.cell? ⟨gb140, 2, none⟩ = some (.slice Ao10 t136.length co10) := (blk_cell BK140.out 2).trans rfl
                have hfz29_0 := blk_frozen BK140.out 0
                have hfz29_1 := blk_frozen BK140.out 1
                have hfz29_2 := blk_frozen BK140.out 2
                obtain ⟨Ao30, co30, eo30⟩ := Kd.R_slice HO_7.out
                subst eo30
                go_wp2_with (first | (go_at_call 34; (with_reducible refine (malthouseref01_token.calls t132 _ _ t133 _ _ t136 x8_1 t145 t146 t147 t148 t149 t150 _ ?side1 ?side2 ?side3 ?side4 A16.out).mono ?_); (case side1 => repeat (first | exact (Kd.R_reads' HO_141001.out).2.2 | (with_reducible refine Kd.C_alloc ?_ _) | (with_reducible refine Kd.C_drewN ?_ _) | (with_reducible refine Kd.C_drew ?_))); (case side2 => exact (Kd.R_reads' HO_141001.out).2.1); (case side3 => repeat (first | exact (Kd.R_reads' HO_141002.out).2.2 | (with_reducible refine Kd.C_alloc ?_ _) | (with_reducible refine Kd.C_drewN ?_ _) | (with_reducible refine Kd.C_drew ?_))); (case side4 => exact (Kd.R_reads' HO_141002.out).2.1); rintro e w31 ⟨rfl, hb⟩; have n0_ := Aside0.mk (Kd.R_below (by (with_reducible repeat (first | apply Kd.R_alloc | apply Kd.R_drewN | apply Kd.R_drew)); exact HO_7.out) hb); have n1_ := Aside0.mk (Kd.R_below (by (with_reducible repeat (first | apply Kd.R_alloc | apply Kd.R_drewN | apply Kd.R_drew)); exact HO_141001.out) hb); have n2_ := Aside0.mk (Kd.R_below (by (with_reducible repeat (first | apply Kd.R_alloc | apply Kd.R_drewN | apply Kd.R_drew)); exact HO_141002.out) hb); have n3_ := Aside0.mk (blk_below (g := gb140) (o := .cells #[.string t132, .slice Ao9 t133.length co9, .slice Ao10 t136.length co10] 53 (0, 0)) (by (with_reducible repeat (first | refine blk_drewN ?_ _ | refine blk_drew ?_ | refine blk_alloc ?_ _)); exact BK140.out) hb); have n4_ := Aside0.mk (below_step (by repeat (first | (with_reducible first | exact HB.out | apply below_alloc | apply pw_below_drewN | apply below_drew1 | refine below_set ?_ GE140.out) | exact HB.out)) hb); clear HO_7; clear HO_141001; clear HO_141002; clear BK140; clear HB; have HO_7 := n0_; have HO_141001 := n1_; have HO_141002 := n2_; have BK140 := n3_; have HB := n4_; clear n0_ n1_ n2_ n3_ n4_; (try clear hb); (try clear hb2); (try clear hk); (try clear hi)) | ((with_reducible refine gate_dst (N := 9) rfl ?_); refine box_event ?hg (N := 9) ?hd (cs := #[.int .i64 0, .string (⟨#[]⟩ : ByteArray), .int .i64 0, .int .i64 0]) (t := 38) ?hr ?_; (case hd => rfl); (case hg => rfl); (case hr => first | (go_simp; done) | (go_simp; rfl)); intro gb151 hg w32 hbox hb; have n0_ := Aside0.mk (Kd.R_below (Kd.R_elderB (by (with_reducible repeat (first | apply Kd.R_alloc | apply Kd.R_drewN | apply Kd.R_drew)); exact HO_7.out) gb151 (Nat.le_of_eq hg.symm)) hb); have n1_ := Aside0.mk (Kd.R_below (by (with_reducible repeat (first | apply Kd.R_alloc | apply Kd.R_drewN | apply Kd.R_drew)); exact HO_141001.out) hb); have n2_ := Aside0.mk (Kd.R_below (by (with_reducible repeat (first | apply Kd.R_alloc | apply Kd.R_drewN | apply Kd.R_drew)); exact HO_141002.out) hb); have n3_ := Aside0.mk (blk_below (g := gb140) (o := .cells #[.string t132, .slice Ao9 t133.length co9, .slice Ao10 t136.length co10] 53 (0, 0)) (by (with_reducible repeat (first | refine blk_drewN ?_ _ | refine blk_drew ?_ | refine blk_alloc ?_ _)); exact BK140.out) hb); have n4_ := Aside0.mk (below_step (by repeat (first | (with_reducible first | exact HB.out | apply below_alloc | apply pw_below_drewN | apply below_drew1 | refine below_set ?_ GE140.out) | exact HB.out)) hb); have n5_ := Aside0.mk (hbox); have n6_ := Aside0.mk ((by rw [hg]; exact (below_size (by repeat (first | (with_reducible first | exact HB.out | apply below_alloc | apply pw_below_drewN | apply below_drew1 | refine below_set ?_ GE140.out) | exact HB.out))) : w.heap.size ≤ gb151)); have n7_ := Aside0.mk ((by rw [hg]; exact (below_size (by repeat (first | (with_reducible first | exact HB.out | apply below_alloc | apply pw_below_drewN | apply below_drew1 | refine below_set ?_ GE140.out) | exact HB.out))) : w.heap.size ≤ gb151)); have n8_ := Aside0.mk ((by rw [hg]; exact Nat.ne_of_lt (blk_lt (g := gb140) (o := .cells #[.string t132, .slice Ao9 t133.length co9, .slice Ao10 t136.length co10] 53 (0, 0)) (by (with_reducible repeat (first | refine blk_drewN ?_ _ | refine blk_drew ?_ | refine blk_alloc ?_ _)); exact BK140.out)) : gb140 ≠ gb151)); have n9_ := Aside0.mk ((by rw [hg]; exact Nat.ne_of_gt (blk_lt (g := gb140) (o := .cells #[.string t132, .slice Ao9 t133.length co9, .slice Ao10 t136.length co10] 53 (0, 0)) (by (with_reducible repeat (first | refine blk_drewN ?_ _ | refine blk_drew ?_ | refine blk_alloc ?_ _)); exact BK140.out)) : gb151 ≠ gb140)); clear HO_7; clear HO_141001; clear HO_141002; clear BK140; clear HB; have HO_7 := n0_; have HO_141001 := n1_; have HO_141002 := n2_; have BK140 := n3_; have HB := n4_; have BK151 := n5_; have GW151 := n6_; have GE151 := n7_; have NB140_151 := n8_; have NB151_140 := n9_; clear n0_ n1_ n2_ n3_ n4_ n5_ n6_ n7_ n8_ n9_; clear hb hbox hg; have hnb33 := NB151_140.out; have hnc33 := NB140_151.out; have hcz34_0 : w32.cell? ⟨gb151, 0, none⟩ = some (.int .i64 0) := (blk_cell BK151.out 0).trans rfl; have hcz34_1 : w32.cell? ⟨gb151, 1, none⟩ = some (.string (⟨#[]⟩ : ByteArray)) := (blk_cell BK151.out 1).trans rfl; have hcz34_2 : w32.cell? ⟨gb151, 2, none⟩ = some (.int .i64 0) := (blk_cell BK151.out 2).trans rfl; have hcz34_3 : w32.cell? ⟨gb151, 3, none⟩ = some (.int .i64 0) := (blk_cell BK151.out 3).trans rfl; have hfz34_0 := blk_frozen BK151.out 0; have hfz34_1 := blk_frozen BK151.out 1; have hfz34_2 := blk_frozen BK151.out 2; have hfz34_3 := blk_frozen BK151.out 3))
                repeat (go_quiet (first | (go_at_call 34; (with_reducible refine (malthouseref01_token.calls t132 _ _ t133 _ _ t136 x8_1 t145 t146 t147 t148 t149 t150 _ ?side1 ?side2 ?side3 ?side4 A16.out).mono ?_); (case side1 => repeat (first | exact (Kd.R_reads' HO_141001.out).2.2 | (with_reducible refine Kd.C_alloc ?_ _) | (with_reducible refine Kd.C_drewN ?_ _) | (with_reducible refine Kd.C_drew ?_))); (case side2 => exact (Kd.R_reads' HO_141001.out).2.1); (case side3 => repeat (first | exact (Kd.R_reads' HO_141002.out).2.2 | (with_reducible refine Kd.C_alloc ?_ _) | (with_reducible refine Kd.C_drewN ?_ _) | (with_reducible refine Kd.C_drew ?_))); (case side4 => exact (Kd.R_reads' HO_141002.out).2.1); rintro e w31 ⟨rfl, hb⟩; have n0_ := Aside0.mk (Kd.R_below (by (with_reducible repeat (first | apply Kd.R_alloc | apply Kd.R_drewN | apply Kd.R_drew)); exact HO_7.out) hb); have n1_ := Aside0.mk (Kd.R_below (by (with_reducible repeat (first | apply Kd.R_alloc | apply Kd.R_drewN | apply Kd.R_drew)); exact HO_141001.out) hb); have n2_ := Aside0.mk (Kd.R_below (by (with_reducible repeat (first | apply Kd.R_alloc | apply Kd.R_drewN | apply Kd.R_drew)); exact HO_141002.out) hb); have n3_ := Aside0.mk (blk_below (g := gb140) (o := .cells #[.string t132, .slice Ao9 t133.length co9, .slice Ao10 t136.length co10] 53 (0, 0)) (by (with_reducible repeat (first | refine blk_drewN ?_ _ | refine blk_drew ?_ | refine blk_alloc ?_ _)); exact BK140.out) hb); have n4_ := Aside0.mk (below_step (by repeat (first | (with_reducible first | exact HB.out | apply below_alloc | apply pw_below_drewN | apply below_drew1 | refine below_set ?_ GE140.out) | exact HB.out)) hb); clear HO_7; clear HO_141001; clear HO_141002; clear BK140; clear HB; have HO_7 := n0_; have HO_141001 := n1_; have HO_141002 := n2_; have BK140 := n3_; have HB := n4_; clear n0_ n1_ n2_ n3_ n4_; (try clear hb); (try clear hb2); (try clear hk); (try clear hi)) | ((with_reducible refine gate_dst (N := 9) rfl ?_); refine box_event ?hg (N := 9) ?hd (cs := #[.int .i64 0, .string (⟨#[]⟩ : ByteArray), .int .i64 0, .int .i64 0]) (t := 38) ?hr ?_; (case hd => rfl); (case hg => rfl); (case hr => first | (go_simp; done) | (go_simp; rfl)); intro gb151 hg w32 hbox hb; have n0_ := Aside0.mk (Kd.R_below (Kd.R_elderB (by (with_reducible repeat (first | apply Kd.R_alloc | apply Kd.R_drewN | apply Kd.R_drew)); exact HO_7.out) gb151 (Nat.le_of_eq hg.symm)) hb); have n1_ := Aside0.mk (Kd.R_below (by (with_reducible repeat (first | apply Kd.R_alloc | apply Kd.R_drewN | apply Kd.R_drew)); exact HO_141001.out) hb); have n2_ := Aside0.mk (Kd.R_below (by (with_reducible repeat (first | apply Kd.R_alloc | apply Kd.R_drewN | apply Kd.R_drew)); exact HO_141002.out) hb); have n3_ := Aside0.mk (blk_below (g := gb140) (o := .cells #[.string t132, .slice Ao9 t133.length co9, .slice Ao10 t136.length co10] 53 (0, 0)) (by (with_reducible repeat (first | refine blk_drewN ?_ _ | refine blk_drew ?_ | refine blk_alloc ?_ _)); exact BK140.out) hb); have n4_ := Aside0.mk (below_step (by repeat (first | (with_reducible first | exact HB.out | apply below_alloc | apply pw_below_drewN | apply below_drew1 | refine below_set ?_ GE140.out) | exact HB.out)) hb); have n5_ := Aside0.mk (hbox); have n6_ := Aside0.mk ((by rw [hg]; exact (below_size (by repeat (first | (with_reducible first | exact HB.out | apply below_alloc | apply pw_below_drewN | apply below_drew1 | refine below_set ?_ GE140.out) | exact HB.out))) : w.heap.size ≤ gb151)); have n7_ := Aside0.mk ((by rw [hg]; exact (below_size (by repeat (first | (with_reducible first | exact HB.out | apply below_alloc | apply pw_below_drewN | apply below_drew1 | refine below_set ?_ GE140.out) | exact HB.out))) : w.heap.size ≤ gb151)); have n8_ := Aside0.mk ((by rw [hg]; exact Nat.ne_of_lt (blk_lt (g := gb140) (o := .cells #[.string t132, .slice Ao9 t133.length co9, .slice Ao10 t136.length co10] 53 (0, 0)) (by (with_reducible repeat (first | refine blk_drewN ?_ _ | refine blk_drew ?_ | refine blk_alloc ?_ _)); exact BK140.out)) : gb140 ≠ gb151)); have n9_ := Aside0.mk ((by rw [hg]; exact Nat.ne_of_gt (blk_lt (g := gb140) (o := .cells #[.string t132, .slice Ao9 t133.length co9, .slice Ao10 t136.length co10] 53 (0, 0)) (by (with_reducible repeat (first | refine blk_drewN ?_ _ | refine blk_drew ?_ | refine blk_alloc ?_ _)); exact BK140.out)) : gb151 ≠ gb140)); clear HO_7; clear HO_141001; clear HO_141002; clear BK140; clear HB; have HO_7 := n0_; have HO_141001 := n1_; have HO_141002 := n2_; have BK140 := n3_; have HB := n4_; have BK151 := n5_; have GW151 := n6_; have GE151 := n7_; have NB140_151 := n8_; have NB151_140 := n9_; clear n0_ n1_ n2_ n3_ n4_ n5_ n6_ n7_ n8_ n9_; clear hb hbox hg; have hnb33 := NB151_140.out; have hnc33 := NB140_151.out; have hcz34_0 : w32.cell? ⟨gb151, 0, none⟩ = some (.int .i64 0) := (blk_cell BK151.out 0).trans rfl; have hcz34_1 : w32.cell? ⟨gb151, 1, none⟩ = some (.string (⟨#[]⟩ : ByteArray)) := (blk_cell BK151.out 1).trans rfl; have hcz34_2 : w32.cell? ⟨gb151, 2, none⟩ = some (.int .i64 0) := (blk_cell BK151.out 2).trans rfl; have hcz34_3 : w32.cell? ⟨gb151, 3, none⟩ = some (.int .i64 0) := (blk_cell BK151.out 3).trans rfl; have hfz34_0 := blk_frozen BK151.out 0; have hfz34_1 := blk_frozen BK151.out 1; have hfz34_2 := blk_frozen BK151.out 2; have hfz34_3 := blk_frozen BK151.out 3)); try go_wp2_with (first | (go_at_call 34; (with_reducible refine (malthouseref01_token.calls t132 _ _ t133 _ _ t136 x8_1 t145 t146 t147 t148 t149 t150 _ ?side1 ?side2 ?side3 ?side4 A16.out).mono ?_); (case side1 => repeat (first | exact (Kd.R_reads' HO_141001.out).2.2 | (with_reducible refine Kd.C_alloc ?_ _) | (with_reducible refine Kd.C_drewN ?_ _) | (with_reducible refine Kd.C_drew ?_))); (case side2 => exact (Kd.R_reads' HO_141001.out).2.1); (case side3 => repeat (first | exact (Kd.R_reads' HO_141002.out).2.2 | (with_reducible refine Kd.C_alloc ?_ _) | (with_reducible refine Kd.C_drewN ?_ _) | (with_reducible refine Kd.C_drew ?_))); (case side4 => exact (Kd.R_reads' HO_141002.out).2.1); rintro e w31 ⟨rfl, hb⟩; have n0_ := Aside0.mk (Kd.R_below (by (with_reducible repeat (first | apply Kd.R_alloc | apply Kd.R_drewN | apply Kd.R_drew)); exact HO_7.out) hb); have n1_ := Aside0.mk (Kd.R_below (by (with_reducible repeat (first | apply Kd.R_alloc | apply Kd.R_drewN | apply Kd.R_drew)); exact HO_141001.out) hb); have n2_ := Aside0.mk (Kd.R_below (by (with_reducible repeat (first | apply Kd.R_alloc | apply Kd.R_drewN | apply Kd.R_drew)); exact HO_141002.out) hb); have n3_ := Aside0.mk (blk_below (g := gb140) (o := .cells #[.string t132, .slice Ao9 t133.length co9, .slice Ao10 t136.length co10] 53 (0, 0)) (by (with_reducible repeat (first | refine blk_drewN ?_ _ | refine blk_drew ?_ | refine blk_alloc ?_ _)); exact BK140.out) hb); have n4_ := Aside0.mk (below_step (by repeat (first | (with_reducible first | exact HB.out | apply below_alloc | apply pw_below_drewN | apply below_drew1 | refine below_set ?_ GE140.out) | exact HB.out)) hb); clear HO_7; clear HO_141001; clear HO_141002; clear BK140; clear HB; have HO_7 := n0_; have HO_141001 := n1_; have HO_141002 := n2_; have BK140 := n3_; have HB := n4_; clear n0_ n1_ n2_ n3_ n4_; (try clear hb); (try clear hb2); (try clear hk); (try clear hi)) | ((with_reducible refine gate_dst (N := 9) rfl ?_); refine box_event ?hg (N := 9) ?hd (cs := #[.int .i64 0, .string (⟨#[]⟩ : ByteArray), .int .i64 0, .int .i64 0]) (t := 38) ?hr ?_; (case hd => rfl); (case hg => rfl); (case hr => first | (go_simp; done) | (go_simp; rfl)); intro gb151 hg w32 hbox hb; have n0_ := Aside0.mk (Kd.R_below (Kd.R_elderB (by (with_reducible repeat (first | apply Kd.R_alloc | apply Kd.R_drewN | apply Kd.R_drew)); exact HO_7.out) gb151 (Nat.le_of_eq hg.symm)) hb); have n1_ := Aside0.mk (Kd.R_below (by (with_reducible repeat (first | apply Kd.R_alloc | apply Kd.R_drewN | apply Kd.R_drew)); exact HO_141001.out) hb); have n2_ := Aside0.mk (Kd.R_below (by (with_reducible repeat (first | apply Kd.R_alloc | apply Kd.R_drewN | apply Kd.R_drew)); exact HO_141002.out) hb); have n3_ := Aside0.mk (blk_below (g := gb140) (o := .cells #[.string t132, .slice Ao9 t133.length co9, .slice Ao10 t136.length co10] 53 (0, 0)) (by (with_reducible repeat (first | refine blk_drewN ?_ _ | refine blk_drew ?_ | refine blk_alloc ?_ _)); exact BK140.out) hb); have n4_ := Aside0.mk (below_step (by repeat (first | (with_reducible first | exact HB.out | apply below_alloc | apply pw_below_drewN | apply below_drew1 | refine below_set ?_ GE140.out) | exact HB.out)) hb); have n5_ := Aside0.mk (hbox); have n6_ := Aside0.mk ((by rw [hg]; exact (below_size (by repeat (first | (with_reducible first | exact HB.out | apply below_alloc | apply pw_below_drewN | apply below_drew1 | refine below_set ?_ GE140.out) | exact HB.out))) : w.heap.size ≤ gb151)); have n7_ := Aside0.mk ((by rw [hg]; exact (below_size (by repeat (first | (with_reducible first | exact HB.out | apply below_alloc | apply pw_below_drewN | apply below_drew1 | refine below_set ?_ GE140.out) | exact HB.out))) : w.heap.size ≤ gb151)); have n8_ := Aside0.mk ((by rw [hg]; exact Nat.ne_of_lt (blk_lt (g := gb140) (o := .cells #[.string t132, .slice Ao9 t133.length co9, .slice Ao10 t136.length co10] 53 (0, 0)) (by (with_reducible repeat (first | refine blk_drewN ?_ _ | refine blk_drew ?_ | refine blk_alloc ?_ _)); exact BK140.out)) : gb140 ≠ gb151)); have n9_ := Aside0.mk ((by rw [hg]; exact Nat.ne_of_gt (blk_lt (g := gb140) (o := .cells #[.string t132, .slice Ao9 t133.length co9, .slice Ao10 t136.length co10] 53 (0, 0)) (by (with_reducible repeat (first | refine blk_drewN ?_ _ | refine blk_drew ?_ | refine blk_alloc ?_ _)); exact BK140.out)) : gb151 ≠ gb140)); clear HO_7; clear HO_141001; clear HO_141002; clear BK140; clear HB; have HO_7 := n0_; have HO_141001 := n1_; have HO_141002 := n2_; have BK140 := n3_; have HB := n4_; have BK151 := n5_; have GW151 := n6_; have GE151 := n7_; have NB140_151 := n8_; have NB151_140 := n9_; clear n0_ n1_ n2_ n3_ n4_ n5_ n6_ n7_ n8_ n9_; clear hb hbox hg; have hnb33 := NB151_140.out; have hnc33 := NB140_151.out; have hcz34_0 : w32.cell? ⟨gb151, 0, none⟩ = some (.int .i64 0) := (blk_cell BK151.out 0).trans rfl; have hcz34_1 : w32.cell? ⟨gb151, 1, none⟩ = some (.string (⟨#[]⟩ : ByteArray)) := (blk_cell BK151.out 1).trans rfl; have hcz34_2 : w32.cell? ⟨gb151, 2, none⟩ = some (.int .i64 0) := (blk_cell BK151.out 2).trans rfl; have hcz34_3 : w32.cell? ⟨gb151, 3, none⟩ = some (.int .i64 0) := (blk_cell BK151.out 3).trans rfl; have hfz34_0 := blk_frozen BK151.out 0; have hfz34_1 := blk_frozen BK151.out 1; have hfz34_2 := blk_frozen BK151.out 2; have hfz34_3 := blk_frozen BK151.out 3)))
                go_ret3
                exact ⟨_, by first | rfl | (simp [errW_none, errW_some] <;> rfl) | (simp [*, errW_none, errW_some] <;> rfl), by first | exact Kd.R_nil _ _ _ _ _ | exact Kd.N_nil _ _ _ _ _ | exact Kd.V_nil _ _ _ _ _ | exact Kd.Q_nil _ _ _ _ _ | exact Kd.S_nil _ _ _ _ _, by repeat (first | (with_reducible first | exact HB.out | apply below_alloc | apply pw_below_drewN | apply below_drew1 | refine below_set ?_ GE140.out | refine below_set ?_ GE151.out) | exact HB.out)⟩
          · rw [if_neg c12] at H
            have c12b0 : decide (x8_1 < (t133.length : Int)) = false := decide_eq_false c12
            clear c12
            by_cases c35 : x7_1.length < 3518437208883
            · rw [if_pos c35] at H
              have LMc35 := Aside0.mk c35
              clear c35
              obtain ⟨y142, hy142⟩ : ∃ y_ : List (S38), y_ = (x7_1 ++ [(⟨0, (⟨#[]⟩ : ByteArray), 0, x8_1⟩ : S38)]) := ⟨_, rfl⟩
              replace H : (some (y142, 0, 0)) = some (r1, r2, r3) := by first | (rw [hy142]; with_reducible exact H) | (have H2_ := (Option.bind_some _ _).symm.trans H; rw [hy142]; with_reducible exact H2_) | (have H2_ := (Option.bind_some _ _).symm.trans H; with_reducible exact H2_) | with_reducible exact H | (rw [hy142]; exact H) | exact H
              have Ny142 := Aside0.mk hy142
              clear hy142
              simp only [Option.some.injEq, Prod.mk.injEq] at H
              obtain ⟨rfl, rfl, rfl⟩ := H
              have hcz36_0 : wr.cell? ⟨gb140, 0, none⟩ = some (.string t132) := (blk_cell BK140.out 0).trans rfl
              have hcz36_1 : wr.cell? ⟨gb140, 1, none⟩ = some (.slice Ao9 t133.length co9) := (blk_cell BK140.out 1).trans rfl
              have hcz36_2 : wr.cell? ⟨gb140, 2, none⟩ = some (.slice Ao10 t136.length co10) := (blk_cell BK140.out 2).trans rfl
              have hfz36_0 := blk_frozen BK140.out 0
              have hfz36_1 := blk_frozen BK140.out 1
              have hfz36_2 := blk_frozen BK140.out 2
              go_wp2_with (first | ((with_reducible refine gate_builtin (b := .append) (xs := #[.tmp 54, .tmp 57]) rfl ?_); at_builtin; refine Kd.R_append k38 (w0 := w) w.heap.size rfl (.tmp 54) (.tmp 57) 23 38 (.agg #[(.int .i64 0), (.string ⟨#[]⟩), (.int .i64 0), (.int .i64 0)]) 40 rfl Tryd.underlying23 info38 rfl (by decide) (by omega) u7 x7_1 (⟨0, (⟨#[]⟩ : ByteArray), 0, x8_1⟩ : S38) [.int .i64 0, .string (⟨#[]⟩ : ByteArray), .int .i64 0, .int .i64 x8_1] (fun _ => True) (fun _ => False) rfl rfl ?aP (fun _ hk => hk.elim) ?aF ?aO ?aB ?aS ?aL ?_; (case aP => exact k38_mkM _ _ _ (⟨0, (⟨#[]⟩ : ByteArray), 0, x8_1⟩ : S38)); (case aB => exact (by repeat (first | (with_reducible first | exact HB.out | apply below_alloc | apply pw_below_drewN | apply below_drew1 | refine below_set ?_ GE140.out) | exact HB.out))); (case aF => exact (fun _ _ => trivial)); (case aO => exact (by (with_reducible repeat (first | apply Kd.R_alloc | apply Kd.R_drewN | apply Kd.R_drew)); exact HO_7.out)); (case aS => exact (below_size (by repeat (first | (with_reducible first | exact HB.out | apply below_alloc | apply pw_below_drewN | apply below_drew1 | refine below_set ?_ GE140.out) | exact HB.out)))); (case aL => have := LMc35.out; omega); intro v143 w37 ho hb hg hat; rw [← Ny142.out] at ho; have n0_ := Aside0.mk (Kd.R_over' (by (with_reducible repeat (first | apply Kd.R_alloc | apply Kd.R_drewN | apply Kd.R_drew)); exact HO_141001.out) (Kd.R_typed (by (with_reducible repeat (first | apply Kd.R_alloc | apply Kd.R_drewN | apply Kd.R_drew)); exact HO_7.out)) (by decide) hg); have n1_ := Aside0.mk (Kd.R_over' (by (with_reducible repeat (first | apply Kd.R_alloc | apply Kd.R_drewN | apply Kd.R_drew)); exact HO_141002.out) (Kd.R_typed (by (with_reducible repeat (first | apply Kd.R_alloc | apply Kd.R_drewN | apply Kd.R_drew)); exact HO_7.out)) (by decide) hg); have n2_ := Aside0.mk (blk_grown (g := gb140) (o := .cells #[.string t132, .slice Ao9 t133.length co9, .slice Ao10 t136.length co10] 53 (0, 0)) (by (with_reducible repeat (first | refine blk_drewN ?_ _ | refine blk_drew ?_ | refine blk_alloc ?_ _)); exact BK140.out) hg (Kd.R_ne HO_7.out BK140.out (by decide))); have n3_ := Aside0.mk (hb); have n4_ := Aside0.mk (ho); clear HO_141001; clear HO_141002; clear BK140; clear HB; clear HO_7; have HO_141001 := n0_; have HO_141002 := n1_; have BK140 := n2_; have HB := n3_; have HO144 := n4_; clear n0_ n1_ n2_ n3_ n4_; clear ho hb hg hat))
              repeat (go_quiet (first | ((with_reducible refine gate_builtin (b := .append) (xs := #[.tmp 54, .tmp 57]) rfl ?_); at_builtin; refine Kd.R_append k38 (w0 := w) w.heap.size rfl (.tmp 54) (.tmp 57) 23 38 (.agg #[(.int .i64 0), (.string ⟨#[]⟩), (.int .i64 0), (.int .i64 0)]) 40 rfl Tryd.underlying23 info38 rfl (by decide) (by omega) u7 x7_1 (⟨0, (⟨#[]⟩ : ByteArray), 0, x8_1⟩ : S38) [.int .i64 0, .string (⟨#[]⟩ : ByteArray), .int .i64 0, .int .i64 x8_1] (fun _ => True) (fun _ => False) rfl rfl ?aP (fun _ hk => hk.elim) ?aF ?aO ?aB ?aS ?aL ?_; (case aP => exact k38_mkM _ _ _ (⟨0, (⟨#[]⟩ : ByteArray), 0, x8_1⟩ : S38)); (case aB => exact (by repeat (first | (with_reducible first | exact HB.out | apply below_alloc | apply pw_below_drewN | apply below_drew1 | refine below_set ?_ GE140.out) | exact HB.out))); (case aF => exact (fun _ _ => trivial)); (case aO => exact (by (with_reducible repeat (first | apply Kd.R_alloc | apply Kd.R_drewN | apply Kd.R_drew)); exact HO_7.out)); (case aS => exact (below_size (by repeat (first | (with_reducible first | exact HB.out | apply below_alloc | apply pw_below_drewN | apply below_drew1 | refine below_set ?_ GE140.out) | exact HB.out)))); (case aL => have := LMc35.out; omega); intro v143 w37 ho hb hg hat; rw [← Ny142.out] at ho; have n0_ := Aside0.mk (Kd.R_over' (by (with_reducible repeat (first | apply Kd.R_alloc | apply Kd.R_drewN | apply Kd.R_drew)); exact HO_141001.out) (Kd.R_typed (by (with_reducible repeat (first | apply Kd.R_alloc | apply Kd.R_drewN | apply Kd.R_drew)); exact HO_7.out)) (by decide) hg); have n1_ := Aside0.mk (Kd.R_over' (by (with_reducible repeat (first | apply Kd.R_alloc | apply Kd.R_drewN | apply Kd.R_drew)); exact HO_141002.out) (Kd.R_typed (by (with_reducible repeat (first | apply Kd.R_alloc | apply Kd.R_drewN | apply Kd.R_drew)); exact HO_7.out)) (by decide) hg); have n2_ := Aside0.mk (blk_grown (g := gb140) (o := .cells #[.string t132, .slice Ao9 t133.length co9, .slice Ao10 t136.length co10] 53 (0, 0)) (by (with_reducible repeat (first | refine blk_drewN ?_ _ | refine blk_drew ?_ | refine blk_alloc ?_ _)); exact BK140.out) hg (Kd.R_ne HO_7.out BK140.out (by decide))); have n3_ := Aside0.mk (hb); have n4_ := Aside0.mk (ho); clear HO_141001; clear HO_141002; clear BK140; clear HB; clear HO_7; have HO_141001 := n0_; have HO_141002 := n1_; have BK140 := n2_; have HB := n3_; have HO144 := n4_; clear n0_ n1_ n2_ n3_ n4_; clear ho hb hg hat)); try go_wp2_with (first | ((with_reducible refine gate_builtin (b := .append) (xs := #[.tmp 54, .tmp 57]) rfl ?_); at_builtin; refine Kd.R_append k38 (w0 := w) w.heap.size rfl (.tmp 54) (.tmp 57) 23 38 (.agg #[(.int .i64 0), (.string ⟨#[]⟩), (.int .i64 0), (.int .i64 0)]) 40 rfl Tryd.underlying23 info38 rfl (by decide) (by omega) u7 x7_1 (⟨0, (⟨#[]⟩ : ByteArray), 0, x8_1⟩ : S38) [.int .i64 0, .string (⟨#[]⟩ : ByteArray), .int .i64 0, .int .i64 x8_1] (fun _ => True) (fun _ => False) rfl rfl ?aP (fun _ hk => hk.elim) ?aF ?aO ?aB ?aS ?aL ?_; (case aP => exact k38_mkM _ _ _ (⟨0, (⟨#[]⟩ : ByteArray), 0, x8_1⟩ : S38)); (case aB => exact (by repeat (first | (with_reducible first | exact HB.out | apply below_alloc | apply pw_below_drewN | apply below_drew1 | refine below_set ?_ GE140.out) | exact HB.out))); (case aF => exact (fun _ _ => trivial)); (case aO => exact (by (with_reducible repeat (first | apply Kd.R_alloc | apply Kd.R_drewN | apply Kd.R_drew)); exact HO_7.out)); (case aS => exact (below_size (by repeat (first | (with_reducible first | exact HB.out | apply below_alloc | apply pw_below_drewN | apply below_drew1 | refine below_set ?_ GE140.out) | exact HB.out)))); (case aL => have := LMc35.out; omega); intro v143 w37 ho hb hg hat; rw [← Ny142.out] at ho; have n0_ := Aside0.mk (Kd.R_over' (by (with_reducible repeat (first | apply Kd.R_alloc | apply Kd.R_drewN | apply Kd.R_drew)); exact HO_141001.out) (Kd.R_typed (by (with_reducible repeat (first | apply Kd.R_alloc | apply Kd.R_drewN | apply Kd.R_drew)); exact HO_7.out)) (by decide) hg); have n1_ := Aside0.mk (Kd.R_over' (by (with_reducible repeat (first | apply Kd.R_alloc | apply Kd.R_drewN | apply Kd.R_drew)); exact HO_141002.out) (Kd.R_typed (by (with_reducible repeat (first | apply Kd.R_alloc | apply Kd.R_drewN | apply Kd.R_drew)); exact HO_7.out)) (by decide) hg); have n2_ := Aside0.mk (blk_grown (g := gb140) (o := .cells #[.string t132, .slice Ao9 t133.length co9, .slice Ao10 t136.length co10] 53 (0, 0)) (by (with_reducible repeat (first | refine blk_drewN ?_ _ | refine blk_drew ?_ | refine blk_alloc ?_ _)); exact BK140.out) hg (Kd.R_ne HO_7.out BK140.out (by decide))); have n3_ := Aside0.mk (hb); have n4_ := Aside0.mk (ho); clear HO_141001; clear HO_141002; clear BK140; clear HB; clear HO_7; have HO_141001 := n0_; have HO_141002 := n1_; have BK140 := n2_; have HB := n3_; have HO144 := n4_; clear n0_ n1_ n2_ n3_ n4_; clear ho hb hg hat)))
              go_ret3
              exact ⟨_, by first | rfl | (simp [errW_none, errW_some] <;> rfl) | (simp [*, errW_none, errW_some] <;> rfl), by (with_reducible repeat (first | apply Kd.R_alloc | apply Kd.R_drewN | apply Kd.R_drew)); exact HO144.out, by repeat (first | (with_reducible first | exact HB.out | apply below_alloc | apply pw_below_drewN | apply below_drew1 | refine below_set ?_ GE140.out) | exact HB.out)⟩
            · rw [if_neg c35] at H
              exact absurd H (by simp)
    · replace c4 := Bool.eq_false_iff.mpr c4
      subst c4
      have H1 : (some (([] : List (S38)), 10, (t133.length : Int))) = some (r1, r2, r3) := by rw [if_neg (show ¬ (false = true) by decide)] at H; exact H
      clear H
      have H := H1
      clear H1
      simp only [Option.some.injEq, Prod.mk.injEq] at H
      obtain ⟨rfl, rfl, rfl⟩ := H
      go_enter Tryd.func14, Tryd.ntmps14
      go_wp2_with (first | (go_at_call 32; (with_reducible refine (malthouseref01_Runes.calls k a0 t132 t133 t136 false _ A3.out).mono ?_); rintro e w38 ⟨v134, v137, rfl, ho0, ho1, hb⟩; have n0_ := Aside0.mk (Kd.R_lower ho0 (below_size (by repeat (first | (with_reducible first | exact HB.out | apply below_alloc | apply pw_below_drewN | apply below_drew1) | exact HB.out)))); have n1_ := Aside0.mk (Kd.R_lower ho1 (below_size (by repeat (first | (with_reducible first | exact HB.out | apply below_alloc | apply pw_below_drewN | apply below_drew1) | exact HB.out)))); have n2_ := Aside0.mk (below_step (by repeat (first | (with_reducible first | exact HB.out | apply below_alloc | apply pw_below_drewN | apply below_drew1) | exact HB.out)) hb); clear HB; have HO135 := n0_; have HO138 := n1_; have HB := n2_; clear n0_ n1_ n2_; (try clear hb); (try clear hb2); (try clear hk); (try clear hi); (try clear ho0); (try clear ho1)) | ((with_reducible refine gate_dst (N := 5) rfl ?_); refine box_event ?hg (N := 5) ?hd (cs := #[.string (⟨#[]⟩ : ByteArray), .slice none 0 0, .slice none 0 0]) (t := 53) ?hr ?_; (case hd => rfl); (case hg => rfl); (case hr => first | (go_simp; done) | (go_simp; rfl)); intro gb140 hg w39 hbox hb; have n0_ := Aside0.mk (Kd.R_below (by (with_reducible repeat (first | apply Kd.R_alloc | apply Kd.R_drewN | apply Kd.R_drew)); exact HO135.out) hb); have n1_ := Aside0.mk (Kd.R_below (by (with_reducible repeat (first | apply Kd.R_alloc | apply Kd.R_drewN | apply Kd.R_drew)); exact HO138.out) hb); have n2_ := Aside0.mk (below_step (by repeat (first | (with_reducible first | exact HB.out | apply below_alloc | apply pw_below_drewN | apply below_drew1) | exact HB.out)) hb); have n3_ := Aside0.mk (hbox); have n4_ := Aside0.mk ((by rw [hg]; exact (below_size (by repeat (first | (with_reducible first | exact HB.out | apply below_alloc | apply pw_below_drewN | apply below_drew1) | exact HB.out))) : w.heap.size ≤ gb140)); have n5_ := Aside0.mk ((by rw [hg]; exact (below_size (by repeat (first | (with_reducible first | exact HB.out | apply below_alloc | apply pw_below_drewN | apply below_drew1) | exact HB.out))) : w.heap.size ≤ gb140)); clear HO135; clear HO138; clear HB; have HO135 := n0_; have HO138 := n1_; have HB := n2_; have BK140 := n3_; have GW140 := n4_; have GE140 := n5_; clear n0_ n1_ n2_ n3_ n4_ n5_; clear hb hbox hg; have hcz40_0 : w39.cell? ⟨gb140, 0, none⟩ = some (.string (⟨#[]⟩ : ByteArray)) := (blk_cell BK140.out 0).trans rfl; have hcz40_1 : w39.cell? ⟨gb140, 1, none⟩ = some (.slice none 0 0) := (blk_cell BK140.out 1).trans rfl; have hcz40_2 : w39.cell? ⟨gb140, 2, none⟩ = some (.slice none 0 0) := (blk_cell BK140.out 2).trans rfl; have hfz40_0 := blk_frozen BK140.out 0; have hfz40_1 := blk_frozen BK140.out 1; have hfz40_2 := blk_frozen BK140.out 2; obtain ⟨Ao41, co41, eo41⟩ := Kd.R_slice HO135.out; subst eo41; obtain ⟨Ao42, co42, eo42⟩ := Kd.R_slice HO138.out; subst eo42))
      repeat (go_quiet (first | (go_at_call 32; (with_reducible refine (malthouseref01_Runes.calls k a0 t132 t133 t136 false _ A3.out).mono ?_); rintro e w38 ⟨v134, v137, rfl, ho0, ho1, hb⟩; have n0_ := Aside0.mk (Kd.R_lower ho0 (below_size (by repeat (first | (with_reducible first | exact HB.out | apply below_alloc | apply pw_below_drewN | apply below_drew1) | exact HB.out)))); have n1_ := Aside0.mk (Kd.R_lower ho1 (below_size (by repeat (first | (with_reducible first | exact HB.out | apply below_alloc | apply pw_below_drewN | apply below_drew1) | exact HB.out)))); have n2_ := Aside0.mk (below_step (by repeat (first | (with_reducible first | exact HB.out | apply below_alloc | apply pw_below_drewN | apply below_drew1) | exact HB.out)) hb); clear HB; have HO135 := n0_; have HO138 := n1_; have HB := n2_; clear n0_ n1_ n2_; (try clear hb); (try clear hb2); (try clear hk); (try clear hi); (try clear ho0); (try clear ho1)) | ((with_reducible refine gate_dst (N := 5) rfl ?_); refine box_event ?hg (N := 5) ?hd (cs := #[.string (⟨#[]⟩ : ByteArray), .slice none 0 0, .slice none 0 0]) (t := 53) ?hr ?_; (case hd => rfl); (case hg => rfl); (case hr => first | (go_simp; done) | (go_simp; rfl)); intro gb140 hg w39 hbox hb; have n0_ := Aside0.mk (Kd.R_below (by (with_reducible repeat (first | apply Kd.R_alloc | apply Kd.R_drewN | apply Kd.R_drew)); exact HO135.out) hb); have n1_ := Aside0.mk (Kd.R_below (by (with_reducible repeat (first | apply Kd.R_alloc | apply Kd.R_drewN | apply Kd.R_drew)); exact HO138.out) hb); have n2_ := Aside0.mk (below_step (by repeat (first | (with_reducible first | exact HB.out | apply below_alloc | apply pw_below_drewN | apply below_drew1) | exact HB.out)) hb); have n3_ := Aside0.mk (hbox); have n4_ := Aside0.mk ((by rw [hg]; exact (below_size (by repeat (first | (with_reducible first | exact HB.out | apply below_alloc | apply pw_below_drewN | apply below_drew1) | exact HB.out))) : w.heap.size ≤ gb140)); have n5_ := Aside0.mk ((by rw [hg]; exact (below_size (by repeat (first | (with_reducible first | exact HB.out | apply below_alloc | apply pw_below_drewN | apply below_drew1) | exact HB.out))) : w.heap.size ≤ gb140)); clear HO135; clear HO138; clear HB; have HO135 := n0_; have HO138 := n1_; have HB := n2_; have BK140 := n3_; have GW140 := n4_; have GE140 := n5_; clear n0_ n1_ n2_ n3_ n4_ n5_; clear hb hbox hg; have hcz40_0 : w39.cell? ⟨gb140, 0, none⟩ = some (.string (⟨#[]⟩ : ByteArray)) := (blk_cell BK140.out 0).trans rfl; have hcz40_1 : w39.cell? ⟨gb140, 1, none⟩ = some (.slice none 0 0) := (blk_cell BK140.out 1).trans rfl; have hcz40_2 : w39.cell? ⟨gb140, 2, none⟩ = some (.slice none 0 0) := (blk_cell BK140.out 2).trans rfl; have hfz40_0 := blk_frozen BK140.out 0; have hfz40_1 := blk_frozen BK140.out 1; have hfz40_2 := blk_frozen BK140.out 2; obtain ⟨Ao41, co41, eo41⟩ := Kd.R_slice HO135.out; subst eo41; obtain ⟨Ao42, co42, eo42⟩ := Kd.R_slice HO138.out; subst eo42)); try go_wp2_with (first | (go_at_call 32; (with_reducible refine (malthouseref01_Runes.calls k a0 t132 t133 t136 false _ A3.out).mono ?_); rintro e w38 ⟨v134, v137, rfl, ho0, ho1, hb⟩; have n0_ := Aside0.mk (Kd.R_lower ho0 (below_size (by repeat (first | (with_reducible first | exact HB.out | apply below_alloc | apply pw_below_drewN | apply below_drew1) | exact HB.out)))); have n1_ := Aside0.mk (Kd.R_lower ho1 (below_size (by repeat (first | (with_reducible first | exact HB.out | apply below_alloc | apply pw_below_drewN | apply below_drew1) | exact HB.out)))); have n2_ := Aside0.mk (below_step (by repeat (first | (with_reducible first | exact HB.out | apply below_alloc | apply pw_below_drewN | apply below_drew1) | exact HB.out)) hb); clear HB; have HO135 := n0_; have HO138 := n1_; have HB := n2_; clear n0_ n1_ n2_; (try clear hb); (try clear hb2); (try clear hk); (try clear hi); (try clear ho0); (try clear ho1)) | ((with_reducible refine gate_dst (N := 5) rfl ?_); refine box_event ?hg (N := 5) ?hd (cs := #[.string (⟨#[]⟩ : ByteArray), .slice none 0 0, .slice none 0 0]) (t := 53) ?hr ?_; (case hd => rfl); (case hg => rfl); (case hr => first | (go_simp; done) | (go_simp; rfl)); intro gb140 hg w39 hbox hb; have n0_ := Aside0.mk (Kd.R_below (by (with_reducible repeat (first | apply Kd.R_alloc | apply Kd.R_drewN | apply Kd.R_drew)); exact HO135.out) hb); have n1_ := Aside0.mk (Kd.R_below (by (with_reducible repeat (first | apply Kd.R_alloc | apply Kd.R_drewN | apply Kd.R_drew)); exact HO138.out) hb); have n2_ := Aside0.mk (below_step (by repeat (first | (with_reducible first | exact HB.out | apply below_alloc | apply pw_below_drewN | apply below_drew1) | exact HB.out)) hb); have n3_ := Aside0.mk (hbox); have n4_ := Aside0.mk ((by rw [hg]; exact (below_size (by repeat (first | (with_reducible first | exact HB.out | apply below_alloc | apply pw_below_drewN | apply below_drew1) | exact HB.out))) : w.heap.size ≤ gb140)); have n5_ := Aside0.mk ((by rw [hg]; exact (below_size (by repeat (first | (with_reducible first | exact HB.out | apply below_alloc | apply pw_below_drewN | apply below_drew1) | exact HB.out))) : w.heap.size ≤ gb140)); clear HO135; clear HO138; clear HB; have HO135 := n0_; have HO138 := n1_; have HB := n2_; have BK140 := n3_; have GW140 := n4_; have GE140 := n5_; clear n0_ n1_ n2_ n3_ n4_ n5_; clear hb hbox hg; have hcz40_0 : w39.cell? ⟨gb140, 0, none⟩ = some (.string (⟨#[]⟩ : ByteArray)) := (blk_cell BK140.out 0).trans rfl; have hcz40_1 : w39.cell? ⟨gb140, 1, none⟩ = some (.slice none 0 0) := (blk_cell BK140.out 1).trans rfl; have hcz40_2 : w39.cell? ⟨gb140, 2, none⟩ = some (.slice none 0 0) := (blk_cell BK140.out 2).trans rfl; have hfz40_0 := blk_frozen BK140.out 0; have hfz40_1 := blk_frozen BK140.out 1; have hfz40_2 := blk_frozen BK140.out 2; obtain ⟨Ao41, co41, eo41⟩ := Kd.R_slice HO135.out; subst eo41; obtain ⟨Ao42, co42, eo42⟩ := Kd.R_slice HO138.out; subst eo42)))
      go_ret3
      exact ⟨_, by first | rfl | (simp [errW_none, errW_some] <;> rfl) | (simp [*, errW_none, errW_some] <;> rfl), by first | exact Kd.R_nil _ _ _ _ _ | exact Kd.N_nil _ _ _ _ _ | exact Kd.V_nil _ _ _ _ _ | exact Kd.Q_nil _ _ _ _ _ | exact Kd.S_nil _ _ _ _ _, by repeat (first | (with_reducible first | exact HB.out | apply below_alloc | apply pw_below_drewN | apply below_drew1 | refine below_set ?_ GE140.out) | exact HB.out)⟩
end Go.Proofs.YtlikjknakplamaaDoor.Print
/-! ### Print1 -/
namespace Go.Proofs.YtlikjknakplamaaDoor.Print
open Go.RowKit Go.Proofs.YtlikjknakplamaaDoorW.PrintWords Go.Proofs.YtlikjknakplamaaDoorW.PrintLast Go.Proofs.YtlikjknakplamaaDoorW.PrintMore
set_option linter.unusedVariables false
set_option linter.unusedSimpArgs false
theorem eqA38 (d : Nat) (w : World) (x0 y0 : Int) (x1 y1 : ByteArray) (x2 y2 : Int) (x3 y3 : Int) :
    (Op.equalIn (d + 2) 38 (.agg #[.int .i64 x0, .string x1, .int .i64 x2, .int .i64 x3]) (.agg #[.int .i64 y0, .string y1, .int .i64 y2, .int .i64 y3])).run Tryd.prog w = .ok (x0 == y0 && (x1.toList == y1.toList && (x2 == y2 && (x3 == y3)))) w := by
  refine eqA_of Tryd.underlying38 (by kernel_rfl) ?_
  refine eqf_cons (by rfl) (by go_simp; rfl) (by go_simp; rfl) (by go_simp) ?_
  refine eqf_cons (by rfl) (by go_simp; rfl) (by go_simp; rfl) (by go_simp) ?_
  refine eqf_cons (by rfl) (by go_simp; rfl) (by go_simp; rfl) (by go_simp) ?_
  exact eqf_last (by rfl) (by go_simp; rfl) (by go_simp; rfl) (by go_simp)
end Go.Proofs.YtlikjknakplamaaDoor.Print
/-! ### Print7 -/
namespace Go.Proofs.YtlikjknakplamaaDoor.Print
open Go.RowKit Go.Proofs.YtlikjknakplamaaDoorW.PrintWords Go.Proofs.YtlikjknakplamaaDoorW.PrintLast Go.Proofs.YtlikjknakplamaaDoorW.PrintMore
set_option linter.unusedVariables false
set_option linter.unusedSimpArgs false
attribute [local go_sem high] eqA38
def malthouselaw01_Same.l0 : Nat → List (S38) → List (S38) → Int → Option (Bool)
  | 0, _, _, _ => none
  | k + 1, x0, x1, x5 => if x5 < (x0.length : Int) then (if 0 ≤ x5 then (if x5 < (x1.length : Int) then (if (!(((rd_T38 x0 x5).f0) == ((rd_T38 x1 x5).f0)) || (!((((rd_T38 x0 x5).f1).toList) == (((rd_T38 x1 x5).f1).toList)) || (!(((rd_T38 x0 x5).f2) == ((rd_T38 x1 x5).f2)) || (!(((rd_T38 x0 x5).f3) == ((rd_T38 x1 x5).f3)))))) = true then (some false) else (malthouselaw01_Same.l0 k x0 x1 (wrap64 (x5 + 1)))) else (none)) else (none)) else (some true)
def malthouselaw01_Same.f (k : Nat) (l0 : List (S38)) (l1 : List (S38)) : Option (Bool) := if (l0.length : Int) = (l1.length : Int) then (malthouselaw01_Same.l0 k l0 l1 0) else (some false)
set_option maxHeartbeats 8000000 in
set_option maxRecDepth 100000 in
theorem malthouselaw01_Same.calls (k : Nat) (A0 : Option Addr) (c0 : Nat) (l0 : List (S38)) (A1 : Option Addr) (c1 : Nat) (l1 : List (S38)) (r : Bool) (w : World) (hr0 : Kd.C k38 w A0 l0.length l0) (hc0 : l0.length ≤ c0) (hr1 : Kd.C k38 w A1 l1.length l1) (hc1 : l1.length ≤ c1) (h : malthouselaw01_Same.f k l0 l1 = some r) :
    Calls Tryd.prog 15 #[.slice A0 l0.length c0, .slice A1 l1.length c1] w fun e w' => e = .returned (.bool r) ∧ Drawn0 w w' := by
  have hu38 := Tryd.underlying38
  have HR0 := Aside0.mk hr0
  have HC0 := Aside0.mk hc0
  clear hr0 hc0
  have HR1 := Aside0.mk hr1
  have HC1 := Aside0.mk hc1
  clear hr1 hc1
  have H : (if (l0.length : Int) = (l1.length : Int) then (malthouselaw01_Same.l0 k l0 l1 0) else (some false)) = some r := h
  clear h
  by_cases c3 : (l0.length : Int) = (l1.length : Int)
  · rw [if_pos c3] at H
    have c3b0 : ((l0.length : Int) == (l1.length : Int)) = true := beq_iff_eq.mpr c3
    have c3b1 : ((l0.length : Int) != (l1.length : Int)) = false := bne_eq_false_iff_eq.mpr c3
    have c3b2 : (l0.length == l1.length) = true := by first | simpa using c3 | (simp at c3 ⊢; omega)
    clear c3
    have H' := Aside0.mk H
    clear H
    go_enter Tryd.func15, Tryd.ntmps15
    go_wp2
    repeat (go_quiet (fail); try go_wp2)
    go_loopg [5] k (fun kq v5 w' => ∃ (x5_1 : Int), v5 = .int .i64 x5_1 ∧ Aside0 (malthouselaw01_Same.l0 kq l0 l1 x5_1 = some r) ∧ Aside0 (kq ≤ k) ∧ Drawn0 w w')
    case atStart => exact ⟨(0), (by first | rfl | (simp; done) | (simp [*]; done)), H', ⟨Nat.le_refl _⟩, by repeat (first | exact Drawn0.refl _ | apply Drawn0.step)⟩
    case round =>
      clear H'
      try clear c1
      try clear p2
      try clear c3
      try clear c3b0
      try clear c3b1
      try clear c3b2
      obtain ⟨x5_1, rfl, HA, HK1, ⟨m1, rfl⟩⟩ := hrel
      cases gk with
      | zero => exact absurd HA.out (by simp [malthouselaw01_Same.l0])
      | succ k1 =>
        have H := HA.out
        clear HA
        simp only [malthouselaw01_Same.l0] at H
        by_cases c4 : x5_1 < (l0.length : Int)
        · rw [if_pos c4] at H
          have c4b0 : decide (x5_1 < (l0.length : Int)) = true := decide_eq_true c4
          clear c4
          by_cases c5 : 0 ≤ x5_1
          · rw [if_pos c5] at H
            have c5b0 : decide (0 ≤ x5_1) = true := decide_eq_true c5
            clear c5
            by_cases c6 : x5_1 < (l1.length : Int)
            · rw [if_pos c6] at H
              have c6b0 : decide (x5_1 < (l1.length : Int)) = true := decide_eq_true c6
              clear c6
              by_cases c7 : (!(((rd_T38 l0 x5_1).f0) == ((rd_T38 l1 x5_1).f0)) || (!((((rd_T38 l0 x5_1).f1).toList) == (((rd_T38 l1 x5_1).f1).toList)) || (!(((rd_T38 l0 x5_1).f2) == ((rd_T38 l1 x5_1).f2)) || (!(((rd_T38 l0 x5_1).f3) == ((rd_T38 l1 x5_1).f3)))))) = true
              · rw [if_pos c7] at H
                have c7b0 : (!(((rd_T38 l0 x5_1).f0) == ((rd_T38 l1 x5_1).f0)) || (!((((rd_T38 l0 x5_1).f1).toList) == (((rd_T38 l1 x5_1).f1).toList)) || (!(((rd_T38 l0 x5_1).f2) == ((rd_T38 l1 x5_1).f2)) || (!(((rd_T38 l0 x5_1).f3) == ((rd_T38 l1 x5_1).f3)))))) = true := c7
                clear c7
                obtain rfl := Option.some.inj H
                have p156 : 0 ≤ (x5_1 : Int) := of_decide_eq_true (by first | (with_reducible assumption) | assumption)
                have q156 : x5_1 < (l0.length : Int) := of_decide_eq_true (by first | (with_reducible assumption) | assumption)
                obtain ⟨ad156, e156, hx156_0, hx156_1, hx156_2, hx156_3⟩ := at_T38 HR0.out x5_1 p156 q156
                cases e156
                replace p156 := eq_true p156
                replace q156 := eq_true q156
                have p157 : 0 ≤ (x5_1 : Int) := of_decide_eq_true (by first | (with_reducible assumption) | assumption)
                have q157 : x5_1 < (l1.length : Int) := of_decide_eq_true (by first | (with_reducible assumption) | assumption)
                obtain ⟨ad157, e157, hx157_0, hx157_1, hx157_2, hx157_3⟩ := at_T38 HR1.out x5_1 p157 q157
                cases e157
                replace p157 := eq_true p157
                replace q157 := eq_true q157
                go_wp2
                repeat (go_quiet (fail); try go_wp2)
                go_ret
                exact ⟨by first | rfl | (simp; done) | (simp [*]; done), by repeat (first | exact Drawn0.refl _ | apply Drawn0.step)⟩
              · rw [if_neg c7] at H
                have c7b0 : (!(((rd_T38 l0 x5_1).f0) == ((rd_T38 l1 x5_1).f0)) || (!((((rd_T38 l0 x5_1).f1).toList) == (((rd_T38 l1 x5_1).f1).toList)) || (!(((rd_T38 l0 x5_1).f2) == ((rd_T38 l1 x5_1).f2)) || (!(((rd_T38 l0 x5_1).f3) == ((rd_T38 l1 x5_1).f3)))))) = false := by simpa using c7
                clear c7
                have H' := Aside0.mk H
                clear H
                have p156 : 0 ≤ (x5_1 : Int) := of_decide_eq_true (by first | (with_reducible assumption) | assumption)
                have q156 : x5_1 < (l0.length : Int) := of_decide_eq_true (by first | (with_reducible assumption) | assumption)
                obtain ⟨ad156, e156, hx156_0, hx156_1, hx156_2, hx156_3⟩ := at_T38 HR0.out x5_1 p156 q156
                cases e156
                replace p156 := eq_true p156
                replace q156 := eq_true q156
                have p157 : 0 ≤ (x5_1 : Int) := of_decide_eq_true (by first | (with_reducible assumption) | assumption)
                have q157 : x5_1 < (l1.length : Int) := of_decide_eq_true (by first | (with_reducible assumption) | assumption)
                obtain ⟨ad157, e157, hx157_0, hx157_1, hx157_2, hx157_3⟩ := at_T38 HR1.out x5_1 p157 q157
                cases e157
                replace p157 := eq_true p157
                replace q157 := eq_true q157
                go_wp2
                repeat (go_quiet (fail); try go_wp2)
                go_roundg k1
                case measure => have := HK1.out; omega
                case rel => exact ⟨(wrap64 (x5_1 + 1)), (by first | rfl | (simp; done) | (simp [*]; done)), H', ⟨by have := HK1.out; omega⟩, by repeat (first | exact Drawn0.refl _ | apply Drawn0.step)⟩
            · rw [if_neg c6] at H
              exact absurd H (by simp)
          · rw [if_neg c5] at H
            exact absurd H (by simp)
        · rw [if_neg c4] at H
          have c4b0 : decide (x5_1 < (l0.length : Int)) = false := decide_eq_false c4
          clear c4
          obtain rfl := Option.some.inj H
          go_wp2
          repeat (go_quiet (fail); try go_wp2)
          go_ret
          exact ⟨by first | rfl | (simp; done) | (simp [*]; done), by repeat (first | exact Drawn0.refl _ | apply Drawn0.step)⟩
  · rw [if_neg c3] at H
    have c3b0 : ((l0.length : Int) == (l1.length : Int)) = false := beq_eq_false_iff_ne.mpr c3
    have c3b1 : ((l0.length : Int) != (l1.length : Int)) = true := bne_iff_ne.mpr c3
    have c3b2 : (l0.length == l1.length) = false := by first | simpa using c3 | (simp at c3 ⊢; omega)
    obtain rfl := Option.some.inj H
    go_enter Tryd.func15, Tryd.ntmps15
    go_wp2
    repeat (go_quiet (fail); try go_wp2)
    go_ret
    exact ⟨by first | rfl | (simp; done) | (simp [*]; done), by repeat (first | exact Drawn0.refl _ | apply Drawn0.step)⟩
def malthouselaw01_LexCuts.f (k : Nat) (a0 : ByteArray) : Option (Bool) := (malthouselaw01_awake.f).bind fun t158 => (if (a0.size : Int) > 20000 then (some t158) else ((lex_Cut.f a0).bind fun bt159 => ((malthouseref01_Cut.f k a0).bind fun bt164 => ((malthouselaw01_Same.f k bt159.1 bt164.1).bind fun t169 => (if t158 = true then (if t169 = true then (if bt159.2.1 = bt164.2.1 then (some (bt159.2.2 == bt164.2.2)) else (some false)) else (some false)) else (some false))))))
set_option maxHeartbeats 8000000 in
set_option maxRecDepth 100000 in
theorem malthouselaw01_LexCuts.calls (k : Nat) (a0 : ByteArray) (r : Bool) (w : World) (hT : Tabs w) (h : malthouselaw01_LexCuts.f k a0 = some r) :
    Calls Tryd.prog 3 #[.string a0] w fun e w' => e = .returned (.bool r) ∧ Below w.heap.size w w' := by
  have HB := Aside0.mk (Below.refl w.heap.size w)
  have H : ((malthouselaw01_awake.f).bind fun t158 => (if (a0.size : Int) > 20000 then (some t158) else ((lex_Cut.f a0).bind fun bt159 => ((malthouseref01_Cut.f k a0).bind fun bt164 => ((malthouselaw01_Same.f k bt159.1 bt164.1).bind fun t169 => (if t158 = true then (if t169 = true then (if bt159.2.1 = bt164.2.1 then (some (bt159.2.2 == bt164.2.2)) else (some false)) else (some false)) else (some false))))))) = some r := h
  clear h
  replace H := Option.bind_eq_some_iff.mp H
  obtain ⟨t158, A20, H⟩ := H
  replace H : (if (a0.size : Int) > 20000 then (some t158) else ((lex_Cut.f a0).bind fun bt159 => ((malthouseref01_Cut.f k a0).bind fun bt164 => ((malthouselaw01_Same.f k bt159.1 bt164.1).bind fun t169 => (if t158 = true then (if t169 = true then (if bt159.2.1 = bt164.2.1 then (some (bt159.2.2 == bt164.2.2)) else (some false)) else (some false)) else (some false)))))) = some r := H
  have A2 := Aside0.mk A20
  clear A20
  by_cases c3 : (a0.size : Int) > 20000
  · rw [if_pos c3] at H
    have c3b0 : decide (20000 < (a0.size : Int)) = true := decide_eq_true c3
    have c3b1 : decide (20000 < a0.size) = true := decide_eq_true (by omega)
    clear c3
    obtain rfl := Option.some.inj H
    go_enter Tryd.func3, Tryd.ntmps3
    go_wp2_with (first | ((with_reducible refine gate_callee (f := 12) rfl ?_); refine goesL_ (some 11) rfl rfl Tryd.func12 (by kernel_rfl) rfl #[] rfl (by (try simp only [List.map_toArray, List.map_cons, List.map_nil]); first | done | rfl | (simp only [List.length_drop, List.length_take]; rfl)) ?_; (with_reducible refine (malthouselaw01_awake.calls  t158 _ ?side1 A2.out).mono ?_); (case side1 => exact Tabs.below hT (by repeat (first | (with_reducible first | exact HB.out | apply below_alloc | apply pw_below_drewN | apply below_drew1) | exact HB.out))); rintro e w4 ⟨rfl, hb⟩; refine ⟨_, rfl, ?_⟩; have n0_ := Aside0.mk (below_step (by repeat (first | (with_reducible first | exact HB.out | apply below_alloc | apply pw_below_drewN | apply below_drew1) | exact HB.out)) hb); clear HB; have HB := n0_; clear n0_; (try clear hb); (try clear hb2); (try clear hk); (try clear hi)))
    go_ret
    exact ⟨by first | rfl | (simp [errW_none, errW_some] <;> rfl) | (simp [*, errW_none, errW_some] <;> rfl), by repeat (first | (with_reducible first | exact HB.out | apply below_alloc | apply pw_below_drewN | apply below_drew1) | exact HB.out)⟩
  · rw [if_neg c3] at H
    have c3b0 : decide (20000 < (a0.size : Int)) = false := decide_eq_false c3
    have c3b1 : decide (20000 < a0.size) = false := decide_eq_false (by omega)
    clear c3
    replace H := Option.bind_eq_some_iff.mp H
    obtain ⟨⟨t159, t160, t161⟩, A50, H⟩ := H
    replace H : ((malthouseref01_Cut.f k a0).bind fun bt164 => ((malthouselaw01_Same.f k t159 bt164.1).bind fun t169 => (if t158 = true then (if t169 = true then (if t160 = bt164.2.1 then (some (t161 == bt164.2.2)) else (some false)) else (some false)) else (some false)))) = some r := H
    have A5 := Aside0.mk A50
    clear A50
    replace H := Option.bind_eq_some_iff.mp H
    obtain ⟨⟨t164, t165, t166⟩, A60, H⟩ := H
    replace H : ((malthouselaw01_Same.f k t159 t164).bind fun t169 => (if t158 = true then (if t169 = true then (if t160 = t165 then (some (t161 == t166)) else (some false)) else (some false)) else (some false))) = some r := H
    have A6 := Aside0.mk A60
    clear A60
    replace H := Option.bind_eq_some_iff.mp H
    obtain ⟨t169, A70, H⟩ := H
    replace H : (if t158 = true then (if t169 = true then (if t160 = t165 then (some (t161 == t166)) else (some false)) else (some false)) else (some false)) = some r := H
    have A7 := Aside0.mk A70
    clear A70
    by_cases c8 : t158 = true
    · subst c8
      have H1 : (if t169 = true then (if t160 = t165 then (some (t161 == t166)) else (some false)) else (some false)) = some r := by rw [if_pos rfl] at H; exact H
      clear H
      have H := H1
      clear H1
      by_cases c9 : t169 = true
      · subst c9
        have H1 : (if t160 = t165 then (some (t161 == t166)) else (some false)) = some r := by rw [if_pos rfl] at H; exact H
        clear H
        have H := H1
        clear H1
        by_cases c10 : t160 = t165
        · rw [if_pos c10] at H
          have c10b0 : (t160 == t165) = true := beq_iff_eq.mpr c10
          have c10b1 : (t160 != t165) = false := bne_eq_false_iff_eq.mpr c10
          clear c10
          obtain rfl := Option.some.inj H
          go_enter Tryd.func3, Tryd.ntmps3
          go_wp2_with (first | ((with_reducible refine gate_callee (f := 12) rfl ?_); refine goesL_ (some 11) rfl rfl Tryd.func12 (by kernel_rfl) rfl #[] rfl (by (try simp only [List.map_toArray, List.map_cons, List.map_nil]); first | done | rfl | (simp only [List.length_drop, List.length_take]; rfl)) ?_; (with_reducible refine (malthouselaw01_awake.calls  true _ ?side1 A2.out).mono ?_); (case side1 => exact Tabs.below hT (by repeat (first | (with_reducible first | exact HB.out | apply below_alloc | apply pw_below_drewN | apply below_drew1) | exact HB.out))); rintro e w11 ⟨rfl, hb⟩; refine ⟨_, rfl, ?_⟩; have n0_ := Aside0.mk (below_step (by repeat (first | (with_reducible first | exact HB.out | apply below_alloc | apply pw_below_drewN | apply below_drew1) | exact HB.out)) hb); clear HB; have HB := n0_; clear n0_; (try clear hb); (try clear hb2); (try clear hk); (try clear hi)) | ((with_reducible refine gate_callee (f := 13) rfl ?_); refine goesL_ (some 18) rfl rfl Tryd.func13 (by kernel_rfl) rfl #[.string a0] rfl (by (try simp only [List.map_toArray, List.map_cons, List.map_nil]); first | done | rfl | (simp only [List.length_drop, List.length_take]; rfl)) ?_; (with_reducible refine (lex_Cut.calls a0 t159 t160 t161 _ ?side1 A5.out).mono ?_); (case side1 => exact Tabs.below hT (by repeat (first | (with_reducible first | exact HB.out | apply below_alloc | apply pw_below_drewN | apply below_drew1) | exact HB.out))); rintro e w12 ⟨v162, rfl, ho0, hb⟩; refine ⟨_, rfl, ?_⟩; have n0_ := Aside0.mk (Kd.R_lower ho0 (below_size (by repeat (first | (with_reducible first | exact HB.out | apply below_alloc | apply pw_below_drewN | apply below_drew1) | exact HB.out)))); have n1_ := Aside0.mk (below_step (by repeat (first | (with_reducible first | exact HB.out | apply below_alloc | apply pw_below_drewN | apply below_drew1) | exact HB.out)) hb); clear HB; have HO163 := n0_; have HB := n1_; clear n0_ n1_; (try clear hb); (try clear hb2); (try clear hk); (try clear hi); (try clear ho0)) | ((with_reducible refine gate_callee (f := 14) rfl ?_); refine goesL_ (some 24) rfl rfl Tryd.func14 (by kernel_rfl) rfl #[.string a0] rfl (by (try simp only [List.map_toArray, List.map_cons, List.map_nil]); first | done | rfl | (simp only [List.length_drop, List.length_take]; rfl)) ?_; (with_reducible refine (malthouseref01_Cut.calls k a0 t164 t165 t166 _ A6.out).mono ?_); rintro e w13 ⟨v167, rfl, ho0, hb⟩; refine ⟨_, rfl, ?_⟩; have n0_ := Aside0.mk (Kd.R_elder' (by (with_reducible repeat (first | apply Kd.R_alloc | apply Kd.R_drewN | apply Kd.R_drew)); exact HO163.out) (Kd.R_base ho0) hb); have n1_ := Aside0.mk (Kd.R_lower (Kd.R_new' ho0 (Kd.R_lt (by (with_reducible repeat (first | apply Kd.R_alloc | apply Kd.R_drewN | apply Kd.R_drew)); exact HO163.out))) (below_size (by repeat (first | (with_reducible first | exact HB.out | apply below_alloc | apply pw_below_drewN | apply below_drew1) | exact HB.out)))); have n2_ := Aside0.mk (below_step (by repeat (first | (with_reducible first | exact HB.out | apply below_alloc | apply pw_below_drewN | apply below_drew1) | exact HB.out)) hb); clear HO163; clear HB; have HO163 := n0_; have HO168 := n1_; have HB := n2_; clear n0_ n1_ n2_; (try clear hb); (try clear hb2); (try clear hk); (try clear hi); (try clear ho0); obtain ⟨Ao14, co14, eo14⟩ := Kd.R_slice HO163.out; subst eo14; obtain ⟨Ao15, co15, eo15⟩ := Kd.R_slice HO168.out; subst eo15) | ((with_reducible refine gate_callee (f := 15) rfl ?_); refine goesL_ (some 30) rfl rfl Tryd.func15 (by kernel_rfl) rfl #[.slice Ao14 t159.length co14, .slice Ao15 t164.length co15] rfl (by (try simp only [List.map_toArray, List.map_cons, List.map_nil]); first | done | rfl | (simp only [List.length_drop, List.length_take]; rfl)) ?_; (with_reducible refine (malthouselaw01_Same.calls k _ _ t159 _ _ t164 true _ ?side1 ?side2 ?side3 ?side4 A7.out).mono ?_); (case side1 => repeat (first | exact (Kd.R_reads' HO163.out).2.2 | (with_reducible refine Kd.C_alloc ?_ _) | (with_reducible refine Kd.C_drewN ?_ _) | (with_reducible refine Kd.C_drew ?_))); (case side2 => exact (Kd.R_reads' HO163.out).2.1); (case side3 => repeat (first | exact (Kd.R_reads' HO168.out).2.2 | (with_reducible refine Kd.C_alloc ?_ _) | (with_reducible refine Kd.C_drewN ?_ _) | (with_reducible refine Kd.C_drew ?_))); (case side4 => exact (Kd.R_reads' HO168.out).2.1); rintro e w' ⟨rfl, ⟨nd, rfl⟩⟩; refine ⟨_, rfl, ?_⟩))
          go_ret
          exact ⟨by first | rfl | (simp [errW_none, errW_some] <;> rfl) | (simp [*, errW_none, errW_some] <;> rfl), by repeat (first | (with_reducible first | exact HB.out | apply below_alloc | apply pw_below_drewN | apply below_drew1) | exact HB.out)⟩
        · rw [if_neg c10] at H
          have c10b0 : (t160 == t165) = false := beq_eq_false_iff_ne.mpr c10
          have c10b1 : (t160 != t165) = true := bne_iff_ne.mpr c10
          obtain rfl := Option.some.inj H
          go_enter Tryd.func3, Tryd.ntmps3
          go_wp2_with (first | ((with_reducible refine gate_callee (f := 12) rfl ?_); refine goesL_ (some 11) rfl rfl Tryd.func12 (by kernel_rfl) rfl #[] rfl (by (try simp only [List.map_toArray, List.map_cons, List.map_nil]); first | done | rfl | (simp only [List.length_drop, List.length_take]; rfl)) ?_; (with_reducible refine (malthouselaw01_awake.calls  true _ ?side1 A2.out).mono ?_); (case side1 => exact Tabs.below hT (by repeat (first | (with_reducible first | exact HB.out | apply below_alloc | apply pw_below_drewN | apply below_drew1) | exact HB.out))); rintro e w16 ⟨rfl, hb⟩; refine ⟨_, rfl, ?_⟩; have n0_ := Aside0.mk (below_step (by repeat (first | (with_reducible first | exact HB.out | apply below_alloc | apply pw_below_drewN | apply below_drew1) | exact HB.out)) hb); clear HB; have HB := n0_; clear n0_; (try clear hb); (try clear hb2); (try clear hk); (try clear hi)) | ((with_reducible refine gate_callee (f := 13) rfl ?_); refine goesL_ (some 18) rfl rfl Tryd.func13 (by kernel_rfl) rfl #[.string a0] rfl (by (try simp only [List.map_toArray, List.map_cons, List.map_nil]); first | done | rfl | (simp only [List.length_drop, List.length_take]; rfl)) ?_; (with_reducible refine (lex_Cut.calls a0 t159 t160 t161 _ ?side1 A5.out).mono ?_); (case side1 => exact Tabs.below hT (by repeat (first | (with_reducible first | exact HB.out | apply below_alloc | apply pw_below_drewN | apply below_drew1) | exact HB.out))); rintro e w17 ⟨v162, rfl, ho0, hb⟩; refine ⟨_, rfl, ?_⟩; have n0_ := Aside0.mk (Kd.R_lower ho0 (below_size (by repeat (first | (with_reducible first | exact HB.out | apply below_alloc | apply pw_below_drewN | apply below_drew1) | exact HB.out)))); have n1_ := Aside0.mk (below_step (by repeat (first | (with_reducible first | exact HB.out | apply below_alloc | apply pw_below_drewN | apply below_drew1) | exact HB.out)) hb); clear HB; have HO163 := n0_; have HB := n1_; clear n0_ n1_; (try clear hb); (try clear hb2); (try clear hk); (try clear hi); (try clear ho0)) | ((with_reducible refine gate_callee (f := 14) rfl ?_); refine goesL_ (some 24) rfl rfl Tryd.func14 (by kernel_rfl) rfl #[.string a0] rfl (by (try simp only [List.map_toArray, List.map_cons, List.map_nil]); first | done | rfl | (simp only [List.length_drop, List.length_take]; rfl)) ?_; (with_reducible refine (malthouseref01_Cut.calls k a0 t164 t165 t166 _ A6.out).mono ?_); rintro e w18 ⟨v167, rfl, ho0, hb⟩; refine ⟨_, rfl, ?_⟩; have n0_ := Aside0.mk (Kd.R_elder' (by (with_reducible repeat (first | apply Kd.R_alloc | apply Kd.R_drewN | apply Kd.R_drew)); exact HO163.out) (Kd.R_base ho0) hb); have n1_ := Aside0.mk (Kd.R_lower (Kd.R_new' ho0 (Kd.R_lt (by (with_reducible repeat (first | apply Kd.R_alloc | apply Kd.R_drewN | apply Kd.R_drew)); exact HO163.out))) (below_size (by repeat (first | (with_reducible first | exact HB.out | apply below_alloc | apply pw_below_drewN | apply below_drew1) | exact HB.out)))); have n2_ := Aside0.mk (below_step (by repeat (first | (with_reducible first | exact HB.out | apply below_alloc | apply pw_below_drewN | apply below_drew1) | exact HB.out)) hb); clear HO163; clear HB; have HO163 := n0_; have HO168 := n1_; have HB := n2_; clear n0_ n1_ n2_; (try clear hb); (try clear hb2); (try clear hk); (try clear hi); (try clear ho0); obtain ⟨Ao19, co19, eo19⟩ := Kd.R_slice HO163.out; subst eo19; obtain ⟨Ao20, co20, eo20⟩ := Kd.R_slice HO168.out; subst eo20) | ((with_reducible refine gate_callee (f := 15) rfl ?_); refine goesL_ (some 30) rfl rfl Tryd.func15 (by kernel_rfl) rfl #[.slice Ao19 t159.length co19, .slice Ao20 t164.length co20] rfl (by (try simp only [List.map_toArray, List.map_cons, List.map_nil]); first | done | rfl | (simp only [List.length_drop, List.length_take]; rfl)) ?_; (with_reducible refine (malthouselaw01_Same.calls k _ _ t159 _ _ t164 true _ ?side1 ?side2 ?side3 ?side4 A7.out).mono ?_); (case side1 => repeat (first | exact (Kd.R_reads' HO163.out).2.2 | (with_reducible refine Kd.C_alloc ?_ _) | (with_reducible refine Kd.C_drewN ?_ _) | (with_reducible refine Kd.C_drew ?_))); (case side2 => exact (Kd.R_reads' HO163.out).2.1); (case side3 => repeat (first | exact (Kd.R_reads' HO168.out).2.2 | (with_reducible refine Kd.C_alloc ?_ _) | (with_reducible refine Kd.C_drewN ?_ _) | (with_reducible refine Kd.C_drew ?_))); (case side4 => exact (Kd.R_reads' HO168.out).2.1); rintro e w' ⟨rfl, ⟨nd, rfl⟩⟩; refine ⟨_, rfl, ?_⟩))
          go_ret
          exact ⟨by first | rfl | (simp [errW_none, errW_some] <;> rfl) | (simp [*, errW_none, errW_some] <;> rfl), by repeat (first | (with_reducible first | exact HB.out | apply below_alloc | apply pw_below_drewN | apply below_drew1) | exact HB.out)⟩
      · replace c9 := Bool.eq_false_iff.mpr c9
        subst c9
        have H1 : (some false) = some r := by rw [if_neg (show ¬ (false = true) by decide)] at H; exact H
        clear H
        have H := H1
        clear H1
        obtain rfl := Option.some.inj H
        go_enter Tryd.func3, Tryd.ntmps3
        go_wp2_with (first | ((with_reducible refine gate_callee (f := 12) rfl ?_); refine goesL_ (some 11) rfl rfl Tryd.func12 (by kernel_rfl) rfl #[] rfl (by (try simp only [List.map_toArray, List.map_cons, List.map_nil]); first | done | rfl | (simp only [List.length_drop, List.length_take]; rfl)) ?_; (with_reducible refine (malthouselaw01_awake.calls  true _ ?side1 A2.out).mono ?_); (case side1 => exact Tabs.below hT (by repeat (first | (with_reducible first | exact HB.out | apply below_alloc | apply pw_below_drewN | apply below_drew1) | exact HB.out))); rintro e w21 ⟨rfl, hb⟩; refine ⟨_, rfl, ?_⟩; have n0_ := Aside0.mk (below_step (by repeat (first | (with_reducible first | exact HB.out | apply below_alloc | apply pw_below_drewN | apply below_drew1) | exact HB.out)) hb); clear HB; have HB := n0_; clear n0_; (try clear hb); (try clear hb2); (try clear hk); (try clear hi)) | ((with_reducible refine gate_callee (f := 13) rfl ?_); refine goesL_ (some 18) rfl rfl Tryd.func13 (by kernel_rfl) rfl #[.string a0] rfl (by (try simp only [List.map_toArray, List.map_cons, List.map_nil]); first | done | rfl | (simp only [List.length_drop, List.length_take]; rfl)) ?_; (with_reducible refine (lex_Cut.calls a0 t159 t160 t161 _ ?side1 A5.out).mono ?_); (case side1 => exact Tabs.below hT (by repeat (first | (with_reducible first | exact HB.out | apply below_alloc | apply pw_below_drewN | apply below_drew1) | exact HB.out))); rintro e w22 ⟨v162, rfl, ho0, hb⟩; refine ⟨_, rfl, ?_⟩; have n0_ := Aside0.mk (Kd.R_lower ho0 (below_size (by repeat (first | (with_reducible first | exact HB.out | apply below_alloc | apply pw_below_drewN | apply below_drew1) | exact HB.out)))); have n1_ := Aside0.mk (below_step (by repeat (first | (with_reducible first | exact HB.out | apply below_alloc | apply pw_below_drewN | apply below_drew1) | exact HB.out)) hb); clear HB; have HO163 := n0_; have HB := n1_; clear n0_ n1_; (try clear hb); (try clear hb2); (try clear hk); (try clear hi); (try clear ho0)) | ((with_reducible refine gate_callee (f := 14) rfl ?_); refine goesL_ (some 24) rfl rfl Tryd.func14 (by kernel_rfl) rfl #[.string a0] rfl (by (try simp only [List.map_toArray, List.map_cons, List.map_nil]); first | done | rfl | (simp only [List.length_drop, List.length_take]; rfl)) ?_; (with_reducible refine (malthouseref01_Cut.calls k a0 t164 t165 t166 _ A6.out).mono ?_); rintro e w23 ⟨v167, rfl, ho0, hb⟩; refine ⟨_, rfl, ?_⟩; have n0_ := Aside0.mk (Kd.R_elder' (by (with_reducible repeat (first | apply Kd.R_alloc | apply Kd.R_drewN | apply Kd.R_drew)); exact HO163.out) (Kd.R_base ho0) hb); have n1_ := Aside0.mk (Kd.R_lower (Kd.R_new' ho0 (Kd.R_lt (by (with_reducible repeat (first | apply Kd.R_alloc | apply Kd.R_drewN | apply Kd.R_drew)); exact HO163.out))) (below_size (by repeat (first | (with_reducible first | exact HB.out | apply below_alloc | apply pw_below_drewN | apply below_drew1) | exact HB.out)))); have n2_ := Aside0.mk (below_step (by repeat (first | (with_reducible first | exact HB.out | apply below_alloc | apply pw_below_drewN | apply below_drew1) | exact HB.out)) hb); clear HO163; clear HB; have HO163 := n0_; have HO168 := n1_; have HB := n2_; clear n0_ n1_ n2_; (try clear hb); (try clear hb2); (try clear hk); (try clear hi); (try clear ho0); obtain ⟨Ao24, co24, eo24⟩ := Kd.R_slice HO163.out; subst eo24; obtain ⟨Ao25, co25, eo25⟩ := Kd.R_slice HO168.out; subst eo25) | ((with_reducible refine gate_callee (f := 15) rfl ?_); refine goesL_ (some 30) rfl rfl Tryd.func15 (by kernel_rfl) rfl #[.slice Ao24 t159.length co24, .slice Ao25 t164.length co25] rfl (by (try simp only [List.map_toArray, List.map_cons, List.map_nil]); first | done | rfl | (simp only [List.length_drop, List.length_take]; rfl)) ?_; (with_reducible refine (malthouselaw01_Same.calls k _ _ t159 _ _ t164 false _ ?side1 ?side2 ?side3 ?side4 A7.out).mono ?_); (case side1 => repeat (first | exact (Kd.R_reads' HO163.out).2.2 | (with_reducible refine Kd.C_alloc ?_ _) | (with_reducible refine Kd.C_drewN ?_ _) | (with_reducible refine Kd.C_drew ?_))); (case side2 => exact (Kd.R_reads' HO163.out).2.1); (case side3 => repeat (first | exact (Kd.R_reads' HO168.out).2.2 | (with_reducible refine Kd.C_alloc ?_ _) | (with_reducible refine Kd.C_drewN ?_ _) | (with_reducible refine Kd.C_drew ?_))); (case side4 => exact (Kd.R_reads' HO168.out).2.1); rintro e w' ⟨rfl, ⟨nd, rfl⟩⟩; refine ⟨_, rfl, ?_⟩))
        go_ret
        exact ⟨by first | rfl | (simp [errW_none, errW_some] <;> rfl) | (simp [*, errW_none, errW_some] <;> rfl), by repeat (first | (with_reducible first | exact HB.out | apply below_alloc | apply pw_below_drewN | apply below_drew1) | exact HB.out)⟩
    · replace c8 := Bool.eq_false_iff.mpr c8
      subst c8
      have H1 : (some false) = some r := by rw [if_neg (show ¬ (false = true) by decide)] at H; exact H
      clear H
      have H := H1
      clear H1
      obtain rfl := Option.some.inj H
      go_enter Tryd.func3, Tryd.ntmps3
      go_wp2_with (first | ((with_reducible refine gate_callee (f := 12) rfl ?_); refine goesL_ (some 11) rfl rfl Tryd.func12 (by kernel_rfl) rfl #[] rfl (by (try simp only [List.map_toArray, List.map_cons, List.map_nil]); first | done | rfl | (simp only [List.length_drop, List.length_take]; rfl)) ?_; (with_reducible refine (malthouselaw01_awake.calls  false _ ?side1 A2.out).mono ?_); (case side1 => exact Tabs.below hT (by repeat (first | (with_reducible first | exact HB.out | apply below_alloc | apply pw_below_drewN | apply below_drew1) | exact HB.out))); rintro e w26 ⟨rfl, hb⟩; refine ⟨_, rfl, ?_⟩; have n0_ := Aside0.mk (below_step (by repeat (first | (with_reducible first | exact HB.out | apply below_alloc | apply pw_below_drewN | apply below_drew1) | exact HB.out)) hb); clear HB; have HB := n0_; clear n0_; (try clear hb); (try clear hb2); (try clear hk); (try clear hi)) | ((with_reducible refine gate_callee (f := 13) rfl ?_); refine goesL_ (some 18) rfl rfl Tryd.func13 (by kernel_rfl) rfl #[.string a0] rfl (by (try simp only [List.map_toArray, List.map_cons, List.map_nil]); first | done | rfl | (simp only [List.length_drop, List.length_take]; rfl)) ?_; (with_reducible refine (lex_Cut.calls a0 t159 t160 t161 _ ?side1 A5.out).mono ?_); (case side1 => exact Tabs.below hT (by repeat (first | (with_reducible first | exact HB.out | apply below_alloc | apply pw_below_drewN | apply below_drew1) | exact HB.out))); rintro e w27 ⟨v162, rfl, ho0, hb⟩; refine ⟨_, rfl, ?_⟩; have n0_ := Aside0.mk (Kd.R_lower ho0 (below_size (by repeat (first | (with_reducible first | exact HB.out | apply below_alloc | apply pw_below_drewN | apply below_drew1) | exact HB.out)))); have n1_ := Aside0.mk (below_step (by repeat (first | (with_reducible first | exact HB.out | apply below_alloc | apply pw_below_drewN | apply below_drew1) | exact HB.out)) hb); clear HB; have HO163 := n0_; have HB := n1_; clear n0_ n1_; (try clear hb); (try clear hb2); (try clear hk); (try clear hi); (try clear ho0)) | ((with_reducible refine gate_callee (f := 14) rfl ?_); refine goesL_ (some 24) rfl rfl Tryd.func14 (by kernel_rfl) rfl #[.string a0] rfl (by (try simp only [List.map_toArray, List.map_cons, List.map_nil]); first | done | rfl | (simp only [List.length_drop, List.length_take]; rfl)) ?_; (with_reducible refine (malthouseref01_Cut.calls k a0 t164 t165 t166 _ A6.out).mono ?_); rintro e w28 ⟨v167, rfl, ho0, hb⟩; refine ⟨_, rfl, ?_⟩; have n0_ := Aside0.mk (Kd.R_elder' (by (with_reducible repeat (first | apply Kd.R_alloc | apply Kd.R_drewN | apply Kd.R_drew)); exact HO163.out) (Kd.R_base ho0) hb); have n1_ := Aside0.mk (Kd.R_lower (Kd.R_new' ho0 (Kd.R_lt (by (with_reducible repeat (first | apply Kd.R_alloc | apply Kd.R_drewN | apply Kd.R_drew)); exact HO163.out))) (below_size (by repeat (first | (with_reducible first | exact HB.out | apply below_alloc | apply pw_below_drewN | apply below_drew1) | exact HB.out)))); have n2_ := Aside0.mk (below_step (by repeat (first | (with_reducible first | exact HB.out | apply below_alloc | apply pw_below_drewN | apply below_drew1) | exact HB.out)) hb); clear HO163; clear HB; have HO163 := n0_; have HO168 := n1_; have HB := n2_; clear n0_ n1_ n2_; (try clear hb); (try clear hb2); (try clear hk); (try clear hi); (try clear ho0); obtain ⟨Ao29, co29, eo29⟩ := Kd.R_slice HO163.out; subst eo29; obtain ⟨Ao30, co30, eo30⟩ := Kd.R_slice HO168.out; subst eo30) | ((with_reducible refine gate_callee (f := 15) rfl ?_); refine goesL_ (some 30) rfl rfl Tryd.func15 (by kernel_rfl) rfl #[.slice Ao29 t159.length co29, .slice Ao30 t164.length co30] rfl (by (try simp only [List.map_toArray, List.map_cons, List.map_nil]); first | done | rfl | (simp only [List.length_drop, List.length_take]; rfl)) ?_; (with_reducible refine (malthouselaw01_Same.calls k _ _ t159 _ _ t164 t169 _ ?side1 ?side2 ?side3 ?side4 A7.out).mono ?_); (case side1 => repeat (first | exact (Kd.R_reads' HO163.out).2.2 | (with_reducible refine Kd.C_alloc ?_ _) | (with_reducible refine Kd.C_drewN ?_ _) | (with_reducible refine Kd.C_drew ?_))); (case side2 => exact (Kd.R_reads' HO163.out).2.1); (case side3 => repeat (first | exact (Kd.R_reads' HO168.out).2.2 | (with_reducible refine Kd.C_alloc ?_ _) | (with_reducible refine Kd.C_drewN ?_ _) | (with_reducible refine Kd.C_drew ?_))); (case side4 => exact (Kd.R_reads' HO168.out).2.1); rintro e w' ⟨rfl, ⟨nd, rfl⟩⟩; refine ⟨_, rfl, ?_⟩))
      go_ret
      exact ⟨by first | rfl | (simp [errW_none, errW_some] <;> rfl) | (simp [*, errW_none, errW_some] <;> rfl), by repeat (first | (with_reducible first | exact HB.out | apply below_alloc | apply pw_below_drewN | apply below_drew1) | exact HB.out)⟩
end Go.Proofs.YtlikjknakplamaaDoor.Print
/-! ### LxLaw4 -/
namespace Go.Proofs.YtlikjknakplamaaDoor.Print
open Go.RowKit Go.Proofs.YtlikjknakplamaaDoorW.PrintWords Go.Proofs.YtlikjknakplamaaDoorW.PrintLast Go.Proofs.YtlikjknakplamaaDoorW.PrintMore
set_option linter.unusedSimpArgs false
set_option linter.unusedVariables false
/-- A token as the print has it. -/
def sTok (x : TokR × Nat) : S38 := ⟨x.1.1, str x.1.2.1, x.1.2.2, (x.2 : Int)⟩
theorem toks_map (l : List (TokR × Nat)) : (l.map tokAt).map gTok = l.map sTok := by
  rw [List.map_map]
  rfl
theorem cut_some (s : ByteArray) (h : s.size ≤ 1000000000) : lex_Cut.f s = some ((cutZ s).1.map gTok, (cutZ s).2.1, (cutZ s).2.2) := if_pos h
theorem lex_len : ∀ (m : Nat) (rs : List Nat) (n k : Nat), rs.length ≤ m → (lex rs n k).1.length ≤ rs.length + 1 := by
  intro m
  induction m with
  | zero =>
    intro rs n k hm
    obtain rfl := List.eq_nil_of_length_eq_zero (show rs.length = 0 by omega)
    rw [lex_end [] n k rfl]
    simp
  | succ m ih =>
    intro rs n k hm
    have hp : (past rs).length + blanksN false rs = rs.length := drop_blanks_len rs
    by_cases h : past rs = []
    · rw [lex_end rs n k h]; simp
    · by_cases hk : k = 2000
      · subst hk; rw [lex_full rs n h]; simp
      · by_cases he : (tokR (past rs)).2.2 = 0
        · obtain ⟨g1, g2, _⟩ := tokR_good _ he
          have ih' := ih ((past rs).drop (tokR (past rs)).2.1) (n + blanksN false rs + (tokR (past rs)).2.1) (k + 1) (by rw [List.length_drop]; omega)
          rw [List.length_drop] at ih'
          have ih2 : (rest rs n k).1.length ≤ (past rs).length - (tokR (past rs)).2.1 + 1 := ih'
          rw [lex_more rs n k h hk he]
          split
          · simp
          · simp only [List.length_cons]; omega
        · rw [lex_err rs n k h hk he]; simp
end Go.Proofs.YtlikjknakplamaaDoor.Print
/-! ### LxLaw6 -/
namespace Go.Proofs.YtlikjknakplamaaDoor.Print
open Go.RowKit Go.Proofs.YtlikjknakplamaaDoorW.PrintWords Go.Proofs.YtlikjknakplamaaDoorW.PrintLast Go.Proofs.YtlikjknakplamaaDoorW.PrintMore Go.Lib
set_option linter.unusedSimpArgs false
set_option linter.unusedVariables false
theorem token_ref (rs : List Nat) (hok : ∀ r ∈ rs, okR r) (hl : rs.length ≤ 1000000) (i : Nat) (hi : i < rs.length) : malthouseref01_token.f (str rs) (intsN rs) (atsN 0 rs) (i : Int) = some (refTok i (tokR (rs.drop i))) := by
  unfold malthouseref01_token.f
  rw [ints_nat, Int.toNat_natCast, if_pos ⟨validT_mk rs hok hl, by omega, by rw [intsN_len]; omega⟩]
theorem ref_cut_loop (rs : List Nat) (hok : ∀ r ∈ rs, okR r) (hl : rs.length ≤ 1000000) : ∀ (f i K : Nat) (acc : List S38) (u : List Nat) (n : Nat), rs.length ≤ i + f → i ≤ rs.length → acc.length ≤ 2000 → past u = rs.drop i → n + blanksN false u = i → f + 3 * rs.length + 10 ≤ K →
    malthouseref01_Cut.l0 K acc (i : Int) (str rs) (intsN rs) (atsN 0 rs) = some (if (lex u n acc.length).2.1 = 0 then (acc ++ (lex u n acc.length).1.map sTok, 0, 0) else ([], (lex u n acc.length).2)) := by
  have hend : ∀ (i K : Nat) (acc : List S38) (u : List Nat) (n : Nat), i = rs.length → acc.length ≤ 2000 → past u = rs.drop i → n + blanksN false u = i →
      malthouseref01_Cut.l0 (K + 1) acc (i : Int) (str rs) (intsN rs) (atsN 0 rs) = some (if (lex u n acc.length).2.1 = 0 then (acc ++ (lex u n acc.length).1.map sTok, 0, 0) else ([], (lex u n acc.length).2)) := by
    rintro i K acc u n rfl ha hp hn
    rw [malthouseref01_Cut.l0, intsN_len, if_neg (by omega), if_pos (by omega), lex_end u n _ (by rw [hp, List.drop_length]), hn]
    simp only
    rw [if_pos trivial]
    rfl
  intro f
  induction f with
  | zero =>
    intro i K acc u n h1 h2 ha hp hn hK
    obtain ⟨K, rfl⟩ : ∃ m, K = m + 1 := ⟨K - 1, by omega⟩
    exact hend i K acc u n (by omega) ha hp hn
  | succ f ih =>
    intro i K acc u n h1 h2 ha hp hn hK
    obtain ⟨K, rfl⟩ : ∃ m, K = m + 1 := ⟨K - 1, by omega⟩
    by_cases hi : i < rs.length
    · have hne : past u ≠ [] := by
        rw [hp]
        intro h
        have := congrArg List.length h
        rw [List.length_drop] at this
        simp at this
        omega
      rw [malthouseref01_Cut.l0, intsN_len, if_pos (by omega)]
      by_cases h2000 : acc.length = 2000
      · rw [if_pos (by omega), h2000, lex_full u n hne]
        simp only
        rw [if_neg (by omega), hn]
      · rw [if_neg (by omega), token_ref rs hok hl i hi]
        simp only [Option.bind_some]
        unfold refTok
        by_cases he : (tokR (rs.drop i)).2.2 = 0
        · have he' : (tokR (past u)).2.2 = 0 := by rw [hp]; exact he
          obtain ⟨g1, g2, _⟩ := tokR_good _ he
          rw [List.length_drop] at g2
          rw [if_pos he]
          simp only
          rw [if_pos trivial, if_pos (by omega), past_ref (str rs) (atsN 0 rs) rs (by omega) (i + (tokR (rs.drop i)).2.1) K (by omega) (by omega)]
          simp only [Option.bind_some]
          have e1 : rs.drop (i + (tokR (rs.drop i)).2.1) = (past u).drop (tokR (past u)).2.1 := by rw [hp, List.drop_drop]
          have ih' := ih (i + (tokR (rs.drop i)).2.1 + blanksN false (rs.drop (i + (tokR (rs.drop i)).2.1))) K (acc ++ [sTok ((tokR (rs.drop i)).1, i)]) (rs.drop (i + (tokR (rs.drop i)).2.1)) (i + (tokR (rs.drop i)).2.1) (by omega) (by have := blanksN_le false (rs.drop (i + (tokR (rs.drop i)).2.1)); rw [List.length_drop] at this; omega) (by simp; omega) (by unfold past; rw [List.drop_drop]) rfl (by omega)
          have hs : (⟨(tokR (rs.drop i)).1.1, str (tokR (rs.drop i)).1.2.1, (tokR (rs.drop i)).1.2.2, (i : Int)⟩ : S38) = sTok ((tokR (rs.drop i)).1, i) := rfl
          rw [hs, ih', List.length_append, List.length_singleton, lex_more u n _ hne h2000 he']
          have hr : rest u n acc.length = lex (rs.drop (i + (tokR (rs.drop i)).2.1)) (i + (tokR (rs.drop i)).2.1) (acc.length + 1) := by
            unfold rest
            rw [← e1, hn, hp]
          rw [← hr]
          by_cases hz : (rest u n acc.length).2.1 = 0
          · have hz' : ¬ (rest u n acc.length).2.1 ≠ 0 := by simpa using hz
            rw [if_pos hz]
            simp only [if_neg hz']
            rw [if_pos trivial, List.append_assoc, hp, hn]
            rfl
          · rw [if_neg hz]
            simp only [if_pos (show (rest u n acc.length).2.1 ≠ 0 from hz)]
            rw [if_neg hz]
        · have he' : (tokR (past u)).2.2 ≠ 0 := by rw [hp]; exact he
          rw [if_neg he]
          simp only
          rw [if_neg he, lex_err u n _ hne h2000 he']
          simp only
          rw [if_neg he', hp, hn]
    · exact hend i K acc u n (by omega) ha hp hn
theorem ref_cut_valid (rs : List Nat) (hok : ∀ r ∈ rs, okR r) (hs : (str rs).size ≤ 8192) (k : Nat) (hk : 60000 ≤ k) : malthouseref01_Cut.f k (str rs) = some (if (lex rs 0 0).2.1 = 0 then ((lex rs 0 0).1.map sTok, 0, 0) else ([], (lex rs 0 0).2)) := by
  have hsz := str_size rs
  have hle := txt_len rs
  have hru := runes_is (str rs) (by omega) (k - (str rs).size - 9)
  rw [show k - (str rs).size - 9 + (str rs).size + 9 = k by omega] at hru
  have hrs := runes_str rs [] (str rs).size hok (by rw [str_size]; exact Nat.le_refl _)
  rw [txt_nil, List.length_nil, List.nil_append] at hrs
  rw [hrs] at hru
  unfold malthouseref01_Cut.f
  rw [if_neg (by omega), hru]
  simp only [Option.bind_some, if_true]
  have hp := past_ref (str rs) (atsN 0 rs) rs (by omega) 0 k (by omega) (by omega)
  rw [List.drop_zero, Nat.zero_add] at hp
  rw [show ((0 : Int)) = ((0 : Nat) : Int) from rfl, hp]
  simp only [Option.bind_some]
  have := ref_cut_loop rs hok (by omega) rs.length (blanksN false rs) k [] rs 0 (by omega) (blanksN_le false rs) (by simp) rfl (by omega) (by omega)
  simpa using this
theorem ref_cut_bad (rs : List Nat) (t : List UInt8) (hok : ∀ r ∈ rs, okR r) (ht : t ≠ [] ∧ (decodeL t).1 = 65533 ∧ (decodeL t).2 = 1) (hs : (strT rs t).size ≤ 8192) (k : Nat) (hk : 60000 ≤ k) : malthouseref01_Cut.f k (strT rs t) = some ([], 10, (rs.length : Int)) := by
  have hru := runes_is (strT rs t) (by omega) (k - (strT rs t).size - 9)
  rw [show k - (strT rs t).size - 9 + (strT rs t).size + 9 = k by omega] at hru
  obtain ⟨h1, h2⟩ := runes_bad rs [] t (strT rs t).size hok ht (by rw [strT_size]; exact Nat.le_refl _)
  rw [txt_nil, List.length_nil, List.nil_append] at h1 h2
  unfold malthouseref01_Cut.f
  rw [if_neg (by omega), hru]
  simp only [Option.bind_some]
  rw [h2, if_neg (by simp), h1, intsN_len]
theorem same_loop (l : List S38) (hl : l.length ≤ 1000000000) : ∀ (f i k : Nat), l.length ≤ i + f → i ≤ l.length → f < k → malthouselaw01_Same.l0 k l l (i : Int) = some true := by
  intro f
  induction f with
  | zero =>
    intro i k h1 h2 hk
    obtain ⟨k, rfl⟩ : ∃ m, k = m + 1 := ⟨k - 1, by omega⟩
    rw [malthouselaw01_Same.l0, if_neg (by omega)]
  | succ f ih =>
    intro i k h1 h2 hk
    obtain ⟨k, rfl⟩ : ∃ m, k = m + 1 := ⟨k - 1, by omega⟩
    rw [malthouselaw01_Same.l0]
    by_cases hi : i < l.length
    · rw [if_pos (by omega), if_pos (by omega), if_pos (by omega), if_neg (by simp), wrap_small _ (by omega) (by omega), show (i : Int) + 1 = ((i + 1 : Nat) : Int) by omega]
      exact ih (i + 1) k (by omega) (by omega) (by omega)
    · rw [if_neg (by omega)]
theorem same_refl (l : List S38) (hl : l.length ≤ 10000) (k : Nat) (hk : 20000 ≤ k) : malthouselaw01_Same.f k l l = some true := by
  unfold malthouselaw01_Same.f
  rw [if_pos rfl]
  exact same_loop l (by omega) l.length 0 k (by omega) (by omega) (by omega)
theorem lexCuts_pure (a0 : ByteArray) : malthouselaw01_LexCuts.f 60000 a0 = some true := by
  unfold malthouselaw01_LexCuts.f malthouselaw01_awake.f
  simp only [Option.bind_some]
  by_cases hs : (a0.size : Int) > 20000
  · rw [if_pos hs]
  · rw [if_neg hs, cut_some a0 (by omega)]
    simp only [Option.bind_some, if_true]
    by_cases hlong : 8192 < a0.size
    · have h1 : cutZ a0 = ([], 2, 0) := by unfold cutZ; rw [if_pos hlong]
      have h2 : malthouseref01_Cut.f 60000 a0 = some ([], 2, 0) := by unfold malthouseref01_Cut.f; rw [if_pos (by omega)]
      rw [h1, h2]
      simp only [Option.bind_some, List.map_nil]
      rw [same_refl [] (by simp) _ (by omega)]
      rfl
    · rcases text_cases a0 with ⟨rs, hok, rfl⟩ | ⟨rs, t, hok, ht, rfl⟩
      · have hsz := str_size rs
        have hle := txt_len rs
        have hll := lex_len rs.length rs 0 0 (Nat.le_refl _)
        rw [cut_valid rs hok (by omega), ref_cut_valid rs hok (by omega) 60000 (by omega)]
        unfold cutR
        simp only [Option.bind_some]
        by_cases he : (lex rs 0 0).2.1 = 0
        · rw [if_pos he, if_pos he]
          simp only
          rw [toks_map, same_refl _ (by rw [List.length_map]; omega) _ (by omega)]
          rfl
        · rw [if_neg he, if_neg he]
          simp only [List.map_nil]
          rw [same_refl [] (by simp) _ (by omega)]
          simp
      · rw [cut_bad rs t hok ht (by omega), ref_cut_bad rs t hok ht (by omega) 60000 (by omega)]
        simp only [Option.bind_some, List.map_nil]
        rw [same_refl [] (by simp) _ (by omega)]
        simp
end Go.Proofs.YtlikjknakplamaaDoor.Print
/-! ### LxWalk6 -/
namespace Go.Proofs.YtlikjknakplamaaDoor.Print
open Go.RowKit Go.Proofs.YtlikjknakplamaaDoorW.PrintWords Go.Proofs.YtlikjknakplamaaDoorW.PrintLast Go.Proofs.YtlikjknakplamaaDoorW.PrintMore
theorem lexCuts_walk (a0 : ByteArray) (w : World) (w0 : a0.size ≤ 140737488351232) (hT : Tabs w) :
    Calls Tryd.prog 3 #[.string a0] w fun e w' => e = .returned (.bool true) ∧ Below w.heap.size w w' :=
  malthouselaw01_LexCuts.calls 60000 a0 true w hT (lexCuts_pure a0)
end Go.Proofs.YtlikjknakplamaaDoor.Print
/-! ### Tied -/
namespace Go.Proofs.YtlikjknakplamaaDoor
open Go Go.RowKit Go.Shelf Go.Lib
set_option linter.unusedVariables false
theorem returnsInHanded_of_change_and_shaped {H : Type} {enc : TypeId × Value → H} {a : Assume} {C : Checked} {os : Os} {f : FuncId} {fn : Func} {s : ChangeSpec} {conds : List PathCond} {apart fresh handsOn again : Bool} {X : World → Array Value → Prop}
    (hX : ∀ (w w' : World) (args : Array Value), w.heap = w'.heap → X w args → X w' args)
    (own : ownKnob C.prog.godebug = none) (started : os.Started) (noInit : C.prog.inits.idxOf? f = none) (hfn : C.prog.funcs[f]? = some fn)
    (witness : ∃ (w : World) (tape : Tape) (i : Input), w.os = os ∧ (w.forCall tape i).Shaped C.prog ∧ i.vars = [] ∧ Input.okWide C.prog (w.forCall tape i) .any w.heap.size f i ∧
      ((s.pre enc C.prog fn conds apart (w.forCall tape i).memory i.args ∧ X (w.forCall tape i).memory i.args) ∧ sizedMet enc C.prog fn (OpenSpec.ofChange s) apart (w.forCall tape i).memory i.args) ∧ a.holds C.prog (lone (Frame.enter C.prog f i.args .normal) [] (w.forCall tape i)))
    (contract : ∀ (W : World) (base : Nat) (args : Array Value) (ds gs : List (DataW H)) (before : List MemPlace),
      (∀ (j : Nat) t v, fn.params[j]? = some t → args[j]? = some v → Value.okWide C.prog W .any base t v) →
      DataW.Whole enc C.prog fn.params.toList s.vars apart W args.toList ds gs before →
      conds.all (PathCond.test C.prog ⟨fn.params.toList, ds, s.plain.varTypes C.prog, gs⟩) = true →
      (DataW.weightsEach C.prog (fn.params.toList ++ s.plain.varTypes C.prog) (ds ++ gs)).all (· ≤ reachBytes) = true → X W args →
      W.ShapedOpen C.prog →
      a.holds C.prog (lone (Frame.enter C.prog f args .normal) [] W) →
      Calls C.prog f args W fun e W' => ∃ v, e = .returned v ∧ s.post enc C.prog fn apart fresh handsOn again W args v W') :
    ReturnsInHanded a C os f .any (fun w args => (s.pre enc C.prog fn conds apart w args ∧ X w args) ∧ sizedMet enc C.prog fn (OpenSpec.ofChange s) apart w args) (s.post enc C.prog fn apart fresh handsOn again) := by
  refine returnsInHanded_of_calls own started noInit witness ?_
  intro w tape i _ hsh _ hok hpre hholds
  obtain ⟨_, _, _, fn', hfn', _, _, _, _, hval⟩ := hok
  have e : fn' = fn := Option.some.inj (hfn'.symm.trans hfn)
  subst e
  obtain ⟨⟨⟨ds, gs, before, hw, hc⟩, hx⟩, hz⟩ := hpre
  have hw' := DataW.Whole.of_heap (w' := w.forCall tape i) (by rfl) hw
  refine (contract (w.forCall tape i) w.heap.size i.args ds gs before hval hw' hc (hz.weights hw) (hX _ _ _ (by rfl) hx) hsh hholds).mono fun e W' ⟨v, he, hp⟩ => ?_
  subst he
  exact ChangeSpec.post_blind hp
theorem tabs_of {W : World} (hL : laidMet Tryd.prog Rows.lexFoldsRow.laid W) (hsh : W.ShapedOpen Tryd.prog) : Tabs W := by
  refine ⟨?_, ?_, ?_⟩
  · exact utf8Tabs_of_readsT (U8Types.of196 Tryd.laysValid) ⟨by kernel_rfl, by kernel_rfl, by kernel_rfl, by kernel_rfl, by kernel_rfl, by kernel_rfl, by kernel_rfl⟩ (Pinned.utf8First_eq ▸ Lib.laidMet.reads hL (.tail _ (.tail _ (.tail _ (.tail _ (.head _)))))) ((show Rows.laid_unicode_utf8_acceptRanges = acceptData from rfl) ▸ Lib.laidMet.reads hL (.tail _ (.tail _ (.tail _ (.head _)))))
  · have h := laidMet.filter (fun x => x.1 == "internal/strconv.uint64pow10") hL
    exact tabIs_of_head (rest := []) (t := 84) (e := 59) (n := 20) (g := Tryd.laysM171_ren.g 17) pow_named (by kernel_rfl) (by kernel_rfl) (by kernel_rfl) (by kernel_rfl) (by kernel_rfl) (show laidMet Tryd.prog [("internal/strconv.uint64pow10", tabData .u64 pow10Tab)] W from h)
  · exact Tryd.laysM145.s1_3 W hsh
end Go.Proofs.YtlikjknakplamaaDoor
/-! ### LexCutsRow -/
namespace Go.Proofs.YtlikjknakplamaaDoor.lexCuts
open Go.ChangeShapes Go.WideShapes Go.ChangeAt Go.RowKit Go.Shelf Go.Lib Go.Proofs.YtlikjknakplamaaDoor.Print
open Go.ChangeMaps (open_string shut_string)
set_option linter.unusedVariables false
set_option linter.unusedSimpArgs false
theorem own : ownKnob Tryd.prog.godebug = none := by kernel_rfl
set_option maxRecDepth 100000 in
theorem lifted (os : Os) (started : os.Started) (H : Type) (enc : TypeId × Value → H) :
    ReturnsInHanded {} Tryd.checked os 3 .any (fun w args => (Rows.lexCutsSpec.pre enc Tryd.prog Tryd.f3 [] false w args ∧ laidMetH Tryd.prog Rows.lexCutsRow.laid w) ∧ sizedMet enc Tryd.prog Tryd.f3 (OpenSpec.ofChange Rows.lexCutsSpec) false w args) (Rows.lexCutsSpec.post enc Tryd.prog Tryd.f3 false true false false) := by
  refine returnsInHanded_of_change_and_shaped (C := Tryd.checked) (X := fun w _ => laidMetH Tryd.prog Rows.lexCutsRow.laid w) (fun _ _ _ hh h => h.of_heap hh) own started (by kernel_rfl) Tryd.func3
    (ChangeSpec.witness_shaped (enc := enc) (C := Tryd.checked) (os := os) (X := fun w _ => laidMetH Tryd.prog Rows.lexCutsRow.laid w) false (World.laidAll Tryd.prog os Rows.lexCutsRow.laid) #[.string ByteArray.empty] 8 (World.laidAll_os _ _ _)
      (World.shaped_of_ZipB (by kernel_rfl) (by kernel_rfl)) (by kernel_rfl) (by kernel_rfl) (by kernel_rfl)
      (by rw [MakeChecks.laidMetH_plain _ _ _ (by kernel_rfl)]; exact laidMet_laidAll _ (by kernel_rfl) (by kernel_rfl))) ?_
  intro W base args ds gs before hval0 hW hcnd hsz0 hL0 hsh _
  have hL : laidMet Tryd.prog Rows.lexCutsRow.laid W := by
    have h := hL0
    rw [MakeChecks.laidMetH_plain _ _ _ (by kernel_rfl)] at h
    exact h
  have hT : Tabs W := tabs_of (show laidMet Tryd.prog Rows.lexFoldsRow.laid W from hL) hsh
  have hsz : (DataW.weightsEach Tryd.prog (Tryd.f3.params.toList ++ Rows.lexCutsSpec.plain.varTypes Tryd.prog) (ds ++ gs)).all (· ≤ reachBytes) = true := hsz0
  have hval : ∀ (j : Nat) t v, Tryd.f3.params[j]? = some t → args[j]? = some v → Value.okWide Tryd.prog W .any base t v := hval0
  have hW' := hW
  obtain ⟨p, q, hA0, hV, rfl, hfz, hnd⟩ := hW
  have hA : DataW.TrodAll enc Tryd.prog W 0 (fun _ => true) true Tryd.f3.params.toList args.toList ds p := hA0
  rw [Tryd.params3] at hA hval hsz
  obtain ⟨v0, vs0, d0, ds0, p0, q0, hargs, rfl, rfl, h0, r0⟩ := trodAll_cons hA
  obtain ⟨rfl, rfl, rfl⟩ := trodAll_nil r0
  obtain rfl : args = #[v0] := by cases args; simp_all
  obtain ⟨rfl, rfl⟩ := trodVars_none hV
  obtain ⟨a0, rfl, rfl, rfl, y0⟩ := open_string Tryd.underlying9 (hval 0 9 v0 rfl rfl) h0
  have w0 : a0.size ≤ 140737488351232 := by
    have z := sized_string hsz (j := 0) (t := 9) rfl rfl
    rw [Array.length_toList] at z
    exact z
  clear hA0 hval0 hsz0 hsz
  refine (lexCuts_walk a0 W w0 hT).mono fun e W' ⟨he, bel⟩ => ?_
  subst he
  exact ⟨_, rfl, _, _, _, [], _, [], hW', trodAll_mk1 (shut_bool Tryd.underlying4 _), (trodAll_cons_mk (shut_string Tryd.underlying9 y0) trodAll_mk0), rfl, bel.frame _, fun h => by cases h⟩
theorem over : Rows.lexCutsRow.holds Tryd.pinned (OpenSpec.ofChange Rows.lexCutsSpec) :=
  OpenClaim.holds_of_wide 3 Tryd.f3 rfl rfl rfl rfl rfl rfl rfl ⟨rfl, rfl, rfl, rfl, rfl⟩ rfl rfl rfl rfl rfl (by kernel_rfl) Tryd.func3 (by kernel_rfl)
    (of_decide_eq_true (by kernel_rfl)) (by unfold Func.isWrapper; first | (rw [if_pos (by decide +kernel)]; kernel_rfl) | (rw [if_neg (by decide +kernel)]; exact ⟨rfl, rfl⟩))
    (fun os started H enc _ => lifted os started H enc)
theorem card_holds : Claim7.holds Tryd.pinned (.plain (OpenSpec.ofChange Rows.lexCutsSpec)) Rows.lexCutsCard :=
  Claim7.holds_tied_plain_at .later [] [.data, .data, .data, .data, .pinned] true (true, "2df379d0a8e382ae56a4a25da8425f329115bfa31b6102406861f16ecf271d0c") false over (fun _ h => by cases h) (by kernel_rfl) (fun _ h => by cases h) lexCuts_row_tie rfl ⟨rfl, rfl⟩ (by kernel_rfl) rfl
    (fun f fn hf hfn => by
      obtain rfl : f = 3 := Option.some.inj ((show Tryd.prog.funcNamed "malthouse/malthouselaw01.LexCuts" = some 3 by kernel_rfl).symm.trans hf) |>.symm
      obtain rfl : fn = Tryd.f3 := (Option.some.inj (Tryd.func3.symm.trans hfn)).symm
      exact ⟨by kernel_rfl, fun j t ht => by
        rw [Tryd.params3] at ht
        have hm : t ∈ [9] := by simpa using Array.mem_of_getElem? ht
        have hall : ([9].all fun u => !Tryd.prog.wantsStandIn u) = true := by kernel_rfl
        exact (show Tryd.prog.wantsStandIn t = false by simpa using List.all_eq_true.1 hall t hm)⟩)
    (by kernel_rfl)
theorem proved : Rows.LexCutsCardSaid := card_holds
#print axioms proved
end Go.Proofs.YtlikjknakplamaaDoor.lexCuts
namespace Go.Proofs.YtlikjknakplamaaDoor
/-- The card, under a short name, for the claim. -/
theorem lexCuts_holds : Rows.LexCutsCardSaid := lexCuts.proved
end Go.Proofs.YtlikjknakplamaaDoor
