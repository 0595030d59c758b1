import Derived.Test.YtlikjknakplamaaDoorMB1
import Derived.Laws.RangeAny
import Derived.Lib.AppendIntMem
import Derived.Lib.IndexMore
import Derived.Lib.ItoaNum
import Derived.Lib.MapLaws
import Derived.Lib.TrimUEq
import Derived.Lib.ValidLaws
set_option linter.unusedVariables false
set_option linter.unusedSimpArgs false
namespace Go.Proofs.YtlikjknakplamaaDoorW.PrintWords
end Go.Proofs.YtlikjknakplamaaDoorW.PrintWords
namespace Go.Proofs.YtlikjknakplamaaDoorW.PrintLast
end Go.Proofs.YtlikjknakplamaaDoorW.PrintLast
namespace Go.Proofs.YtlikjknakplamaaDoorW.PrintMore
end Go.Proofs.YtlikjknakplamaaDoorW.PrintMore
/-! ### ELx2 -/
namespace Go.Proofs.YtlikjknakplamaaDoor.Print
open Go.RowKit Go.Proofs.YtlikjknakplamaaDoorW.PrintWords Go.Proofs.YtlikjknakplamaaDoorW.PrintLast Go.Proofs.YtlikjknakplamaaDoorW.PrintMore
set_option linter.unusedSimpArgs false
set_option linter.unusedVariables false
theorem bAt_elem (s : ByteArray) (i : Nat) (h : i < s.size) : (s[i]'h).toNat = bAt s i := by
  unfold bAt
  have h1 : i < s.data.size := h
  simp only [ByteArray.get!]
  rw [getElem!_pos s.data i h1]
  rfl
theorem some_left (x : ByteArray) (h : 0 < x.size) : (!x.toList.isEmpty) = true := by
  rw [ByteArray.toList_eq]
  have h2 : 0 < x.data.toList.length := by rw [Array.length_toList]; exact h
  cases h3 : x.data.toList with
  | nil => rw [h3] at h2; simp at h2
  | cons a l => rfl
/-- How much is left in a cutter's block. -/
def leftN (w : World) (g : Nat) : Nat := match w.cell? ⟨g, 0, none⟩ with
  | some (.string s) => s.size
  | _ => 0
theorem leftN_at {w : World} {g : Nat} {s : ByteArray} {a : Int} {o : Value} (h : CutAt w g s a o) : leftN w g = s.size := by
  unfold leftN
  rw [cell_of_row w g 0 _ _ _ h]
  rfl
set_option maxHeartbeats 2000000 in
set_option maxRecDepth 100000 in
theorem blanks_any (g : Nat) (s : ByteArray) (at' : Int) (o : Value) (w : World) (hg : CutAt w g s at' o) (hs : at' + s.size ≤ 1000000000) (h0 : 0 ≤ at') :
    Calls Tryd.prog 29 #[.pointer (some ⟨g, 0, none⟩)] w fun e w' => e = .returned (.tuple #[]) ∧ CutAt w' g (blanks (s, at')).1 (blanks (s, at')).2 o ∧ Only [g] w w' := by
  obtain ⟨B, hB⟩ : ∃ B, B = blanks (s, at') := ⟨_, rfl⟩
  rw [← hB]
  have HB := Lib.hid (show B = blanksZ s.size (s, at') from hB)
  have HG := Lib.hid hg
  have hu2 := Tryd.underlying47
  have HO := Lib.hid (Only.refl [g] w)
  have HS := Lib.hid (And.intro h0 hs)
  clear hg hB hs h0
  go_enter Tryd.func29, Tryd.ntmps29
  go_wp2
  go_loopw [] (fun wr => ∃ (x : ByteArray) (a : Int) (f : Nat), Hid (CutAt wr g x a o) ∧ Hid (B = blanksZ f (x, a)) ∧ Hid (0 ≤ a ∧ a + x.size ≤ 1000000000) ∧ Hid (x.size ≤ f) ∧ Hid (Only [g] w wr)) (fun wr => leftN wr g)
  case atStart => exact ⟨s, at', s.size, HG, HB, HS, Lib.hid (Nat.le_refl _), HO⟩
  case round =>
    obtain ⟨x, a, f, hg, hb, ha, hf, ho⟩ := hrel
    clear HG HB HS HO
    have c0 : wr.cell? ⟨g, 0, none⟩ = some (.string x) := (cell_of_row wr g 0 _ _ _ hg.out).trans rfl
    by_cases hx : x = ⟨#[]⟩
    · have hb' := hb.out
      have hz : x.size = 0 := by subst hx; rfl
      have hB : blanksZ f (x, a) = (x, a) := by cases f with
        | zero => rfl
        | succ f => unfold blanksZ; rw [if_pos hz]
      rw [hB] at hb'
      subst hb'
      go_wp2
      go_end0
      have hgo := hg.out
      subst hx
      exact ⟨rfl, hgo, ho.out⟩
    · have hpos : 0 < x.size := by
        rcases Nat.eq_zero_or_pos x.size with h | h
        · exact absurd (ByteArray.size_eq_zero_iff.1 h) hx
        · exact h
      obtain ⟨f, rfl⟩ : ∃ m, f = m + 1 := ⟨f - 1, by have := hf.out; omega⟩
      have hb' := hb.out
      unfold blanksZ at hb'
      rw [if_neg (by show ¬ x.size = 0; omega)] at hb'
      have HB := Lib.hid hb'
      have h8 := (x[0]'hpos).toNat_lt
      have hcl : ∀ W, Calls Tryd.prog 16 #[.int .i32 ((x[0]'hpos).toNat : Int)] W fun e w' => e = .returned (.int .i64 (classZ (bAt x 0))) ∧ Drawn0 W w' := fun W => by
        rw [← bAt_elem x 0 hpos]
        exact lex_class_any ((x[0]'hpos).toNat : Int) (by omega) (by omega) W
      have HCL := Lib.hid hcl
      have hp' : (0 : Int) < x.size := by omega
      have hie := some_left x hpos
      clear hb hb' hcl
      go_wp2_with (go_at_call 16; refine (HCL.out _).mono ?_; rintro e w1 ⟨rfl, ⟨n1, rfl⟩⟩; refine (fun (h : Hid _) => h.out) ?_)
      refine Lib.hid ?_
      have c1 : (wr.drewN n1).cell? ⟨g, 0, none⟩ = some (.string x) := c0
      have HG1 := Lib.hid (show CutAt (wr.drewN n1) g x a o from hg.out)
      have HO1 := Lib.hid (show Only [g] w (wr.drewN n1) from ho.out.drewN n1)
      have HL := Lib.hid (leftN_at hg.out)
      clear c0 HCL hg ho
      generalize wr.drewN n1 = w1 at *
      by_cases h1 : classZ (bAt x 0) = 1
      · have hb := HB.out
        rw [if_pos h1] at hb
        have HB1 := Lib.hid hb
        clear hb HB
        generalize classZ (bAt x 0) = c at *
        subst h1
        go_wp2_with (go_at_call 31; refine (pass_any g 1 x a o w1 HG1.out (by have := ha.out; omega) (by omega) ha.out.1 (by have := ha.out; omega)).mono ?_; rintro e w2 ⟨rfl, hg2, ho2⟩; have HG2 := Lib.hid hg2; have HO2 := Lib.hid (HO1.out.trans ho2); clear hg2 ho2)
        go_roundw
        case rel => exact ⟨_, _, f, HG2, HB1, Lib.hid (by have := passZ_at (x, a) 1 (by show 1 ≤ x.size; omega); have := ha.out; simp only [passZ] at *; omega), Lib.hid (by rw [ByteArray.size_extract]; have := hf.out; omega), HO2⟩
        case measure => rw [leftN_at HG2.out, HL.out, ByteArray.size_extract]; omega
      · by_cases h6 : classZ (bAt x 0) = 6
        · have hb := HB.out
          rw [if_neg h1, if_pos h6] at hb
          have HB1 := Lib.hid hb
          have HN := Lib.hid (hashN_le x hpos h6)
          clear hb HB
          generalize classZ (bAt x 0) = c at *
          subst h6
          obtain ⟨i, hi⟩ : ∃ i, i = Lib.indexByte x.data.toList 10 := ⟨_, rfl⟩
          have hcx : ∀ W, Calls Tryd.prog 35 #[.string x, .int .u8 10] W fun e w' => e = .returned (.int .i64 i) ∧ Drawn0 W w' := fun W => by
            rw [hi]
            exact strings_IndexByte.calls x 10 _ W rfl
          have HCX := Lib.hid hcx
          have HN2 := Lib.hid (show hashN x = if i < 0 then x.size else i.toNat by rw [hi]; rfl)
          clear hcx hi
          by_cases hi0 : i < 0
          · have hn := HN2.out
            rw [if_pos hi0] at hn
            have HN3 := Lib.hid hn
            clear hn HN2
            go_wp2_with (first
              | (go_at_call 35; refine (HCX.out _).mono ?_; rintro e w2 ⟨rfl, ⟨n2, rfl⟩⟩; have c2 : (w1.drewN n2).cell? ⟨g, 0, none⟩ = some (.string x) := c1)
              | (go_at_call 31; refine (pass_any g x.size x a o _ (show CutAt (w1.drewN n2) g x a o from HG1.out) (by have := ha.out; omega) (Nat.le_refl _) ha.out.1 (by have := ha.out; omega)).mono ?_; rintro e w3 ⟨rfl, hg2, ho2⟩; have HG2 := Lib.hid hg2; have HO2 := Lib.hid ((HO1.out.drewN n2).trans ho2); clear hg2 ho2))
            go_roundw
            case rel => exact ⟨_, _, f, HG2, Lib.hid (by rw [HB1.out, HN3.out]; rfl), Lib.hid (by have := passZ_at (x, a) x.size (Nat.le_refl _); have := ha.out; simp only [passZ] at *; omega), Lib.hid (by rw [ByteArray.size_extract]; have := hf.out; omega), HO2⟩
            case measure => rw [leftN_at HG2.out, HL.out, ByteArray.size_extract]; omega
          · obtain ⟨j, rfl⟩ : ∃ j : Nat, i = j := ⟨i.toNat, by omega⟩
            have hn := HN2.out
            rw [if_neg hi0, Int.toNat_natCast] at hn
            have HN3 := Lib.hid hn
            clear hn HN2
            go_wp2_with (first
              | (go_at_call 35; refine (HCX.out _).mono ?_; rintro e w2 ⟨rfl, ⟨n2, rfl⟩⟩; have c2 : (w1.drewN n2).cell? ⟨g, 0, none⟩ = some (.string x) := c1)
              | (go_at_call 31; refine (pass_any g j x a o _ (show CutAt (w1.drewN n2) g x a o from HG1.out) (by have := ha.out; omega) (by have := HN.out; have := HN3.out; omega) ha.out.1 (by have := ha.out; omega)).mono ?_; rintro e w3 ⟨rfl, hg2, ho2⟩; have HG2 := Lib.hid hg2; have HO2 := Lib.hid ((HO1.out.drewN n2).trans ho2); clear hg2 ho2))
            go_roundw
            case rel => exact ⟨_, _, f, HG2, Lib.hid (by rw [HB1.out, HN3.out]; rfl), Lib.hid (by have := passZ_at (x, a) j (by show j ≤ x.size; have := HN.out; have := HN3.out; omega); have := ha.out; simp only [passZ] at *; omega), Lib.hid (by rw [ByteArray.size_extract]; have := hf.out; have := HN.out; have := HN3.out; omega), HO2⟩
            case measure => rw [leftN_at HG2.out, HL.out, ByteArray.size_extract]; have := HN.out; have := HN3.out; omega
        · have hb := HB.out
          rw [if_neg h1, if_neg h6] at hb
          subst hb
          have b1 : (classZ (bAt x 0) == 1) = false := by simpa using h1
          have b6 : (classZ (bAt x 0) == 6) = false := by simpa using h6
          clear h1 h6 HB
          generalize classZ (bAt x 0) = c at *
          go_wp2
          refine bodyPost_ret (results_none rfl _ _ _) rfl ?_
          exact ⟨rfl, HG1.out, HO1.out⟩
end Go.Proofs.YtlikjknakplamaaDoor.Print
/-! ### ELx3 -/
namespace Go.Proofs.YtlikjknakplamaaDoor.Print
open Go.RowKit Go.Proofs.YtlikjknakplamaaDoorW.PrintWords Go.Proofs.YtlikjknakplamaaDoorW.PrintLast Go.Proofs.YtlikjknakplamaaDoorW.PrintMore
set_option linter.unusedSimpArgs false
set_option linter.unusedVariables false
theorem iterAt_only {S : List Nat} {a w : World} (k : Nat) (s : ByteArray) (q : Nat) (hb : Only S a w) (hk : a.heap.size ≤ k) : Only S a (w.iterAt k s q) := by
  refine ⟨hb.os, hb.tape, hb.output, ?_, fun i hi hS => ?_⟩
  · show a.heap.size ≤ (w.heap.setIfInBounds k _).size
    simp
    exact hb.size
  · show (w.heap.setIfInBounds k _)[i]? = _
    rw [Array.getElem?_setIfInBounds_ne (by omega)]
    exact hb.block i hi hS
set_option maxHeartbeats 2000000 in
set_option maxRecDepth 100000 in
theorem word_any (gc : Nat) (a0 : ByteArray) (at' : Int) (o : Value) (w : World) (hgc : CutAt w gc a0 at' o) :
    Calls Tryd.prog 42 #[.pointer (some ⟨gc, 0, none⟩)] w fun e w' => e = .returned (.int .i64 (wordEnd a0 a0.size 0)) ∧ Only [] w w' := by
  obtain ⟨V, hV⟩ : ∃ V, V = wordEnd a0 a0.size 0 := ⟨_, rfl⟩
  rw [← hV]
  have HV := Lib.hid hV
  have HC := Lib.hid hgc
  have hu2 := Tryd.underlying47
  have c0 : w.cell? ⟨gc, 0, none⟩ = some (.string a0) := (cell_of_row w gc 0 _ _ _ hgc).trans rfl
  clear hV hgc
  go_enter Tryd.func42, Tryd.ntmps42
  go_wp2
  obtain ⟨g, hg⟩ : ∃ g, g = w.heap.size := ⟨_, rfl⟩
  have HI := Lib.hid (show (w.iter a0 0).heap[g]? = some (.stringIter a0 0) by rw [hg]; exact World.iter_heap w a0 0)
  have HB := Lib.hid (show Only [] w (w.iter a0 0) from (Only.refl _ _).alloc _)
  rw [← hg]
  have HG := Lib.hid (show w.heap.size ≤ g by omega)
  clear hg c0
  generalize w.iter a0 0 = w1 at *
  go_loopw [] (fun wr => ∃ (pos b : Nat), Hid (wr.heap[g]? = some (.stringIter a0 pos)) ∧ Hid (Only [] w wr) ∧ Hid (V = wordEnd a0 b pos) ∧ a0.size ≤ pos + b) (fun wr => a0.size - wr.iterPos g)
  case atStart => exact ⟨0, a0.size, HI, HB, HV, by omega⟩
  case round =>
    obtain ⟨pos, b, hi, hb, hw, hle⟩ := hrel
    clear HI HB HV
    by_cases hp : pos < a0.size
    · have hnx : ∀ ty, (Instr.next (.pointer (some ⟨g, 0, none⟩)) true ty).run Tryd.prog wr = _ := fun ty => Lib.run_next_any_at wr g a0 pos ty hi.out hp
      have hwd := Lib.decode_width_pos a0 pos hp
      have hdl := decode_le a0 pos
      obtain ⟨b', rfl⟩ : ∃ b', b = b' + 1 := ⟨b - 1, by omega⟩
      have hw' := hw.out
      unfold wordEnd at hw'
      rw [if_pos hp] at hw'
      have HW := Lib.hid hw'
      have HI2 := Lib.hid (iterAt_heap wr g a0 (pos + (Utf8.decode a0 pos).2) _ hi.out)
      have HB2 := Lib.hid (iterAt_only g a0 (pos + (Utf8.decode a0 pos).2) hb.out HG.out)
      have HP := Lib.hid (show wr.iterPos g = pos by unfold World.iterPos; rw [hi.out])
      clear hw hw'
      generalize wr.iterAt g a0 (pos + (Utf8.decode a0 pos).2) = w2 at *
      generalize (Utf8.decode a0 pos).2 = d2 at *
      generalize (Utf8.decode a0 pos).1 = d1 at *
      by_cases hwz : wordyZ (d1 : Int) = true
      · have hw' := HW.out
        rw [if_pos hwz] at hw'
        have HW2 := Lib.hid hw'
        have hz : (classZ (d1 : Int) = 2 ∨ classZ (d1 : Int) = 3) := by unfold wordyZ at hwz; simpa using hwz
        clear hw' HW hwz
        rcases hz with hz | hz
        all_goals
          have hcl := lex_class_any (d1 : Int) (by omega) (by omega)
          rw [hz] at hcl
          go_wp2_with (go_at_call 16; refine (hcl _).mono ?_; rintro e w3 ⟨rfl, ⟨n3, rfl⟩⟩)
          go_roundw
          case rel => exact ⟨pos + d2, b', HI2, Lib.hid (HB2.out.drewN n3), HW2, by omega⟩
          case measure =>
            have e1 : (w2.drewN n3).iterPos g = pos + d2 := by
              have : (w2.drewN n3).heap[g]? = some (.stringIter a0 (pos + d2)) := HI2.out
              unfold World.iterPos; rw [this]
            rw [e1, HP.out]; omega
      · have hw' := HW.out
        rw [if_neg hwz] at hw'
        have HW2 := Lib.hid hw'
        have hb2 : (classZ (d1 : Int) == 2) = false := by unfold wordyZ at hwz; simp at hwz; simpa using hwz.1
        have hb3 : (classZ (d1 : Int) == 3) = false := by unfold wordyZ at hwz; simp at hwz; simpa using hwz.2
        have p2 : ¬ classZ (d1 : Int) = 2 := by simpa using hb2
        have p3 : ¬ classZ (d1 : Int) = 3 := by simpa using hb3
        have hcl := lex_class_any (d1 : Int) (by omega) (by omega)
        clear hw' HW hwz
        generalize classZ (d1 : Int) = c at *
        have hcc : (c != 2) = true ∧ (c != 3) = true := ⟨by simpa using p2, by simpa using p3⟩
        go_wp2_with (go_at_call 16; refine (hcl _).mono ?_; rintro e w3 ⟨rfl, ⟨n3, rfl⟩⟩)
        go_ret
        exact ⟨by rw [HW2.out]; rfl, HB2.out.drewN n3⟩
    · have hnx : ∀ ty, (Instr.next (.pointer (some ⟨g, 0, none⟩)) true ty).run Tryd.prog wr = _ := fun ty => Lib.run_next_end_at wr g a0 pos ty hi.out hp
      have hwe := hw.out
      rw [wordEnd_end a0 b pos hp] at hwe
      have HW := Lib.hid hwe
      have c1 : wr.cell? ⟨gc, 0, none⟩ = some (.string a0) := (cell_of_row wr gc 0 _ _ _ (hb.out.heap HC.out (by simp))).trans rfl
      clear hw hwe
      go_wp2
      go_ret
      exact ⟨by rw [HW.out]; rfl, hb.out⟩
end Go.Proofs.YtlikjknakplamaaDoor.Print
/-! ### ELx4 -/
namespace Go.Proofs.YtlikjknakplamaaDoor.Print
open Go.RowKit Go.Proofs.YtlikjknakplamaaDoorW.PrintWords Go.Proofs.YtlikjknakplamaaDoorW.PrintLast Go.Proofs.YtlikjknakplamaaDoorW.PrintMore
set_option linter.unusedSimpArgs false
set_option linter.unusedVariables false
abbrev tokV (t : Tok) : Value := .agg #[.int .i64 t.1, .string t.2.1, .int .i64 t.2.2.1, .int .i64 t.2.2.2]
theorem infoTok : (Tryd.prog.info? 38).map (fun i => (i.zero, i.size, i.bytes)) = some (some (.agg #[.int .i64 0, .string ⟨#[]⟩, .int .i64 0, .int .i64 0]), 4, 40) := by kernel_rfl
theorem cut_any (s sep : ByteArray) (w : World) (hs : s.size ≤ 1000000000) (hT : Tabs w) :
    Calls Tryd.prog 52 #[.string s, .string sep] w fun e w' => e = .returned (.tuple #[.string ⟨(Lib.cut s.data.toList sep.data.toList).1.toArray⟩, .string ⟨(Lib.cut s.data.toList sep.data.toList).2.1.toArray⟩, .bool (Lib.cut s.data.toList sep.data.toList).2.2]) ∧ Drawn0 w w' := by
  obtain ⟨m, hm⟩ := hT.most
  exact (Tryd.strings_Cut s sep m w (by omega) hm).mono fun e w' ⟨he, n, hn⟩ => ⟨he, ⟨n, hn⟩⟩
theorem tok_store (w : World) (b : Nat) (v0 v1 v2 v3 u0 u1 u2 u3 : Value) (h : w.heap[b]? = some (.cells #[v0, v1, v2, v3] 38 (0, 0))) :
    ((((w.setCell ⟨b, 0, none⟩ u0).setCell ⟨b, 1, none⟩ u1).setCell ⟨b, 2, none⟩ u2).setCell ⟨b, 3, none⟩ u3).heap[b]? = some (.cells #[u0, u1, u2, u3] 38 (0, 0)) :=
  heap_setCell_same _ b 3 _ _ _ (heap_setCell_same _ b 2 _ _ _ (heap_setCell_same _ b 1 _ _ _ (heap_setCell_same _ b 0 _ _ _ h)))
theorem tok_only {w w' : World} (b : Nat) (u0 u1 u2 u3 : Value) (h : Only [] w w') (hb : w.heap.size ≤ b) :
    Only [] w ((((w'.setCell ⟨b, 0, none⟩ u0).setCell ⟨b, 1, none⟩ u1).setCell ⟨b, 2, none⟩ u2).setCell ⟨b, 3, none⟩ u3) :=
  (((h.setCell (.inr hb) _).setCell (.inr hb) _).setCell (.inr hb) _).setCell (.inr hb) _
theorem iterAt_other (w : World) (k : Nat) (s : ByteArray) (q i : Nat) (h : i ≠ k) : (w.iterAt k s q).heap[i]? = w.heap[i]? := by
  show (w.heap.setIfInBounds k _)[i]? = _
  rw [Array.getElem?_setIfInBounds_ne (by omega)]
set_option maxHeartbeats 2000000 in
set_option maxRecDepth 100000 in
theorem text_any (gc : Nat) (x : ByteArray) (at' : Int) (o : Value) (w : World) (hgc : CutAt w gc x at' o) (hx : 1 ≤ x.size) (hs : x.size ≤ 1000000000) (hT : Tabs w) :
    Calls Tryd.prog 43 #[.pointer (some ⟨gc, 0, none⟩)] w fun e w' => e = .returned (.tuple #[tokV (textZ x).1, .int .i64 (textZ x).2.1, .int .i64 (textZ x).2.2]) ∧ Only [] w w' := by
  obtain ⟨V, hV⟩ : ∃ V, V = textZ x := ⟨_, rfl⟩
  rw [← hV]
  have HV := Lib.hid hV
  have HTB := Lib.hid hT
  have hu2 := Tryd.underlying47
  have hu3 := Tryd.underlying38
  have hli := Lib.hid (lineOf_le x)
  have hii := Lib.hid (insideOf_le x)
  have hx' : (1 : Int) ≤ x.size := by omega
  have HA := Lib.hid (show Only [] w (w.alloc (.cells #[.int .i64 0, .string ⟨#[]⟩, .int .i64 0, .int .i64 0] 38)) from (Only.refl _ _).alloc _)
  have c0 : (w.alloc (.cells #[.int .i64 0, .string ⟨#[]⟩, .int .i64 0, .int .i64 0] 38)).cell? ⟨gc, 0, none⟩ = some (.string x) := (cell_of_row _ gc 0 _ _ _ (HA.out.heap hgc (by simp))).trans rfl
  have HR := Lib.hid (heap_alloc_new w (.cells #[.int .i64 0, .string ⟨#[]⟩, .int .i64 0, .int .i64 0] 38))
  have hlc := lineOf_le x
  obtain ⟨L, hL⟩ : ∃ L, L = lineOf x := ⟨_, rfl⟩
  obtain ⟨L2, hL2⟩ : ∃ L2 : ByteArray, L2 = ⟨(Lib.cut (x.extract 1 x.size).data.toList [10]).2.1.toArray⟩ := ⟨_, rfl⟩
  obtain ⟨bl, hbl⟩ : ∃ bl, bl = (Lib.cut (x.extract 1 x.size).data.toList [10]).2.2 := ⟨_, rfl⟩
  obtain ⟨I, hI⟩ : ∃ I, I = insideOf x := ⟨_, rfl⟩
  obtain ⟨I2, hI2⟩ : ∃ I2 : ByteArray, I2 = ⟨(Lib.cut (lineOf x).data.toList [34]).2.1.toArray⟩ := ⟨_, rfl⟩
  obtain ⟨bc, hbc⟩ : ∃ bc, bc = closed x := ⟨_, rfl⟩
  have HC1 := Lib.hid (show ∀ W, Tabs W → Calls Tryd.prog 52 #[.string (x.extract 1 x.size), .string ⟨#[10]⟩] W fun e w' => e = .returned (.tuple #[.string L, .string L2, .bool bl]) ∧ Drawn0 W w' from fun W hW => by
    rw [hL, hL2, hbl]
    exact cut_any (x.extract 1 x.size) ⟨#[10]⟩ W (by rw [ByteArray.size_extract]; omega) hW)
  have HC2 := Lib.hid (show ∀ W, Tabs W → Calls Tryd.prog 52 #[.string L, .string ⟨#[34]⟩] W fun e w' => e = .returned (.tuple #[.string I, .string I2, .bool bc]) ∧ Drawn0 W w' from fun W hW => by
    rw [hL, hI, hI2, hbc]
    exact cut_any (lineOf x) ⟨#[34]⟩ W (by omega) hW)
  have hv := HV.out
  unfold textZ at hv
  rw [← hbc, ← hI] at hv
  have HV2 := Lib.hid hv
  have HIS := Lib.hid (show I.size ≤ 1000000000 by have := hii.out; rw [hI]; omega)
  clear hV hT hgc hL hL2 hbl hI hI2 hbc hv HV hli hii hlc
  go_enter Tryd.func43, Tryd.ntmps43
  go_wp2_with (go_at_call 52; refine (HC1.out _ (HTB.out.below HA.out.nil_below)).mono ?_; rintro e w1 ⟨rfl, ⟨n1, rfl⟩⟩; refine (fun (h : Hid _) => h.out) ?_)
  refine Lib.hid ?_
  have HA1 := Lib.hid (show Only [] w ((w.alloc (.cells #[.int .i64 0, .string ⟨#[]⟩, .int .i64 0, .int .i64 0] 38)).drewN n1) from HA.out.drewN n1)
  have HR1 := Lib.hid (show ((w.alloc (.cells #[.int .i64 0, .string ⟨#[]⟩, .int .i64 0, .int .i64 0] 38)).drewN n1).heap[w.heap.size]? = some (.cells #[.int .i64 0, .string ⟨#[]⟩, .int .i64 0, .int .i64 0] 38 (0, 0)) from HR.out)
  clear HA HR c0 HC1
  generalize (w.alloc (.cells #[.int .i64 0, .string ⟨#[]⟩, .int .i64 0, .int .i64 0] 38)).drewN n1 = w1 at *
  go_wp2_with (go_at_call 52; refine (HC2.out _ (HTB.out.below HA1.out.nil_below)).mono ?_; rintro e w2 ⟨rfl, ⟨n2, rfl⟩⟩; refine (fun (h : Hid _) => h.out) ?_)
  refine Lib.hid ?_
  have HA2 := Lib.hid (show Only [] w (w1.drewN n2) from HA1.out.drewN n2)
  have HR2 := Lib.hid (show (w1.drewN n2).heap[w.heap.size]? = some (.cells #[.int .i64 0, .string ⟨#[]⟩, .int .i64 0, .int .i64 0] 38 (0, 0)) from HR1.out)
  clear HA1 HR1 HC2
  generalize w1.drewN n2 = w2 at *
  have y0 : w2.cell? ⟨w.heap.size, 0, none⟩ = some (.int .i64 0) := (cell_of_row w2 _ 0 _ _ _ HR2.out).trans rfl
  have y1 : w2.cell? ⟨w.heap.size, 1, none⟩ = some (.string ⟨#[]⟩) := (cell_of_row w2 _ 1 _ _ _ HR2.out).trans rfl
  have y2 : w2.cell? ⟨w.heap.size, 2, none⟩ = some (.int .i64 0) := (cell_of_row w2 _ 2 _ _ _ HR2.out).trans rfl
  have y3 : w2.cell? ⟨w.heap.size, 3, none⟩ = some (.int .i64 0) := (cell_of_row w2 _ 3 _ _ _ HR2.out).trans rfl
  have z0 : w2.frozen? ⟨w.heap.size, 0, none⟩ = false := frozen_of_row w2 _ 0 _ _ HR2.out
  have z1 : w2.frozen? ⟨w.heap.size, 1, none⟩ = false := frozen_of_row w2 _ 1 _ _ HR2.out
  have z2 : w2.frozen? ⟨w.heap.size, 2, none⟩ = false := frozen_of_row w2 _ 2 _ _ HR2.out
  have z3 : w2.frozen? ⟨w.heap.size, 3, none⟩ = false := frozen_of_row w2 _ 3 _ _ HR2.out
  cases bc with
  | false =>
    have hv := HV2.out
    rw [if_pos rfl] at hv
    have HV3 := Lib.hid hv
    clear hv HV2
    go_wp2
    have hr := tok_store w2 w.heap.size _ _ _ _ (.int .i64 0) (.string ⟨#[]⟩) (.int .i64 0) (.int .i64 0) HR2.out
    have k0 := cell_of_row _ _ 0 _ _ _ hr
    have k1 := cell_of_row _ _ 1 _ _ _ hr
    have k2 := cell_of_row _ _ 2 _ _ _ hr
    have k3 := cell_of_row _ _ 3 _ _ _ hr
    simp only [List.getElem?_toArray, List.getElem?_cons_zero, List.getElem?_cons_succ] at k0 k1 k2 k3
    refine bodyPost_ret (v := .tuple #[.agg #[.int .i64 0, .string ⟨#[]⟩, .int .i64 0, .int .i64 0], .int .i64 0, .int .i64 11]) (by simp [results, Tryd.results43, go_sem, k0, k1, k2, k3]) rfl ⟨by rw [HV3.out]; rfl, tok_only _ _ _ _ _ HA2.out (Nat.le_refl _)⟩
  | true =>
    have hv := HV2.out
    rw [if_neg (by simp)] at hv
    have HV3 := Lib.hid hv
    clear hv HV2
    clear y0 y1 y2 y3 z0 z1 z2 z3
    go_wp2
    obtain ⟨g, hg⟩ : ∃ g, g = w2.heap.size := ⟨_, rfl⟩
    have hlt := heap_lt HR2.out
    have HI := Lib.hid (show (w2.iter I 0).heap[g]? = some (.stringIter I 0) by rw [hg]; exact World.iter_heap w2 I 0)
    have HB := Lib.hid (show Only [] w (w2.iter I 0) from HA2.out.alloc _)
    have HRR := Lib.hid (show (w2.iter I 0).heap[w.heap.size]? = _ from ((Only.refl [] w2).alloc (.stringIter I 0)).heap HR2.out (by simp))
    rw [← hg]
    have HG := Lib.hid (show w.heap.size < g by omega)
    clear hg hlt HA2 HR2
    have HL := Lib.hid (rfl : lowFrom I I.size 0 = lowFrom I I.size 0)
    generalize w2.iter I 0 = w3 at *
    go_loopw [] (fun wr => ∃ (pos b : Nat), Hid (wr.heap[g]? = some (.stringIter I pos)) ∧ Hid (Only [] w wr) ∧ Hid (wr.heap[w.heap.size]? = some (.cells #[.int .i64 0, .string ⟨#[]⟩, .int .i64 0, .int .i64 0] 38 (0, 0))) ∧ Hid (lowFrom I I.size 0 = lowFrom I b pos) ∧ I.size ≤ pos + b) (fun wr => I.size - wr.iterPos g)
    case atStart => exact ⟨0, I.size, HI, HB, HRR, HL, by omega⟩
    case round =>
      obtain ⟨pos, b, hi, hb, hrr, hw, hle⟩ := hrel
      clear HI HB HRR HL
      by_cases hp : pos < I.size
      · have hnx : ∀ ty, (Instr.next (.pointer (some ⟨g, 0, none⟩)) true ty).run Tryd.prog wr = _ := fun ty => Lib.run_next_any_at wr g I pos ty hi.out hp
        have hwd := Lib.decode_width_pos I pos hp
        have hdl := decode_le I pos
        obtain ⟨b', rfl⟩ : ∃ b', b = b' + 1 := ⟨b - 1, by omega⟩
        have hw' := hw.out
        rw [show lowFrom I (b' + 1) pos = (decide ((Utf8.decode I pos).1 < 32) || lowFrom I b' (pos + (Utf8.decode I pos).2)) by rw [lowFrom, if_pos hp]] at hw'
        have HW := Lib.hid hw'
        have HI2 := Lib.hid (iterAt_heap wr g I (pos + (Utf8.decode I pos).2) _ hi.out)
        have HB2 := Lib.hid (iterAt_only g I (pos + (Utf8.decode I pos).2) hb.out (by have := HG.out; omega))
        have HR2 := Lib.hid ((iterAt_other wr g I (pos + (Utf8.decode I pos).2) w.heap.size (by have := HG.out; omega)).trans hrr.out)
        have HP := Lib.hid (show wr.iterPos g = pos by unfold World.iterPos; rw [hi.out])
        clear hw hw' hi hb hrr
        generalize wr.iterAt g I (pos + (Utf8.decode I pos).2) = w2 at *
        generalize (Utf8.decode I pos).2 = d2 at *
        generalize (Utf8.decode I pos).1 = d1 at *
        by_cases hd : d1 < 32
        · have hd' : (d1 : Int) < 32 := by omega
          have y0 : w2.cell? ⟨w.heap.size, 0, none⟩ = some (.int .i64 0) := (cell_of_row w2 _ 0 _ _ _ HR2.out).trans rfl
          have y1 : w2.cell? ⟨w.heap.size, 1, none⟩ = some (.string ⟨#[]⟩) := (cell_of_row w2 _ 1 _ _ _ HR2.out).trans rfl
          have y2 : w2.cell? ⟨w.heap.size, 2, none⟩ = some (.int .i64 0) := (cell_of_row w2 _ 2 _ _ _ HR2.out).trans rfl
          have y3 : w2.cell? ⟨w.heap.size, 3, none⟩ = some (.int .i64 0) := (cell_of_row w2 _ 3 _ _ _ HR2.out).trans rfl
          have z0 : w2.frozen? ⟨w.heap.size, 0, none⟩ = false := frozen_of_row w2 _ 0 _ _ HR2.out
          have z1 : w2.frozen? ⟨w.heap.size, 1, none⟩ = false := frozen_of_row w2 _ 1 _ _ HR2.out
          have z2 : w2.frozen? ⟨w.heap.size, 2, none⟩ = false := frozen_of_row w2 _ 2 _ _ HR2.out
          have z3 : w2.frozen? ⟨w.heap.size, 3, none⟩ = false := frozen_of_row w2 _ 3 _ _ HR2.out
          go_wp2
          have hr := tok_store w2 w.heap.size _ _ _ _ (.int .i64 0) (.string ⟨#[]⟩) (.int .i64 0) (.int .i64 0) HR2.out
          have k0 := cell_of_row _ _ 0 _ _ _ hr
          have k1 := cell_of_row _ _ 1 _ _ _ hr
          have k2 := cell_of_row _ _ 2 _ _ _ hr
          have k3 := cell_of_row _ _ 3 _ _ _ hr
          simp only [List.getElem?_toArray, List.getElem?_cons_zero, List.getElem?_cons_succ] at k0 k1 k2 k3
          refine bodyPost_ret (v := .tuple #[.agg #[.int .i64 0, .string ⟨#[]⟩, .int .i64 0, .int .i64 0], .int .i64 0, .int .i64 11]) (by simp [results, Tryd.results43, go_sem, k0, k1, k2, k3]) rfl ⟨?_, tok_only _ _ _ _ _ HB2.out (Nat.le_refl _)⟩
          rw [HV3.out, HW.out, if_pos (by simp [hd])]
          rfl
        · have hd' : (32 : Int) ≤ d1 := by omega
          go_wp2
          go_roundw
          case rel => exact ⟨pos + d2, b', HI2, HB2, HR2, Lib.hid (by rw [HW.out]; simp [hd]), by omega⟩
          case measure =>
            have e1 : w2.iterPos g = pos + d2 := by unfold World.iterPos; rw [HI2.out]
            rw [e1, HP.out]; omega
      · have hnx : ∀ ty, (Instr.next (.pointer (some ⟨g, 0, none⟩)) true ty).run Tryd.prog wr = _ := fun ty => Lib.run_next_end_at wr g I pos ty hi.out hp
        have hwe := hw.out
        rw [lowFrom_end I b pos hp] at hwe
        have hv := HV3.out
        rw [hwe, if_neg (by simp)] at hv
        have HV4 := Lib.hid hv
        have hc2 := Lib.hid (show ∀ W, Calls Tryd.prog 38 #[.string I] W fun e w' => e = .returned (.int .i64 (Lib.runeCount I)) ∧ Below W.heap.size W w' from fun W => utf8_RuneCountInString.calls I _ W (by unfold utf8_RuneCountInString.f; rw [if_pos (by have := HIS.out; omega)]))
        clear hw hwe hv HV3
        go_wp2_with (go_at_call 38; refine (hc2.out _).mono ?_; rintro e w4 ⟨rfl, hb4⟩; have HB4 := Lib.hid hb4; clear hb4; refine (fun (h : Hid _) => h.out) ?_)
        refine Lib.hid ?_
        have HB5 := Lib.hid (hb.out.trans (Only.of_below HB4.out))
        have HR5 := Lib.hid ((Only.of_below HB4.out).heap hrr.out (by simp))
        clear HB4 hb hrr hi hc2
        have y0 : w4.cell? ⟨w.heap.size, 0, none⟩ = some (.int .i64 0) := (cell_of_row w4 _ 0 _ _ _ HR5.out).trans rfl
        have y1 : w4.cell? ⟨w.heap.size, 1, none⟩ = some (.string ⟨#[]⟩) := (cell_of_row w4 _ 1 _ _ _ HR5.out).trans rfl
        have y2 : w4.cell? ⟨w.heap.size, 2, none⟩ = some (.int .i64 0) := (cell_of_row w4 _ 2 _ _ _ HR5.out).trans rfl
        have y3 : w4.cell? ⟨w.heap.size, 3, none⟩ = some (.int .i64 0) := (cell_of_row w4 _ 3 _ _ _ HR5.out).trans rfl
        have z0 : w4.frozen? ⟨w.heap.size, 0, none⟩ = false := frozen_of_row w4 _ 0 _ _ HR5.out
        have z1 : w4.frozen? ⟨w.heap.size, 1, none⟩ = false := frozen_of_row w4 _ 1 _ _ HR5.out
        have z2 : w4.frozen? ⟨w.heap.size, 2, none⟩ = false := frozen_of_row w4 _ 2 _ _ HR5.out
        have z3 : w4.frozen? ⟨w.heap.size, 3, none⟩ = false := frozen_of_row w4 _ 3 _ _ HR5.out
        by_cases hc : 20 < Lib.runeCount I
        · have hc' : (20 : Int) < Lib.runeCount I := by omega
          go_wp2
          have hr := tok_store w4 w.heap.size _ _ _ _ (.int .i64 0) (.string ⟨#[]⟩) (.int .i64 0) (.int .i64 0) HR5.out
          have k0 := cell_of_row _ _ 0 _ _ _ hr
          have k1 := cell_of_row _ _ 1 _ _ _ hr
          have k2 := cell_of_row _ _ 2 _ _ _ hr
          have k3 := cell_of_row _ _ 3 _ _ _ hr
          simp only [List.getElem?_toArray, List.getElem?_cons_zero, List.getElem?_cons_succ] at k0 k1 k2 k3
          refine bodyPost_ret (v := .tuple #[.agg #[.int .i64 0, .string ⟨#[]⟩, .int .i64 0, .int .i64 0], .int .i64 0, .int .i64 2]) (by simp [results, Tryd.results43, go_sem, k0, k1, k2, k3]) rfl ⟨?_, tok_only _ _ _ _ _ HB5.out (Nat.le_refl _)⟩
          rw [HV4.out, if_pos hc]
          rfl
        · have hc' : (Lib.runeCount I : Int) ≤ 20 := by omega
          have hwr : IntKind.i64.wrap ((I.size : Int) + 2) = I.size + 2 := IntWalk.i64_in _ (by have := HIS.out; omega)
          go_wp2
          have hr := tok_store w4 w.heap.size _ _ _ _ (.int .i64 3) (.string I) (.int .i64 0) (.int .i64 0) HR5.out
          have k0 := cell_of_row _ _ 0 _ _ _ hr
          have k1 := cell_of_row _ _ 1 _ _ _ hr
          have k2 := cell_of_row _ _ 2 _ _ _ hr
          have k3 := cell_of_row _ _ 3 _ _ _ hr
          simp only [List.getElem?_toArray, List.getElem?_cons_zero, List.getElem?_cons_succ] at k0 k1 k2 k3
          refine bodyPost_ret (v := .tuple #[.agg #[.int .i64 3, .string I, .int .i64 0, .int .i64 0], .int .i64 ((I.size : Int) + 2), .int .i64 0]) (by simp [results, Tryd.results43, go_sem, k0, k1, k2, k3]) rfl ⟨?_, tok_only _ _ _ _ _ HB5.out (Nat.le_refl _)⟩
          rw [HV4.out, if_neg hc]
end Go.Proofs.YtlikjknakplamaaDoor.Print
/-! ### ENumber -/
namespace Go.Proofs.YtlikjknakplamaaDoor.Print
open Go.RowKit Go.Proofs.YtlikjknakplamaaDoorW.PrintWords Go.Proofs.YtlikjknakplamaaDoorW.PrintLast Go.Proofs.YtlikjknakplamaaDoorW.PrintMore
set_option linter.unusedSimpArgs false
set_option linter.unusedVariables false
theorem pow_le18 (m p : Nat) (h : m < 10 ^ p) (hp : p < 19) : m < 1000000000000000000 := by
  have : 10 ^ p ≤ 10 ^ 18 := Nat.pow_le_pow_right (by omega) (by omega)
  have e : (10 : Nat) ^ 18 = 1000000000000000000 := by decide
  omega
set_option maxHeartbeats 2000000 in
set_option maxRecDepth 100000 in
theorem number_any (a0 : ByteArray) (w : World) :
    Calls Tryd.prog 18 #[.string a0] w fun e w' => e = .returned (.tuple #[.int .i64 (numZ a0).1, .bool (numZ a0).2]) ∧ Below w.heap.size w w' := by
  obtain ⟨V, hV⟩ : ∃ V, V = numZ a0 := ⟨_, rfl⟩
  rw [← hV]
  have HV := Lib.hid hV
  clear hV
  by_cases h0 : a0.size = 0
  · have hv := HV.out
    unfold numZ at hv
    rw [if_pos (.inl h0)] at hv
    have HV2 := Lib.hid hv
    have e0 : a0.toList.isEmpty = true := by
      rw [ByteArray.toList_eq]
      have : a0.data.toList.length = 0 := by rw [Array.length_toList]; exact h0
      rw [List.eq_nil_of_length_eq_zero this]
      rfl
    clear hv HV h0
    go_enter Tryd.func18, Tryd.ntmps18
    go_wp2
    go_ret2
    exact ⟨by rw [HV2.out]; rfl, Below.refl _ _⟩
  · have hp : 0 < a0.size := by omega
    have e0 : a0.toList.isEmpty = false := by have := some_left a0 hp; simpa using this
    by_cases h1 : 19 < a0.size
    · have hv := HV.out
      unfold numZ at hv
      rw [if_pos (.inr (.inl h1))] at hv
      have HV2 := Lib.hid hv
      have h1' : (19 : Int) < a0.size := by omega
      clear hv HV h0
      go_enter Tryd.func18, Tryd.ntmps18
      go_wp2
      go_ret2
      exact ⟨by rw [HV2.out]; rfl, Below.refl _ _⟩
    · have h1' : (a0.size : Int) ≤ 19 := by omega
      by_cases h2 : 1 < a0.size ∧ bAt a0 0 = 48
      · have hv := HV.out
        unfold numZ at hv
        rw [if_pos (.inr (.inr h2))] at hv
        have HV2 := Lib.hid hv
        have h2' : (1 : Int) < a0.size := by omega
        have h0' : (0 : Int) < a0.size := by omega
        have h3 := h2.2
        rw [← bAt_elem a0 0 hp] at h3
        clear hv HV h0 h2
        generalize hx : (a0[0]'hp).toNat = x at *
        subst h3
        go_enter Tryd.func18, Tryd.ntmps18
        go_wp2
        go_ret2
        exact ⟨by rw [HV2.out]; rfl, Below.refl _ _⟩
      · have hv := HV.out
        unfold numZ at hv
        rw [if_neg (by rintro (h | h | h); exact h0 h; exact h1 h; exact h2 h)] at hv
        have HV2 := Lib.hid hv
        have h0' : (0 : Int) < a0.size := by omega
        have hcond : (1 : Int) < a0.size ∧ (((a0[0]'hp).toNat : Int) == 48) = false ∨ (a0.size : Int) ≤ 1 := by
          rw [← bAt_elem a0 0 hp] at h2
          by_cases h3 : 1 < a0.size
          · have : ¬ (a0[0]'hp).toNat = 48 := fun e => h2 ⟨h3, e⟩
            exact .inl ⟨by omega, by rw [beq_eq_false_iff_ne]; omega⟩
          · exact .inr (by omega)
        clear hv HV h0 h2
        rcases hcond with ⟨hc1, hc2⟩ | hc
        all_goals
          go_enter Tryd.func18, Tryd.ntmps18
          go_wp2
          obtain ⟨g, hg⟩ : ∃ g, g = w.heap.size := ⟨_, rfl⟩
          have HI := Lib.hid (show (w.iter a0 0).heap[g]? = some (.stringIter a0 0) by rw [hg]; exact World.iter_heap w a0 0)
          have HB := Lib.hid (show Below w.heap.size w (w.iter a0 0) from (Below.refl _ _).alloc (Nat.le_refl _) _)
          rw [← hg]
          have HG := Lib.hid (show w.heap.size ≤ g by omega)
          clear hg
          generalize w.iter a0 0 = w1 at *
          go_loopw [4, 6] (fun n r wr => ∃ (pos b m : Nat), n = .int .u64 m ∧ Hid (m < 10 ^ pos) ∧ Hid (wr.heap[g]? = some (.stringIter a0 pos)) ∧ Hid (Below w.heap.size w wr) ∧ Hid (V = told (numFrom a0 b pos m)) ∧ a0.size ≤ pos + b) (fun _ _ wr => a0.size - wr.iterPos g)
          case atStart => exact ⟨0, a0.size, 0, rfl, Lib.hid (by decide), HI, HB, HV2, by omega⟩
          case round =>
            obtain ⟨pos, b, m, rfl, hm, hi, hb, hw, hle⟩ := hrel
            clear HI HB HV2
            by_cases hp : pos < a0.size
            · have hnx : ∀ ty, (Instr.next (.pointer (some ⟨g, 0, none⟩)) true ty).run Tryd.prog wr = _ := fun ty => Lib.run_next_any_at wr g a0 pos ty hi.out hp
              have hwd := Lib.decode_width_pos a0 pos hp
              have hdl := decode_le a0 pos
              obtain ⟨b', rfl⟩ : ∃ b', b = b' + 1 := ⟨b - 1, by omega⟩
              have hw' := hw.out
              rw [numFrom, if_pos hp] at hw'
              have hm18 := pow_le18 m pos hm.out (by omega)
              have HI2 := Lib.hid (iterAt_heap wr g a0 (pos + (Utf8.decode a0 pos).2) _ hi.out)
              have HB2 := Lib.hid (iterAt_below g a0 (pos + (Utf8.decode a0 pos).2) hb.out HG.out)
              have HP := Lib.hid (show wr.iterPos g = pos by unfold World.iterPos; rw [hi.out])
              clear hw hi hb
              generalize wr.iterAt g a0 (pos + (Utf8.decode a0 pos).2) = w2 at *
              generalize (Utf8.decode a0 pos).2 = d2 at *
              generalize (Utf8.decode a0 pos).1 = d1 at *
              have hcl := lex_class_any (d1 : Int) (by omega) (by omega)
              by_cases hz : classZ (d1 : Int) = 3
              · have hdr : 48 ≤ d1 ∧ d1 ≤ 57 := by
                  unfold classZ at hz
                  repeat' split at hz
                  all_goals first | omega | (exfalso; omega)
                rw [if_pos hz] at hw'
                have HW := Lib.hid hw'
                rw [hz] at hcl
                clear hw' hz
                have q1 : IntKind.u64.wrap (10 * (m : Int)) = 10 * m := by rw [show ∀ x, IntKind.u64.wrap x = x % 18446744073709551616 from fun _ => rfl]; omega
                have q2 : IntKind.i32.wrap ((d1 : Int) - 48) = d1 - 48 := by rw [IntKind.wrap_i32]; omega
                go_wp2_with (go_at_call 16; refine (hcl _).mono ?_; rintro e w3 ⟨rfl, ⟨n3, rfl⟩⟩)
                go_roundw
                case rel =>
                  refine ⟨pos + d2, b', 10 * m + (d1 - 48), by congr 1; omega, Lib.hid ?_, HI2, Lib.hid (pw_below_drewN HB2.out n3), HW, by omega⟩
                  have h10 : 10 ^ (pos + 1) ≤ 10 ^ (pos + d2) := Nat.pow_le_pow_right (by omega) (by omega)
                  have hmm := hm.out
                  rw [Nat.pow_succ] at h10
                  omega
                case measure =>
                  have e1 : (w2.drewN n3).iterPos g = pos + d2 := by
                    have : (w2.drewN n3).heap[g]? = some (.stringIter a0 (pos + d2)) := HI2.out
                    unfold World.iterPos; rw [this]
                  rw [e1, HP.out]; omega
              · rw [if_neg hz] at hw'
                have HW := Lib.hid hw'
                have hzz : (classZ (d1 : Int) == 3) = false := by simpa using hz
                clear hw' hm hm18
                generalize classZ (d1 : Int) = c at *
                have hcc : (c != 3) = true := by simpa using hz
                go_wp2_with (go_at_call 16; refine (hcl _).mono ?_; rintro e w3 ⟨rfl, ⟨n3, rfl⟩⟩)
                go_ret2
                exact ⟨by rw [HW.out]; rfl, pw_below_drewN HB2.out n3⟩
            · have hnx : ∀ ty, (Instr.next (.pointer (some ⟨g, 0, none⟩)) true ty).run Tryd.prog wr = _ := fun ty => Lib.run_next_end_at wr g a0 pos ty hi.out hp
              have hwe := hw.out
              rw [numFrom_end a0 b pos m hp] at hwe
              unfold told at hwe
              have hm2 : m < 10000000000000000000 ∨ 19 < pos := by
                by_cases h19 : pos ≤ 19
                · have : 10 ^ pos ≤ 10 ^ 19 := Nat.pow_le_pow_right (by omega) h19
                  have := hm.out
                  exact .inl (by omega)
                · exact .inr (by omega)
              by_cases hbig : 9223372036854775807 < m
              · simp only [if_pos hbig] at hwe
                have HW := Lib.hid hwe
                have hbig' : (9223372036854775807 : Int) < m := by omega
                clear hw hwe hm hm2
                go_wp2
                go_ret2
                exact ⟨by rw [HW.out]; rfl, hb.out⟩
              · simp only [if_neg hbig] at hwe
                have HW := Lib.hid hwe
                have hbig' : (m : Int) ≤ 9223372036854775807 := by omega
                clear hw hwe hm hm2
                go_wp2
                go_ret2
                exact ⟨by rw [HW.out]; rfl, hb.out⟩
end Go.Proofs.YtlikjknakplamaaDoor.Print
/-! ### LxTxt -/
namespace Go.Proofs.YtlikjknakplamaaDoor
open Go.Lib
set_option linter.unusedSimpArgs false
set_option linter.unusedVariables false
abbrev enc (r : Nat) : List UInt8 := Lib.encodeRune (r : Int)
/-- A rune that decodes out of its own bytes. -/
def okR (r : Nat) : Prop := decodeL (enc r) = (r, (enc r).length) ∧ ¬ (r = 65533 ∧ (enc r).length = 1)
def txt (rs : List Nat) : List UInt8 := rs.flatMap enc
theorem txt_nil : txt [] = [] := rfl
theorem txt_cons (r : Nat) (rs : List Nat) : txt (r :: rs) = enc r ++ txt rs := by simp [txt]
theorem txt_append (a b : List Nat) : txt (a ++ b) = txt a ++ txt b := by simp [txt]
theorem enc_len (r : Nat) : 1 ≤ (enc r).length ∧ (enc r).length ≤ 4 := by
  unfold enc encodeRune
  rw [List.length_map]
  unfold encodeRuneZ
  repeat' split
  all_goals simp
theorem enc_small (r : Nat) (h : r < 128) : enc r = [UInt8.ofNat r] := by
  unfold enc encodeRune
  rw [encodeRuneZ_one (by omega) (by omega)]
  rfl
theorem enc_high (r : Nat) (h : 128 ≤ r) : ∀ b ∈ enc r, 128 ≤ b.toNat := by
  intro b hb
  unfold enc encodeRune at hb
  obtain ⟨z, hz, rfl⟩ := List.mem_map.1 hb
  have : 128 ≤ z ∧ z ≤ 255 := by
    unfold encodeRuneZ at hz
    split at hz
    · omega
    split at hz
    · simp at hz; omega
    split at hz
    · simp at hz; omega
    split at hz
    · simp at hz; omega
    · simp at hz; omega
  have e : z.toNat.toUInt8.toNat = z.toNat % 256 := by simp
  rw [e]
  omega
set_option maxRecDepth 100000 in
theorem decodeN_cut (n b0 b1 b2 b3 : Nat) (h : ¬ ((decodeN n b0 b1 b2 b3).1 = 65533 ∧ (decodeN n b0 b1 b2 b3).2 = 1)) : decodeN (decodeN n b0 b1 b2 b3).2 b0 b1 b2 b3 = decodeN n b0 b1 b2 b3 := by
  rcases decodeN_shape n b0 b1 b2 b3 with ⟨c, e⟩ | ⟨c1, c2, c3, cv, e⟩ | ⟨c1, c2, c3, c4, cv, cs, e⟩ | ⟨c1, c2, c3, c4, c5, cv, cw, e⟩ | e
  · rw [e, decodeN_ascii _ _ _ _ _ c]
  · rw [e]
    simp only
    unfold decodeN
    repeat' split
    all_goals first | rfl | (exfalso; omega)
  · rw [e]
    simp only
    unfold decodeN
    repeat' split
    all_goals first | rfl | (exfalso; omega)
  · rw [e]
    simp only
    unfold decodeN
    repeat' split
    all_goals first | rfl | (exfalso; omega)
  · rw [e] at h
    exact absurd ⟨rfl, rfl⟩ h
theorem decodeL_width (l : List UInt8) (hne : l ≠ []) : 1 ≤ (decodeL l).2 ∧ (decodeL l).2 ≤ l.length := by
  have hl : 0 < l.length := List.length_pos_iff.2 hne
  rw [decodeL_N]
  rcases decodeN_shape l.length (l.getD 0 0).toNat (l.getD 1 0).toNat (l.getD 2 0).toNat (l.getD 3 0).toNat with ⟨c, e⟩ | ⟨c1, c2, c3, cv, e⟩ | ⟨c1, c2, c3, c4, cv, cs, e⟩ | ⟨c1, c2, c3, c4, c5, cv, cw, e⟩ | e
  all_goals (rw [e]; simp only; omega)
theorem getD_app (a t : List UInt8) (i : Nat) (h : i < a.length) : (a ++ t).getD i 0 = a.getD i 0 := by
  rw [List.getD_eq_getElem?_getD, List.getD_eq_getElem?_getD, List.getElem?_append_left h]
theorem dec_app (r : Nat) (h : okR r) (t : List UInt8) : decodeL (enc r ++ t) = (r, (enc r).length) := by
  obtain ⟨h1, h2⟩ := h
  obtain ⟨l1, l4⟩ := enc_len r
  rw [decodeL_N] at h1 ⊢
  generalize enc r = e at *
  rw [List.length_append, getD_app e t 0 (by omega)]
  by_cases hn : 2 ≤ e.length
  · rw [decodeN_more e.length (e.length + t.length) (e.getD 0 0).toNat (e.getD 1 0).toNat (e.getD 2 0).toNat (e.getD 3 0).toNat _ _ _ hn (by omega) (by rw [h1])
      (fun hh => by rw [getD_app e t 1 hh]) (fun hh => by rw [getD_app e t 2 hh]) (fun hh => by rw [getD_app e t 3 hh])]
    exact h1
  · have h1n : e.length = 1 := by omega
    rw [h1n] at h1 h2
    have hb : (e.getD 0 0).toNat < 128 := by
      rcases decodeN_shape 1 (e.getD 0 0).toNat (e.getD 1 0).toNat (e.getD 2 0).toNat (e.getD 3 0).toNat with ⟨c, _⟩ | ⟨_, c, _⟩ | ⟨_, c, _⟩ | ⟨_, c, _⟩ | e5
      · exact c
      · omega
      · omega
      · omega
      · rw [e5] at h1
        exact absurd ⟨(congrArg Prod.fst h1).symm, rfl⟩ h2
    rw [decodeN_ascii _ _ _ _ _ hb] at h1 ⊢
    rw [h1n]
    exact h1
set_option maxRecDepth 100000 in
theorem dec_ok (l : List UInt8) (hne : l ≠ []) (hv : ¬ ((decodeL l).1 = 65533 ∧ (decodeL l).2 = 1)) : okR (decodeL l).1 ∧ enc (decodeL l).1 = l.take (decodeL l).2 ∧ (enc (decodeL l).1).length = (decodeL l).2 := by
  have e := encode_decode l hne hv
  obtain ⟨w1, w2⟩ := decodeL_width l hne
  have hlen : (enc (decodeL l).1).length = (decodeL l).2 := by
    show (encodeRune _).length = _
    rw [e, List.length_take]
    omega
  refine ⟨⟨?_, fun h => hv ⟨h.1, by rw [← hlen]; exact h.2⟩⟩, e, hlen⟩
  rw [hlen]
  show decodeL (encodeRune _) = _
  rw [e, decodeL_N, List.length_take, Nat.min_eq_left w2]
  have hd : ∀ k, k < (decodeL l).2 → (l.take (decodeL l).2).getD k 0 = l.getD k 0 := fun k hk => getD_takeU l _ k hk
  have hN := decodeL_N l
  have hcut := decodeN_cut l.length (l.getD 0 0).toNat (l.getD 1 0).toNat (l.getD 2 0).toNat (l.getD 3 0).toNat (by rw [← hN]; exact hv)
  rw [← hN] at hcut
  rw [hd 0 (by omega)]
  rcases decodeN_shape l.length (l.getD 0 0).toNat (l.getD 1 0).toNat (l.getD 2 0).toNat (l.getD 3 0).toNat with ⟨c, e1⟩ | ⟨c1, c2, c3, cv, e1⟩ | ⟨c1, c2, c3, c4, cv, cs, e1⟩ | ⟨c1, c2, c3, c4, c5, cv, cw, e1⟩ | e1
  · rw [decodeN_ascii _ _ _ _ _ c, hN, e1]
  · rw [← hN] at e1
    have hw : (decodeL l).2 = 2 := by rw [e1]
    rw [hd 1 (by omega), e1]
    simp only
    unfold decodeN
    repeat' split
    all_goals first | rfl | (exfalso; omega)
  · rw [← hN] at e1
    have hw : (decodeL l).2 = 3 := by rw [e1]
    rw [hd 1 (by omega), hd 2 (by omega), e1]
    simp only
    unfold decodeN
    repeat' split
    all_goals first | rfl | (exfalso; omega)
  · rw [← hN] at e1
    have hw : (decodeL l).2 = 4 := by rw [e1]
    rw [hd 1 (by omega), hd 2 (by omega), hd 3 (by omega)]
    exact hcut
  · rw [← hN] at e1
    exact absurd ⟨by rw [e1], by rw [e1]⟩ hv
/-- Any bytes are the runes up to the first bad byte, and what begins there. -/
theorem split_txt : ∀ (n : Nat) (l : List UInt8), l.length ≤ n → ∃ rs t, (∀ r ∈ rs, okR r) ∧ l = txt rs ++ t ∧ (t = [] ∨ t ≠ [] ∧ (decodeL t).1 = 65533 ∧ (decodeL t).2 = 1) := by
  intro n
  induction n with
  | zero =>
    intro l h
    obtain rfl : l = [] := List.eq_nil_of_length_eq_zero (by omega)
    exact ⟨[], [], by simp, rfl, .inl rfl⟩
  | succ n ih =>
    intro l h
    by_cases hne : l = []
    · exact ⟨[], [], by simp, by rw [hne]; rfl, .inl rfl⟩
    · by_cases hv : (decodeL l).1 = 65533 ∧ (decodeL l).2 = 1
      · exact ⟨[], l, by simp, rfl, .inr ⟨hne, hv⟩⟩
      · obtain ⟨k1, k2, k3⟩ := dec_ok l hne hv
        obtain ⟨w1, w2⟩ := decodeL_width l hne
        obtain ⟨rs, t, a, b, c⟩ := ih (l.drop (decodeL l).2) (by rw [List.length_drop]; omega)
        refine ⟨(decodeL l).1 :: rs, t, ?_, ?_, c⟩
        · intro r hr
          rcases List.mem_cons.1 hr with rfl | hr
          · exact k1
          · exact a r hr
        · rw [txt_cons, k2, List.append_assoc, ← b, List.take_append_drop]
/-- The text of runes. -/
def str (rs : List Nat) : ByteArray := ⟨(txt rs).toArray⟩
theorem str_list (rs : List Nat) : (str rs).data.toList = txt rs := rfl
theorem str_size (rs : List Nat) : (str rs).size = (txt rs).length := by show Array.size _ = _; simp [str]
theorem str_of {s : ByteArray} {rs : List Nat} (h : s.data.toList = txt rs) : s = str rs := by
  cases s with | mk d => unfold str; rw [← h]
theorem decode_str (a : List Nat) (r : Nat) (b : List Nat) (hr : okR r) : Utf8.decode (str (a ++ r :: b)) (txt a).length = (r, (enc r).length) := by
  rw [← decodeL_drop, str_list, txt_append, List.drop_left, txt_cons, dec_app r hr]
theorem txt_len_cons (r : Nat) (rs : List Nat) : (txt (r :: rs)).length = (enc r).length + (txt rs).length := by rw [txt_cons, List.length_append]
theorem txt_len_append (a b : List Nat) : (txt (a ++ b)).length = (txt a).length + (txt b).length := by rw [txt_append, List.length_append]
theorem txt_len (rs : List Nat) : rs.length ≤ (txt rs).length := by
  induction rs with
  | nil => exact Nat.le_refl _
  | cons r rs ih => rw [txt_len_cons, List.length_cons]; have := (enc_len r).1; omega
theorem count_str : ∀ (b a : List Nat) (f : Nat), (∀ r ∈ b, okR r) → (txt b).length ≤ f → runeCountFrom (str (a ++ b)) f (txt a).length = b.length
  | [], a, f, _, _ => by
    rw [runeCountFrom_end _ _ _ (by rw [str_size, List.append_nil]; omega)]
    rfl
  | r :: b, a, f, h, hf => by
    have hr := h r List.mem_cons_self
    have hl := (enc_len r).1
    rw [txt_len_cons] at hf
    obtain ⟨f, rfl⟩ : ∃ m, f = m + 1 := ⟨f - 1, by omega⟩
    unfold runeCountFrom
    rw [if_pos (by rw [str_size, txt_len_append, txt_len_cons]; omega), decode_str a r b hr]
    have := count_str b (a ++ [r]) f (fun r hr => h r (List.mem_cons_of_mem _ hr)) (by omega)
    rw [List.append_assoc, txt_len_append, txt_len_cons, txt_nil] at this
    simp only [List.length_nil, Nat.add_zero, List.singleton_append] at this
    rw [this, List.length_cons]
    omega
theorem count_is (rs : List Nat) (h : ∀ r ∈ rs, okR r) : runeCount (str rs) = rs.length := by
  have := count_str rs [] (str rs).size h (by rw [str_size]; exact Nat.le_refl _)
  exact this
theorem word_str : ∀ (b a : List Nat) (f : Nat), (∀ r ∈ b, okR r) → (txt b).length ≤ f → wordEnd (str (a ++ b)) f (txt a).length = (txt a).length + (txt (b.takeWhile fun r => wordyZ r)).length
  | [], a, f, _, _ => by
    rw [wordEnd_end _ _ _ (by rw [str_size, List.append_nil]; omega), str_size, List.append_nil]
    rfl
  | r :: b, a, f, h, hf => by
    have hr := h r List.mem_cons_self
    have hl := (enc_len r).1
    rw [txt_len_cons] at hf
    obtain ⟨f, rfl⟩ : ∃ m, f = m + 1 := ⟨f - 1, by omega⟩
    unfold wordEnd
    rw [if_pos (by rw [str_size, txt_len_append, txt_len_cons]; omega), decode_str a r b hr]
    have := word_str b (a ++ [r]) f (fun r hr => h r (List.mem_cons_of_mem _ hr)) (by omega)
    rw [List.append_assoc, txt_len_append, txt_len_cons, txt_nil] at this
    simp only [List.length_nil, Nat.add_zero, List.singleton_append] at this
    by_cases hw : wordyZ (r : Int) = true
    · rw [if_pos hw, this]
      simp only [List.takeWhile_cons, hw, if_true, txt_len_cons]
      omega
    · rw [if_neg hw]
      simp only [List.takeWhile_cons, hw]
      rfl
theorem word_is (rs : List Nat) (h : ∀ r ∈ rs, okR r) : wordEnd (str rs) (str rs).size 0 = (txt (rs.takeWhile fun r => wordyZ r)).length := by
  have := word_str rs [] (str rs).size h (by rw [str_size]; exact Nat.le_refl _)
  rw [txt_nil, List.length_nil, Nat.zero_add] at this
  exact this
theorem low_str : ∀ (b a : List Nat) (f : Nat), (∀ r ∈ b, okR r) → (txt b).length ≤ f → lowFrom (str (a ++ b)) f (txt a).length = b.any fun r => decide (r < 32)
  | [], a, f, _, _ => by
    rw [lowFrom_end _ _ _ (by rw [str_size, List.append_nil]; omega)]
    rfl
  | r :: b, a, f, h, hf => by
    have hr := h r List.mem_cons_self
    have hl := (enc_len r).1
    rw [txt_len_cons] at hf
    obtain ⟨f, rfl⟩ : ∃ m, f = m + 1 := ⟨f - 1, by omega⟩
    unfold lowFrom
    rw [if_pos (by rw [str_size, txt_len_append, txt_len_cons]; omega), decode_str a r b hr]
    have := low_str b (a ++ [r]) f (fun r hr => h r (List.mem_cons_of_mem _ hr)) (by omega)
    rw [List.append_assoc, txt_len_append, txt_len_cons, txt_nil] at this
    simp only [List.length_nil, Nat.add_zero, List.singleton_append] at this
    rw [this, List.any_cons]
theorem low_is (rs : List Nat) (h : ∀ r ∈ rs, okR r) : lowFrom (str rs) (str rs).size 0 = rs.any fun r => decide (r < 32) := low_str rs [] (str rs).size h (by rw [str_size]; exact Nat.le_refl _)
/-- Parts of a text. -/
theorem extract_str (a b c : List Nat) : (str (a ++ b ++ c)).extract (txt a).length ((txt a).length + (txt b).length) = str b := by
  have hl : ((str (a ++ b ++ c)).extract (txt a).length ((txt a).length + (txt b).length)).data.toList = txt b := by
    rw [ByteArray.data_extract, Array.toList_extract, str_list, txt_append, txt_append]
    simp [List.extract_eq_take_drop, List.append_assoc]
  exact str_of hl
theorem extract_front (a c : List Nat) : (str (a ++ c)).extract 0 (txt a).length = str a := by
  have := extract_str [] a c
  rw [txt_nil] at this
  simpa using this
theorem extract_back (a c : List Nat) : (str (a ++ c)).extract (txt a).length (str (a ++ c)).size = str c := by
  have := extract_str a c []
  rw [List.append_nil] at this
  rw [str_size, txt_len_append]
  exact this
theorem pass_str (a c : List Nat) (n : Int) (h : ∀ r ∈ a, okR r) : passZ (str (a ++ c), n) (txt a).length = (str c, n + a.length) := by
  unfold passZ
  simp only
  rw [extract_back, extract_front, count_is a h]
end Go.Proofs.YtlikjknakplamaaDoor
/-! ### LxList -/
namespace Go.Proofs.YtlikjknakplamaaDoor
open Go.Lib
set_option linter.unusedSimpArgs false
set_option linter.unusedVariables false
theorem indexByte_cons (b : UInt8) (l : List UInt8) (c : UInt8) : indexByte (b :: l) c = if b = c then 0 else if indexByte l c = -1 then -1 else indexByte l c + 1 := by
  rw [indexByte]
  simp only [beq_iff_eq]
theorem index_cons1 (b : UInt8) (l : List UInt8) (c : UInt8) : index (b :: l) [c] = if b = c then 0 else if index l [c] = -1 then -1 else index l [c] + 1 := by
  rw [index]
  by_cases h : b = c
  · rw [if_pos h, if_pos (by simp [h])]
  · rw [if_neg h, if_neg (by simp; exact fun e => h e.symm)]
    simp only [beq_iff_eq]
theorem index_one (c : UInt8) : ∀ l : List UInt8, index l [c] = indexByte l c
  | [] => rfl
  | b :: l => by rw [index_cons1, indexByte_cons, index_one c l]
theorem indexByte_app (c : UInt8) : ∀ (a t : List UInt8), (∀ b ∈ a, b ≠ c) → indexByte (a ++ t) c = if indexByte t c = -1 then -1 else indexByte t c + a.length
  | [], t, _ => by
    simp only [List.nil_append, List.length_nil, Int.natCast_zero, Int.add_zero]
    split
    · assumption
    · rfl
  | b :: a, t, h => by
    have hb := h b List.mem_cons_self
    have ih := indexByte_app c a t (fun x hx => h x (List.mem_cons_of_mem _ hx))
    have hge := indexByte_ge t c
    rw [List.cons_append, indexByte_cons, if_neg hb, ih]
    by_cases e : indexByte t c = -1
    · rw [if_pos e, if_pos rfl, if_pos e]
    · rw [if_neg e, if_neg (by omega), if_neg e, List.length_cons]
      omega
theorem enc_no (c : Nat) (hc : c < 128) (r : Nat) (hr : r ≠ c) : ∀ b ∈ enc r, b ≠ UInt8.ofNat c := by
  intro b hb e
  subst e
  have hcc : (UInt8.ofNat c).toNat = c := by simp; omega
  by_cases h : r < 128
  · rw [enc_small r h] at hb
    have := List.mem_singleton.1 hb
    have h2 := congrArg UInt8.toNat this
    rw [hcc] at h2
    simp at h2
    omega
  · have := enc_high r (by omega) _ hb
    omega
theorem indexByte_txt (c : Nat) (hc : c < 128) : ∀ rs : List Nat, indexByte (txt rs) (UInt8.ofNat c) = if c ∈ rs then ((txt (rs.takeWhile fun r => decide (r ≠ c))).length : Int) else -1
  | [] => rfl
  | r :: rs => by
    have ih := indexByte_txt c hc rs
    by_cases h : r = c
    · subst h
      rw [txt_cons, enc_small r hc, if_pos List.mem_cons_self, List.takeWhile_cons]
      rw [show ([UInt8.ofNat r] ++ txt rs) = UInt8.ofNat r :: txt rs from rfl, indexByte_cons, if_pos rfl]
      simp
      rfl
    · rw [txt_cons, indexByte_app _ _ _ (enc_no c hc r h), ih, List.takeWhile_cons]
      have hm : (c ∈ r :: rs) ↔ c ∈ rs := by simp; exact fun e => absurd e.symm h
      simp only [hm]
      by_cases h2 : c ∈ rs
      · rw [if_pos h2, if_pos h2, if_neg (by omega), if_pos (by simpa using h), txt_len_cons]
        omega
      · rw [if_neg h2, if_neg h2, if_pos rfl]
theorem takeWhile_all {α : Type} (p : α → Bool) : ∀ l : List α, (∀ x ∈ l, p x = true) → l.takeWhile p = l
  | [], _ => rfl
  | x :: l, h => by rw [List.takeWhile_cons, if_pos (h x List.mem_cons_self), takeWhile_all p l (fun y hy => h y (List.mem_cons_of_mem _ hy))]
theorem take_drop_while {α : Type} (p : α → Bool) (l : List α) : l = l.takeWhile p ++ l.dropWhile p := (List.takeWhile_append_dropWhile).symm
theorem cut_txt (c : Nat) (hc : c < 128) (rs : List Nat) : (cut (txt rs) [UInt8.ofNat c]).1 = txt (rs.takeWhile fun r => decide (r ≠ c)) ∧ (cut (txt rs) [UInt8.ofNat c]).2.2 = decide (c ∈ rs) := by
  unfold cut
  rw [index_one, indexByte_txt c hc rs]
  by_cases h : c ∈ rs
  · rw [if_pos h, if_pos (by omega)]
    refine ⟨?_, by simpa using h⟩
    simp only [Int.toNat_natCast]
    have e := congrArg txt (take_drop_while (fun r => decide (r ≠ c)) rs)
    rw [txt_append] at e
    rw [e]
    rw [← e]
    conv => lhs; rw [e]
    rw [List.take_left]
  · rw [if_neg h, if_neg (by omega)]
    refine ⟨?_, by simpa using h⟩
    rw [takeWhile_all]
    intro x hx
    have : x ≠ c := fun e => h (e ▸ hx)
    simpa using this
/-- The first byte of a text. -/
theorem first_byte (r : Nat) (t : List Nat) : bAt (str (r :: t)) 0 = ((enc r).getD 0 0).toNat := by
  have hp : 0 < (str (r :: t)).size := by rw [str_size, txt_len_cons]; have := (enc_len r).1; omega
  have h := bAt_zero (str (r :: t)) hp
  rw [str_list, txt_cons, List.getElem?_append_left (by have := (enc_len r).1; omega)] at h
  unfold bAt
  rw [List.getD_eq_getElem?_getD, h]
  rfl
theorem first_small (r : Nat) (t : List Nat) (h : r < 128) : bAt (str (r :: t)) 0 = r := by
  rw [first_byte, enc_small r h]
  show (UInt8.ofNat r).toNat = r
  simp; omega
theorem first_high (r : Nat) (t : List Nat) (h : 128 ≤ r) : 128 ≤ bAt (str (r :: t)) 0 := by
  rw [first_byte]
  have hl := (enc_len r).1
  refine enc_high r h _ ?_
  rw [List.getD_eq_getElem?_getD, List.getElem?_eq_getElem (by omega)]
  exact List.getElem_mem _
theorem class_one {r : Int} (h : classZ r = 1) : r = 32 ∨ r = 9 ∨ r = 13 ∨ r = 10 := by
  unfold classZ at h
  split at h
  · assumption
  · repeat' split at h
    all_goals omega
theorem class_six {r : Int} (h : classZ r = 6) : r = 35 := by
  unfold classZ at h
  repeat' split at h
  all_goals first | assumption | omega
/-- How many runes blanks and remarks are. -/
def blanksN : Bool → List Nat → Nat
  | _, [] => 0
  | c, r :: t => if c = true ∧ r ≠ 10 then 1 + blanksN true t else if classZ r = 1 then 1 + blanksN false t else if classZ r = 6 then 1 + blanksN true t else 0
theorem blanksN_le : ∀ (c : Bool) (rs : List Nat), blanksN c rs ≤ rs.length
  | _, [] => Nat.le_refl _
  | c, r :: t => by
    have h1 := blanksN_le true t
    have h2 := blanksN_le false t
    unfold blanksN
    rw [List.length_cons]
    split
    · omega
    split
    · omega
    split
    · omega
    · omega
/-- In a remark: up to the line's end. -/
theorem blanksN_in : ∀ rs : List Nat, blanksN true rs = (rs.takeWhile fun r => decide (r ≠ 10)).length + blanksN false (rs.dropWhile fun r => decide (r ≠ 10))
  | [] => rfl
  | r :: t => by
    rw [List.takeWhile_cons, List.dropWhile_cons]
    by_cases h : r = 10
    · subst h
      rw [if_neg (by simp), if_neg (by simp)]
      rw [List.length_nil, Nat.zero_add]
      rw [blanksN, blanksN, if_neg (show ¬ (true = true ∧ 10 ≠ 10) by simp), if_neg (show ¬ (false = true ∧ 10 ≠ 10) by simp)]
    · rw [if_pos (by simpa using h), if_pos (by simpa using h), List.length_cons]
      have ih := blanksN_in t
      rw [blanksN, if_pos ⟨rfl, h⟩, ih]
      omega
theorem hashN_str (rs : List Nat) : hashN (str rs) = (txt (rs.takeWhile fun r => decide (r ≠ 10))).length := by
  unfold hashN
  rw [str_list, show (10 : UInt8) = UInt8.ofNat 10 from rfl, indexByte_txt 10 (by omega) rs]
  by_cases h : 10 ∈ rs
  · rw [if_pos h, if_neg (by omega), Int.toNat_natCast]
  · rw [if_neg h, if_pos (by omega), str_size, takeWhile_all]
    intro x hx
    have : x ≠ 10 := fun e => h (e ▸ hx)
    simpa using this
theorem blanks_str : ∀ (f : Nat) (rs : List Nat) (n : Int), (∀ r ∈ rs, okR r) → (txt rs).length ≤ f → blanksZ f (str rs, n) = (str (rs.drop (blanksN false rs)), n + blanksN false rs) := by
  intro f
  induction f with
  | zero =>
    intro rs n h hf
    have h0 : rs.length = 0 := by have := txt_len rs; omega
    obtain rfl := List.eq_nil_of_length_eq_zero h0
    simp [blanksZ, blanksN]
  | succ f ih =>
    intro rs n h hf
    cases rs with
    | nil =>
      unfold blanksZ
      rw [if_pos (by rw [str_size]; rfl)]
      simp [blanksN]
    | cons r t =>
      have hp : 0 < (str (r :: t)).size := by rw [str_size, txt_len_cons]; have := (enc_len r).1; omega
      have ht : ∀ x ∈ t, okR x := fun x hx => h x (List.mem_cons_of_mem _ hx)
      rw [txt_len_cons] at hf
      have hl := (enc_len r).1
      unfold blanksZ
      rw [if_neg (by simp only; omega)]
      simp only
      by_cases c1 : classZ (bAt (str (r :: t)) 0) = 1
      · have hs : r < 128 := by
          rcases Nat.lt_or_ge r 128 with h1 | h1
          · exact h1
          · have := first_high r t h1
            have := class_one c1
            omega
        rw [if_pos c1]
        rw [first_small r t hs] at c1
        have hpass := pass_str [r] t n (by simpa using h r List.mem_cons_self)
        rw [show (txt [r]).length = 1 by rw [txt_len_cons, enc_small r hs]; rfl] at hpass
        rw [show [r] ++ t = r :: t from rfl] at hpass
        rw [hpass, ih t _ ht (by omega)]
        have e : blanksN false (r :: t) = blanksN false t + 1 := by rw [blanksN, if_neg (by simp), if_pos c1, Nat.add_comm]
        rw [e, List.drop_succ_cons, List.length_singleton]
        simp only [Prod.mk.injEq, true_and]
        omega
      · rw [if_neg c1]
        by_cases c6 : classZ (bAt (str (r :: t)) 0) = 6
        · have hs : r < 128 := by
            rcases Nat.lt_or_ge r 128 with h1 | h1
            · exact h1
            · have := first_high r t h1
              have := class_six c6
              omega
          rw [if_pos c6]
          rw [first_small r t hs] at c6 c1
          have hr : r = 35 := by have := class_six c6; omega
          subst hr
          rw [hashN_str]
          have hsplit := take_drop_while (fun r => decide (r ≠ 10)) (35 :: t)
          have hpass := pass_str ((35 :: t).takeWhile fun r => decide (r ≠ 10)) ((35 :: t).dropWhile fun r => decide (r ≠ 10)) n (fun x hx => h x (List.takeWhile_sublist _ |>.subset hx))
          rw [← hsplit] at hpass
          rw [hpass]
          rw [List.takeWhile_cons, if_pos (by simp), List.dropWhile_cons, if_pos (by simp)]
          rw [ih _ _ (fun x hx => ht x (List.dropWhile_sublist _ |>.subset hx)) (by
            have := congrArg (fun l => (txt l).length) (take_drop_while (fun r => decide (r ≠ 10)) t)
            simp only [txt_len_append] at this
            omega)]
          have e : blanksN false (35 :: t) = 1 + blanksN true t := by
            rw [blanksN, if_neg (by simp), if_neg c1, if_pos c6]
          rw [e, blanksN_in, Nat.add_comm 1, List.drop_succ_cons]
          have hd : t.drop ((t.takeWhile fun r => decide (r ≠ 10)).length + blanksN false (t.dropWhile fun r => decide (r ≠ 10))) = (t.dropWhile fun r => decide (r ≠ 10)).drop (blanksN false (t.dropWhile fun r => decide (r ≠ 10))) := by
            conv => lhs; arg 2; rw [take_drop_while (fun r => decide (r ≠ 10)) t]
            rw [← List.drop_drop, List.drop_left]
          rw [hd, List.length_cons]
          simp only [Prod.mk.injEq, true_and]
          omega
        · rw [if_neg c6]
          have e : blanksN false (r :: t) = 0 := by
            rw [blanksN, if_neg (by simp)]
            have d1 : ¬ classZ r = 1 := by
              intro hc
              have hs : r < 128 := by have := class_one hc; omega
              rw [first_small r t hs] at c1
              exact c1 hc
            have d6 : ¬ classZ r = 6 := by
              intro hc
              have hs : r < 128 := by have := class_six hc; omega
              rw [first_small r t hs] at c6
              exact c6 hc
            rw [if_neg d1, if_neg d6]
          rw [e]
          simp
theorem blanks_is (rs : List Nat) (n : Int) (h : ∀ r ∈ rs, okR r) : blanks (str rs, n) = (str (rs.drop (blanksN false rs)), n + blanksN false rs) := blanks_str _ rs n h (by rw [str_size]; exact Nat.le_refl _)
end Go.Proofs.YtlikjknakplamaaDoor
/-! ### LxToks -/
namespace Go.Proofs.YtlikjknakplamaaDoor
open Go.Lib
set_option linter.unusedSimpArgs false
set_option linter.unusedVariables false
theorem class_three {r : Int} (h : classZ r = 3) : 48 ≤ r ∧ r ≤ 57 := by
  unfold classZ at h
  repeat' split at h
  all_goals first | assumption | omega
theorem class_five {r : Int} (h : classZ r = 5) : r = 34 := by
  unfold classZ at h
  repeat' split at h
  all_goals first | assumption | omega
theorem class_four {r : Int} (h : classZ r = 4) : r ∈ signs := by
  unfold classZ at h
  repeat' split at h
  all_goals first | assumption | omega
theorem signs_small : ∀ r ∈ signs, 32 < r ∧ r < 127 := by decide
abbrev isW (r : Nat) : Bool := wordyZ r
def digitsR : List Nat → Nat → Option Nat
  | [], n => some n
  | r :: t, n => if classZ r = 3 then digitsR t (10 * n + (r - 48)) else none
theorem digits_str : ∀ (b a : List Nat) (f n : Nat), (∀ r ∈ b, okR r) → (txt b).length ≤ f → numFrom (str (a ++ b)) f (txt a).length n = digitsR b n
  | [], a, f, n, _, _ => by
    rw [numFrom_end _ _ _ _ (by rw [str_size, List.append_nil]; omega)]
    rfl
  | r :: b, a, f, n, h, hf => by
    have hr := h r List.mem_cons_self
    have hl := (enc_len r).1
    rw [txt_len_cons] at hf
    obtain ⟨f, rfl⟩ : ∃ m, f = m + 1 := ⟨f - 1, by omega⟩
    unfold numFrom digitsR
    rw [if_pos (by rw [str_size, txt_len_append, txt_len_cons]; omega), decode_str a r b hr]
    have := digits_str b (a ++ [r]) f (10 * n + (r - 48)) (fun r hr => h r (List.mem_cons_of_mem _ hr)) (by omega)
    rw [List.append_assoc, txt_len_append, txt_len_cons, txt_nil] at this
    simp only [List.length_nil, Nat.add_zero, List.singleton_append] at this
    rw [this]
theorem digits_all : ∀ (rs : List Nat) (n : Nat), (digitsR rs n).isSome = true → ∀ r ∈ rs, 48 ≤ r ∧ r ≤ 57
  | [], _, _, r, hr => by simp at hr
  | x :: rs, n, h, r, hr => by
    unfold digitsR at h
    split at h
    · rename_i hc
      rcases List.mem_cons.1 hr with rfl | hr
      · have := class_three hc
        omega
      · exact digits_all rs _ h r hr
    · cases h
theorem txt_small : ∀ rs : List Nat, (∀ r ∈ rs, r < 128) → (txt rs).length = rs.length
  | [], _ => rfl
  | r :: rs, h => by
    rw [txt_len_cons, enc_small r (h r List.mem_cons_self), txt_small rs (fun x hx => h x (List.mem_cons_of_mem _ hx)), List.length_cons]
    simp only [List.length_cons, List.length_nil]
    omega
def numR (rs : List Nat) : Int × Bool := if rs = [] ∨ 19 < rs.length ∨ (1 < rs.length ∧ rs.head? = some 48) then (0, false) else told (digitsR rs 0)
theorem num_is (rs : List Nat) (h : ∀ r ∈ rs, okR r) : numZ (str rs) = numR rs := by
  unfold numZ numR
  have hd : numFrom (str rs) (str rs).size 0 0 = digitsR rs 0 := digits_str rs [] _ 0 h (by rw [str_size]; exact Nat.le_refl _)
  rw [hd]
  cases ho : digitsR rs 0 with
  | none =>
    rw [show told none = ((0 : Int), false) from rfl]
    split <;> split <;> rfl
  | some n =>
    have ha := digits_all rs 0 (by rw [ho]; rfl)
    have hsz : (str rs).size = rs.length := by rw [str_size, txt_small rs (fun r hr => by have := ha r hr; omega)]
    have e : ((str rs).size = 0 ∨ 19 < (str rs).size ∨ 1 < (str rs).size ∧ bAt (str rs) 0 = 48) ↔ (rs = [] ∨ 19 < rs.length ∨ (1 < rs.length ∧ rs.head? = some 48)) := by
      rw [hsz, List.length_eq_zero_iff]
      cases rs with
      | nil => simp
      | cons r t =>
        have := ha r List.mem_cons_self
        rw [first_small r t (by omega)]
        simp
    simp only [e]
/-- A token as runes: its kind, text, number. -/
abbrev TokR := Int × List Nat × Int
def noTokR : TokR := (0, [], 0)
def textR (t : List Nat) : TokR × Nat × Int :=
  if 34 ∈ t.takeWhile (fun r => decide (r ≠ 10)) then
    (if ((t.takeWhile fun r => decide (r ≠ 10)).takeWhile fun r => decide (r ≠ 34)).any (fun r => decide (r < 32)) = true then (noTokR, 0, 11)
     else if 20 < ((t.takeWhile fun r => decide (r ≠ 10)).takeWhile fun r => decide (r ≠ 34)).length then (noTokR, 0, 2)
     else ((3, (t.takeWhile fun r => decide (r ≠ 10)).takeWhile (fun r => decide (r ≠ 34)), 0), ((t.takeWhile fun r => decide (r ≠ 10)).takeWhile fun r => decide (r ≠ 34)).length + 2, 0))
  else (noTokR, 0, 11)
def two (r : Nat) (t : List Nat) : Bool := (t.head? == some 61) && (r == 60 || r == 62 || r == 61 || r == 33 || r == 58)
def signR (r : Nat) (t : List Nat) : Nat := if two r t = true then 2 else 1
def tokR : List Nat → TokR × Nat × Int
  | [] => (noTokR, 0, 11)
  | r :: t =>
    if classZ r = 2 then (if 12 < ((r :: t).takeWhile isW).length then (noTokR, 0, 2) else ((1, (r :: t).takeWhile isW, 0), ((r :: t).takeWhile isW).length, 0))
    else if classZ r = 3 then (if (numR ((r :: t).takeWhile isW)).2 = true then ((2, (r :: t).takeWhile isW, (numR ((r :: t).takeWhile isW)).1), ((r :: t).takeWhile isW).length, 0) else (noTokR, 0, 11))
    else if classZ r = 5 then textR t
    else if classZ r = 4 then ((4, (r :: t).take (signR r t), 0), signR r t, 0)
    else (noTokR, 0, 11)
def tokZ (x : TokR) : Tok := (x.1, str x.2.1, x.2.2, 0)
theorem str_nil : str [] = ⟨#[]⟩ := rfl
theorem line_is (t : List Nat) (q : Nat) (hq : q < 128) : lineOf (str (q :: t)) = str (t.takeWhile fun r => decide (r ≠ 10)) := by
  have e := extract_back [q] t
  rw [show (txt [q]).length = 1 by rw [txt_len_cons, enc_small q hq]; rfl, List.singleton_append] at e
  unfold lineOf
  rw [e, str_list, show (10 : UInt8) = UInt8.ofNat 10 from rfl, (cut_txt 10 (by omega) t).1]
  rfl
theorem inside_is (t : List Nat) (q : Nat) (hq : q < 128) : insideOf (str (q :: t)) = str ((t.takeWhile fun r => decide (r ≠ 10)).takeWhile fun r => decide (r ≠ 34)) := by
  unfold insideOf
  rw [line_is t q hq, str_list, show (34 : UInt8) = UInt8.ofNat 34 from rfl, (cut_txt 34 (by omega) _).1]
  rfl
theorem closed_is (t : List Nat) (q : Nat) (hq : q < 128) : closed (str (q :: t)) = decide (34 ∈ t.takeWhile fun r => decide (r ≠ 10)) := by
  unfold closed
  rw [line_is t q hq, str_list, show (34 : UInt8) = UInt8.ofNat 34 from rfl, (cut_txt 34 (by omega) _).2]
theorem takeWhile_sub {α : Type} (p : α → Bool) (l : List α) : ∀ x ∈ l.takeWhile p, x ∈ l := fun x hx => List.takeWhile_sublist _ |>.subset hx
theorem take_takeWhile {α : Type} (p : α → Bool) (l : List α) : l.take (l.takeWhile p).length = l.takeWhile p := by
  conv => lhs; arg 2; rw [take_drop_while p l]
  rw [List.take_left]
/-- Behind the part up to a mark that is there stands the mark. -/
theorem takeWhile_mark (c : Nat) : ∀ l : List Nat, c ∈ l → ∃ u, l = (l.takeWhile fun r => decide (r ≠ c)) ++ c :: u
  | [], h => by simp at h
  | x :: l, h => by
    rw [List.takeWhile_cons]
    by_cases hx : x = c
    · subst hx
      exact ⟨l, by simp⟩
    · rw [if_pos (by simpa using hx)]
      obtain ⟨u, hu⟩ := takeWhile_mark c l (by rcases List.mem_cons.1 h with e | e; exact absurd e.symm hx; exact e)
      exact ⟨u, by rw [List.cons_append, ← hu]⟩
theorem text_is (t : List Nat) (h : ∀ r ∈ t, okR r) : textZ (str (34 :: t)) = (tokZ (textR t).1, ((txt ((34 :: t).take (textR t).2.1)).length : Int), (textR t).2.2) := by
  unfold textZ textR
  rw [closed_is t 34 (by omega), inside_is t 34 (by omega)]
  by_cases h1 : 34 ∈ t.takeWhile (fun r => decide (r ≠ 10))
  · rw [if_neg (by simpa using h1), if_pos h1, low_is _ (fun r hr => h r (takeWhile_sub _ _ _ (takeWhile_sub _ _ _ hr))), count_is _ (fun r hr => h r (takeWhile_sub _ _ _ (takeWhile_sub _ _ _ hr)))]
    obtain ⟨u, hu⟩ := takeWhile_mark 34 _ h1
    have hpre := take_drop_while (fun r => decide (r ≠ 10)) t
    generalize t.dropWhile (fun r => decide (r ≠ 10)) = v at *
    generalize t.takeWhile (fun r => decide (r ≠ 10)) = line at *
    generalize line.takeWhile (fun r => decide (r ≠ 34)) = ins at *
    by_cases h2 : ins.any (fun r => decide (r < 32)) = true
    · rw [if_pos h2, if_pos h2]; rfl
    · rw [if_neg h2, if_neg h2]
      by_cases h3 : 20 < ins.length
      · rw [if_pos h3, if_pos h3]; rfl
      · rw [if_neg h3, if_neg h3]
        simp only [tokZ, Prod.mk.injEq, true_and, and_true]
        rw [List.take_succ_cons, hpre, hu, List.append_assoc, List.take_append, List.take_of_length_le (by omega), show ins.length + 1 - ins.length = 1 by omega]
        simp only [List.cons_append, List.take_succ_cons, List.take_zero]
        rw [txt_len_cons, txt_len_append, txt_len_cons, txt_nil, enc_small 34 (by omega), str_size]
        simp only [List.length_singleton, List.length_nil]
        omega
  · rw [if_pos (by simpa using h1), if_neg h1]
    rfl
theorem two_signs (r : Nat) (h : r < 128) : (0 ≤ indexByte twoSigns (UInt8.ofNat r)) ↔ (r = 60 ∨ r = 62 ∨ r = 61 ∨ r = 33 ∨ r = 58) := by
  have : ∀ x : Fin 128, (0 ≤ indexByte twoSigns (UInt8.ofNat x.val)) ↔ (x.val = 60 ∨ x.val = 62 ∨ x.val = 61 ∨ x.val = 33 ∨ x.val = 58) := by decide +kernel
  exact this ⟨r, h⟩
theorem second_byte (r : Nat) (hr : r < 128) (x : Nat) (t : List Nat) : bAt (str (r :: x :: t)) 1 = ((enc x).getD 0 0).toNat := by
  have hl := (enc_len x).1
  have hp : 1 < (str (r :: x :: t)).data.size := by
    show 1 < (str (r :: x :: t)).size
    rw [str_size, txt_len_cons, txt_len_cons, enc_small r hr, List.length_singleton]
    omega
  unfold bAt
  simp only [ByteArray.get!]
  rw [getElem!_pos _ 1 hp]
  have e : (str (r :: x :: t)).data[1] = (enc x).getD 0 0 := by
    have e1 : (str (r :: x :: t)).data.toList[1]? = some (str (r :: x :: t)).data[1] := by rw [Array.getElem?_toList, Array.getElem?_eq_getElem hp]
    rw [str_list, txt_cons, enc_small r hr, List.singleton_append, List.getElem?_cons_succ, txt_cons, List.getElem?_append_left (by omega)] at e1
    rw [List.getD_eq_getElem?_getD, e1]
    rfl
  rw [e]
theorem second_is (r : Nat) (hr : r < 128) (x : Nat) (t : List Nat) : bAt (str (r :: x :: t)) 1 = 61 ↔ x = 61 := by
  rw [second_byte r hr x t]
  have hl := (enc_len x).1
  constructor
  · intro e
    by_cases hx : x < 128
    · rw [enc_small x hx] at e
      have e2 : (UInt8.ofNat x).toNat = 61 := e
      simp at e2
      omega
    · have := enc_high x (by omega) ((enc x).getD 0 0) (by rw [List.getD_eq_getElem?_getD, List.getElem?_eq_getElem (by omega)]; exact List.getElem_mem _)
      omega
  · rintro rfl
    rw [enc_small 61 (by omega)]
    rfl
theorem sign_is (r : Nat) (t : List Nat) (hr : r < 128) (h : ∀ x ∈ r :: t, okR x) : signN (str (r :: t)) = (txt ((r :: t).take (signR r t))).length ∧ (r :: t).take (signR r t) = (r :: t).take (signR r t) := by
  refine ⟨?_, rfl⟩
  have hd : Utf8.decode (str (r :: t)) 0 = (r, (enc r).length) := decode_str [] r t (h r List.mem_cons_self)
  have hg : (str (r :: t)).get! 0 = UInt8.ofNat r := by
    have := bAt_zero (str (r :: t)) (by rw [str_size, txt_len_cons]; have := (enc_len r).1; omega)
    rw [str_list, txt_cons, enc_small r hr, List.singleton_append, List.getElem?_cons_zero] at this
    exact (Option.some.inj this).symm
  unfold signN signR two
  rw [hd, hg]
  simp only [two_signs r hr]
  cases t with
  | nil =>
    have hs : ¬ 1 < (str [r]).size := by rw [str_size, txt_len_cons, enc_small r hr]; simp [txt]
    rw [if_neg (by omega), if_neg (by simp)]
    simp [txt_len_cons, txt_nil]
  | cons x t =>
    have hs : 1 < (str (r :: x :: t)).size := by rw [str_size, txt_len_cons, txt_len_cons, enc_small r hr, List.length_singleton]; have := (enc_len x).1; omega
    simp only [second_is r hr x t]
    by_cases hx : x = 61
    · subst hx
      by_cases h5 : r = 60 ∨ r = 62 ∨ r = 61 ∨ r = 33 ∨ r = 58
      · rw [if_pos ⟨hs, rfl, h5⟩, if_pos (by rcases h5 with rfl | rfl | rfl | rfl | rfl <;> rfl)]
        simp only [List.take_succ_cons, List.take_zero]
        rw [txt_len_cons, txt_len_cons, txt_nil, enc_small r hr, enc_small 61 (by omega)]
        rfl
      · have hb : ((r == 60 || r == 62 || r == 61 || r == 33 || r == 58) = false) := by simp; omega
        rw [if_neg (fun hh => h5 hh.2.2), if_neg (by rw [hb, Bool.and_false]; simp)]
        simp [txt_len_cons, txt_nil]
    · rw [if_neg (fun hh => hx hh.2.1), if_neg (by simp [hx])]
      simp [txt_len_cons, txt_nil]
theorem token_is (rs : List Nat) (hne : rs ≠ []) (h : ∀ r ∈ rs, okR r) : tokenZ (str rs) = (tokZ (tokR rs).1, ((txt (rs.take (tokR rs).2.1)).length : Int), (tokR rs).2.2) := by
  cases rs with
  | nil => exact absurd rfl hne
  | cons r t =>
    have hd : Utf8.decode (str (r :: t)) 0 = (r, (enc r).length) := decode_str [] r t (h r List.mem_cons_self)
    have hw := word_is (r :: t) h
    have hsplit := take_drop_while (fun r : Nat => wordyZ r) (r :: t)
    have hfront := extract_front ((r :: t).takeWhile fun r : Nat => wordyZ r) ((r :: t).dropWhile fun r : Nat => wordyZ r)
    rw [← hsplit] at hfront
    have hok : ∀ x ∈ (r :: t).takeWhile (fun r : Nat => wordyZ r), okR x := fun x hx => h x (takeWhile_sub _ _ _ hx)
    have htk := take_takeWhile (fun r : Nat => wordyZ r) (r :: t)
    unfold tokenZ tokR
    rw [hd, hw, hfront, count_is _ hok, num_is _ hok]
    simp only
    show _ = _
    generalize hgw : (r :: t).takeWhile (fun r : Nat => wordyZ r) = W at *
    by_cases c2 : classZ r = 2
    · rw [if_pos c2, if_pos c2]
      by_cases c : 12 < W.length
      · rw [if_pos c, if_pos c]; rfl
      · rw [if_neg c, if_neg c]
        simp only [tokZ, htk]
    · rw [if_neg c2, if_neg c2]
      by_cases c3 : classZ r = 3
      · rw [if_pos c3, if_pos c3]
        by_cases c : (numR W).2 = true
        · rw [if_pos c, if_pos c]
          simp only [tokZ, htk]
        · rw [if_neg c, if_neg c]; rfl
      · rw [if_neg c3, if_neg c3]
        by_cases c5 : classZ r = 5
        · rw [if_pos c5, if_pos c5]
          have : r = 34 := by have := class_five c5; omega
          subst this
          exact text_is t (fun x hx => h x (List.mem_cons_of_mem _ hx))
        · rw [if_neg c5, if_neg c5]
          by_cases c4 : classZ r = 4
          · rw [if_pos c4, if_pos c4]
            have hr : r < 128 := by have := signs_small _ (class_four c4); omega
            have hs := (sign_is r t hr h).1
            have hf := extract_front ((r :: t).take (signR r t)) ((r :: t).drop (signR r t))
            rw [List.take_append_drop] at hf
            rw [hs, hf]
            rfl
          · rw [if_neg c4, if_neg c4]; rfl
/-- The tokens from a place on: at which rune that is, how many there are ahead. -/
def lexR : Nat → List Nat → Nat → Nat → List (TokR × Nat) × Int × Int
  | 0, _, _, _ => ([], 0, 0)
  | f + 1, rs, n, k =>
    if rs.drop (blanksN false rs) = [] then ([(noTokR, n + blanksN false rs)], 0, 0)
    else if k = 2000 then ([], 2, ((n + blanksN false rs : Nat) : Int))
    else if (tokR (rs.drop (blanksN false rs))).2.2 ≠ 0 then ([], (tokR (rs.drop (blanksN false rs))).2.2, ((n + blanksN false rs : Nat) : Int))
    else if (lexR f ((rs.drop (blanksN false rs)).drop (tokR (rs.drop (blanksN false rs))).2.1) (n + blanksN false rs + (tokR (rs.drop (blanksN false rs))).2.1) (k + 1)).2.1 ≠ 0 then
      ([], (lexR f ((rs.drop (blanksN false rs)).drop (tokR (rs.drop (blanksN false rs))).2.1) (n + blanksN false rs + (tokR (rs.drop (blanksN false rs))).2.1) (k + 1)).2)
    else (((tokR (rs.drop (blanksN false rs))).1, n + blanksN false rs) :: (lexR f ((rs.drop (blanksN false rs)).drop (tokR (rs.drop (blanksN false rs))).2.1) (n + blanksN false rs + (tokR (rs.drop (blanksN false rs))).2.1) (k + 1)).1, 0, 0)
def tokAt (x : TokR × Nat) : Tok := (x.1.1, str x.1.2.1, x.1.2.2, (x.2 : Int))
end Go.Proofs.YtlikjknakplamaaDoor
/-! ### ELx5 -/
namespace Go.Proofs.YtlikjknakplamaaDoor.Print
open Go.RowKit Go.Proofs.YtlikjknakplamaaDoorW.PrintWords Go.Proofs.YtlikjknakplamaaDoorW.PrintLast Go.Proofs.YtlikjknakplamaaDoorW.PrintMore
set_option linter.unusedSimpArgs false
set_option linter.unusedVariables false
theorem decode_end (s : ByteArray) (p : Nat) (h : p < s.size) : p + (Utf8.decode s p).2 ≤ s.size := by
  rw [Lib.decode_at]
  unfold Lib.decodeN
  repeat' split
  all_goals (simp only; omega)
theorem decode_cut (s : ByteArray) (p : Nat) (h : p < s.size) : Lib.decodeGo (s.extract p s.size) = Utf8.decode s p := by
  have h1 : (s.extract p s.size).size ≠ 0 := by rw [ByteArray.size_extract]; omega
  unfold Lib.decodeGo
  rw [if_neg h1, ← Lib.decodeL_drop s p]
  unfold Lib.decodeL
  congr 1
  have e : (s.extract p s.size).data.toList = s.data.toList.drop p := by
    rw [ByteArray.data_extract, Array.toList_extract, List.extract_eq_take_drop, List.take_of_length_le]
    rw [List.length_drop, Array.length_toList]
    exact Nat.le_refl _
  cases hx : s.extract p s.size with | mk d =>
  rw [hx] at e
  rw [← e]
theorem dec_any (s : ByteArray) (w : World) (hT : Tabs w) (h : 0 < s.size) :
    Calls Tryd.prog 41 #[.string s] w fun e w' => e = .returned (.tuple #[.int .i32 (Utf8.decode s 0).1, .int .i64 (Utf8.decode s 0).2]) ∧ Below w.heap.size w w' := by
  have e : Lib.decodeGo s = Utf8.decode s 0 := by unfold Lib.decodeGo; rw [if_neg (by omega)]
  have := Tryd.utf8_DecodeRuneInString s w hT.u8
  rw [e] at this
  exact this
theorem dec_cut_any (s : ByteArray) (p : Nat) (w : World) (hT : Tabs w) (h : p < s.size) :
    Calls Tryd.prog 41 #[.string (s.extract p s.size)] w fun e w' => e = .returned (.tuple #[.int .i32 (Utf8.decode s p).1, .int .i64 (Utf8.decode s p).2]) ∧ Below w.heap.size w w' := by
  have := Tryd.utf8_DecodeRuneInString (s.extract p s.size) w hT.u8
  rw [decode_cut s p h] at this
  exact this
set_option maxHeartbeats 2000000 in
set_option maxRecDepth 100000 in
theorem bad_any (a0 : ByteArray) (w : World) (hs : a0.size ≤ 1000000000) (hT : Tabs w) :
    Calls Tryd.prog 28 #[.string a0] w fun e w' => e = .returned (.int .i64 (badZ a0)) ∧ Below w.heap.size w w' := by
  obtain ⟨V, hV⟩ : ∃ V, V = badZ a0 := ⟨_, rfl⟩
  rw [← hV]
  have HV := Lib.hid (show V = badFrom a0 a0.size 0 0 from hV)
  have HT := Lib.hid hT
  clear hV hT
  go_enter Tryd.func28, Tryd.ntmps28
  go_wp2
  obtain ⟨g, hg⟩ : ∃ g, g = w.heap.size := ⟨_, rfl⟩
  have HI := Lib.hid (show (w.iter a0 0).heap[g]? = some (.stringIter a0 0) by rw [hg]; exact World.iter_heap w a0 0)
  have HB := Lib.hid (show Below w.heap.size w (w.iter a0 0) from (Below.refl _ _).alloc (Nat.le_refl _) _)
  rw [← hg]
  have HG := Lib.hid (show w.heap.size ≤ g by omega)
  clear hg
  generalize w.iter a0 0 = w1 at *
  go_loopw [3, 4, 5, 6, 7] (fun n _ _ _ _ wr => ∃ (pos b m : Nat), n = .int .i64 m ∧ Hid (m ≤ pos) ∧ Hid (pos ≤ a0.size) ∧ Hid (wr.heap[g]? = some (.stringIter a0 pos)) ∧ Hid (Below w.heap.size w wr) ∧ Hid (V = badFrom a0 b pos m) ∧ a0.size ≤ pos + b) (fun _ _ _ _ _ wr => a0.size - wr.iterPos g)
  case atStart => exact ⟨0, a0.size, 0, rfl, Lib.hid (by omega), Lib.hid (by omega), HI, HB, HV, by omega⟩
  case round =>
    obtain ⟨pos, b, m, rfl, hm, hpa, hi, hb, hw, hle⟩ := hrel
    clear HI HB HV
    by_cases hp : pos < a0.size
    · have hnx : ∀ ty, (Instr.next (.pointer (some ⟨g, 0, none⟩)) true ty).run Tryd.prog wr = _ := fun ty => Lib.run_next_any_at wr g a0 pos ty hi.out hp
      have hwd := Lib.decode_width_pos a0 pos hp
      have hwm := Lib.hid (decode_end a0 pos hp)
      have hdl := decode_le a0 pos
      obtain ⟨b', rfl⟩ : ∃ b', b = b' + 1 := ⟨b - 1, by omega⟩
      have hw' := hw.out
      rw [badFrom, if_pos hp] at hw'
      have hmb : (m : Int) ≤ 1000000000 := by have := hm.out; omega
      have hps : (pos : Int) ≤ a0.size := by omega
      have hps0 : (0 : Int) ≤ pos := by omega
      have HI2 := Lib.hid (iterAt_heap wr g a0 (pos + (Utf8.decode a0 pos).2) _ hi.out)
      have HB2 := Lib.hid (iterAt_below g a0 (pos + (Utf8.decode a0 pos).2) hb.out HG.out)
      have HP := Lib.hid (show wr.iterPos g = pos by unfold World.iterPos; rw [hi.out])
      have HD := Lib.hid (fun W (hW : Tabs W) => dec_cut_any a0 pos W hW hp)
      clear hw hi hb
      generalize wr.iterAt g a0 (pos + (Utf8.decode a0 pos).2) = w2 at *
      generalize (Utf8.decode a0 pos).2 = d2 at *
      generalize (Utf8.decode a0 pos).1 = d1 at *
      by_cases h1 : d1 = 65533
      · subst h1
        by_cases h2 : d2 = 1
        · subst h2
          rw [if_pos ⟨rfl, rfl⟩] at hw'
          have HW := Lib.hid hw'
          clear hw'
          go_wp2_with (go_at_call 41; refine (HD.out _ (HT.out.below HB2.out)).mono ?_; rintro e w3 ⟨rfl, hb3⟩; have HB3 := Lib.hid (below_then HB2.out HB2.out.size hb3); clear hb3)
          go_ret
          exact ⟨by rw [HW.out]; rfl, HB3.out⟩
        · have h2' : ((d2 : Int) == 1) = false := by rw [beq_eq_false_iff_ne]; omega
          rw [if_neg (fun h => h2 h.2)] at hw'
          have HW := Lib.hid hw'
          clear hw'
          go_wp2_with (go_at_call 41; refine (HD.out _ (HT.out.below HB2.out)).mono ?_; rintro e w3 ⟨rfl, hb3⟩; have HB3 := Lib.hid (below_then HB2.out HB2.out.size hb3); have HI3 := Lib.hid hb3; clear hb3)
          go_roundw
          case rel => exact ⟨pos + d2, b', m + 1, by congr 1, Lib.hid (by have := hm.out; omega), Lib.hid (by have := hwm.out; omega), Lib.hid ((HI3.out.block g (heap_lt HI2.out)).trans HI2.out), HB3, HW, by omega⟩
          case measure =>
            have e1 : w3.iterPos g = pos + d2 := by unfold World.iterPos; rw [(HI3.out.block g (heap_lt HI2.out)).trans HI2.out]
            rw [e1, HP.out]; omega
      · have h1' : ((d1 : Int) == 65533) = false := by rw [beq_eq_false_iff_ne]; omega
        rw [if_neg (fun h => h1 h.1)] at hw'
        have HW := Lib.hid hw'
        clear hw'
        go_wp2
        go_roundw
        case rel => exact ⟨pos + d2, b', m + 1, by congr 1, Lib.hid (by have := hm.out; omega), Lib.hid (by have := hwm.out; omega), HI2, HB2, HW, by omega⟩
        case measure =>
          have e1 : w2.iterPos g = pos + d2 := by unfold World.iterPos; rw [HI2.out]
          rw [e1, HP.out]; omega
    · have hnx : ∀ ty, (Instr.next (.pointer (some ⟨g, 0, none⟩)) true ty).run Tryd.prog wr = _ := fun ty => Lib.run_next_end_at wr g a0 pos ty hi.out hp
      have hwe := hw.out
      rw [badFrom_end a0 b pos m hp] at hwe
      have HW := Lib.hid hwe
      clear hw hwe
      go_wp2
      go_ret
      exact ⟨by rw [HW.out]; rfl, hb.out⟩
end Go.Proofs.YtlikjknakplamaaDoor.Print
/-! ### ELx6 -/
namespace Go.Proofs.YtlikjknakplamaaDoor.Print
open Go.RowKit Go.Proofs.YtlikjknakplamaaDoorW.PrintWords Go.Proofs.YtlikjknakplamaaDoorW.PrintLast Go.Proofs.YtlikjknakplamaaDoorW.PrintMore
set_option linter.unusedSimpArgs false
set_option linter.unusedVariables false
theorem get0_val (s : ByteArray) (h : 0 < s.size) : (s[0]'h) = s.get! 0 := by
  have := get_at s 0 h
  rw [Nat.add_zero] at this
  exact this.symm
set_option maxHeartbeats 4000000 in
set_option maxRecDepth 100000 in
theorem token_any (gc : Nat) (x : ByteArray) (at' : Int) (o : Value) (w : World) (hgc : CutAt w gc x at' o) (hx : 1 ≤ x.size) (hs : x.size ≤ 1000000000) (hT : Tabs w) :
    Calls Tryd.prog 30 #[.pointer (some ⟨gc, 0, none⟩)] w fun e w' => e = .returned (.tuple #[tokV (tokenZ x).1, .int .i64 (tokenZ x).2.1, .int .i64 (tokenZ x).2.2]) ∧ Only [] w w' := by
  obtain ⟨V, hV⟩ : ∃ V, V = tokenZ x := ⟨_, rfl⟩
  rw [← hV]
  unfold tokenZ at hV
  have HSG := Lib.hid (show signN x = if 1 < x.size ∧ bAt x 1 = 61 ∧ 0 ≤ Lib.indexByte twoSigns (x.get! 0) then 2 else (Utf8.decode x 0).2 from rfl)
  have hD := fun W (hW : Tabs W) => dec_any x W hW (by omega)
  have hC := fun W => lex_class_any ((Utf8.decode x 0).1 : Int) (by omega) (by have := decode_le x 0; omega) W
  have hWd := fun W (hW : CutAt W gc x at' o) => word_any gc x at' o W hW
  have hle := wordEnd_le x x.size 0
  have hd1 := Lib.decode_width_pos x 0 (by omega)
  have hd2 := decode_end x 0 (by omega)
  rw [Nat.zero_add] at hd2
  have HTX := Lib.hid (fun W (hW : CutAt W gc x at' o) (hT : Tabs W) => text_any gc x at' o W hW hx hs hT)
  generalize (Utf8.decode x 0).1 = r at *
  generalize (Utf8.decode x 0).2 = d at *
  generalize wordEnd x x.size 0 = n at *
  generalize textZ x = tz at *
  have HCT := Lib.hid (fun W => utf8_RuneCountInString.calls (x.extract 0 n) (Lib.runeCount (x.extract 0 n)) W (by unfold utf8_RuneCountInString.f; rw [if_pos (by rw [ByteArray.size_extract]; omega)]))
  have HNU := Lib.hid (fun W => number_any (x.extract 0 n) W)
  generalize Lib.runeCount (x.extract 0 n) = rc at *
  generalize numZ (x.extract 0 n) = nz at *
  generalize signN x = sn at *
  generalize classZ (r : Int) = c at *
  have HV := Lib.hid hV
  have HD := Lib.hid hD
  have HC := Lib.hid hC
  have HWD := Lib.hid hWd
  have HTB := Lib.hid hT
  have hu2 := Tryd.underlying47
  have hu3 := Tryd.underlying38
  have hx' : (1 : Int) ≤ x.size := by omega
  have hn0 : (0 : Int) ≤ n := by omega
  have hn1 : (n : Int) ≤ x.size := by omega
  have hdn0 : (0 : Int) ≤ d := by omega
  have hdn1 : (d : Int) ≤ x.size := by omega
  have HA := Lib.hid (show Only [] w (w.alloc (.cells #[.int .i64 0, .string ⟨#[]⟩, .int .i64 0, .int .i64 0] 38)) from (Only.refl _ _).alloc _)
  have HR := Lib.hid (heap_alloc_new w (.cells #[.int .i64 0, .string ⟨#[]⟩, .int .i64 0, .int .i64 0] 38))
  have c0 : (w.alloc (.cells #[.int .i64 0, .string ⟨#[]⟩, .int .i64 0, .int .i64 0] 38)).cell? ⟨gc, 0, none⟩ = some (.string x) := (cell_of_row _ gc 0 _ _ _ (HA.out.heap hgc (by simp))).trans rfl
  have HGC := Lib.hid hgc
  clear hV hD hC hWd hT hgc hle hd1 hd2
  go_enter Tryd.func30, Tryd.ntmps30
  go_wp2_with (first
    | (go_at_call 41; refine (HD.out _ (HTB.out.below HA.out.nil_below)).mono ?_; rintro e w1 ⟨rfl, hb1⟩; have HB1 := Lib.hid (HA.out.trans (Only.of_below hb1)); have HR1 := Lib.hid ((Only.of_below hb1).heap HR.out (by simp)); clear hb1)
    | (go_at_call 16; refine (HC.out _).mono ?_; rintro e w2 ⟨rfl, ⟨n2, rfl⟩⟩; refine (fun (h : Hid _) => h.out) ?_))
  refine Lib.hid ?_
  have HB := Lib.hid (show Only [] w (w1.drewN n2) from HB1.out.drewN n2)
  have HRW := Lib.hid (show (w1.drewN n2).heap[w.heap.size]? = some (.cells #[.int .i64 0, .string ⟨#[]⟩, .int .i64 0, .int .i64 0] 38 (0, 0)) from HR1.out)
  clear HB1 HR1 HA HR c0 HD HC
  generalize w1.drewN n2 = w2 at *
  have c0 : w2.cell? ⟨gc, 0, none⟩ = some (.string x) := (cell_of_row _ gc 0 _ _ _ (HB.out.heap HGC.out (by simp))).trans rfl
  by_cases h2 : c = 2
  · have hv := HV.out
    rw [if_pos h2] at hv
    have HV2 := Lib.hid hv
    subst h2
    clear hv HV
    go_wp2_with (first
      | (go_at_call 42; refine (HWD.out _ (HB.out.heap HGC.out (by simp))).mono ?_; rintro e w3 ⟨rfl, ho3⟩; have HB3 := Lib.hid (HB.out.trans ho3); have HR3 := Lib.hid (ho3.heap HRW.out (by simp)); have c3 : w3.cell? ⟨gc, 0, none⟩ = some (.string x) := (cell_of_row _ gc 0 _ _ _ (HB3.out.heap HGC.out (by simp))).trans rfl; clear ho3)
      | (go_at_call 38; refine (HCT.out _).mono ?_; rintro e w4 ⟨rfl, hb4⟩; have HB4 := Lib.hid (HB3.out.trans (Only.of_below hb4)); have HR4 := Lib.hid ((Only.of_below hb4).heap HR3.out (by simp)); have c4 : w4.cell? ⟨gc, 0, none⟩ = some (.string x) := (cell_of_row _ gc 0 _ _ _ (HB4.out.heap HGC.out (by simp))).trans rfl; clear hb4; refine (fun (h : Hid _) => h.out) ?_))
    refine Lib.hid ?_
    have y0 : w4.cell? ⟨w.heap.size, 0, none⟩ = some (.int .i64 0) := (cell_of_row w4 _ 0 _ _ _ HR4.out).trans rfl
    have y1 : w4.cell? ⟨w.heap.size, 1, none⟩ = some (.string ⟨#[]⟩) := (cell_of_row w4 _ 1 _ _ _ HR4.out).trans rfl
    have y2 : w4.cell? ⟨w.heap.size, 2, none⟩ = some (.int .i64 0) := (cell_of_row w4 _ 2 _ _ _ HR4.out).trans rfl
    have y3 : w4.cell? ⟨w.heap.size, 3, none⟩ = some (.int .i64 0) := (cell_of_row w4 _ 3 _ _ _ HR4.out).trans rfl
    have z0 : w4.frozen? ⟨w.heap.size, 0, none⟩ = false := frozen_of_row w4 _ 0 _ _ HR4.out
    have z1 : w4.frozen? ⟨w.heap.size, 1, none⟩ = false := frozen_of_row w4 _ 1 _ _ HR4.out
    have z2 : w4.frozen? ⟨w.heap.size, 2, none⟩ = false := frozen_of_row w4 _ 2 _ _ HR4.out
    have z3 : w4.frozen? ⟨w.heap.size, 3, none⟩ = false := frozen_of_row w4 _ 3 _ _ HR4.out
    by_cases h12 : 12 < rc
    · have h12' : (12 : Int) < rc := by omega
      go_wp2
      have hr := tok_store w4 w.heap.size _ _ _ _ (.int .i64 0) (.string ⟨#[]⟩) (.int .i64 0) (.int .i64 0) HR4.out
      have k0 := cell_of_row _ _ 0 _ _ _ hr
      have k1 := cell_of_row _ _ 1 _ _ _ hr
      have k2 := cell_of_row _ _ 2 _ _ _ hr
      have k3 := cell_of_row _ _ 3 _ _ _ hr
      simp only [List.getElem?_toArray, List.getElem?_cons_zero, List.getElem?_cons_succ] at k0 k1 k2 k3
      refine bodyPost_ret (v := .tuple #[.agg #[.int .i64 0, .string ⟨#[]⟩, .int .i64 0, .int .i64 0], .int .i64 0, .int .i64 2]) (by simp [results, Tryd.results30, go_sem, k0, k1, k2, k3]) rfl ⟨?_, tok_only _ _ _ _ _ HB4.out (Nat.le_refl _)⟩
      rw [HV2.out, if_pos h12]; rfl
    · have h12' : (rc : Int) ≤ 12 := by omega
      go_wp2
      have hr := tok_store w4 w.heap.size _ _ _ _ (.int .i64 1) (.string (x.extract 0 n)) (.int .i64 0) (.int .i64 0) HR4.out
      have k0 := cell_of_row _ _ 0 _ _ _ hr
      have k1 := cell_of_row _ _ 1 _ _ _ hr
      have k2 := cell_of_row _ _ 2 _ _ _ hr
      have k3 := cell_of_row _ _ 3 _ _ _ hr
      simp only [List.getElem?_toArray, List.getElem?_cons_zero, List.getElem?_cons_succ] at k0 k1 k2 k3
      refine bodyPost_ret (v := .tuple #[.agg #[.int .i64 1, .string (x.extract 0 n), .int .i64 0, .int .i64 0], .int .i64 n, .int .i64 0]) (by simp [results, Tryd.results30, go_sem, k0, k1, k2, k3]) rfl ⟨?_, tok_only _ _ _ _ _ HB4.out (Nat.le_refl _)⟩
      rw [HV2.out, if_neg h12]
  · have h2b : (c == 2) = false := by simpa using h2
    have hv := HV.out
    rw [if_neg h2] at hv
    by_cases h3 : c = 3
    · rw [if_pos h3] at hv
      have HV2 := Lib.hid hv
      subst h3
      clear hv HV
      obtain ⟨nv, nb⟩ := nz
      go_wp2_with (first
        | (go_at_call 42; refine (HWD.out _ (HB.out.heap HGC.out (by simp))).mono ?_; rintro e w3 ⟨rfl, ho3⟩; have HB3 := Lib.hid (HB.out.trans ho3); have HR3 := Lib.hid (ho3.heap HRW.out (by simp)); have c3 : w3.cell? ⟨gc, 0, none⟩ = some (.string x) := (cell_of_row _ gc 0 _ _ _ (HB3.out.heap HGC.out (by simp))).trans rfl; clear ho3)
        | (go_at_call 18; refine (HNU.out _).mono ?_; rintro e w4 ⟨rfl, hb4⟩; have HB4 := Lib.hid (HB3.out.trans (Only.of_below hb4)); have HR4 := Lib.hid ((Only.of_below hb4).heap HR3.out (by simp)); have c4 : w4.cell? ⟨gc, 0, none⟩ = some (.string x) := (cell_of_row _ gc 0 _ _ _ (HB4.out.heap HGC.out (by simp))).trans rfl; clear hb4; refine (fun (h : Hid _) => h.out) ?_))
      refine Lib.hid ?_
      have y0 : w4.cell? ⟨w.heap.size, 0, none⟩ = some (.int .i64 0) := (cell_of_row w4 _ 0 _ _ _ HR4.out).trans rfl
      have y1 : w4.cell? ⟨w.heap.size, 1, none⟩ = some (.string ⟨#[]⟩) := (cell_of_row w4 _ 1 _ _ _ HR4.out).trans rfl
      have y2 : w4.cell? ⟨w.heap.size, 2, none⟩ = some (.int .i64 0) := (cell_of_row w4 _ 2 _ _ _ HR4.out).trans rfl
      have y3 : w4.cell? ⟨w.heap.size, 3, none⟩ = some (.int .i64 0) := (cell_of_row w4 _ 3 _ _ _ HR4.out).trans rfl
      have z0 : w4.frozen? ⟨w.heap.size, 0, none⟩ = false := frozen_of_row w4 _ 0 _ _ HR4.out
      have z1 : w4.frozen? ⟨w.heap.size, 1, none⟩ = false := frozen_of_row w4 _ 1 _ _ HR4.out
      have z2 : w4.frozen? ⟨w.heap.size, 2, none⟩ = false := frozen_of_row w4 _ 2 _ _ HR4.out
      have z3 : w4.frozen? ⟨w.heap.size, 3, none⟩ = false := frozen_of_row w4 _ 3 _ _ HR4.out
      cases nb with
      | false =>
        go_wp2
        have hr := tok_store w4 w.heap.size _ _ _ _ (.int .i64 0) (.string ⟨#[]⟩) (.int .i64 0) (.int .i64 0) HR4.out
        have k0 := cell_of_row _ _ 0 _ _ _ hr
        have k1 := cell_of_row _ _ 1 _ _ _ hr
        have k2 := cell_of_row _ _ 2 _ _ _ hr
        have k3 := cell_of_row _ _ 3 _ _ _ hr
        simp only [List.getElem?_toArray, List.getElem?_cons_zero, List.getElem?_cons_succ] at k0 k1 k2 k3
        refine bodyPost_ret (v := .tuple #[.agg #[.int .i64 0, .string ⟨#[]⟩, .int .i64 0, .int .i64 0], .int .i64 0, .int .i64 11]) (by simp [results, Tryd.results30, go_sem, k0, k1, k2, k3]) rfl ⟨?_, tok_only _ _ _ _ _ HB4.out (Nat.le_refl _)⟩
        rw [HV2.out, if_neg (by simp)]; rfl
      | true =>
        go_wp2
        have hr := tok_store w4 w.heap.size _ _ _ _ (.int .i64 2) (.string (x.extract 0 n)) (.int .i64 nv) (.int .i64 0) HR4.out
        have k0 := cell_of_row _ _ 0 _ _ _ hr
        have k1 := cell_of_row _ _ 1 _ _ _ hr
        have k2 := cell_of_row _ _ 2 _ _ _ hr
        have k3 := cell_of_row _ _ 3 _ _ _ hr
        simp only [List.getElem?_toArray, List.getElem?_cons_zero, List.getElem?_cons_succ] at k0 k1 k2 k3
        refine bodyPost_ret (v := .tuple #[.agg #[.int .i64 2, .string (x.extract 0 n), .int .i64 nv, .int .i64 0], .int .i64 n, .int .i64 0]) (by simp [results, Tryd.results30, go_sem, k0, k1, k2, k3]) rfl ⟨?_, tok_only _ _ _ _ _ HB4.out (Nat.le_refl _)⟩
        rw [HV2.out, if_pos trivial]
    · have h3b : (c == 3) = false := by simpa using h3
      rw [if_neg h3] at hv
      by_cases h5 : c = 5
      · rw [if_pos h5] at hv
        have HV2 := Lib.hid hv
        subst h5
        clear hv HV
        obtain ⟨⟨tk, ts, tn, ta⟩, tl, te⟩ := tz
        go_wp2_with (go_at_call 43; refine (HTX.out _ (HB.out.heap HGC.out (by simp)) (HTB.out.below HB.out.nil_below)).mono ?_; rintro e w3 ⟨rfl, ho3⟩; have HB3 := Lib.hid (HB.out.trans ho3); have HR3 := Lib.hid (ho3.heap HRW.out (by simp)); clear ho3; refine (fun (h : Hid _) => h.out) ?_)
        refine Lib.hid ?_
        have y0 : w3.cell? ⟨w.heap.size, 0, none⟩ = some (.int .i64 0) := (cell_of_row w3 _ 0 _ _ _ HR3.out).trans rfl
        have y1 : w3.cell? ⟨w.heap.size, 1, none⟩ = some (.string ⟨#[]⟩) := (cell_of_row w3 _ 1 _ _ _ HR3.out).trans rfl
        have y2 : w3.cell? ⟨w.heap.size, 2, none⟩ = some (.int .i64 0) := (cell_of_row w3 _ 2 _ _ _ HR3.out).trans rfl
        have y3 : w3.cell? ⟨w.heap.size, 3, none⟩ = some (.int .i64 0) := (cell_of_row w3 _ 3 _ _ _ HR3.out).trans rfl
        have z0 : w3.frozen? ⟨w.heap.size, 0, none⟩ = false := frozen_of_row w3 _ 0 _ _ HR3.out
        have z1 : w3.frozen? ⟨w.heap.size, 1, none⟩ = false := frozen_of_row w3 _ 1 _ _ HR3.out
        have z2 : w3.frozen? ⟨w.heap.size, 2, none⟩ = false := frozen_of_row w3 _ 2 _ _ HR3.out
        have z3 : w3.frozen? ⟨w.heap.size, 3, none⟩ = false := frozen_of_row w3 _ 3 _ _ HR3.out
        go_wp2
        have hr := tok_store w3 w.heap.size _ _ _ _ (.int .i64 tk) (.string ts) (.int .i64 tn) (.int .i64 ta) HR3.out
        have k0 := cell_of_row _ _ 0 _ _ _ hr
        have k1 := cell_of_row _ _ 1 _ _ _ hr
        have k2 := cell_of_row _ _ 2 _ _ _ hr
        have k3 := cell_of_row _ _ 3 _ _ _ hr
        simp only [List.getElem?_toArray, List.getElem?_cons_zero, List.getElem?_cons_succ] at k0 k1 k2 k3
        refine bodyPost_ret (v := .tuple #[.agg #[.int .i64 tk, .string ts, .int .i64 tn, .int .i64 ta], .int .i64 tl, .int .i64 te]) (by simp [results, Tryd.results30, go_sem, k0, k1, k2, k3]) rfl ⟨?_, tok_only _ _ _ _ _ HB3.out (Nat.le_refl _)⟩
        rw [HV2.out]
      · have h5b : (c == 5) = false := by simpa using h5
        rw [if_neg h5] at hv
        by_cases h4 : c = 4
        · rw [if_pos h4] at hv
          have HV2 := Lib.hid hv
          subst h4
          clear hv HV
          have hsg := HSG.out
          by_cases s1 : 1 < x.size
          · have s1' : (1 : Int) < x.size := by omega
            by_cases s2 : bAt x 1 = 61
            · have s2b : (((x[1]'s1).toNat : Int) == 61) = true := by rw [← bAt_elem x 1 s1] at s2; simp [s2]
              obtain ⟨ib, hib⟩ : ∃ ib, ib = Lib.indexByte twoSigns (x.get! 0) := ⟨_, rfl⟩
              rw [← hib] at hsg
              have hIB : ∀ W, Calls Tryd.prog 35 #[.string ⟨#[60, 62, 61, 33, 58]⟩, .int .u8 ((x[0]'(by omega)).toNat : Int)] W fun e w' => e = .returned (.int .i64 ib) ∧ Drawn0 W w' := fun W =>
                strings_IndexByte.calls _ _ _ W (by unfold strings_IndexByte.f; rw [hib, get0_val x (by omega)]; simp [twoSigns])
              have HIB := Lib.hid hIB
              clear hIB hib
              go_wp2_with (go_at_call 35; refine (HIB.out _).mono ?_; rintro e w3 ⟨rfl, ⟨n3, rfl⟩⟩; refine (fun (h : Hid _) => h.out) ?_)
              refine Lib.hid ?_
              have HB3 := Lib.hid (show Only [] w (w2.drewN n3) from HB.out.drewN n3)
              have HR3 := Lib.hid (show (w2.drewN n3).heap[w.heap.size]? = some (.cells #[.int .i64 0, .string ⟨#[]⟩, .int .i64 0, .int .i64 0] 38 (0, 0)) from HRW.out)
              clear c0 HB HRW
              generalize w2.drewN n3 = w3 at *
              have c3 : w3.cell? ⟨gc, 0, none⟩ = some (.string x) := (cell_of_row _ gc 0 _ _ _ (HB3.out.heap HGC.out (by simp))).trans rfl
              have y0 : w3.cell? ⟨w.heap.size, 0, none⟩ = some (.int .i64 0) := (cell_of_row w3 _ 0 _ _ _ HR3.out).trans rfl
              have y1 : w3.cell? ⟨w.heap.size, 1, none⟩ = some (.string ⟨#[]⟩) := (cell_of_row w3 _ 1 _ _ _ HR3.out).trans rfl
              have y2 : w3.cell? ⟨w.heap.size, 2, none⟩ = some (.int .i64 0) := (cell_of_row w3 _ 2 _ _ _ HR3.out).trans rfl
              have y3 : w3.cell? ⟨w.heap.size, 3, none⟩ = some (.int .i64 0) := (cell_of_row w3 _ 3 _ _ _ HR3.out).trans rfl
              have z0 : w3.frozen? ⟨w.heap.size, 0, none⟩ = false := frozen_of_row w3 _ 0 _ _ HR3.out
              have z1 : w3.frozen? ⟨w.heap.size, 1, none⟩ = false := frozen_of_row w3 _ 1 _ _ HR3.out
              have z2 : w3.frozen? ⟨w.heap.size, 2, none⟩ = false := frozen_of_row w3 _ 2 _ _ HR3.out
              have z3 : w3.frozen? ⟨w.heap.size, 3, none⟩ = false := frozen_of_row w3 _ 3 _ _ HR3.out
              by_cases s3 : 0 ≤ ib
              · rw [if_pos ⟨s1, s2, s3⟩] at hsg
                subst hsg
                go_wp2
                have hr := tok_store w3 w.heap.size _ _ _ _ (.int .i64 4) (.string (x.extract 0 2)) (.int .i64 0) (.int .i64 0) HR3.out
                have k0 := cell_of_row _ _ 0 _ _ _ hr
                have k1 := cell_of_row _ _ 1 _ _ _ hr
                have k2 := cell_of_row _ _ 2 _ _ _ hr
                have k3 := cell_of_row _ _ 3 _ _ _ hr
                simp only [List.getElem?_toArray, List.getElem?_cons_zero, List.getElem?_cons_succ] at k0 k1 k2 k3
                refine bodyPost_ret (v := .tuple #[.agg #[.int .i64 4, .string (x.extract 0 2), .int .i64 0, .int .i64 0], .int .i64 2, .int .i64 0]) (by simp [results, Tryd.results30, go_sem, k0, k1, k2, k3]) rfl ⟨?_, tok_only _ _ _ _ _ HB3.out (Nat.le_refl _)⟩
                rw [HV2.out]; rfl
              · have s3' : ib < 0 := by omega
                rw [if_neg (fun h => s3 h.2.2)] at hsg
                subst hsg
                go_wp2
                have hr := tok_store w3 w.heap.size _ _ _ _ (.int .i64 4) (.string (x.extract 0 sn)) (.int .i64 0) (.int .i64 0) HR3.out
                have k0 := cell_of_row _ _ 0 _ _ _ hr
                have k1 := cell_of_row _ _ 1 _ _ _ hr
                have k2 := cell_of_row _ _ 2 _ _ _ hr
                have k3 := cell_of_row _ _ 3 _ _ _ hr
                simp only [List.getElem?_toArray, List.getElem?_cons_zero, List.getElem?_cons_succ] at k0 k1 k2 k3
                refine bodyPost_ret (v := .tuple #[.agg #[.int .i64 4, .string (x.extract 0 sn), .int .i64 0, .int .i64 0], .int .i64 sn, .int .i64 0]) (by simp [results, Tryd.results30, go_sem, k0, k1, k2, k3]) rfl ⟨?_, tok_only _ _ _ _ _ HB3.out (Nat.le_refl _)⟩
                rw [HV2.out]
            · have s2b : (((x[1]'s1).toNat : Int) == 61) = false := by rw [← bAt_elem x 1 s1] at s2; rw [beq_eq_false_iff_ne]; omega
              rw [if_neg (fun h => s2 h.2.1)] at hsg
              subst hsg
              have y0 : w2.cell? ⟨w.heap.size, 0, none⟩ = some (.int .i64 0) := (cell_of_row w2 _ 0 _ _ _ HRW.out).trans rfl
              have y1 : w2.cell? ⟨w.heap.size, 1, none⟩ = some (.string ⟨#[]⟩) := (cell_of_row w2 _ 1 _ _ _ HRW.out).trans rfl
              have y2 : w2.cell? ⟨w.heap.size, 2, none⟩ = some (.int .i64 0) := (cell_of_row w2 _ 2 _ _ _ HRW.out).trans rfl
              have y3 : w2.cell? ⟨w.heap.size, 3, none⟩ = some (.int .i64 0) := (cell_of_row w2 _ 3 _ _ _ HRW.out).trans rfl
              have z0 : w2.frozen? ⟨w.heap.size, 0, none⟩ = false := frozen_of_row w2 _ 0 _ _ HRW.out
              have z1 : w2.frozen? ⟨w.heap.size, 1, none⟩ = false := frozen_of_row w2 _ 1 _ _ HRW.out
              have z2 : w2.frozen? ⟨w.heap.size, 2, none⟩ = false := frozen_of_row w2 _ 2 _ _ HRW.out
              have z3 : w2.frozen? ⟨w.heap.size, 3, none⟩ = false := frozen_of_row w2 _ 3 _ _ HRW.out
              go_wp2
              have hr := tok_store w2 w.heap.size _ _ _ _ (.int .i64 4) (.string (x.extract 0 sn)) (.int .i64 0) (.int .i64 0) HRW.out
              have k0 := cell_of_row _ _ 0 _ _ _ hr
              have k1 := cell_of_row _ _ 1 _ _ _ hr
              have k2 := cell_of_row _ _ 2 _ _ _ hr
              have k3 := cell_of_row _ _ 3 _ _ _ hr
              simp only [List.getElem?_toArray, List.getElem?_cons_zero, List.getElem?_cons_succ] at k0 k1 k2 k3
              refine bodyPost_ret (v := .tuple #[.agg #[.int .i64 4, .string (x.extract 0 sn), .int .i64 0, .int .i64 0], .int .i64 sn, .int .i64 0]) (by simp [results, Tryd.results30, go_sem, k0, k1, k2, k3]) rfl ⟨?_, tok_only _ _ _ _ _ HB.out (Nat.le_refl _)⟩
              rw [HV2.out]
          · have s1' : (x.size : Int) ≤ 1 := by omega
            rw [if_neg (fun h => s1 h.1)] at hsg
            subst hsg
            have y0 : w2.cell? ⟨w.heap.size, 0, none⟩ = some (.int .i64 0) := (cell_of_row w2 _ 0 _ _ _ HRW.out).trans rfl
            have y1 : w2.cell? ⟨w.heap.size, 1, none⟩ = some (.string ⟨#[]⟩) := (cell_of_row w2 _ 1 _ _ _ HRW.out).trans rfl
            have y2 : w2.cell? ⟨w.heap.size, 2, none⟩ = some (.int .i64 0) := (cell_of_row w2 _ 2 _ _ _ HRW.out).trans rfl
            have y3 : w2.cell? ⟨w.heap.size, 3, none⟩ = some (.int .i64 0) := (cell_of_row w2 _ 3 _ _ _ HRW.out).trans rfl
            have z0 : w2.frozen? ⟨w.heap.size, 0, none⟩ = false := frozen_of_row w2 _ 0 _ _ HRW.out
            have z1 : w2.frozen? ⟨w.heap.size, 1, none⟩ = false := frozen_of_row w2 _ 1 _ _ HRW.out
            have z2 : w2.frozen? ⟨w.heap.size, 2, none⟩ = false := frozen_of_row w2 _ 2 _ _ HRW.out
            have z3 : w2.frozen? ⟨w.heap.size, 3, none⟩ = false := frozen_of_row w2 _ 3 _ _ HRW.out
            go_wp2
            have hr := tok_store w2 w.heap.size _ _ _ _ (.int .i64 4) (.string (x.extract 0 sn)) (.int .i64 0) (.int .i64 0) HRW.out
            have k0 := cell_of_row _ _ 0 _ _ _ hr
            have k1 := cell_of_row _ _ 1 _ _ _ hr
            have k2 := cell_of_row _ _ 2 _ _ _ hr
            have k3 := cell_of_row _ _ 3 _ _ _ hr
            simp only [List.getElem?_toArray, List.getElem?_cons_zero, List.getElem?_cons_succ] at k0 k1 k2 k3
            refine bodyPost_ret (v := .tuple #[.agg #[.int .i64 4, .string (x.extract 0 sn), .int .i64 0, .int .i64 0], .int .i64 sn, .int .i64 0]) (by simp [results, Tryd.results30, go_sem, k0, k1, k2, k3]) rfl ⟨?_, tok_only _ _ _ _ _ HB.out (Nat.le_refl _)⟩
            rw [HV2.out]
        · have h4b : (c == 4) = false := by simpa using h4
          rw [if_neg h4] at hv
          have HV2 := Lib.hid hv
          clear hv HV
          have y0 : w2.cell? ⟨w.heap.size, 0, none⟩ = some (.int .i64 0) := (cell_of_row w2 _ 0 _ _ _ HRW.out).trans rfl
          have y1 : w2.cell? ⟨w.heap.size, 1, none⟩ = some (.string ⟨#[]⟩) := (cell_of_row w2 _ 1 _ _ _ HRW.out).trans rfl
          have y2 : w2.cell? ⟨w.heap.size, 2, none⟩ = some (.int .i64 0) := (cell_of_row w2 _ 2 _ _ _ HRW.out).trans rfl
          have y3 : w2.cell? ⟨w.heap.size, 3, none⟩ = some (.int .i64 0) := (cell_of_row w2 _ 3 _ _ _ HRW.out).trans rfl
          have z0 : w2.frozen? ⟨w.heap.size, 0, none⟩ = false := frozen_of_row w2 _ 0 _ _ HRW.out
          have z1 : w2.frozen? ⟨w.heap.size, 1, none⟩ = false := frozen_of_row w2 _ 1 _ _ HRW.out
          have z2 : w2.frozen? ⟨w.heap.size, 2, none⟩ = false := frozen_of_row w2 _ 2 _ _ HRW.out
          have z3 : w2.frozen? ⟨w.heap.size, 3, none⟩ = false := frozen_of_row w2 _ 3 _ _ HRW.out
          go_wp2
          have hr := tok_store w2 w.heap.size _ _ _ _ (.int .i64 0) (.string ⟨#[]⟩) (.int .i64 0) (.int .i64 0) HRW.out
          have k0 := cell_of_row _ _ 0 _ _ _ hr
          have k1 := cell_of_row _ _ 1 _ _ _ hr
          have k2 := cell_of_row _ _ 2 _ _ _ hr
          have k3 := cell_of_row _ _ 3 _ _ _ hr
          simp only [List.getElem?_toArray, List.getElem?_cons_zero, List.getElem?_cons_succ] at k0 k1 k2 k3
          refine bodyPost_ret (v := .tuple #[.agg #[.int .i64 0, .string ⟨#[]⟩, .int .i64 0, .int .i64 0], .int .i64 0, .int .i64 11]) (by simp [results, Tryd.results30, go_sem, k0, k1, k2, k3]) rfl ⟨?_, tok_only _ _ _ _ _ HB.out (Nat.le_refl _)⟩
          rw [HV2.out]; rfl
end Go.Proofs.YtlikjknakplamaaDoor.Print
/-! ### LxLen -/
namespace Go.Proofs.YtlikjknakplamaaDoor
open Go.Lib
set_option linter.unusedSimpArgs false
set_option linter.unusedVariables false
theorem width_end (s : ByteArray) (p : Nat) (h : p < s.size) : p + (Utf8.decode s p).2 ≤ s.size := by
  rw [Lib.decode_at]
  unfold Lib.decodeN
  repeat' split
  all_goals (simp only; omega)
theorem wordEnd_ge (s : ByteArray) : ∀ f p, p ≤ s.size → p ≤ wordEnd s f p
  | 0, p, h => h
  | f + 1, p, h => by
    unfold wordEnd
    split
    · rename_i hp
      split
      · have := wordEnd_ge s f _ (width_end s p hp)
        omega
      · exact Nat.le_refl _
    · exact h
theorem word_pos (x : ByteArray) (h : 0 < x.size) (hw : wordyZ (Utf8.decode x 0).1 = true) : 1 ≤ wordEnd x x.size 0 := by
  obtain ⟨f, hf⟩ : ∃ f, x.size = f + 1 := ⟨x.size - 1, by omega⟩
  rw [hf]
  unfold wordEnd
  rw [if_pos h, if_pos hw, Nat.zero_add]
  have h1 := decode_width_pos x 0 h
  have h2 := width_end x 0 h
  rw [Nat.zero_add] at h2
  have := wordEnd_ge x f _ h2
  omega
theorem cut_hit_len (s : List UInt8) (c : UInt8) (h : (cut s [c]).2.2 = true) : (cut s [c]).1.length + 1 ≤ s.length := by
  unfold cut at h ⊢
  by_cases hi : 0 ≤ index s [c]
  · rw [if_pos hi] at h ⊢
    obtain ⟨o, ho⟩ : ∃ o : Nat, index s [c] = o := ⟨(index s [c]).toNat, by omega⟩
    have ho' := ho
    rw [index_one] at ho
    have := (indexByte_some ho).1
    have hlt : o < s.length := (List.getElem?_eq_some_iff.1 this).1
    simp only [ho', List.length_take, Int.toNat_natCast]
    omega
  · rw [if_neg hi] at h
    cases h
theorem size_arr (l : List UInt8) : (⟨l.toArray⟩ : ByteArray).size = l.length := by show Array.size _ = _; simp
theorem text_len (x : ByteArray) (h : 0 < x.size) (hc : closed x = true) : (insideOf x).size + 2 ≤ x.size := by
  have h1 := cut_hit_len _ _ hc
  have h2 : (insideOf x).size + 1 ≤ (lineOf x).size := by
    unfold insideOf
    rw [size_arr]
    have : (lineOf x).data.toList.length = (lineOf x).size := by rw [Array.length_toList]; rfl
    omega
  have h3 : (lineOf x).size ≤ x.size - 1 := by
    have h := cut_fst_le (x.extract 1 x.size).data.toList [10]
    have e1 : (lineOf x).size = (Lib.cut (x.extract 1 x.size).data.toList [10]).1.length := by unfold lineOf; exact size_arr _
    have e2 : (x.extract 1 x.size).data.toList.length = (x.extract 1 x.size).size := by rw [Array.length_toList]; rfl
    rw [ByteArray.size_extract] at e2
    omega
  omega
theorem token_len (x : ByteArray) (h : 0 < x.size) (he : (tokenZ x).2.2 = 0) : ∃ n : Nat, (tokenZ x).2.1 = n ∧ 1 ≤ n ∧ n ≤ x.size := by
  have hle := wordEnd_le x x.size 0
  unfold tokenZ at he ⊢
  by_cases c2 : classZ (Utf8.decode x 0).1 = 2
  · have hp := word_pos x h (by unfold wordyZ; simp [c2])
    rw [if_pos c2] at he ⊢
    split at he
    · cases he
    · rename_i hn
      rw [if_neg hn]
      exact ⟨_, rfl, hp, hle⟩
  · rw [if_neg c2] at he ⊢
    by_cases c3 : classZ (Utf8.decode x 0).1 = 3
    · have hp := word_pos x h (by unfold wordyZ; simp [c3])
      rw [if_pos c3] at he ⊢
      split at he
      · rename_i hn
        rw [if_pos hn]
        exact ⟨_, rfl, hp, hle⟩
      · cases he
    · rw [if_neg c3] at he ⊢
      by_cases c5 : classZ (Utf8.decode x 0).1 = 5
      · rw [if_pos c5] at he ⊢
        unfold textZ at he ⊢
        by_cases d1 : closed x = false
        · rw [if_pos d1] at he; cases he
        · rw [if_neg d1] at he ⊢
          have hl := text_len x h (by simpa using d1)
          split at he
          · cases he
          · rename_i d2
            rw [if_neg d2]
            split at he
            · cases he
            · rename_i d3
              rw [if_neg d3]
              exact ⟨(insideOf x).size + 2, by simp, by omega, hl⟩
      · rw [if_neg c5] at he ⊢
        by_cases c4 : classZ (Utf8.decode x 0).1 = 4
        · rw [if_pos c4] at he ⊢
          refine ⟨_, rfl, ?_, ?_⟩
          · unfold signN
            have := decode_width_pos x 0 h
            split <;> omega
          · unfold signN
            have := width_end x 0 h
            split <;> omega
        · rw [if_neg c4] at he; cases he
theorem blanksZ_bound : ∀ (f : Nat) (st : ByteArray × Int) (B : Int), 0 ≤ st.2 → st.2 + st.1.size ≤ B → 0 ≤ (blanksZ f st).2 ∧ (blanksZ f st).2 + (blanksZ f st).1.size ≤ B ∧ (blanksZ f st).1.size ≤ st.1.size
  | 0, st, B, h0, h1 => ⟨h0, h1, Nat.le_refl _⟩
  | f + 1, st, B, h0, h1 => by
    unfold blanksZ
    by_cases hz : st.1.size = 0
    · rw [if_pos hz]; exact ⟨h0, h1, Nat.le_refl _⟩
    · rw [if_neg hz]
      by_cases c1 : classZ (bAt st.1 0) = 1
      · rw [if_pos c1]
        have p1 := passZ_at st 1 (by omega)
        have p2 := passZ_size st 1 (by omega)
        obtain ⟨a, b, c⟩ := blanksZ_bound f (passZ st 1) B (by omega) (by omega)
        exact ⟨a, b, by omega⟩
      · rw [if_neg c1]
        by_cases c6 : classZ (bAt st.1 0) = 6
        · rw [if_pos c6]
          have hn := hashN_le st.1 (by omega) c6
          have p1 := passZ_at st (hashN st.1) hn.2
          have p2 := passZ_size st (hashN st.1) hn.2
          obtain ⟨a, b, c⟩ := blanksZ_bound f (passZ st (hashN st.1)) B (by omega) (by omega)
          exact ⟨a, b, by omega⟩
        · rw [if_neg c6]; exact ⟨h0, h1, Nat.le_refl _⟩
/-- What cutting does behind blanks. -/
def cutTail (f : Nat) (st : ByteArray × Int) (l : List Tok) : List Tok × Int × Int :=
  if st.1.size = 0 then (l ++ [(0, ⟨#[]⟩, 0, st.2)], 0, 0)
  else if l.length = 2000 then ([], 2, st.2)
  else if (tokenZ st.1).2.2 ≠ 0 then ([], (tokenZ st.1).2.2, st.2)
  else cutLoop f (passZ st (tokenZ st.1).2.1.toNat) (l ++ [((tokenZ st.1).1.1, (tokenZ st.1).1.2.1, (tokenZ st.1).1.2.2.1, st.2)])
theorem cutLoop_tail (f : Nat) (st : ByteArray × Int) (l : List Tok) : cutLoop (f + 1) st l = cutTail f (blanks st) l := rfl
end Go.Proofs.YtlikjknakplamaaDoor
/-! ### ECut -/
namespace Go.Proofs.YtlikjknakplamaaDoor.Print
open Go.RowKit Go.Proofs.YtlikjknakplamaaDoorW.PrintWords Go.Proofs.YtlikjknakplamaaDoorW.PrintLast Go.Proofs.YtlikjknakplamaaDoorW.PrintMore
set_option linter.unusedSimpArgs false
set_option linter.unusedVariables false
def gTok (t : Tok) : S38 := ⟨t.1, t.2.1, t.2.2.1, t.2.2.2⟩
def tcells (t : Tok) : List Value := [.int .i64 t.1, .string t.2.1, .int .i64 t.2.2.1, .int .i64 t.2.2.2]
def toks (l : List Tok) : List Value := l.flatMap tcells
theorem toks_snoc (l : List Tok) (t : Tok) : toks (l ++ [t]) = toks l ++ tcells t := by unfold toks; rw [List.flatMap_append]; simp
theorem toks_reps (w : World) : ∀ l : List Tok, Reps (k38.K w) 4 (l.map gTok) (toks l)
  | [] => Reps.none _ _
  | t :: l => Reps.c4 (k38_mk w (gTok t)) (toks_reps w l)
structure OutAt (w : World) (base g : Nat) (A : Option Addr) (c : Nat) (l : List Tok) : Prop where
  own : w.ownsRow base 38 4 (.slice A l.length c) l.length (toks l)
  ne : ∀ k, (Value.slice A l.length c).ownBlock = some k → k ≠ g
theorem OutAt.only {w w' : World} {base g : Nat} {A : Option Addr} {c : Nat} {l : List Tok} {S : List Nat} (h : OutAt w base g A c l) (ho : Only S w w') (hS : ∀ k, (Value.slice A l.length c).ownBlock = some k → k ∉ S) : OutAt w' base g A c l :=
  ⟨ownsRow_only h.own ho hS, h.ne⟩
theorem fill_one4 (z a b c d : Value) (hz : z.cells.size = 4) :
    Instr.fill (fun i => some (i * 4, 4)) ((Array.range (1 * 4)).map (z.cells[· % z.cells.size]!)) [(0, .agg #[a, b, c, d])] = some #[a, b, c, d] := by
  generalize hA : ((Array.range (1 * 4)).map (z.cells[· % z.cells.size]!)) = arr
  have h2 : arr.size = 4 := by rw [← hA]; simp
  match arr, h2 with
  | ⟨[x, y, u, v]⟩, _ => simp [Instr.fill, Value.cells]
abbrev zTok : Value := .agg #[.int .i64 0, .string ⟨#[]⟩, .int .i64 0, .int .i64 0]
set_option maxHeartbeats 8000000 in
set_option maxRecDepth 100000 in
theorem cut_walk (a0 : ByteArray) (w : World) (hs : a0.size ≤ 1000000000) (hT : Tabs w) :
    Calls Tryd.prog 13 #[.string a0] w fun e w' => ∃ A c, e = .returned (.tuple #[.slice A (cutZ a0).1.length c, .int .i64 (cutZ a0).2.1, .int .i64 (cutZ a0).2.2]) ∧ w'.ownsRow w.heap.size 38 4 (.slice A (cutZ a0).1.length c) (cutZ a0).1.length (toks (cutZ a0).1) ∧ Below w.heap.size w w' := by
  obtain ⟨V, hV⟩ : ∃ V, V = cutZ a0 := ⟨_, rfl⟩
  rw [← hV]
  unfold cutZ at hV
  have HV := Lib.hid hV
  have HTB := Lib.hid hT
  have hu2 := Tryd.underlying47
  have hu3 := Tryd.underlying38
  clear hV hT
  go_enter Tryd.func13, Tryd.ntmps13
  by_cases hlong : 8192 < a0.size
  · have hv := HV.out
    rw [if_pos hlong] at hv
    have HV2 := Lib.hid hv
    have hl' : (8192 : Int) < a0.size := by omega
    clear hv HV
    go_wp2
    go_ret3
    refine ⟨none, 0, ?_, ?_, Below.refl _ _⟩
    · rw [HV2.out]; rfl
    · rw [HV2.out]; exact ownsRow_nil _ _ _ _
  · have hl' : (a0.size : Int) ≤ 8192 := by omega
    have hv := HV.out
    rw [if_neg hlong] at hv
    have HBA := Lib.hid (bad_any a0 w hs HTB.out)
    generalize badZ a0 = bz at *
    by_cases hb : 0 ≤ bz
    · rw [if_pos hb] at hv
      have HV2 := Lib.hid hv
      clear hv HV
      go_wp2_with (go_at_call 28; refine HBA.out.mono ?_; rintro e w1 ⟨rfl, hb1⟩; have HB1 := Lib.hid hb1; clear hb1)
      go_ret3
      refine ⟨none, 0, ?_, ?_, HB1.out⟩
      · rw [HV2.out]; rfl
      · rw [HV2.out]; exact ownsRow_nil _ _ _ _
    · rw [if_neg hb] at hv
      have hb' : bz < 0 := by omega
      rw [cutLoop_tail] at hv
      have HV2 := Lib.hid hv
      have hbd := blanksZ_bound a0.size (a0, 0) 8192 (by simp) (by simp; omega)
      have HBD := Lib.hid (show 0 ≤ (blanks (a0, 0)).2 ∧ (blanks (a0, 0)).2 + (blanks (a0, 0)).1.size ≤ 8192 ∧ (blanks (a0, 0)).1.size ≤ a0.size from hbd)
      clear hv HV hbd
      go_wp2_with (go_at_call 28; refine HBA.out.mono ?_; rintro e w1 ⟨rfl, hb1⟩; have HB1 := Lib.hid (Only.of_below hb1); clear hb1; refine (fun (h : Hid _) => h.out) ?_)
      refine Lib.hid ?_
      clear HBA
      obtain ⟨g, hg⟩ : ∃ g, g = w1.heap.size := ⟨_, rfl⟩
      have HGL := Lib.hid (show w.heap.size ≤ g by rw [hg]; exact HB1.out.size)
      have HA1 := Lib.hid (show Only [] w (w1.alloc (.cells #[.string a0, .int .i64 0, .slice none 0 0] 47)) from HB1.out.alloc _)
      have HC1 := Lib.hid (show CutAt (w1.alloc (.cells #[.string a0, .int .i64 0, .slice none 0 0] 47)) g a0 0 (.slice none 0 0) by rw [hg]; exact heap_alloc_new w1 _)
      go_wp2_with (go_at_call 29; rw [← hg]; refine (blanks_any g a0 0 (.slice none 0 0) _ HC1.out (by omega) (by omega)).mono ?_; rintro e w2 ⟨rfl, hg2, ho2⟩; have HG2 := Lib.hid hg2; have HO2 := Lib.hid (HA1.out.then ho2 (by intro i hi; simp at hi; subst hi; exact .inr HGL.out)); clear hg2 ho2; refine (fun (h : Hid _) => h.out) ?_)
      refine Lib.hid ?_
      clear HA1 HC1
      have HO0 := Lib.hid (show OutAt w2 w.heap.size g none 0 [] from ⟨ownsRow_nil _ _ _ _, by simp [Value.ownBlock]⟩)
      rw [← hg]
      clear hg HB1
      have ha8 := hl'
      generalize blanks (a0, 0) = st at *
      obtain ⟨y0, b0⟩ := st
      have HBD2 := Lib.hid (show 0 ≤ b0 ∧ b0 + y0.size ≤ 8192 from ⟨HBD.out.1, HBD.out.2.1⟩)
      have HF := Lib.hid (show y0.size ≤ a0.size from HBD.out.2.2)
      clear HBD
      have HG3 : Hid (CutAt w2 g y0 b0 (.slice none 0 0)) := HG2
      clear HG2
      go_wp2
      go_loopw [7, 8, 9] (fun _ _ _ wr => ∃ (x : ByteArray) (a : Int) (l : List Tok) (A : Option Addr) (c f : Nat), Hid (CutAt wr g x a (.slice A l.length c)) ∧ Hid (OutAt wr w.heap.size g A c l) ∧ Hid (V = cutTail f (x, a) l) ∧ Hid (0 ≤ a ∧ a + x.size ≤ 8192) ∧ Hid (l.length ≤ 2000) ∧ Hid (x.size ≤ f) ∧ Hid (Only [] w wr)) (fun _ _ _ wr => leftN wr g)
      case atStart => exact ⟨y0, b0, [], none, 0, a0.size, HG3, HO0, HV2, HBD2, Lib.hid (by simp), HF, HO2⟩
      case round =>
        obtain ⟨x, a, l, A, c, f, hg, hout, hv, hbd, hln, hf, ho⟩ := hrel
        clear HG3 HO0 HV2 HBD2 HF HO2
        have c0 : wr.cell? ⟨g, 0, none⟩ = some (.string x) := (cell_of_row wr g 0 _ _ _ hg.out).trans rfl
        by_cases hx : x = ⟨#[]⟩
        · have hv' := hv.out
          subst hx
          unfold cutTail at hv'
          rw [if_pos (by rfl)] at hv'
          have HV2 := Lib.hid (show V = (l ++ [((0, ⟨#[]⟩, 0, a) : Tok)], 0, 0) from hv')
          clear hv hv'
          have HGS := Lib.hid (show g ∉ (Value.slice A l.length c).ownBlock.toList ∧ (∀ k ∈ (Value.slice A l.length c).ownBlock.toList, w.heap.size ≤ k) from
            ⟨fun h => hout.out.ne g (by simpa using h) rfl, fun k hk => (ownsRow_lt hout.out.own (by simpa using hk)).1⟩)
          go_wp2
          obtain ⟨S, hS⟩ : ∃ S, S = (Value.slice A l.length c).ownBlock.toList := ⟨_, rfl⟩
          rw [← hS] at HGS
          have HSS := Lib.hid hS
          clear hS c0
          refine L.grow_start S 14 ((0, true, false) :: (1, true, false) :: (2, true, false) :: (3, true, false) :: (4, true, true) :: (5, true, true) :: (6, true, true) :: (7, true, true) :: (8, true, true) :: (9, false, true) :: (10, false, true) :: (11, true, true) :: (12, true, true) :: (13, true, true) :: []) (by kernel_rfl) (([], [6], some 67) :: ([0], [67], some 68) :: ([1], [68], some 69) :: ([2], [69], some 70) :: ([], [6], some 71) :: ([4], [71], some 72) :: ([5], [72], some 73) :: ([6], [73], some 74) :: ([7], [74], some 75) :: ([8], [75], some 76) :: ([3, 9], [70, 76], some 77) :: ([10, 10, 0, 1, 2, 3, 4, 5, 6, 7, 8, 9, 10], [77], some 2) :: ([11, 0, 1, 2, 3, 4, 5, 6, 7, 8, 9, 10, 11], [], some 3) :: ([12, 0, 1, 2, 3, 4, 5, 6, 7, 8, 9, 10, 11, 12], [], some 4) :: []) (by kernel_rfl) (by kernel_rfl) (n := 14) rfl (by kernel_rfl) (fun _ _ _ _ _ h => h) (fun wg hog => ?_)
          refine L.growe_start (N := 78) (by rfl) ?_
          have e2 : ∀ w', Only S wg w' → w'.cell? ⟨g, 2, none⟩ = some (.slice A l.length c) := fun w' q => (cell_of_row w' g 2 _ _ _ (((hog.mono (T := S) (by simp)).trans q).heap hg.out HGS.out.1)).trans rfl
          have e1 : ∀ w', Only S wg w' → w'.cell? ⟨g, 1, none⟩ = some (.int .i64 a) := fun w' q => (cell_of_row w' g 1 _ _ _ (((hog.mono (T := S) (by simp)).trans q).heap hg.out HGS.out.1)).trans rfl
          have HOG := Lib.hid hog
          clear hog
          iterate 8 (first | (refine L.ge_off rfl rfl rfl (by rfl) ?_) | (refine L.ge_move rfl rfl rfl (by rfl) rfl (by simp [L.evE, L.lk, Act.eval]; rfl) ?_) | (refine L.ge_pick rfl rfl rfl (by rfl) rfl (by simp [L.evE, L.lk, Act.eval]; rfl) (by simp [L.evE, L.lk, Act.eval]; rfl) ?_) | (refine L.ge_val rfl rfl rfl (by rfl) (by intro w' hw'; simp [execOp, L.evE, L.lk, Act.eval]; go_simp; rfl) ?_))
          refine L.ge_val (v := .agg #[.int .i64 0, .string ⟨#[]⟩, .int .i64 0, .int .i64 a]) rfl rfl rfl (by rfl) (by intro w' hw'; simp [execOp, L.evE, L.lk, Act.eval]; go_simp) ?_
          refine ge_one rfl rfl rfl (by rfl) _ (.tmp 75) rfl 38 Tryd.underlying23 zTok 4 40 infoTok (by omega) (by omega) #[.int .i64 0, .string ⟨#[]⟩, .int .i64 0, .int .i64 a] (by have h := fill_one4 zTok (.int .i64 0) (.string ⟨#[]⟩) (.int .i64 0) (.int .i64 a) rfl; simpa [L.evE, L.lk, Act.eval] using h) ?_
          have HPN := Lib.hid (heap_alloc_new wg (.cells #[.int .i64 0, .string ⟨#[]⟩, .int .i64 0, .int .i64 a] 38))
          have HOW := Lib.hid ((hout.out.only HOG.out (by simp)).only ((Only.refl [] wg).alloc (.cells #[.int .i64 0, .string ⟨#[]⟩, .int .i64 0, .int .i64 a] 38)) (by simp))
          refine ge_append_row rfl rfl rfl (by rfl) (.tmp 70) (.tmp 76) 23 rfl w.heap.size 38 4 40 zTok Tryd.underlying23 infoTok rfl (by omega) (.slice A l.length c) l.length (toks l) (by simp [L.evE, L.lk, Act.eval]) HOW.out.own (some ⟨wg.heap.size, 0, none⟩) 1 1 [.int .i64 0, .string ⟨#[]⟩, .int .i64 0, .int .i64 a] (by simp [L.evE, L.lk, Act.eval]) rfl (fun _ => ⟨_, rfl, cellsAt_row HPN.out⟩) (by simp [Value.oneCell']) (by have := hln.out; unfold maxLen; omega) (by have := hln.out; omega) (by have := ho.out.size; have := HOG.out.size; simp; omega) ?_
          intro A8 c8 w8 hb8 ho8 hk8
          refine ⟨by rw [HSS.out]; exact ho8, ?_⟩
          have HO8 := Lib.hid (show Only S wg w8 by rw [HSS.out]; exact (((Only.refl [] wg).alloc (.cells #[.int .i64 0, .string ⟨#[]⟩, .int .i64 0, .int .i64 a] 38)).mono (by simp)).trans ho8)
          have HB8 := Lib.hid (show w8.ownsRow w.heap.size 38 4 (.slice A8 (l.length + 1) c8) (l.length + 1) (toks (l ++ [((0, ⟨#[]⟩, 0, a) : Tok)])) by rw [toks_snoc]; exact hb8)
          clear hb8 ho8 hk8 HPN HOW
          iterate 3 (first | (refine L.ge_off rfl rfl rfl (by rfl) ?_) | (refine L.ge_move rfl rfl rfl (by rfl) rfl (by simp [L.evE, L.lk, Act.eval]; rfl) ?_) | (refine L.ge_pick rfl rfl rfl (by rfl) rfl (by simp [L.evE, L.lk, Act.eval]; rfl) (by simp [L.evE, L.lk, Act.eval]; rfl) ?_) | (refine L.ge_val rfl rfl rfl (by rfl) (by intro w' hw'; simp [execOp, L.evE, L.lk, Act.eval]; go_simp; rfl) ?_))
          refine L.ge_done ?_
          simp only [L.puts, Act.put, goInt, List.setIfInBounds_toArray, List.set_cons_zero, List.set_cons_succ]
          go_wp2
          go_ret3
          have hll : (l ++ [((0, ⟨#[]⟩, 0, a) : Tok)]).length = l.length + 1 := by simp
          refine ⟨A8, c8, ?_, ?_, ((ho.out.trans HOG.out).then HO8.out (fun i hi => .inr (HGS.out.2 i hi))).nil_below⟩
          · rw [HV2.out]
            simp only [hll]
            rfl
          · rw [HV2.out]
            simp only [hll]
            exact HB8.out
        · have hpos : 0 < x.size := by
            rcases Nat.eq_zero_or_pos x.size with h | h
            · exact absurd (ByteArray.size_eq_zero_iff.1 h) hx
            · exact h
          have hp' : (0 : Int) < x.size := by omega
          have hie := some_left x hpos
          have hv' := hv.out
          unfold cutTail at hv'
          rw [if_neg (by show ¬ x.size = 0; omega)] at hv'
          have hv' : V = if l.length = 2000 then ([], 2, a) else if (tokenZ x).2.2 ≠ 0 then ([], (tokenZ x).2.2, a) else cutLoop f (passZ (x, a) (tokenZ x).2.1.toNat) (l ++ [((tokenZ x).1.1, (tokenZ x).1.2.1, (tokenZ x).1.2.2.1, a)]) := hv'
          have HTK := Lib.hid (token_any g x a (.slice A l.length c) wr hg.out hpos (by have := hbd.out; omega) (HTB.out.below ho.out.nil_below))
          have HTL := Lib.hid (token_len x hpos)
          have HG0 := Lib.hid (show g < wr.heap.size from heap_lt hg.out)
          generalize tokenZ x = tz at *
          obtain ⟨⟨tk, ts, tn, ta⟩, tl, te⟩ := tz
          have HV := Lib.hid hv'
          clear hv hv' hx
          go_wp2_with (go_at_call 30; refine HTK.out.mono ?_; rintro e w3 ⟨rfl, ho3⟩; have HG3 := Lib.hid (ho3.heap hg.out (by simp)); have HU3 := Lib.hid (hout.out.only ho3 (by simp)); have HO3 := Lib.hid (ho.out.trans ho3); have HS3 := Lib.hid ho3.size; clear ho3; refine (fun (h : Hid _) => h.out) ?_)
          refine Lib.hid ?_
          have HL := Lib.hid (leftN_at hg.out)
          clear HTK hg hout ho c0
          obtain ⟨b, hb⟩ : ∃ b, b = w3.heap.size := ⟨_, rfl⟩
          have HBG := Lib.hid (show g ≠ b ∧ w.heap.size ≤ b ∧ w3.heap.size ≤ b by have := HG0.out; have := HS3.out; have := HO3.out.size; omega)
          have HON := Lib.hid (show Only [] w3 (w3.alloc (.cells #[.int .i64 tk, .string ts, .int .i64 tn, .int .i64 ta] 38)) from (Only.refl _ _).alloc _)
          have HR4 := Lib.hid (show (w3.alloc (.cells #[.int .i64 tk, .string ts, .int .i64 tn, .int .i64 ta] 38)).heap[b]? = some (.cells #[.int .i64 tk, .string ts, .int .i64 tn, .int .i64 ta] 38 (0, 0)) by rw [hb]; exact heap_alloc_new w3 _)
          have HG4 := Lib.hid (HON.out.heap HG3.out (by simp))
          have HU4 := Lib.hid (HU3.out.only HON.out (by simp))
          have HO4 := Lib.hid (HO3.out.trans HON.out)
          have HON5 := Lib.hid (show Only [] w3 (w3.alloc (.cells #[.int .i64 tk, .string ts, .int .i64 tn, .int .i64 a] 38)) from (Only.refl _ _).alloc _)
          have HR5 := Lib.hid (show (w3.alloc (.cells #[.int .i64 tk, .string ts, .int .i64 tn, .int .i64 a] 38)).heap[b]? = some (.cells #[.int .i64 tk, .string ts, .int .i64 tn, .int .i64 a] 38 (0, 0)) by rw [hb]; exact heap_alloc_new w3 _)
          have HG5 := Lib.hid (HON5.out.heap HG3.out (by simp))
          have HU5 := Lib.hid (HU3.out.only HON5.out (by simp))
          have HO5 := Lib.hid (HO3.out.trans HON5.out)
          have HGS := Lib.hid (show g ∉ (Value.slice A l.length c).ownBlock.toList ∧ b ∉ (Value.slice A l.length c).ownBlock.toList ∧ (∀ k ∈ (Value.slice A l.length c).ownBlock.toList, w.heap.size ≤ k) by
            refine ⟨fun h => HU3.out.ne g (by simpa using h) rfl, fun h => ?_, fun k hk => (ownsRow_lt HU3.out.own (by simpa using hk)).1⟩
            have := (ownsRow_lt HU3.out.own (by simpa using h)).2
            omega)
          have hb3 : w3.heap.size = b := hb.symm
          clear HON hb
          have c1 : (w3.alloc (.cells #[.int .i64 tk, .string ts, .int .i64 tn, .int .i64 ta] 38)).cell? ⟨g, 1, none⟩ = some (.int .i64 a) := (cell_of_row _ g 1 _ _ _ HG4.out).trans rfl
          have c2 : (w3.alloc (.cells #[.int .i64 tk, .string ts, .int .i64 tn, .int .i64 ta] 38)).cell? ⟨g, 2, none⟩ = some (.slice A l.length c) := (cell_of_row _ g 2 _ _ _ HG4.out).trans rfl
          by_cases hfull : l.length = 2000
          · have hfb : ((l.length : Int) == 2000) = true := by rw [hfull]; rfl
            have hv := HV.out
            rw [if_pos hfull] at hv
            have HV2 := Lib.hid hv
            clear hv HV
            go_wp2
            generalize (w3.alloc (.cells #[.int .i64 tk, .string ts, .int .i64 tn, .int .i64 ta] 38)) = w4 at *
            refine L.grow_start [] 8 ((0, true, false) :: (1, true, false) :: (2, true, false) :: (3, true, false) :: (4, true, false) :: (5, true, true) :: (6, true, true) :: (7, true, true) :: []) (by kernel_rfl) (([], [9], some 44) :: ([], [6], some 45) :: ([1], [45], some 46) :: ([2], [46], some 47) :: ([3], [47], some 48) :: ([], [], some 2) :: ([0, 5, 0, 5], [44], some 3) :: ([4, 6, 0, 1, 2, 3, 4, 5, 6], [48], some 4) :: []) (by kernel_rfl) (by kernel_rfl) (n := 8) rfl (by kernel_rfl) (fun _ _ _ _ _ h => h) (fun wg hog => ?_)
            refine L.growe_start (N := 78) (by rfl) ?_
            have e1 : ∀ w', Only [] wg w' → w'.cell? ⟨g, 1, none⟩ = some (.int .i64 a) := fun w' q => (cell_of_row w' g 1 _ _ _ ((hog.trans q).heap HG4.out (by simp))).trans rfl
            have HOG := Lib.hid hog
            clear hog
            iterate 8 (first | (refine L.ge_off rfl rfl rfl (by rfl) ?_) | (refine L.ge_move rfl rfl rfl (by rfl) rfl (by simp [L.evE, L.lk, Act.eval]; rfl) ?_) | (refine L.ge_pick rfl rfl rfl (by rfl) rfl (by simp [L.evE, L.lk, Act.eval]; rfl) (by simp [L.evE, L.lk, Act.eval]; rfl) ?_) | (refine L.ge_val rfl rfl rfl (by rfl) (by intro w' hw'; simp [execOp, L.evE, L.lk, Act.eval]; go_simp; rfl) ?_))
            refine L.ge_done ?_
            simp only [L.puts, Act.put, goInt, List.setIfInBounds_toArray, List.set_cons_zero, List.set_cons_succ]
            go_wp2
            go_ret3
            refine ⟨none, 0, ?_, ?_, (HO4.out.trans HOG.out).nil_below⟩
            · rw [HV2.out]; rfl
            · rw [HV2.out]; exact ownsRow_nil _ _ _ _
          · have hfb : ((l.length : Int) == 2000) = false := by rw [beq_eq_false_iff_ne]; omega
            have hv := HV.out
            rw [if_neg hfull] at hv
            by_cases hte : te = 0
            · have hv' := hv
              rw [if_neg (by simpa using hte)] at hv'
              have HV2 := Lib.hid hv'
              obtain ⟨n, rfl, hn1, hn2⟩ := HTL.out hte
              subst hte
              clear hv hv' HV HTL HR4 HG4 HU4 HO4 c1 c2
              have c2 : (w3.alloc (.cells #[.int .i64 tk, .string ts, .int .i64 tn, .int .i64 ta] 38)).cell? ⟨g, 2, none⟩ = some (.slice A l.length c) := (cell_of_row _ g 2 _ _ _ (((Only.refl [] w3).alloc _).heap HG3.out (by simp))).trans rfl
              have c1 : (w3.alloc (.cells #[.int .i64 tk, .string ts, .int .i64 tn, .int .i64 ta] 38)).cell? ⟨g, 1, none⟩ = some (.int .i64 a) := (cell_of_row _ g 1 _ _ _ (((Only.refl [] w3).alloc _).heap HG3.out (by simp))).trans rfl
              clear HG3 HU3 HO3 HON5
              go_wp2
              clear c1 c2
              generalize (w3.alloc (.cells #[.int .i64 tk, .string ts, .int .i64 tn, .int .i64 a] 38)) = w5 at *
              obtain ⟨S, hS⟩ : ∃ S, S = (Value.slice A l.length c).ownBlock.toList := ⟨_, rfl⟩
              rw [← hS] at HGS
              have HSS := Lib.hid hS
              clear hS
              refine L.grow_start S 10 ((0, true, false) :: (1, true, false) :: (2, true, false) :: (3, true, false) :: (4, true, false) :: (5, true, true) :: (6, false, true) :: (7, false, true) :: (8, true, true) :: (9, true, true) :: (10, false, true) :: []) (by kernel_rfl) (([], [6], some 54) :: ([], [6], some 55) :: ([1], [55], some 56) :: ([2], [56], some 57) :: ([3], [57], some 58) :: ([], [7], some 59) :: ([5], [59], some 60) :: ([4, 6], [58, 60], some 61) :: ([0, 0, 1, 2, 3, 4, 5, 6, 7], [54], some 62) :: ([8, 0, 1, 2, 3, 4, 5, 6, 7], [62], some 63) :: ([9, 7, 7, 0, 1, 2, 3, 4, 5, 6, 7], [63, 61], none) :: []) (by kernel_rfl) (by kernel_rfl) (n := 11) rfl (by kernel_rfl) (fun _ _ _ _ _ h => h) (fun wg hog => ?_)
              refine L.growe_start (N := 78) (by rfl) ?_
              have e2 : ∀ w', Only S wg w' → w'.cell? ⟨g, 2, none⟩ = some (.slice A l.length c) := fun w' q => (cell_of_row w' g 2 _ _ _ (((hog.mono (T := S) (by simp)).trans q).heap HG5.out HGS.out.1)).trans rfl
              have e3 : ∀ w', Only S wg w' → (loadVar 38 ⟨b, 0, none⟩).run Tryd.prog w' = .ok (.agg #[.int .i64 tk, .string ts, .int .i64 tn, .int .i64 a]) w' := fun w' q => run_loadVar_row w' b 38 38 _ (0, 0) _ (((hog.mono (T := S) (by simp)).trans q).heap HR5.out HGS.out.2.1) hu3 rfl (by kernel_rfl)
              have HOG := Lib.hid hog
              clear hog
              iterate 5 (first | (refine L.ge_off rfl rfl rfl (by rfl) ?_) | (refine L.ge_move rfl rfl rfl (by rfl) rfl (by simp [L.evE, L.lk, Act.eval]; rfl) ?_) | (refine L.ge_pick rfl rfl rfl (by rfl) rfl (by simp [L.evE, L.lk, Act.eval]; rfl) (by simp [L.evE, L.lk, Act.eval]; rfl) ?_) | (refine L.ge_val rfl rfl rfl (by rfl) (by intro w' hw'; simp [execOp, L.evE, L.lk, Act.eval]; go_simp; rfl) ?_))
              refine L.ge_val (v := .agg #[.int .i64 tk, .string ts, .int .i64 tn, .int .i64 a]) rfl rfl rfl (by rfl) (by intro w' hw'; simp [execOp, L.evE, L.lk, Act.eval, Instr.loadAt, Instr.sureAddr, e3 w' hw']) ?_
              have e2z := e2
              clear e3
              refine ge_one rfl rfl rfl (by rfl) _ (.tmp 59) rfl 38 Tryd.underlying23 zTok 4 40 infoTok (by omega) (by omega) #[.int .i64 tk, .string ts, .int .i64 tn, .int .i64 a] (by have h := fill_one4 zTok (.int .i64 tk) (.string ts) (.int .i64 tn) (.int .i64 a) rfl; simpa [L.evE, L.lk, Act.eval] using h) ?_
              have HPN := Lib.hid (heap_alloc_new wg (.cells #[.int .i64 tk, .string ts, .int .i64 tn, .int .i64 a] 38))
              have HOW := Lib.hid ((HU5.out.only HOG.out (by simp)).only ((Only.refl [] wg).alloc (.cells #[.int .i64 tk, .string ts, .int .i64 tn, .int .i64 a] 38)) (by simp))
              refine ge_append_row rfl rfl rfl (by rfl) (.tmp 58) (.tmp 60) 23 rfl w.heap.size 38 4 40 zTok Tryd.underlying23 infoTok rfl (by omega) (.slice A l.length c) l.length (toks l) (by simp [L.evE, L.lk, Act.eval]) HOW.out.own (some ⟨wg.heap.size, 0, none⟩) 1 1 [.int .i64 tk, .string ts, .int .i64 tn, .int .i64 a] (by simp [L.evE, L.lk, Act.eval]) rfl (fun _ => ⟨_, rfl, cellsAt_row HPN.out⟩) (by simp [Value.oneCell']) (by have := hln.out; unfold maxLen; omega) (by have := hln.out; omega) (by have := HO5.out.size; have := HOG.out.size; simp; omega) ?_
              intro A8 c8 w8 hb8 ho8 hk8
              refine ⟨by rw [HSS.out]; exact ho8, ?_⟩
              have HO8 := Lib.hid (show Only S wg w8 by rw [HSS.out]; exact (((Only.refl [] wg).alloc (.cells #[.int .i64 tk, .string ts, .int .i64 tn, .int .i64 a] 38)).mono (by simp)).trans ho8)
              have HB8 := Lib.hid (show w8.ownsRow w.heap.size 38 4 (.slice A8 (l.length + 1) c8) (l.length + 1) (toks (l ++ [((tk, ts, tn, a) : Tok)])) by rw [toks_snoc]; exact hb8)
              have HK8 := Lib.hid (show ∀ k, (Value.slice A8 (l.length + 1) c8).ownBlock = some k → k ≠ g from fun k hk => by
                rcases hk8 k hk with h | h
                · exact HU5.out.ne k h
                · have h1 := heap_lt HG5.out
                  have h2 := HOG.out.size
                  simp at h
                  omega)
              clear hb8 ho8 hk8 HPN HOW
              iterate 2 (first | (refine L.ge_off rfl rfl rfl (by rfl) ?_) | (refine L.ge_move rfl rfl rfl (by rfl) rfl (by simp [L.evE, L.lk, Act.eval]; rfl) ?_) | (refine L.ge_pick rfl rfl rfl (by rfl) rfl (by simp [L.evE, L.lk, Act.eval]; rfl) (by simp [L.evE, L.lk, Act.eval]; rfl) ?_) | (refine L.ge_val rfl rfl rfl (by rfl) (by intro w' hw'; simp [execOp, L.evE, L.lk, Act.eval]; go_simp; rfl) ?_))
              have HG8 := Lib.hid (HO8.out.heap (HOG.out.heap HG5.out (by simp)) HGS.out.1)
              have c2 : w8.cell? ⟨g, 2, none⟩ = some (.slice A l.length c) := (cell_of_row _ g 2 _ _ _ HG8.out).trans rfl
              have z2 : w8.frozen? ⟨g, 2, none⟩ = false := frozen_of_row w8 g 2 _ _ HG8.out
              refine L.ge_last (w' := w8.setCell ⟨g, 2, none⟩ (.slice A8 (l.length + 1) c8)) rfl rfl (by rfl) (by simp [execOp, L.evE, L.lk, Act.eval]; go_simp) ?_
              simp only [L.puts, Act.put, goInt, List.setIfInBounds_toArray, List.set_cons_zero, List.set_cons_succ]
              have HG9 := Lib.hid (show CutAt (w8.setCell ⟨g, 2, none⟩ (.slice A8 (l.length + 1) c8)) g x a (.slice A8 (l.length + 1) c8) from heap_setCell_same w8 g 2 _ _ _ HG8.out)
              have HO9 := Lib.hid (show Only [g] w8 (w8.setCell ⟨g, 2, none⟩ (.slice A8 (l.length + 1) c8)) from (Only.refl _ _).setCell (by simp) _)
              clear c2 z2 HG8
              generalize w8.setCell ⟨g, 2, none⟩ (.slice A8 (l.length + 1) c8) = w9 at *
              have HB9 := Lib.hid (ownsRow_only HB8.out HO9.out (fun k hk => by simpa using HK8.out k hk))
              have HOA := Lib.hid (show Only [] w w9 from ((HO5.out.trans HOG.out).then HO8.out (fun i hi => .inr (HGS.out.2.2 i hi))).then HO9.out (fun i hi => by simp at hi; subst hi; exact .inr HGL.out))
              clear HB8 HO9 HO8 HU5 HG5 HR5 HO5 HOG e2 e2z HSS HGS
              have hn0 : (0 : Int) ≤ n := by omega
              have hbnd := hbd.out
              have HPA := Lib.hid (passZ_at (x, a) n hn2)
              have HPS := Lib.hid (passZ_size (x, a) n hn2)
              have HPX := Lib.hid (pass_any g n x a (.slice A8 (l.length + 1) c8) w9 HG9.out (by omega) hn2 hbnd.1 (by omega))
              obtain ⟨px, hpx⟩ : ∃ px, px = passZ (x, a) n := ⟨_, rfl⟩
              obtain ⟨p1, p2⟩ := px
              have q1 : x.extract n x.size = p1 := (congrArg Prod.fst hpx).symm
              have q2 : a + Lib.runeCount (x.extract 0 n) = p2 := (congrArg Prod.snd hpx).symm
              rw [q1, q2] at HPX
              rw [← hpx] at HPA HPS
              have HPS2 : Hid (p1.size = x.size - n) := HPS
              have HPA2 : Hid (a ≤ p2 ∧ p2 + (p1.size : Int) ≤ a + x.size) := HPA
              have HVV := HV2.out
              rw [Int.toNat_natCast, ← hpx] at HVV
              have HV3 := Lib.hid HVV
              clear HVV HV2 hpx q1 q2
              go_wp2_with (go_at_call 31; refine HPX.out.mono ?_; rintro e w10 ⟨rfl, hg10, ho10⟩; have HG10 := Lib.hid hg10; have HB10 := Lib.hid (ownsRow_only HB9.out ho10 (fun k hk => by simpa using HK8.out k hk)); have HO10 := Lib.hid (HOA.out.then ho10 (fun i hi => by simp at hi; subst hi; exact .inr HGL.out)); clear hg10 ho10; refine (fun (h : Hid _) => h.out) ?_)
              refine Lib.hid ?_
              have HBB := Lib.hid (blanksZ_bound p1.size (p1, p2) 8192 (show 0 ≤ p2 by have := HPA2.out; omega) (show p2 + (p1.size : Int) ≤ 8192 by have := HPA2.out; omega))
              have HBL := Lib.hid (blanks_any g p1 p2 (.slice A8 (l.length + 1) c8) w10 HG10.out (by have := HPA2.out; omega) (by have := HPA2.out; omega))
              obtain ⟨f, rfl⟩ : ∃ m, f = m + 1 := ⟨f - 1, by have := hf.out; omega⟩
              have HVV := HV3.out
              rw [cutLoop_tail] at HVV
              have HBB2 : Hid (0 ≤ (blanks (p1, p2)).2 ∧ (blanks (p1, p2)).2 + (blanks (p1, p2)).1.size ≤ 8192 ∧ (blanks (p1, p2)).1.size ≤ p1.size) := HBB
              clear HBB HV3
              generalize blanks (p1, p2) = bx at *
              obtain ⟨b1, b2⟩ := bx
              have HV4 := Lib.hid HVV
              clear HVV HG9 HB9 HPX HOA
              go_wp2_with (go_at_call 29; refine HBL.out.mono ?_; rintro e w11 ⟨rfl, hg11, ho11⟩; have HG11 := Lib.hid hg11; have HB11 := Lib.hid (ownsRow_only HB10.out ho11 (fun k hk => by simpa using HK8.out k hk)); have HO11 := Lib.hid (HO10.out.then ho11 (fun i hi => by simp at hi; subst hi; exact .inr HGL.out)); clear hg11 ho11)
              go_roundw
              case rel =>
                have hll : (l ++ [((tk, ts, tn, a) : Tok)]).length = l.length + 1 := by simp
                refine ⟨b1, b2, l ++ [(tk, ts, tn, a)], A8, c8, f, Lib.hid (by rw [hll]; exact HG11.out), Lib.hid ⟨by rw [hll]; exact HB11.out, by rw [hll]; exact HK8.out⟩, HV4, Lib.hid ⟨HBB2.out.1, HBB2.out.2.1⟩, Lib.hid (by rw [hll]; have := hln.out; omega), Lib.hid (by have := HBB2.out.2.2; have := HPS2.out; have := hf.out; omega), HO11⟩
              case measure =>
                rw [leftN_at HG11.out, HL.out]
                have := HBB2.out.2.2
                have := HPS2.out
                omega
            · have hv' := hv
              rw [if_pos (by simpa using hte)] at hv'
              have HV2 := Lib.hid hv'
              have hte' : ¬ te = 0 := hte
              clear hv hv' HV HTL
              go_wp2
              generalize (w3.alloc (.cells #[.int .i64 tk, .string ts, .int .i64 tn, .int .i64 ta] 38)) = w4 at *
              refine L.grow_start [] 8 ((0, true, false) :: (1, true, false) :: (2, true, false) :: (3, true, false) :: (4, true, false) :: (5, true, true) :: (6, true, true) :: (7, true, true) :: []) (by kernel_rfl) (([], [9], some 44) :: ([], [6], some 45) :: ([1], [45], some 46) :: ([2], [46], some 47) :: ([3], [47], some 48) :: ([], [], some 2) :: ([0, 5, 0, 5], [44], some 3) :: ([4, 6, 0, 1, 2, 3, 4, 5, 6], [48], some 4) :: []) (by kernel_rfl) (by kernel_rfl) (n := 8) rfl (by kernel_rfl) (fun _ _ _ _ _ h => h) (fun wg hog => ?_)
              refine L.growe_start (N := 78) (by rfl) ?_
              have e1 : ∀ w', Only [] wg w' → w'.cell? ⟨g, 1, none⟩ = some (.int .i64 a) := fun w' q => (cell_of_row w' g 1 _ _ _ ((hog.trans q).heap HG4.out (by simp))).trans rfl
              have HOG := Lib.hid hog
              clear hog
              iterate 8 (first | (refine L.ge_off rfl rfl rfl (by rfl) ?_) | (refine L.ge_move rfl rfl rfl (by rfl) rfl (by simp [L.evE, L.lk, Act.eval]; rfl) ?_) | (refine L.ge_pick rfl rfl rfl (by rfl) rfl (by simp [L.evE, L.lk, Act.eval]; rfl) (by simp [L.evE, L.lk, Act.eval]; rfl) ?_) | (refine L.ge_val rfl rfl rfl (by rfl) (by intro w' hw'; simp [execOp, L.evE, L.lk, Act.eval]; go_simp; rfl) ?_))
              refine L.ge_done ?_
              simp only [L.puts, Act.put, goInt, List.setIfInBounds_toArray, List.set_cons_zero, List.set_cons_succ]
              go_wp2
              go_ret3
              refine ⟨none, 0, ?_, ?_, (HO4.out.trans HOG.out).nil_below⟩
              · rw [HV2.out]; rfl
              · rw [HV2.out]; exact ownsRow_nil _ _ _ _
def lex_Cut.f (a0 : ByteArray) : Option (List S38 × Int × Int) := if a0.size ≤ 1000000000 then some ((cutZ a0).1.map gTok, (cutZ a0).2.1, (cutZ a0).2.2) else none
theorem lex_Cut.calls (a0 : ByteArray) (r1 : List S38) (r2 r3 : Int) (w : World) (hT : Tabs w) (h : lex_Cut.f a0 = some (r1, r2, r3)) :
    Calls Tryd.prog 13 #[.string a0] w fun e w' => ∃ v0_ : Value, e = .returned (.tuple #[v0_, .int .i64 r2, .int .i64 r3]) ∧ Kd.R k38 38 w' w.heap.size (fun _ => True) v0_ r1 ∧ Below w.heap.size w w' := by
  unfold lex_Cut.f at h
  split at h
  · rename_i hb
    have e := Option.some.inj h
    obtain ⟨e1, e2⟩ := Prod.mk.inj e
    obtain ⟨e2, e3⟩ := Prod.mk.inj e2
    subst e1 e2 e3
    refine (cut_walk a0 w hb hT).mono ?_
    rintro e w' ⟨A, c, rfl, ho, hb⟩
    refine ⟨_, rfl, ?_, hb⟩
    refine Kd.R_of_own (w := w') (news := toks (cutZ a0).1) (fun x cs h => ?_) (toks_reps w' _) (by rw [List.length_map]; exact ho)
    obtain rfl := k38_open h
    exact k38_mkM _ _ _ _
  · cases h
end Go.Proofs.YtlikjknakplamaaDoor.Print
/-! ### EShow -/
namespace Go.Proofs.YtlikjknakplamaaDoor.Print
open Go.RowKit Go.Proofs.YtlikjknakplamaaDoorW.PrintWords Go.Proofs.YtlikjknakplamaaDoorW.PrintLast Go.Proofs.YtlikjknakplamaaDoorW.PrintMore
set_option linter.unusedSimpArgs false
set_option linter.unusedVariables false
def showZ (n : Int) : ByteArray := ⟨(Lib.itoa n).toArray⟩
theorem show_any (n : Int) (w : World) (h0 : -9223372036854775808 ≤ n) (h1 : n ≤ 9223372036854775807) (hT : Tabs w) :
    Calls Tryd.prog 20 #[.int .i64 n] w fun e w' => e = .returned (.string (showZ n)) ∧ Below w.heap.size w w' := by
  obtain ⟨V, hV⟩ : ∃ V, V = showZ n := ⟨_, rfl⟩
  have hc := Lib.hid (show Calls Tryd.prog 36 #[.int .i64 n] w fun e w' => e = .returned (.string V) ∧ Below w.heap.size w w' from
    (Tryd.strconv_Itoa n h0 h1 w hT.ten).mono fun e w' ⟨he, k, os, hw⟩ => ⟨by rw [he, hV]; rfl, hw ▸ Lib.below_grow _ w (Nat.le_refl _) k os⟩)
  rw [← hV]
  clear hV h0 h1 hT
  go_enter Tryd.func20, Tryd.ntmps20
  go_wp2_with (go_at_call 36; refine hc.out.mono ?_; rintro e w1 ⟨rfl, hb⟩; have HB := Lib.hid hb; clear hb)
  go_ret
  exact ⟨rfl, HB.out⟩
end Go.Proofs.YtlikjknakplamaaDoor.Print
/-! ### EAwake -/
namespace Go.Proofs.YtlikjknakplamaaDoor.Print
open Go.RowKit Go.Proofs.YtlikjknakplamaaDoorW.PrintWords Go.Proofs.YtlikjknakplamaaDoorW.PrintLast Go.Proofs.YtlikjknakplamaaDoorW.PrintMore
set_option linter.unusedSimpArgs false
set_option linter.unusedVariables false
def exText : ByteArray := ⟨#[97, 49, 32, 58, 61, 32, 50, 48, 32, 35, 32, 120]⟩
def exToks : List Tok := [(1, ⟨#[97, 49]⟩, 0, 0), (4, ⟨#[58, 61]⟩, 0, 3), (2, ⟨#[50, 48]⟩, 20, 6), (0, ⟨#[]⟩, 0, 12)]
theorem ex_cut : cutZ exText = (exToks, 0, 0) := by kernel_rfl
theorem ex_num : numZ ⟨#[50, 48]⟩ = (20, true) := by kernel_rfl
theorem ex_show : showZ (-7) = ⟨#[45, 55]⟩ := by
  unfold showZ Lib.itoa
  rw [if_pos (by decide), show (-7 : Int).natAbs = 7 from rfl]
  unfold Lib.decDigits
  rw [dif_pos (by decide)]
  rfl
def malthouselaw01_awake.f : Option Bool := some true
set_option maxHeartbeats 4000000 in
set_option maxRecDepth 100000 in
theorem malthouselaw01_awake.calls (r : Bool) (w : World) (hT : Tabs w) (h : malthouselaw01_awake.f = some r) :
    Calls Tryd.prog 12 #[] w fun e w' => e = .returned (.bool r) ∧ Below w.heap.size w w' := by
  obtain rfl := Option.some.inj h
  clear h
  have HTB := Lib.hid hT
  have hu3 := Tryd.underlying38
  have hc1 := Lib.hid (cut_walk exText w (by decide) hT)
  rw [ex_cut] at hc1
  have hc1 : Hid (Calls Tryd.prog 13 #[.string ⟨#[97, 49, 32, 58, 61, 32, 50, 48, 32, 35, 32, 120]⟩] w fun e w' => ∃ A c, e = .returned (.tuple #[.slice A 4 c, .int .i64 0, .int .i64 0]) ∧ w'.ownsRow w.heap.size 38 4 (.slice A 4 c) 4 (toks exToks) ∧ Below w.heap.size w w') := hc1
  have hc2 := Lib.hid (fun W => number_any ⟨#[50, 48]⟩ W)
  rw [ex_num] at hc2
  have hc3 := Lib.hid (fun W (hW : Tabs W) => show_any (-7) W (by decide) (by decide) hW)
  rw [ex_show] at hc3
  clear hT
  go_enter Tryd.func12, Tryd.ntmps12
  go_wp2_with (first
    | (go_at_call 13; refine hc1.out.mono ?_; rintro e w1 ⟨A, c, rfl, how, hb1⟩; have HOW := Lib.hid how; have HB1 := Lib.hid hb1; clear how hb1)
    | (go_at_call 18; refine (hc2.out _).mono ?_; rintro e w2 ⟨rfl, hb2⟩; have HB2 := Lib.hid (below_then HB1.out HB1.out.size hb2); have HO2 := Lib.hid (Only.of_below hb2); clear hb2; refine (fun (h : Hid _) => h.out) ?_))
  refine Lib.hid ?_
  have ho := ownsRow_only HOW.out HO2.out (by simp)
  rcases ho.2 with ⟨_, h0⟩ | ⟨g, cap, cur, e1, hb, hh, hn, _, hs, ht⟩
  · cases h0
  · injection e1 with e1 e2 e3
    subst e1 e3
    have hcl := Lib.hid (show ∀ j u, (toks exToks)[j]? = some u → w2.cell? ⟨g, j, none⟩ = some u from fun j u hj => by
      rw [cell_of_row w2 g j _ _ _ hh, ← Array.getElem?_toList]
      rw [← ht, List.getElem?_take] at hj
      split at hj
      · exact hj
      · cases hj)
    clear ho hh hs ht hn hb e2 HO2 HOW HB1
    have q0 : w2.cell? ⟨g, 0, none⟩ = some (.int .i64 1) := hcl.out 0 _ rfl
    have q1 : w2.cell? ⟨g, 1, none⟩ = some (.string ⟨#[97, 49]⟩) := hcl.out 1 _ rfl
    have q2 : w2.cell? ⟨g, 2, none⟩ = some (.int .i64 0) := hcl.out 2 _ rfl
    have q3 : w2.cell? ⟨g, 3, none⟩ = some (.int .i64 0) := hcl.out 3 _ rfl
    have q8 : w2.cell? ⟨g, 8, none⟩ = some (.int .i64 2) := hcl.out 8 _ rfl
    have q9 : w2.cell? ⟨g, 9, none⟩ = some (.string ⟨#[50, 48]⟩) := hcl.out 9 _ rfl
    have q10 : w2.cell? ⟨g, 10, none⟩ = some (.int .i64 20) := hcl.out 10 _ rfl
    have q11 : w2.cell? ⟨g, 11, none⟩ = some (.int .i64 6) := hcl.out 11 _ rfl
    have q12 : w2.cell? ⟨g, 12, none⟩ = some (.int .i64 0) := hcl.out 12 _ rfl
    have q13 : w2.cell? ⟨g, 13, none⟩ = some (.string ⟨#[]⟩) := hcl.out 13 _ rfl
    have q14 : w2.cell? ⟨g, 14, none⟩ = some (.int .i64 0) := hcl.out 14 _ rfl
    have q15 : w2.cell? ⟨g, 15, none⟩ = some (.int .i64 12) := hcl.out 15 _ rfl
    go_wp2_with (go_at_call 20; refine (hc3.out _ (HTB.out.below HB2.out)).mono ?_; rintro e w3 ⟨rfl, hb3⟩; have HB3 := Lib.hid (below_then HB2.out HB2.out.size hb3); clear hb3)
    go_ret
    exact ⟨by rfl, HB3.out⟩
end Go.Proofs.YtlikjknakplamaaDoor.Print
/-! ### NmPure -/
namespace Go.Proofs.YtlikjknakplamaaDoor.Print
open Go.RowKit Go.Proofs.YtlikjknakplamaaDoorW.PrintWords Go.Proofs.YtlikjknakplamaaDoorW.PrintLast Go.Proofs.YtlikjknakplamaaDoorW.PrintMore
set_option linter.unusedSimpArgs false
set_option linter.unusedVariables false
def byteAt (s : ByteArray) (i : Nat) : Nat := (s.get! i).toNat
theorem byteAt_lt (s : ByteArray) (i : Nat) : byteAt s i < 256 := (s.get! i).toNat_lt
theorem bt_byteAt (s : ByteArray) (i : Nat) (h : i < s.size) : bt s (i : Int) = byteAt s i := by
  unfold bt byteAt
  have e : s.get! i = s[i]'h := by have := get_at s i h; simpa using this
  rw [Int.toNat_natCast, dif_pos h, e]
theorem wrap_small (x : Int) (h0 : -9223372036854775808 ≤ x) (h1 : x ≤ 9223372036854775807) : wrap64 x = x := by unfold wrap64; omega
theorem rune_step (s : ByteArray) (i j m : Nat) (x6 n least : Int) (hs : s.size ≤ 140737488351232) (hj : (j : Int) < n) (hlt : i + j < s.size) (hx0 : 0 ≤ x6) (hx1 : x6 ≤ 2000000) :
    malthouseref01_Rune.l0 (m + 1) s i x6 n least j = if 128 ≤ byteAt s (i + j) ∧ byteAt s (i + j) < 192 then malthouseref01_Rune.l0 m s i (64 * x6 + byteAt s (i + j) - 128) n least ((j + 1 : Nat) : Int) else some (0, 0) := by
  have hb := byteAt_lt s (i + j)
  have e1 : wrap64 ((i : Int) + j) = ((i + j : Nat) : Int) := by rw [wrap_small _ (by omega) (by omega)]; omega
  have e2 := bt_byteAt s (i + j) hlt
  simp only [malthouseref01_Rune.l0]
  rw [if_pos hj, e1, if_pos (by omega), if_pos (by omega), e2, wrap_small (byteAt s (i + j) : Int) (by omega) (by omega), wrap_small (64 * x6) (by omega) (by omega), wrap_small (64 * x6 + (byteAt s (i + j) : Int)) (by omega) (by omega), wrap_small (64 * x6 + (byteAt s (i + j) : Int) - 128) (by omega) (by omega), wrap_small ((j : Int) + 1) (by omega) (by omega)]
  by_cases h1 : byteAt s (i + j) < 128
  · rw [if_pos (by omega), if_neg (by omega)]
  · rw [if_neg (by omega)]
    by_cases h2 : 192 ≤ byteAt s (i + j)
    · rw [if_pos (by omega), if_neg (by omega)]
    · rw [if_neg (by omega), if_pos (by omega)]
      rfl
theorem rune_end (s : ByteArray) (i : Int) (j : Int) (m : Nat) (x6 n least : Int) (hj : ¬ j < n) :
    malthouseref01_Rune.l0 (m + 1) s i x6 n least j = if least ≤ x6 ∧ x6 ≤ 1114111 ∧ (x6 < 55296 ∨ 57343 < x6) then some (x6, n) else some (0, 0) := by
  simp only [malthouseref01_Rune.l0]
  rw [if_neg hj]
  by_cases h1 : x6 < least
  · rw [if_pos h1, if_neg (by omega)]
  · rw [if_neg h1]
    by_cases h2 : x6 > 1114111
    · rw [if_pos h2, if_neg (by omega)]
    · rw [if_neg h2]
      by_cases h3 : x6 ≥ 55296
      · rw [if_pos h3]
        by_cases h4 : x6 ≤ 57343
        · rw [if_pos h4, if_neg (by omega)]
        · rw [if_neg h4, if_pos (by omega)]
      · rw [if_neg h3, if_pos (by omega)]
theorem rune_begin (s : ByteArray) (i m : Nat) (x6 n least : Int) (hs : s.size ≤ 140737488351232) (hi : i < s.size) :
    malthouseref01_Rune.j2 (m + 1) s i x6 n least = if n ≤ ((s.size - i : Nat) : Int) then malthouseref01_Rune.l0 m s i x6 n least 1 else some (0, 0) := by
  simp only [malthouseref01_Rune.j2]
  rw [wrap_small ((s.size : Int) - i) (by omega) (by omega)]
  by_cases h : n > (s.size : Int) - i
  · rw [if_pos h, if_neg (by omega)]
  · rw [if_neg h, if_pos (by omega)]
/-- What the reference's Rune answers. -/
def runeR (d : Nat × Nat) (b0 : Nat) : Int × Int := if 128 ≤ b0 ∧ d = (65533, 1) then (0, 0) else ((d.1 : Int), (d.2 : Int))
set_option maxHeartbeats 4000000 in
set_option maxRecDepth 100000 in
theorem rune_is (s : ByteArray) (i k : Nat) (hs : s.size ≤ 140737488351232) (hi : i < s.size) : malthouseref01_Rune.f (k + 8) s (i : Int) = some (runeR (Utf8.decode s i) (byteAt s i)) := by
  have h0 := byteAt_lt s i
  have h1 := byteAt_lt s (i + 1)
  have h2 := byteAt_lt s (i + 2)
  have h3 := byteAt_lt s (i + 3)
  have e0 := bt_byteAt s i hi
  rw [Lib.decode_at]
  show _ = some (runeR (Lib.decodeN (s.size - i) (byteAt s i) (byteAt s (i + 1)) (byteAt s (i + 2)) (byteAt s (i + 3))) (byteAt s i))
  unfold malthouseref01_Rune.f
  rw [if_pos (by omega), if_pos (by omega), e0, wrap_small (byteAt s i : Int) (by omega) (by omega)]
  have r2 := fun m x6 n least (hn : 1 < n) (hl : i + 1 < s.size) (a : 0 ≤ x6) (b : x6 ≤ 2000000) => rune_step s i 1 m x6 n least hs hn hl a b
  have r3 := fun m x6 n least (hn : 2 < n) (hl : i + 2 < s.size) (a : 0 ≤ x6) (b : x6 ≤ 2000000) => rune_step s i 2 m x6 n least hs hn hl a b
  have r4 := fun m x6 n least (hn : 3 < n) (hl : i + 3 < s.size) (a : 0 ≤ x6) (b : x6 ≤ 2000000) => rune_step s i 3 m x6 n least hs hn hl a b
  have rb := fun m x6 n least => rune_begin s i m x6 n least hs hi
  generalize hN : s.size - i = N at *
  generalize byteAt s i = b0 at *
  generalize byteAt s (i + 1) = b1 at *
  generalize byteAt s (i + 2) = b2 at *
  generalize byteAt s (i + 3) = b3 at *
  by_cases c0 : b0 < 128
  · rw [if_pos (by omega)]
    unfold runeR Lib.decodeN
    rw [if_neg (by omega), if_pos c0]
    rfl
  rw [if_neg (by omega)]
  by_cases c1 : b0 < 192
  · rw [if_neg (by omega)]
    simp only [malthouseref01_Rune.j0, malthouseref01_Rune.j1]
    rw [if_neg (by simp), if_neg (by omega), if_neg (by simp), if_neg (by omega)]
    unfold Lib.decodeN
    rw [if_neg (by omega), if_neg (by omega), if_neg (by omega), if_neg (by omega)]
    unfold runeR
    rw [if_pos ⟨by omega, rfl⟩]
  rw [if_pos (by omega)]
  simp only [malthouseref01_Rune.j0, malthouseref01_Rune.j1, decide_eq_true_eq]
  have fin : ∀ (x : Nat) (w : Nat), (x, w) ≠ (65533, 1) → some ((x : Int), (w : Int)) = some (runeR (x, w) b0) := fun x w h => by
    unfold runeR
    rw [if_neg (fun hh => h hh.2)]
  have bad : some ((0 : Int), (0 : Int)) = some (runeR (65533, 1) b0) := by
    unfold runeR
    rw [if_pos ⟨by omega, rfl⟩]
  by_cases c2 : b0 < 224
  · rw [if_pos (by omega), wrap_small _ (by omega) (by omega), rb]
    by_cases d1 : 1 < N
    · rw [if_pos (by omega), show ((1 : Int)) = ((1 : Nat) : Int) from rfl, r2 _ _ _ _ (by omega) (by omega) (by omega) (by omega)]
      by_cases d2 : 128 ≤ b1 ∧ b1 < 192
      · rw [if_pos d2]
        unfold Lib.decodeN
        rw [if_neg (by omega), if_pos (by omega)]
        by_cases d3 : b0 % 32 * 64 + b1 % 64 ≥ 128
        · rw [if_pos d3, rune_end _ _ _ _ _ _ _ (by omega), if_pos (by omega), ← fin _ _ (by simp)]
          congr 2; omega
        · rw [if_neg d3, rune_end _ _ _ _ _ _ _ (by omega), if_neg (by omega)]; exact bad
      · rw [if_neg d2]
        unfold Lib.decodeN
        rw [if_neg (by omega), if_neg (by omega), if_neg (by omega), if_neg (by omega)]; exact bad
    · rw [if_neg (by omega)]
      unfold Lib.decodeN
      rw [if_neg (by omega), if_neg (by omega), if_neg (by omega), if_neg (by omega)]; exact bad
  rw [if_neg (by omega), if_pos (by omega)]
  by_cases c3 : b0 < 240
  · rw [if_pos (by omega), wrap_small _ (by omega) (by omega), rb]
    by_cases d1 : 2 < N
    · rw [if_pos (by omega), show ((1 : Int)) = ((1 : Nat) : Int) from rfl, r2 _ _ _ _ (by omega) (by omega) (by omega) (by omega)]
      by_cases d2 : 128 ≤ b1 ∧ b1 < 192
      · rw [if_pos d2, show 1 + 1 = 2 from rfl, r3 _ _ _ _ (by omega) (by omega) (by omega) (by omega)]
        by_cases d3 : 128 ≤ b2 ∧ b2 < 192
        · rw [if_pos d3]
          unfold Lib.decodeN
          rw [if_neg (by omega), if_neg (by omega), if_pos (by omega)]
          by_cases d4 : b0 % 16 * 4096 + b1 % 64 * 64 + b2 % 64 ≥ 2048 ∧ (b0 % 16 * 4096 + b1 % 64 * 64 + b2 % 64 < 55296 ∨ (57344 ≤ b0 % 16 * 4096 + b1 % 64 * 64 + b2 % 64 ∧ b0 % 16 * 4096 + b1 % 64 * 64 + b2 % 64 ≤ 1114111))
          · rw [if_pos d4, rune_end _ _ _ _ _ _ _ (by omega), if_pos (by omega), ← fin _ _ (by simp)]
            congr 2; omega
          · rw [if_neg d4, rune_end _ _ _ _ _ _ _ (by omega), if_neg (by omega)]; exact bad
        · rw [if_neg d3]
          unfold Lib.decodeN
          rw [if_neg (by omega), if_neg (by omega), if_neg (by omega), if_neg (by omega)]; exact bad
      · rw [if_neg d2]
        unfold Lib.decodeN
        rw [if_neg (by omega), if_neg (by omega), if_neg (by omega), if_neg (by omega)]; exact bad
    · rw [if_neg (by omega)]
      unfold Lib.decodeN
      rw [if_neg (by omega), if_neg (by omega), if_neg (by omega), if_neg (by omega)]; exact bad
  rw [if_neg (by omega), if_pos (by omega)]
  by_cases c4 : b0 < 248
  · rw [if_pos (by omega), wrap_small _ (by omega) (by omega), rb]
    by_cases d1 : 3 < N
    · rw [if_pos (by omega), show ((1 : Int)) = ((1 : Nat) : Int) from rfl, r2 _ _ _ _ (by omega) (by omega) (by omega) (by omega)]
      by_cases d2 : 128 ≤ b1 ∧ b1 < 192
      · rw [if_pos d2, show 1 + 1 = 2 from rfl, r3 _ _ _ _ (by omega) (by omega) (by omega) (by omega)]
        by_cases d3 : 128 ≤ b2 ∧ b2 < 192
        · rw [if_pos d3, show 2 + 1 = 3 from rfl, r4 _ _ _ _ (by omega) (by omega) (by omega) (by omega)]
          by_cases d5 : 128 ≤ b3 ∧ b3 < 192
          · rw [if_pos d5]
            unfold Lib.decodeN
            rw [if_neg (by omega), if_neg (by omega), if_neg (by omega), if_pos (by omega)]
            by_cases d4 : b0 % 8 * 262144 + b1 % 64 * 4096 + b2 % 64 * 64 + b3 % 64 ≥ 65536 ∧ (b0 % 8 * 262144 + b1 % 64 * 4096 + b2 % 64 * 64 + b3 % 64 < 55296 ∨ (57344 ≤ b0 % 8 * 262144 + b1 % 64 * 4096 + b2 % 64 * 64 + b3 % 64 ∧ b0 % 8 * 262144 + b1 % 64 * 4096 + b2 % 64 * 64 + b3 % 64 ≤ 1114111))
            · rw [if_pos d4, rune_end _ _ _ _ _ _ _ (by omega), if_pos (by omega), ← fin _ _ (by simp)]
              congr 2; omega
            · rw [if_neg d4, rune_end _ _ _ _ _ _ _ (by omega), if_neg (by omega)]; exact bad
          · rw [if_neg d5]
            unfold Lib.decodeN
            rw [if_neg (by omega), if_neg (by omega), if_neg (by omega), if_neg (by omega)]; exact bad
        · rw [if_neg d3]
          unfold Lib.decodeN
          rw [if_neg (by omega), if_neg (by omega), if_neg (by omega), if_neg (by omega)]; exact bad
      · rw [if_neg d2]
        unfold Lib.decodeN
        rw [if_neg (by omega), if_neg (by omega), if_neg (by omega), if_neg (by omega)]; exact bad
    · rw [if_neg (by omega)]
      unfold Lib.decodeN
      rw [if_neg (by omega), if_neg (by omega), if_neg (by omega), if_neg (by omega)]; exact bad
  · rw [if_neg (by omega)]
    unfold Lib.decodeN
    rw [if_neg (by omega), if_neg (by omega), if_neg (by omega), if_neg (by omega)]; exact bad
/-- A text's runes from a place on, where each begins, is there no bad byte. -/
def runesFrom (s : ByteArray) : Nat → Nat → List Int × List Int × Bool
  | 0, _ => ([], [(s.size : Int)], true)
  | f + 1, p => if p < s.size then
      (if (Utf8.decode s p).1 = 65533 ∧ (Utf8.decode s p).2 = 1 then ([], [], false)
       else (((Utf8.decode s p).1 : Int) :: (runesFrom s f (p + (Utf8.decode s p).2)).1, (p : Int) :: (runesFrom s f (p + (Utf8.decode s p).2)).2.1, (runesFrom s f (p + (Utf8.decode s p).2)).2.2)) else ([], [(s.size : Int)], true)
theorem decode_small (s : ByteArray) (p : Nat) (h : byteAt s p < 128) : Utf8.decode s p = (byteAt s p, 1) := by
  rw [Lib.decode_at]
  unfold Lib.decodeN
  rw [if_pos (by exact h)]
  rfl
theorem runeR_good (s : ByteArray) (p : Nat) (h : ¬ ((Utf8.decode s p).1 = 65533 ∧ (Utf8.decode s p).2 = 1)) : runeR (Utf8.decode s p) (byteAt s p) = (((Utf8.decode s p).1 : Int), ((Utf8.decode s p).2 : Int)) := by
  unfold runeR
  rw [if_neg]
  rintro ⟨_, h2⟩
  exact h (by rw [h2]; exact ⟨rfl, rfl⟩)
theorem runeR_bad (s : ByteArray) (p : Nat) (h : (Utf8.decode s p).1 = 65533 ∧ (Utf8.decode s p).2 = 1) : runeR (Utf8.decode s p) (byteAt s p) = (0, 0) := by
  unfold runeR
  rw [if_pos]
  refine ⟨?_, Prod.ext h.1 h.2⟩
  rcases Nat.lt_or_ge (byteAt s p) 128 with hb | hb
  · rw [decode_small s p hb] at h
    have := h.1
    simp only at this
    omega
  · exact hb
theorem decode_width (s : ByteArray) (p : Nat) (h : p < s.size) : 1 ≤ (Utf8.decode s p).2 ∧ p + (Utf8.decode s p).2 ≤ s.size ∧ (Utf8.decode s p).2 ≤ 4 := by
  rw [Lib.decode_at]
  unfold Lib.decodeN
  repeat' split
  all_goals (simp only; omega)
set_option maxRecDepth 100000 in
theorem runes_loop (s S : ByteArray) (hs : s.size ≤ 1000000000) : ∀ (f p k : Nat) (rs qs : List Int), s.size ≤ p + f → p ≤ s.size → rs.length ≤ p → qs.length ≤ p →
    malthouseref01_Runes.l0 (k + f + 9) s (p : Int) S rs qs = some (S, rs ++ (runesFrom s f p).1, qs ++ (runesFrom s f p).2.1, (runesFrom s f p).2.2) := by
  intro f
  induction f with
  | zero =>
    intro p k rs qs h1 h2 h3 h4
    have e : k + 0 + 9 = (k + 8) + 1 := by omega
    rw [e]
    generalize k + 8 = K
    simp only [malthouseref01_Runes.l0, runesFrom]
    rw [if_neg (by omega), if_pos (by omega)]
    simp
  | succ f ih =>
    intro p k rs qs h1 h2 h3 h4
    have e : k + (f + 1) + 9 = (k + f + 9) + 1 := by omega
    rw [e]
    have ih' := fun p rs qs => ih p k rs qs
    have hrune := rune_is s p (k + f + 1) (by omega)
    rw [show k + f + 1 + 8 = k + f + 9 by omega] at hrune
    clear ih e
    generalize k + f + 9 = K at *
    by_cases hp : p < s.size
    · simp only [malthouseref01_Runes.l0, runesFrom]
      rw [if_pos (by omega), hrune hp]
      simp only [Option.bind_some]
      obtain ⟨w1, w2, w3⟩ := decode_width s p hp
      rw [if_pos hp]
      by_cases hb : (Utf8.decode s p).1 = 65533 ∧ (Utf8.decode s p).2 = 1
      · rw [runeR_bad s p hb, if_pos rfl, if_pos hb]
        simp
      · rw [runeR_good s p hb, if_neg hb]
        simp only
        rw [if_neg (by omega), if_pos (by omega), if_pos (by omega), wrap_small _ (by omega) (by omega)]
        have := ih' (p + (Utf8.decode s p).2) (rs ++ [((Utf8.decode s p).1 : Int)]) (qs ++ [(p : Int)]) (by omega) w2 (by simp; omega) (by simp; omega)
        rw [show (p : Int) + ((Utf8.decode s p).2 : Int) = ((p + (Utf8.decode s p).2 : Nat) : Int) by omega, this]
        simp
    · simp only [malthouseref01_Runes.l0, runesFrom]
      rw [if_neg (by omega), if_pos (by omega), if_neg hp]
      simp
theorem runes_is (s : ByteArray) (hs : s.size ≤ 1000000000) (k : Nat) : malthouseref01_Runes.f (k + s.size + 9) s = some (s, (runesFrom s s.size 0).1, (runesFrom s s.size 0).2.1, (runesFrom s s.size 0).2.2) := by
  have := runes_loop s s hs s.size 0 k [] [] (by omega) (by omega) (by simp) (by simp)
  simpa [malthouseref01_Runes.f] using this
theorem wordy_is (r : Int) : malthouseref01_wordy.f r = some (wordyZ r) := by
  unfold malthouseref01_wordy.f malthouseref01_Class.f wordyZ
  simp only [Option.bind_some]
  by_cases h : classZ r = 2
  · rw [if_pos h, h]; rfl
  · rw [if_neg h]
    simp [h]
end Go.Proofs.YtlikjknakplamaaDoor.Print
/-! ### LxNum -/
namespace Go.Proofs.YtlikjknakplamaaDoor
open Go.Lib
set_option linter.unusedSimpArgs false
set_option linter.unusedVariables false
theorem class_digit (r : Nat) (h0 : 48 ≤ r) (h1 : r ≤ 57) : classZ (r : Int) = 3 := by
  unfold classZ
  rw [if_neg (by omega), if_neg (by omega), if_neg (by omega), if_pos (by omega)]
end Go.Proofs.YtlikjknakplamaaDoor
/-! ### LxCutP -/
namespace Go.Proofs.YtlikjknakplamaaDoor
open Go.Lib
set_option linter.unusedSimpArgs false
set_option linter.unusedVariables false
theorem takeWhile_len {α : Type} (p : α → Bool) (l : List α) : (l.takeWhile p).length ≤ l.length := (List.takeWhile_sublist _).length_le
theorem takeWhile_pos {α : Type} (p : α → Bool) (x : α) (l : List α) (h : p x = true) : 1 ≤ ((x :: l).takeWhile p).length := by
  rw [List.takeWhile_cons, if_pos h]
  simp
theorem wordy_two {r : Nat} (h : classZ (r : Int) = 2) : isW r = true := by
  show wordyZ (r : Int) = true
  unfold wordyZ
  rw [h]
  rfl
theorem wordy_three {r : Nat} (h : classZ (r : Int) = 3) : isW r = true := by
  show wordyZ (r : Int) = true
  unfold wordyZ
  rw [h]
  rfl
theorem signR_le (r : Nat) (t : List Nat) : 1 ≤ signR r t ∧ signR r t ≤ (r :: t).length := by
  unfold signR two
  cases t with
  | nil => simp
  | cons x t => split <;> simp
/-- A token takes something, and no more than there is; what it is. -/
theorem tokR_good (rs : List Nat) (he : (tokR rs).2.2 = 0) :
    1 ≤ (tokR rs).2.1 ∧ (tokR rs).2.1 ≤ rs.length ∧ (tokR rs).1.1 ≠ 0 ∧ ((tokR rs).1.2.1 = [] → (tokR rs).1.1 = 3) ∧ (∀ r ∈ (tokR rs).1.2.1, r ∈ rs) := by
  cases rs with
  | nil => cases he
  | cons r t =>
    have htw := takeWhile_len isW (r :: t)
    unfold tokR at he ⊢
    by_cases c2 : classZ r = 2
    · have hp := takeWhile_pos isW r t (wordy_two c2)
      simp only [if_pos c2] at he ⊢
      by_cases c : 12 < ((r :: t).takeWhile isW).length
      · rw [if_pos c] at he; cases he
      · simp only [if_neg c]
        refine ⟨hp, htw, by decide, fun h => ?_, takeWhile_sub _ _⟩
        rw [h] at hp
        simp at hp
    · simp only [if_neg c2] at he ⊢
      by_cases c3 : classZ r = 3
      · have hp := takeWhile_pos isW r t (wordy_three c3)
        simp only [if_pos c3] at he ⊢
        by_cases c : (numR ((r :: t).takeWhile isW)).2 = true
        · simp only [if_pos c]
          refine ⟨hp, htw, by decide, fun h => ?_, takeWhile_sub _ _⟩
          rw [h] at hp
          simp at hp
        · rw [if_neg c] at he; cases he
      · simp only [if_neg c3] at he ⊢
        by_cases c5 : classZ r = 5
        · simp only [if_pos c5] at he ⊢
          unfold textR at he ⊢
          by_cases d1 : 34 ∈ t.takeWhile (fun r => decide (r ≠ 10))
          · simp only [if_pos d1] at he ⊢
            by_cases d2 : ((t.takeWhile fun r => decide (r ≠ 10)).takeWhile fun r => decide (r ≠ 34)).any (fun r => decide (r < 32)) = true
            · rw [if_pos d2] at he; cases he
            · simp only [if_neg d2] at he ⊢
              by_cases d3 : 20 < ((t.takeWhile fun r => decide (r ≠ 10)).takeWhile fun r => decide (r ≠ 34)).length
              · rw [if_pos d3] at he; cases he
              · simp only [if_neg d3]
                refine ⟨by omega, ?_, by decide, fun _ => trivial, fun x hx => List.mem_cons_of_mem _ (takeWhile_sub _ _ _ (takeWhile_sub _ _ _ hx))⟩
                obtain ⟨u, hu⟩ := takeWhile_mark 34 _ d1
                have h1 := congrArg List.length hu
                have h2 := takeWhile_len (fun r : Nat => decide (r ≠ 10)) t
                simp only [List.length_append, List.length_cons] at h1 ⊢
                omega
          · rw [if_neg d1] at he; cases he
        · simp only [if_neg c5] at he ⊢
          by_cases c4 : classZ r = 4
          · simp only [if_pos c4]
            obtain ⟨h1, h2⟩ := signR_le r t
            refine ⟨h1, h2, by decide, fun h => ?_, fun x hx => List.mem_of_mem_take hx⟩
            obtain ⟨m, hm⟩ : ∃ m, signR r t = m + 1 := ⟨signR r t - 1, by omega⟩
            rw [hm, List.take_succ_cons] at h
            cases h
          · rw [if_neg c4] at he; cases he
theorem drop_blanks_len (rs : List Nat) : (rs.drop (blanksN false rs)).length + blanksN false rs = rs.length := by
  rw [List.length_drop]
  have := blanksN_le false rs
  omega
theorem lexR_fuel : ∀ (f g : Nat) (rs : List Nat) (n k : Nat), rs.length < f → rs.length < g → lexR f rs n k = lexR g rs n k := by
  intro f
  induction f with
  | zero => intro g rs n k h; omega
  | succ f ih =>
    intro g rs n k h1 h2
    obtain ⟨g, rfl⟩ : ∃ m, g = m + 1 := ⟨g - 1, by omega⟩
    unfold lexR
    by_cases h : rs.drop (blanksN false rs) = []
    · rw [if_pos h, if_pos h]
    · rw [if_neg h, if_neg h]
      by_cases hk : k = 2000
      · rw [if_pos hk, if_pos hk]
      · rw [if_neg hk, if_neg hk]
        by_cases he : (tokR (rs.drop (blanksN false rs))).2.2 ≠ 0
        · rw [if_pos he, if_pos he]
        · have hg := tokR_good _ (by simpa using he)
          have hd := drop_blanks_len rs
          rw [if_neg he, if_neg he, ih g _ _ _ (by rw [List.length_drop]; omega) (by rw [List.length_drop]; omega)]
def lex (rs : List Nat) (n k : Nat) : List (TokR × Nat) × Int × Int := lexR (rs.length + 1) rs n k
/-- What is left behind blanks. -/
def past (rs : List Nat) : List Nat := rs.drop (blanksN false rs)
theorem lex_eq (rs : List Nat) (n k : Nat) : lex rs n k =
    if past rs = [] then ([(noTokR, n + blanksN false rs)], 0, 0)
    else if k = 2000 then ([], 2, ((n + blanksN false rs : Nat) : Int))
    else if (tokR (past rs)).2.2 ≠ 0 then ([], (tokR (past rs)).2.2, ((n + blanksN false rs : Nat) : Int))
    else if (lex ((past rs).drop (tokR (past rs)).2.1) (n + blanksN false rs + (tokR (past rs)).2.1) (k + 1)).2.1 ≠ 0 then
      ([], (lex ((past rs).drop (tokR (past rs)).2.1) (n + blanksN false rs + (tokR (past rs)).2.1) (k + 1)).2)
    else (((tokR (past rs)).1, n + blanksN false rs) :: (lex ((past rs).drop (tokR (past rs)).2.1) (n + blanksN false rs + (tokR (past rs)).2.1) (k + 1)).1, 0, 0) := by
  unfold lex past
  conv => lhs; unfold lexR
  by_cases h : rs.drop (blanksN false rs) = []
  · rw [if_pos h, if_pos h]
  · rw [if_neg h, if_neg h]
    by_cases hk : k = 2000
    · rw [if_pos hk, if_pos hk]
    · rw [if_neg hk, if_neg hk]
      by_cases he : (tokR (rs.drop (blanksN false rs))).2.2 ≠ 0
      · rw [if_pos he, if_pos he]
      · have hg := tokR_good _ (by simpa using he)
        have hd := drop_blanks_len rs
        rw [if_neg he, if_neg he, lexR_fuel rs.length (((rs.drop (blanksN false rs)).drop (tokR (rs.drop (blanksN false rs))).2.1).length + 1) _ _ _ (by rw [List.length_drop]; omega) (by omega)]
theorem lex_end (rs : List Nat) (n k : Nat) (h : past rs = []) : lex rs n k = ([(noTokR, n + blanksN false rs)], 0, 0) := by rw [lex_eq, if_pos h]
theorem lex_full (rs : List Nat) (n : Nat) (h : past rs ≠ []) : lex rs n 2000 = ([], 2, ((n + blanksN false rs : Nat) : Int)) := by rw [lex_eq, if_neg h, if_pos rfl]
theorem lex_err (rs : List Nat) (n k : Nat) (h : past rs ≠ []) (hk : k ≠ 2000) (he : (tokR (past rs)).2.2 ≠ 0) : lex rs n k = ([], (tokR (past rs)).2.2, ((n + blanksN false rs : Nat) : Int)) := by
  rw [lex_eq, if_neg h, if_neg hk, if_pos he]
/-- What comes behind a token. -/
def rest (rs : List Nat) (n k : Nat) : List (TokR × Nat) × Int × Int := lex ((past rs).drop (tokR (past rs)).2.1) (n + blanksN false rs + (tokR (past rs)).2.1) (k + 1)
theorem lex_more (rs : List Nat) (n k : Nat) (h : past rs ≠ []) (hk : k ≠ 2000) (he : (tokR (past rs)).2.2 = 0) : lex rs n k = if (rest rs n k).2.1 ≠ 0 then ([], (rest rs n k).2) else (((tokR (past rs)).1, n + blanksN false rs) :: (rest rs n k).1, 0, 0) := by
  rw [lex_eq, if_neg h, if_neg hk, if_neg (by simpa using he)]
  rfl
theorem past_ok {rs : List Nat} (h : ∀ r ∈ rs, okR r) : ∀ r ∈ past rs, okR r := fun r hr => h r (List.mem_of_mem_drop hr)
theorem str_zero (rs : List Nat) : (str rs).size = 0 ↔ rs = [] := by
  rw [str_size]
  constructor
  · intro h
    have := txt_len rs
    exact List.eq_nil_of_length_eq_zero (by omega)
  · rintro rfl; rfl
theorem tokens_at (t : TokR × Nat) (n : Int) (h : n = t.2) : ((tokZ t.1).1, (tokZ t.1).2.1, (tokZ t.1).2.2.1, n) = tokAt t := by
  rw [h]
  rfl
theorem cutLoop_is : ∀ (f : Nat) (rs : List Nat) (n : Nat) (l : List Tok), (∀ r ∈ rs, okR r) → rs.length < f → l.length ≤ 2000 →
    cutLoop f (str rs, (n : Int)) l = if (lex rs n l.length).2.1 = 0 then (l ++ (lex rs n l.length).1.map tokAt, 0, 0) else ([], (lex rs n l.length).2) := by
  intro f
  induction f with
  | zero => intro rs n l _ h; omega
  | succ f ih =>
    intro rs n l hok hf hl
    have hb := blanks_is rs (n : Int) hok
    have hpl := drop_blanks_len rs
    rw [cutLoop, hb]
    show (if (str (past rs)).size = 0 then _ else _) = _
    by_cases h : past rs = []
    · rw [if_pos ((str_zero _).2 h), lex_end rs n _ h]
      simp only [if_true]
      rw [List.map_singleton]
      have e : tokAt (noTokR, n + blanksN false rs) = (0, ⟨#[]⟩, 0, (n : Int) + blanksN false rs) := by
        unfold tokAt noTokR
        simp only
        rw [str_nil]
        congr 3
      rw [e]
    · rw [if_neg (fun hz => h ((str_zero _).1 hz))]
      by_cases hk : l.length = 2000
      · rw [if_pos hk, hk, lex_full rs n h]
        simp only
        rw [if_neg (by omega)]
        congr 2
      · rw [if_neg hk]
        have ht := token_is (past rs) h (past_ok hok)
        show (if (tokenZ (str (past rs))).2.2 ≠ 0 then ([], (tokenZ (str (past rs))).2.2, (n : Int) + blanksN false rs) else cutLoop f (passZ (str (past rs), (n : Int) + blanksN false rs) (tokenZ (str (past rs))).2.1.toNat) (l ++ [((tokenZ (str (past rs))).1.1, (tokenZ (str (past rs))).1.2.1, (tokenZ (str (past rs))).1.2.2.1, (n : Int) + blanksN false rs)])) = _
        rw [ht]
        simp only [Int.toNat_natCast]
        by_cases he : (tokR (past rs)).2.2 = 0
        · obtain ⟨g1, g2, _⟩ := tokR_good _ he
          rw [if_neg (by simpa using he), lex_more rs n _ h hk he]
          have hps := pass_str ((past rs).take (tokR (past rs)).2.1) ((past rs).drop (tokR (past rs)).2.1) ((n : Int) + blanksN false rs) (fun r hr => past_ok hok r (List.mem_of_mem_take hr))
          rw [List.take_append_drop, List.length_take, Nat.min_eq_left g2] at hps
          rw [hps, tokens_at ((tokR (past rs)).1, n + blanksN false rs) _ (by simp)]
          have ih' := ih ((past rs).drop (tokR (past rs)).2.1) (n + blanksN false rs + (tokR (past rs)).2.1) (l ++ [tokAt ((tokR (past rs)).1, n + blanksN false rs)]) (fun r hr => past_ok hok r (List.mem_of_mem_drop hr)) (by rw [List.length_drop]; unfold past at *; omega) (by simp; omega)
          rw [show (n : Int) + (blanksN false rs : Int) + ((tokR (past rs)).2.1 : Int) = ((n + blanksN false rs + (tokR (past rs)).2.1 : Nat) : Int) by omega, ih', List.length_append, List.length_singleton]
          show (if (rest rs n l.length).2.1 = 0 then (l ++ [_] ++ (rest rs n l.length).1.map tokAt, 0, 0) else ([], (rest rs n l.length).2)) = _
          by_cases hr : (rest rs n l.length).2.1 = 0
          · have hr' : ¬ (rest rs n l.length).2.1 ≠ 0 := by simpa using hr
            rw [if_pos hr]
            simp only [if_neg hr']
            rw [if_pos trivial, List.append_assoc]
            rfl
          · rw [if_neg hr]
            simp only [if_pos (show (rest rs n l.length).2.1 ≠ 0 from hr)]
            rw [if_neg hr]
        · rw [if_pos (by simpa using he), lex_err rs n _ h hk he]
          simp only
          rw [if_neg he]
          congr 2
/-- What cutting valid runes tells. -/
def cutR (rs : List Nat) : List Tok × Int × Int := if (lex rs 0 0).2.1 = 0 then ((lex rs 0 0).1.map tokAt, 0, 0) else ([], (lex rs 0 0).2)
/-- A text of runes, and bytes behind them. -/
def strT (rs : List Nat) (t : List UInt8) : ByteArray := ⟨(txt rs ++ t).toArray⟩
theorem strT_list (rs : List Nat) (t : List UInt8) : (strT rs t).data.toList = txt rs ++ t := rfl
theorem strT_size (rs : List Nat) (t : List UInt8) : (strT rs t).size = (txt rs).length + t.length := by
  show Array.size _ = _
  simp [strT]
theorem strT_nil (rs : List Nat) : strT rs [] = str rs := by unfold strT str; rw [List.append_nil]
theorem of_list {s : ByteArray} {l : List UInt8} (h : s.data.toList = l) : s = ⟨l.toArray⟩ := by cases s with | mk d => rw [← h]
theorem bad_from : ∀ (b a : List Nat) (t : List UInt8) (f : Nat) (n : Int), (∀ r ∈ b, okR r) → (t = [] ∨ t ≠ [] ∧ (decodeL t).1 = 65533 ∧ (decodeL t).2 = 1) → (txt b).length + t.length ≤ f →
    badFrom (strT (a ++ b) t) f (txt a).length n = if t = [] then -1 else n + b.length
  | [], a, t, f, n, _, ht, hf => by
    rcases ht with rfl | ⟨hne, hd⟩
    · rw [badFrom_end _ _ _ _ (by rw [strT_size, List.append_nil]; simp), if_pos rfl]
    · have hl := List.length_pos_iff.2 hne
      obtain ⟨f, rfl⟩ : ∃ m, f = m + 1 := ⟨f - 1, by omega⟩
      unfold badFrom
      rw [if_pos (by rw [strT_size, List.append_nil]; omega), ← decodeL_drop, strT_list, List.append_nil, List.drop_left, if_pos hd, if_neg hne]
      simp
  | r :: b, a, t, f, n, h, ht, hf => by
    have hr := h r List.mem_cons_self
    have hl := (enc_len r).1
    rw [txt_len_cons] at hf
    obtain ⟨f, rfl⟩ : ∃ m, f = m + 1 := ⟨f - 1, by omega⟩
    have hdec : Utf8.decode (strT (a ++ r :: b) t) (txt a).length = (r, (enc r).length) := by
      rw [← decodeL_drop, strT_list, txt_append, List.append_assoc, List.drop_left, txt_cons, List.append_assoc, dec_app r hr]
    unfold badFrom
    rw [if_pos (by rw [strT_size, txt_len_append, txt_len_cons]; omega), hdec, if_neg hr.2]
    have := bad_from b (a ++ [r]) t f (n + 1) (fun r hr => h r (List.mem_cons_of_mem _ hr)) ht (by omega)
    rw [List.append_assoc, txt_len_append, txt_len_cons, txt_nil] at this
    simp only [List.length_nil, Nat.add_zero, List.singleton_append] at this
    rw [this, List.length_cons]
    split
    · rfl
    · omega
theorem bad_is (rs : List Nat) (t : List UInt8) (h : ∀ r ∈ rs, okR r) (ht : t = [] ∨ t ≠ [] ∧ (decodeL t).1 = 65533 ∧ (decodeL t).2 = 1) : badZ (strT rs t) = if t = [] then -1 else (rs.length : Int) := by
  have := bad_from rs [] t (strT rs t).size 0 h ht (by rw [strT_size]; exact Nat.le_refl _)
  rw [txt_nil, List.length_nil, List.nil_append] at this
  unfold badZ
  rw [this]
  simp
theorem cut_valid (rs : List Nat) (h : ∀ r ∈ rs, okR r) (hs : (str rs).size ≤ 8192) : cutZ (str rs) = cutR rs := by
  unfold cutZ cutR
  have hb := bad_is rs [] h (.inl rfl)
  rw [strT_nil, if_pos rfl] at hb
  rw [if_neg (by omega), hb, if_neg (by omega)]
  have := cutLoop_is ((str rs).size + 1) rs 0 [] h (by rw [str_size]; have := txt_len rs; omega) (by simp)
  simpa using this
theorem cut_bad (rs : List Nat) (t : List UInt8) (h : ∀ r ∈ rs, okR r) (ht : t ≠ [] ∧ (decodeL t).1 = 65533 ∧ (decodeL t).2 = 1) (hs : (strT rs t).size ≤ 8192) : cutZ (strT rs t) = ([], 10, (rs.length : Int)) := by
  unfold cutZ
  rw [if_neg (by omega), bad_is rs t h (.inr ht), if_neg ht.1, if_pos (by omega)]
/-- Any text: too long, with a bad byte, or of runes. -/
theorem text_cases (s : ByteArray) : (∃ rs, (∀ r ∈ rs, okR r) ∧ s = str rs) ∨ ∃ rs t, (∀ r ∈ rs, okR r) ∧ (t ≠ [] ∧ (decodeL t).1 = 65533 ∧ (decodeL t).2 = 1) ∧ s = strT rs t := by
  obtain ⟨rs, t, a, b, c⟩ := split_txt s.data.toList.length s.data.toList (Nat.le_refl _)
  rcases c with rfl | c
  · exact .inl ⟨rs, a, str_of (by rw [b, List.append_nil])⟩
  · exact .inr ⟨rs, t, a, c, of_list b⟩
end Go.Proofs.YtlikjknakplamaaDoor
/-! ### LxRise -/
namespace Go.Proofs.YtlikjknakplamaaDoor
open Go.Lib
set_option linter.unusedSimpArgs false
set_option linter.unusedVariables false
/-- A word by itself is one token. -/
theorem takeWhile_whole {α : Type} (p : α → Bool) (l : List α) (h : l.all p = true) : l.takeWhile p = l := takeWhile_all p l (List.all_eq_true.1 h)
end Go.Proofs.YtlikjknakplamaaDoor
/-! ### LxAgain -/
namespace Go.Proofs.YtlikjknakplamaaDoor
open Go.Lib
set_option linter.unusedSimpArgs false
set_option linter.unusedVariables false
theorem takeWhile_stop {α : Type} (p : α → Bool) : ∀ (a : List α) (x : α) (b : List α), a.all p = true → p x = false → (a ++ x :: b).takeWhile p = a
  | [], x, b, _, hx => by rw [List.nil_append, List.takeWhile_cons, if_neg (by rw [hx]; simp)]
  | y :: a, x, b, ha, hx => by
    rw [List.all_cons, Bool.and_eq_true] at ha
    rw [List.cons_append, List.takeWhile_cons, if_pos ha.1, takeWhile_stop p a x b ha.2 hx]
theorem tokR_cons (r : Nat) (t : List Nat) : tokR (r :: t) =
    if classZ r = 2 then (if 12 < ((r :: t).takeWhile isW).length then (noTokR, 0, 2) else ((1, (r :: t).takeWhile isW, 0), ((r :: t).takeWhile isW).length, 0))
    else if classZ r = 3 then (if (numR ((r :: t).takeWhile isW)).2 = true then ((2, (r :: t).takeWhile isW, (numR ((r :: t).takeWhile isW)).1), ((r :: t).takeWhile isW).length, 0) else (noTokR, 0, 11))
    else if classZ r = 5 then textR t
    else if classZ r = 4 then ((4, (r :: t).take (signR r t), 0), signR r t, 0)
    else (noTokR, 0, 11) := rfl
end Go.Proofs.YtlikjknakplamaaDoor
/-! ### LxRef -/
namespace Go.Proofs.YtlikjknakplamaaDoor.Print
open Go.RowKit Go.Proofs.YtlikjknakplamaaDoorW.PrintWords Go.Proofs.YtlikjknakplamaaDoorW.PrintLast Go.Proofs.YtlikjknakplamaaDoorW.PrintMore Go.Lib
set_option linter.unusedSimpArgs false
set_option linter.unusedVariables false
/-- Where each rune begins, and the end. -/
def atsN : Nat → List Nat → List Int
  | p, [] => [(p : Int)]
  | p, r :: b => (p : Int) :: atsN (p + (enc r).length) b
theorem atsN_len : ∀ (b : List Nat) (p : Nat), (atsN p b).length = b.length + 1
  | [], _ => rfl
  | r :: b, p => by rw [atsN, List.length_cons, atsN_len b, List.length_cons]
theorem atsN_at : ∀ (b : List Nat) (p i : Nat), i ≤ b.length → (atsN p b)[i]? = some ((p + (txt (b.take i)).length : Nat) : Int)
  | [], p, i, h => by
    obtain rfl : i = 0 := by simpa using h
    simp [atsN, txt]
  | r :: b, p, 0, _ => by simp [atsN, txt]
  | r :: b, p, i + 1, h => by
    rw [atsN, List.getElem?_cons_succ, atsN_at b _ i (by simpa using h), List.take_succ_cons, txt_len_cons]
    congr 2
    omega
def intsN (rs : List Nat) : List Int := rs.map fun r : Nat => (r : Int)
theorem intsN_len (rs : List Nat) : (intsN rs).length = rs.length := by simp [intsN]
theorem rd_ints (rs : List Nat) (i : Nat) (h : i < rs.length) : rd (intsN rs) (i : Int) = (rs[i] : Int) := by
  have := getD_at (intsN rs) 0 i (by rw [intsN_len]; exact h)
  unfold intsN at this
  rw [List.getElem_map] at this
  exact this
theorem rd_ats (rs : List Nat) (i : Nat) (h : i ≤ rs.length) : rd (atsN 0 rs) (i : Int) = ((txt (rs.take i)).length : Int) := by
  have := atsN_at rs 0 i h
  unfold rd
  rw [Int.toNat_natCast, List.getD_eq_getElem?_getD, this, Nat.zero_add]
  rfl
theorem runes_str : ∀ (b a : List Nat) (f : Nat), (∀ r ∈ b, okR r) → (txt b).length ≤ f → runesFrom (str (a ++ b)) f (txt a).length = (intsN b, atsN (txt a).length b, true)
  | [], a, f, _, _ => by
    have hs : (str (a ++ [])).size = (txt a).length := by rw [str_size, List.append_nil]
    cases f with
    | zero => rw [runesFrom, hs]; rfl
    | succ f => rw [runesFrom, if_neg (by rw [hs]; omega), hs]; rfl
  | r :: b, a, f, h, hf => by
    have hr := h r List.mem_cons_self
    have hl := (enc_len r).1
    rw [txt_len_cons] at hf
    obtain ⟨f, rfl⟩ : ∃ m, f = m + 1 := ⟨f - 1, by omega⟩
    rw [runesFrom, if_pos (by rw [str_size, txt_len_append, txt_len_cons]; omega), decode_str a r b hr]
    have := runes_str b (a ++ [r]) f (fun r hr => h r (List.mem_cons_of_mem _ hr)) (by omega)
    rw [List.append_assoc, txt_len_append, txt_len_cons, txt_nil] at this
    simp only [List.length_nil, Nat.add_zero, List.singleton_append] at this
    simp only
    rw [if_neg hr.2, this]
    rfl
theorem runes_bad : ∀ (b a : List Nat) (t : List UInt8) (f : Nat), (∀ r ∈ b, okR r) → (t ≠ [] ∧ (decodeL t).1 = 65533 ∧ (decodeL t).2 = 1) → (txt b).length + t.length ≤ f →
    (runesFrom (strT (a ++ b) t) f (txt a).length).1 = intsN b ∧ (runesFrom (strT (a ++ b) t) f (txt a).length).2.2 = false
  | [], a, t, f, _, ht, hf => by
    have hl := List.length_pos_iff.2 ht.1
    obtain ⟨f, rfl⟩ : ∃ m, f = m + 1 := ⟨f - 1, by omega⟩
    have hd : Utf8.decode (strT (a ++ []) t) (txt a).length = decodeL t := by rw [← decodeL_drop, strT_list, List.append_nil, List.drop_left]
    rw [runesFrom, if_pos (by rw [strT_size, List.append_nil]; omega), hd, if_pos ht.2]
    exact ⟨rfl, rfl⟩
  | r :: b, a, t, f, h, ht, hf => by
    have hr := h r List.mem_cons_self
    have hl := (enc_len r).1
    rw [txt_len_cons] at hf
    obtain ⟨f, rfl⟩ : ∃ m, f = m + 1 := ⟨f - 1, by omega⟩
    have hdec : Utf8.decode (strT (a ++ r :: b) t) (txt a).length = (r, (enc r).length) := by
      rw [← decodeL_drop, strT_list, txt_append, List.append_assoc, List.drop_left, txt_cons, List.append_assoc, dec_app r hr]
    have := runes_bad b (a ++ [r]) t f (fun r hr => h r (List.mem_cons_of_mem _ hr)) ht (by omega)
    rw [List.append_assoc, txt_len_append, txt_len_cons, txt_nil] at this
    simp only [List.length_nil, Nat.add_zero, List.singleton_append] at this
    rw [runesFrom, if_pos (by rw [strT_size, txt_len_append, txt_len_cons]; omega), hdec]
    simp only
    rw [if_neg hr.2]
    simp only
    exact ⟨by rw [this.1]; rfl, this.2⟩
theorem blanks_cons (r : Nat) (t : List Nat) : blanksN false (r :: t) = if classZ (r : Int) = 1 then 1 + blanksN false t else if classZ (r : Int) = 6 then 1 + blanksN true t else 0 := by
  rw [blanksN, if_neg (by simp)]
theorem past_both (S : ByteArray) (At : List Int) (rs : List Nat) (hl : rs.length ≤ 1000000000) : ∀ (f i : Nat), rs.length ≤ i + f → i ≤ rs.length →
    (∀ k, 3 * f + 3 < k → malthouseref01_past.l0 k (i : Int) S (intsN rs) At = some ((i + blanksN false (rs.drop i) : Nat) : Int)) ∧
    (∀ k, 3 * f + 3 < k → malthouseref01_past.l1 k (i : Int) S (intsN rs) At = some ((i + blanksN true (rs.drop i) : Nat) : Int)) := by
  have hend : ∀ (k : Nat), malthouseref01_past.l0 (k + 1) (rs.length : Int) S (intsN rs) At = some ((rs.length + blanksN false (rs.drop rs.length) : Nat) : Int) := by
    intro k
    rw [malthouseref01_past.l0, intsN_len, if_neg (by omega), List.drop_length]
    rfl
  intro f
  induction f with
  | zero =>
    intro i h1 h2
    obtain rfl : i = rs.length := by omega
    refine ⟨fun k hk => ?_, fun k hk => ?_⟩
    · obtain ⟨k, rfl⟩ : ∃ m, k = m + 1 := ⟨k - 1, by omega⟩
      exact hend k
    · obtain ⟨k, rfl⟩ : ∃ m, k = m + 1 + 1 := ⟨k - 2, by omega⟩
      rw [malthouseref01_past.l1, intsN_len, if_neg (by omega), hend k, List.drop_length]
      rfl
  | succ f ih =>
    intro i h1 h2
    by_cases hi : i < rs.length
    · obtain ⟨ih0, ih1⟩ := ih (i + 1) (by omega) (by omega)
      have hd := List.drop_eq_getElem_cons hi
      have hw : wrap64 ((i : Int) + 1) = ((i + 1 : Nat) : Int) := by rw [wrap_small _ (by omega) (by omega)]; omega
      have hcls : ∀ r : Int, malthouseref01_Class.f r = some (classZ r) := fun _ => rfl
      have l1 : ∀ k, 3 * f + 4 < k → rs[i] ≠ 10 → malthouseref01_past.l1 k (i : Int) S (intsN rs) At = some ((i + 1 + blanksN true (rs.drop (i + 1)) : Nat) : Int) := by
        intro k hk hne
        obtain ⟨k, rfl⟩ : ∃ m, k = m + 1 := ⟨k - 1, by omega⟩
        rw [malthouseref01_past.l1, intsN_len, if_pos (by omega), if_pos (by omega), rd_ints rs i hi, if_neg (by omega), hw, ih1 k (by omega)]
      have l0 : ∀ k, 3 * f + 5 < k → malthouseref01_past.l0 k (i : Int) S (intsN rs) At = some ((i + blanksN false (rs.drop i) : Nat) : Int) := by
        intro k hk
        obtain ⟨k, rfl⟩ : ∃ m, k = m + 1 := ⟨k - 1, by omega⟩
        rw [malthouseref01_past.l0, intsN_len, if_pos (by omega), if_pos (by omega), rd_ints rs i hi, hcls]
        simp only [Option.bind_some]
        rw [hd, blanks_cons]
        by_cases c6 : classZ (rs[i] : Int) = 6
        · have hne : rs[i] ≠ 10 := by have := class_six c6; omega
          rw [if_pos c6, l1 k (by omega) hne, if_neg (by rw [c6]; decide), if_pos c6]
          congr 2
          omega
        · rw [if_neg c6]
          by_cases c1 : classZ (rs[i] : Int) = 1
          · rw [if_pos c1, if_pos c1, hw, ih0 k (by omega)]
            congr 2
            omega
          · rw [if_neg c1, if_neg c1, if_neg c6]
            rfl
      refine ⟨fun k hk => l0 k (by omega), fun k hk => ?_⟩
      by_cases hne : rs[i] = 10
      · obtain ⟨k, rfl⟩ : ∃ m, k = m + 1 := ⟨k - 1, by omega⟩
        rw [malthouseref01_past.l1, intsN_len, if_pos (by omega), if_pos (by omega), rd_ints rs i hi, if_pos (by omega), l0 k (by omega), hd]
        have e : blanksN true (rs[i] :: rs.drop (i + 1)) = blanksN false (rs[i] :: rs.drop (i + 1)) := by
          rw [blanksN, blanksN, if_neg (by rw [hne]; simp), if_neg (show ¬ (false = true ∧ rs[i] ≠ 10) by simp)]
        rw [e]
      · rw [l1 k (by omega) hne, hd, blanksN, if_pos (show true = true ∧ rs[i] ≠ 10 from ⟨rfl, hne⟩)]
        congr 2
        omega
    · obtain rfl : i = rs.length := by omega
      refine ⟨fun k hk => ?_, fun k hk => ?_⟩
      · obtain ⟨k, rfl⟩ : ∃ m, k = m + 1 := ⟨k - 1, by omega⟩
        exact hend k
      · obtain ⟨k, rfl⟩ : ∃ m, k = m + 1 + 1 := ⟨k - 2, by omega⟩
        rw [malthouseref01_past.l1, intsN_len, if_neg (by omega), hend k, List.drop_length]
        rfl
theorem past_ref (S : ByteArray) (At : List Int) (rs : List Nat) (hl : rs.length ≤ 1000000000) (i k : Nat) (hi : i ≤ rs.length) (hk : 3 * rs.length + 5 ≤ k) : malthouseref01_past.f k S (intsN rs) At (i : Int) = some ((i + blanksN false (rs.drop i) : Nat) : Int) :=
  (past_both S At rs hl (rs.length - i) i (by omega) hi).1 k (by omega)
theorem word_ref (S : ByteArray) (At : List Int) (rs : List Nat) (hl : rs.length ≤ 1000000000) : ∀ (f i k : Nat), rs.length ≤ i + f → i ≤ rs.length → f < k → malthouseref01_word.l0 k (i : Int) S (intsN rs) At = some ((i + ((rs.drop i).takeWhile isW).length : Nat) : Int) := by
  intro f
  induction f with
  | zero =>
    intro i k h1 h2 hk
    obtain ⟨k, rfl⟩ : ∃ m, k = m + 1 := ⟨k - 1, by omega⟩
    rw [malthouseref01_word.l0, intsN_len, if_neg (by omega), List.drop_eq_nil_of_le (by omega)]
    rfl
  | succ f ih =>
    intro i k h1 h2 hk
    obtain ⟨k, rfl⟩ : ∃ m, k = m + 1 := ⟨k - 1, by omega⟩
    by_cases hi : i < rs.length
    · rw [malthouseref01_word.l0, intsN_len, if_pos (by omega), if_pos (by omega), rd_ints rs i hi, wordy_is]
      simp only [Option.bind_some]
      rw [List.drop_eq_getElem_cons hi, List.takeWhile_cons, wrap_small _ (by omega) (by omega), show (i : Int) + 1 = ((i + 1 : Nat) : Int) by omega, ih (i + 1) k (by omega) (by omega) (by omega)]
      by_cases hw : wordyZ (rs[i] : Int) = true
      · rw [if_pos hw, if_pos hw, List.length_cons]
        congr 2
        omega
      · rw [if_neg hw, if_neg hw]
        rfl
    · rw [malthouseref01_word.l0, intsN_len, if_neg (by omega), List.drop_eq_nil_of_le (by omega)]
      rfl
theorem part_ref (rs : List Nat) (i j : Nat) (hij : i ≤ j) (hj : j ≤ rs.length) : malthouseref01_part.f (str rs) (intsN rs) (atsN 0 rs) (i : Int) (j : Int) = some (str ((rs.drop i).take (j - i))) := by
  have hal : (atsN 0 rs).length = rs.length + 1 := atsN_len rs 0
  have ha := rd_ats rs i (by omega)
  have hb := rd_ats rs j hj
  have e1 : rs.take j = rs.take i ++ (rs.drop i).take (j - i) := by
    have : rs.take j = (rs.take i ++ rs.drop i).take j := by rw [List.take_append_drop]
    rw [this, List.take_append, List.length_take, Nat.min_eq_left (by omega), List.take_of_length_le (by rw [List.length_take]; omega)]
  have e2 : (txt (rs.take j)).length = (txt (rs.take i)).length + (txt ((rs.drop i).take (j - i))).length := by rw [e1, txt_len_append]
  have e3 : (txt rs).length = (txt (rs.take j)).length + (txt (rs.drop j)).length := by rw [← txt_len_append, List.take_append_drop]
  unfold malthouseref01_part.f
  rw [hal, ha, hb, if_pos (by omega), if_pos (by omega), if_pos (by omega), if_pos (by omega), if_pos (by omega), if_pos (by omega), if_pos (by rw [str_size]; omega), Int.toNat_natCast, Int.toNat_natCast, e2]
  have := extract_str (rs.take i) ((rs.drop i).take (j - i)) (rs.drop j)
  rw [← e1, List.take_append_drop] at this
  rw [this]
end Go.Proofs.YtlikjknakplamaaDoor.Print
/-! ### LxRef2 -/
namespace Go.Proofs.YtlikjknakplamaaDoor.Print
open Go.RowKit Go.Proofs.YtlikjknakplamaaDoorW.PrintWords Go.Proofs.YtlikjknakplamaaDoorW.PrintLast Go.Proofs.YtlikjknakplamaaDoorW.PrintMore Go.Lib
set_option linter.unusedSimpArgs false
set_option linter.unusedVariables false
/-- What stands ahead of a quote or a line's end. -/
def insR (t : List Nat) : List Nat := t.takeWhile fun r => decide (r ≠ 34) && decide (r ≠ 10)
theorem textR_ins : ∀ t : List Nat, (t.takeWhile fun r => decide (r ≠ 10)).takeWhile (fun r => decide (r ≠ 34)) = insR t ∧ (34 ∈ (t.takeWhile fun r => decide (r ≠ 10)) ↔ (t.drop (insR t).length).head? = some 34)
  | [] => by
    refine ⟨rfl, ?_⟩
    simp [insR]
  | r :: t => by
    obtain ⟨h1, h2⟩ := textR_ins t
    unfold insR at *
    rw [List.takeWhile_cons, List.takeWhile_cons]
    by_cases c10 : r = 10
    · subst c10
      simp
    · rw [if_pos (by simpa using c10), List.takeWhile_cons]
      by_cases c34 : r = 34
      · subst c34
        simp
      · have hb : (decide (r ≠ 34) && decide (r ≠ 10)) = true := by simp [c34, c10]
        rw [if_pos (by simpa using c34), if_pos hb, h1]
        refine ⟨rfl, ?_⟩
        rw [List.mem_cons, List.length_cons, List.drop_succ_cons, ← h2]
        constructor
        · rintro (h | h)
          · exact absurd h.symm c34
          · exact h
        · exact .inr
theorem textR_is (t : List Nat) : textR t = if (t.drop (insR t).length).head? = some 34 then
    (if (insR t).any (fun r => decide (r < 32)) = true then (noTokR, 0, 11) else if 20 < (insR t).length then (noTokR, 0, 2) else ((3, insR t, 0), (insR t).length + 2, 0)) else (noTokR, 0, 11) := by
  obtain ⟨h1, h2⟩ := textR_ins t
  unfold textR
  rw [h1]
  by_cases h : (t.drop (insR t).length).head? = some 34
  · rw [if_pos h, if_pos (h2.2 h)]
  · rw [if_neg h, if_neg (fun hh => h (h2.1 hh))]
/-- What the reference tells of a token. -/
def refTok (i : Nat) (q : TokR × Nat × Int) : Int × ByteArray × Int × Int × Int × Int := if q.2.2 = 0 then (q.1.1, str q.1.2.1, q.1.2.2, (i : Int), ((i + q.2.1 : Nat) : Int), 0) else (0, ⟨#[]⟩, 0, 0, 0, q.2.2)
section
variable (rs : List Nat) (hl : rs.length ≤ 1000000000)
include hl
theorem quoted_l1 (i m : Nat) (hm : i + 1 + m ≤ rs.length) : ∀ (f j k : Nat), m ≤ j + f → j ≤ m → f + 1 ≤ k →
    malthouseref01_quoted.l1 k (i : Int) ((i + 1 + m : Nat) : Int) ((i + 1 + j : Nat) : Int) (str rs) (intsN rs) (atsN 0 rs) =
      if ((rs.drop (i + 1 + j)).take (m - j)).any (fun r => decide (r < 32)) = true then some (0, ⟨#[]⟩, 0, 0, 0, 11)
      else if 20 < m then some (0, ⟨#[]⟩, 0, 0, 0, 2) else some (3, str ((rs.drop (i + 1)).take m), 0, (i : Int), ((i + m + 2 : Nat) : Int), 0) := by
  have hend : ∀ k : Nat, malthouseref01_quoted.l1 (k + 1) (i : Int) ((i + 1 + m : Nat) : Int) ((i + 1 + m : Nat) : Int) (str rs) (intsN rs) (atsN 0 rs) =
      if 20 < m then some (0, ⟨#[]⟩, 0, 0, 0, 2) else some (3, str ((rs.drop (i + 1)).take m), 0, (i : Int), ((i + m + 2 : Nat) : Int), 0) := by
    intro k
    have w1 : wrap64 (((i + 1 + m : Nat) : Int) - i) = ((m + 1 : Nat) : Int) := by rw [wrap_small _ (by omega) (by omega)]; omega
    have w2 : wrap64 (((m + 1 : Nat) : Int) - 1) = (m : Int) := by rw [wrap_small _ (by omega) (by omega)]; omega
    have w3 : wrap64 ((i : Int) + 1) = ((i + 1 : Nat) : Int) := by rw [wrap_small _ (by omega) (by omega)]; omega
    have w4 : wrap64 (((i + 1 + m : Nat) : Int) + 1) = ((i + m + 2 : Nat) : Int) := by rw [wrap_small _ (by omega) (by omega)]; omega
    rw [malthouseref01_quoted.l1, if_neg (by omega), w1, w2, w3, w4, part_ref rs (i + 1) (i + 1 + m) (by omega) hm]
    simp only [Option.bind_some]
    rw [show i + 1 + m - (i + 1) = m by omega]
    by_cases h : 20 < m
    · rw [if_pos h, if_pos (by omega)]
    · rw [if_neg h, if_neg (by omega)]
  intro f
  induction f with
  | zero =>
    intro j k h1 h2 hk
    obtain ⟨k, rfl⟩ : ∃ m, k = m + 1 := ⟨k - 1, by omega⟩
    obtain rfl : j = m := by omega
    rw [hend k, Nat.sub_self, List.take_zero]
    rfl
  | succ f ih =>
    intro j k h1 h2 hk
    obtain ⟨k, rfl⟩ : ∃ m, k = m + 1 := ⟨k - 1, by omega⟩
    by_cases hj : j < m
    · have hjl : i + 1 + j < rs.length := by omega
      have hd := List.drop_eq_getElem_cons hjl
      have ht : m - j = (m - (j + 1)) + 1 := by omega
      have hw : wrap64 (((i + 1 + j : Nat) : Int) + 1) = ((i + 1 + (j + 1) : Nat) : Int) := by rw [wrap_small _ (by omega) (by omega)]; omega
      rw [malthouseref01_quoted.l1, if_pos (by omega), if_pos (by omega), intsN_len, if_pos (by omega), rd_ints rs (i + 1 + j) hjl, hw, ih (j + 1) k (by omega) (by omega) (by omega), hd, ht, List.take_succ_cons, List.any_cons]
      by_cases h32 : rs[i + 1 + j] < 32
      · rw [if_pos (by omega), if_pos (by rw [decide_eq_true h32]; rfl)]
      · rw [if_neg (by omega), decide_eq_false h32, Bool.false_or]
        rfl
    · obtain rfl : j = m := by omega
      rw [hend k, Nat.sub_self, List.take_zero]
      rfl
theorem quoted_l0 (i : Nat) (hi : i < rs.length) : ∀ (f j k : Nat), rs.length ≤ i + 1 + j + f → i + 1 + j ≤ rs.length →
    (∀ x ∈ (rs.drop (i + 1)).take j, x ≠ 34 ∧ x ≠ 10) → f + rs.length + 5 ≤ k →
    malthouseref01_quoted.l0 k (i : Int) ((i + 1 + j : Nat) : Int) (str rs) (intsN rs) (atsN 0 rs) = some (refTok i (textR (rs.drop (i + 1)))) := by
  have hins : ∀ j : Nat, (∀ x ∈ (rs.drop (i + 1)).take j, x ≠ 34 ∧ x ≠ 10) → i + 1 + j ≤ rs.length → (i + 1 + j = rs.length ∨ ∃ h : i + 1 + j < rs.length, rs[i + 1 + j] = 34 ∨ rs[i + 1 + j] = 10) → insR (rs.drop (i + 1)) = (rs.drop (i + 1)).take j := by
    intro j hx hj hc
    unfold insR
    have hall : ((rs.drop (i + 1)).take j).all (fun r => decide (r ≠ 34) && decide (r ≠ 10)) = true := List.all_eq_true.2 fun x h => by simp [hx x h]
    have hsp : rs.drop (i + 1) = (rs.drop (i + 1)).take j ++ rs.drop (i + 1 + j) := by
      have h := List.take_append_drop j (rs.drop (i + 1))
      rw [List.drop_drop] at h
      exact h.symm
    rcases hc with hc | ⟨h, hc⟩
    · conv => lhs; rw [hsp]
      rw [show rs.drop (i + 1 + j) = [] from List.drop_eq_nil_of_le (by omega), List.append_nil, takeWhile_whole _ _ hall]
    · conv => lhs; rw [hsp]
      rw [List.drop_eq_getElem_cons h]
      exact takeWhile_stop _ _ _ _ hall (by rcases hc with hc | hc <;> simp [hc])
  have hstop : ∀ (j k : Nat), (∀ x ∈ (rs.drop (i + 1)).take j, x ≠ 34 ∧ x ≠ 10) → i + 1 + j ≤ rs.length → (i + 1 + j = rs.length ∨ ∃ h : i + 1 + j < rs.length, rs[i + 1 + j] = 34 ∨ rs[i + 1 + j] = 10) → rs.length + 3 ≤ k →
      malthouseref01_quoted.j1 k (i : Int) ((i + 1 + j : Nat) : Int) (str rs) (intsN rs) (atsN 0 rs) = some (refTok i (textR (rs.drop (i + 1)))) := by
    intro j k hx hj hc hk
    obtain ⟨k, rfl⟩ : ∃ m, k = m + 1 + 1 := ⟨k - 2, by omega⟩
    have he := hins j hx hj hc
    have hjl : ((rs.drop (i + 1)).take j).length = j := by rw [List.length_take, List.length_drop]; omega
    have hdd : (rs.drop (i + 1)).drop j = rs.drop (i + 1 + j) := by rw [List.drop_drop]
    rw [textR_is, he, hjl, hdd, malthouseref01_quoted.j1, intsN_len]
    have hbad : ∀ (q : TokR × Nat × Int), q = (noTokR, 0, 11) → malthouseref01_quoted.j2 (k + 1) (i : Int) ((i + 1 + j : Nat) : Int) true (str rs) (intsN rs) (atsN 0 rs) = some (refTok i q) := by
      rintro q rfl
      rw [malthouseref01_quoted.j2, if_pos rfl]
      rfl
    rcases hc with hc | ⟨h, hc⟩
    · rw [if_pos (by omega), List.drop_eq_nil_of_le (by omega)]
      exact hbad _ (if_neg (by simp))
    · rw [if_neg (by omega), if_pos (by omega), if_pos (by omega), rd_ints rs (i + 1 + j) h, List.drop_eq_getElem_cons h, List.head?_cons]
      rcases hc with hc | hc
      · have e10 : (((rs[i + 1 + j] : Nat) : Int) == 10) = false := by rw [hc]; rfl
        have w3 : wrap64 ((i : Int) + 1) = ((i + 1 + 0 : Nat) : Int) := by rw [wrap_small _ (by omega) (by omega)]; omega
        rw [e10, malthouseref01_quoted.j2, if_neg (by simp), w3, quoted_l1 rs hl i j (by omega) j 0 k (by omega) (by omega) (by omega), if_pos (show some rs[i + 1 + j] = some 34 by rw [hc]), Nat.sub_zero, Nat.add_zero]
        by_cases c1 : ((rs.drop (i + 1)).take j).any (fun r => decide (r < 32)) = true
        · rw [if_pos c1, if_pos c1]; rfl
        · rw [if_neg c1, if_neg c1]
          by_cases c2 : 20 < j
          · rw [if_pos c2, if_pos c2]; rfl
          · rw [if_neg c2, if_neg c2]
            unfold refTok
            rw [if_pos rfl]
            rfl
      · have e10 : (((rs[i + 1 + j] : Nat) : Int) == 10) = true := by rw [hc]; rfl
        rw [e10]
        exact hbad _ (if_neg (by rw [hc]; simp))
  intro f
  induction f with
  | zero =>
    intro j k h1 h2 hx hk
    obtain ⟨k, rfl⟩ : ∃ m, k = m + 1 := ⟨k - 1, by omega⟩
    rw [malthouseref01_quoted.l0, intsN_len, if_neg (by omega)]
    exact hstop j k hx h2 (.inl (by omega)) (by omega)
  | succ f ih =>
    intro j k h1 h2 hx hk
    obtain ⟨k, rfl⟩ : ∃ m, k = m + 1 := ⟨k - 1, by omega⟩
    by_cases hj : i + 1 + j < rs.length
    · have hw : wrap64 (((i + 1 + j : Nat) : Int) + 1) = ((i + 1 + (j + 1) : Nat) : Int) := by rw [wrap_small _ (by omega) (by omega)]; omega
      rw [malthouseref01_quoted.l0, intsN_len, if_pos (by omega), if_pos (by omega), rd_ints rs (i + 1 + j) hj, hw]
      by_cases c34 : rs[i + 1 + j] = 34
      · rw [if_pos (by omega)]
        exact hstop j k hx h2 (.inr ⟨hj, .inl c34⟩) (by omega)
      · rw [if_neg (by omega)]
        by_cases c10 : rs[i + 1 + j] = 10
        · rw [if_pos (by omega)]
          exact hstop j k hx h2 (.inr ⟨hj, .inr c10⟩) (by omega)
        · rw [if_neg (by omega)]
          refine ih (j + 1) k (by omega) (by omega) (fun x hxm => ?_) (by omega)
          rw [List.take_add_one, List.getElem?_drop, List.getElem?_eq_getElem hj] at hxm
          rcases List.mem_append.1 hxm with h | h
          · exact hx x h
          · obtain rfl := List.mem_singleton.1 h
            exact ⟨c34, c10⟩
    · rw [malthouseref01_quoted.l0, intsN_len, if_neg (by omega)]
      exact hstop j k hx h2 (.inl (by omega)) (by omega)
theorem quoted_ref (i k : Nat) (hi : i < rs.length) (hk : 2 * rs.length + 5 ≤ k) : malthouseref01_quoted.f k (str rs) (intsN rs) (atsN 0 rs) (i : Int) = some (refTok i (textR (rs.drop (i + 1)))) := by
  have w3 : wrap64 ((i : Int) + 1) = ((i + 1 + 0 : Nat) : Int) := by rw [wrap_small _ (by omega) (by omega)]; omega
  unfold malthouseref01_quoted.f
  rw [w3]
  exact quoted_l0 rs hl i hi (rs.length - (i + 1)) 0 k (by omega) (by omega) (by simp) (by omega)
end
end Go.Proofs.YtlikjknakplamaaDoor.Print
/-! ### Print10 -/
namespace Go.Proofs.YtlikjknakplamaaDoor.Print
open Go.RowKit Go.Proofs.YtlikjknakplamaaDoorW.PrintWords Go.Proofs.YtlikjknakplamaaDoorW.PrintLast Go.Proofs.YtlikjknakplamaaDoorW.PrintMore
set_option linter.unusedVariables false
set_option linter.unusedSimpArgs false
mutual
def malthouseref01_Number.j0 : Nat → ByteArray → Bool → Option (Int × Bool)
  | 0, _, _ => none
  | k + 1, x0, x19 => if x19 = true then (some (0, false)) else (malthouseref01_Number.l0 k x0 0 0)
def malthouseref01_Number.l0 : Nat → ByteArray → Int → Int → Option (Int × Bool)
  | 0, _, _, _ => none
  | k + 1, x0, x4, x5 => if x5 < (x0.size : Int) then (if 0 ≤ x5 then (if (bt x0 x5) < 48 then (malthouseref01_Number.j2 k x0 x4 x5 true) else (malthouseref01_Number.j2 k x0 x4 x5 (decide ((bt x0 x5) > 57)))) else (none)) else (some (x4, true))
def malthouseref01_Number.j2 : Nat → ByteArray → Int → Int → Bool → Option (Int × Bool)
  | 0, _, _, _, _ => none
  | k + 1, x0, x4, x5, x35 => if x35 = true then (some (0, false)) else (if 0 ≤ x5 then (if x5 < (x0.size : Int) then (if x4 > (wrap64 (Int.tdiv (wrap64 (9223372036854775807 - (wrap64 ((wrap64 (bt x0 x5)) - 48)))) 10)) then (some (0, false)) else (malthouseref01_Number.l0 k x0 (wrap64 ((wrap64 (10 * x4)) + (wrap64 ((wrap64 (bt x0 x5)) - 48)))) (wrap64 (x5 + 1)))) else (none)) else (none))
end
def malthouseref01_Number.f (k : Nat) (a0 : ByteArray) : Option (Int × Bool) := if (a0.size : Int) = 0 then (malthouseref01_Number.j0 k a0 true) else (if (a0.size : Int) > 1 then (if 0 < (a0.size : Int) then (malthouseref01_Number.j0 k a0 ((bt a0 0) == 48)) else (none)) else (malthouseref01_Number.j0 k a0 false))
set_option maxHeartbeats 8000000 in
set_option maxRecDepth 100000 in
theorem malthouseref01_Number.calls (k : Nat) (a0 : ByteArray) (r1 : Int) (r2 : Bool) (w : World) (h : malthouseref01_Number.f k a0 = some (r1, r2)) :
    Calls Tryd.prog 19 #[.string a0] w fun e w' => e = .returned (.tuple #[.int .i64 r1, .bool r2]) ∧ Drawn0 w w' := by
  have H : (if (a0.size : Int) = 0 then (malthouseref01_Number.j0 k a0 true) else (if (a0.size : Int) > 1 then (if 0 < (a0.size : Int) then (malthouseref01_Number.j0 k a0 ((bt a0 0) == 48)) else (none)) else (malthouseref01_Number.j0 k a0 false))) = some (r1, r2) := h
  clear h
  have HC2 := Aside0.mk H
  clear H
  go_enter Tryd.func19, Tryd.ntmps19
  go_upto_region 1 with (fail)
  go_cut [19] (fun v19 wc => ∃ (kq : Nat) (x19_1 : Bool), v19 = .bool x19_1 ∧ Aside0 (malthouseref01_Number.j0 kq a0 x19_1 = some (r1, r2)) ∧ Aside0 (kq ≤ k) ∧ Drawn0 w wc)
  case first =>
    have H := HC2.out
    clear HC2
    by_cases c3 : (a0.size : Int) = 0
    · rw [if_pos c3] at H
      have c3b0 : ((a0.size : Int) == 0) = true := beq_iff_eq.mpr c3
      have c3b1 : ((a0.size : Int) != 0) = false := bne_eq_false_iff_eq.mpr c3
      clear c3
      (first | rw [c3b0] | (simp only [i64_w, i32_w]; rw [c3b0]) | skip)
      have H' := Aside0.mk H
      clear H
      go_wp2
      go_meet
      case rel => exact ⟨_, (true), (by first | rfl | (simp; done) | (simp [*]; done)), H', ⟨by first | omega | exact Nat.le_refl _⟩, by repeat (first | exact Drawn0.refl _ | apply Drawn0.step)⟩
    · rw [if_neg c3] at H
      have c3b0 : ((a0.size : Int) == 0) = false := beq_eq_false_iff_ne.mpr c3
      have c3b1 : ((a0.size : Int) != 0) = true := bne_iff_ne.mpr c3
      (first | rw [c3b0] | (simp only [i64_w, i32_w]; rw [c3b0]) | skip)
      by_cases c4 : (a0.size : Int) > 1
      · rw [if_pos c4] at H
        have c4b0 : decide (1 < (a0.size : Int)) = true := decide_eq_true c4
        have c4b1 : decide (1 < a0.size) = true := decide_eq_true (by omega)
        clear c4
        by_cases c5 : 0 < (a0.size : Int)
        · rw [if_pos c5] at H
          have c5b0 : decide (0 < (a0.size : Int)) = true := decide_eq_true c5
          have c5b1 : decide (0 < a0.size) = true := decide_eq_true (by omega)
          clear c5
          have H' := Aside0.mk H
          clear H
          have p6 : 0 ≤ (0 : Int) := (by omega)
          have q6 : 0 < a0.size := (by have : (0 : Int) < (a0.size : Int) := of_decide_eq_true (by first | (with_reducible assumption) | assumption); omega)
          have hx6 : ∀ h : 0 < a0.size, ((a0[0]'h).toNat : Int) = bt a0 0 := bt_at a0 0
          clear p6
          have qi6 : (0 < (a0.size : Int)) = True := eq_true (of_decide_eq_true (by first | (with_reducible assumption) | assumption))
          replace q6 := eq_true q6
          go_wp2
          go_meet
          case rel => exact ⟨_, (((bt a0 0) == 48)), (by first | rfl | (simp; done) | (simp [*]; done)), H', ⟨by first | omega | exact Nat.le_refl _⟩, by repeat (first | exact Drawn0.refl _ | apply Drawn0.step)⟩
        · rw [if_neg c5] at H
          exact absurd H (by simp)
      · rw [if_neg c4] at H
        have c4b0 : decide (1 < (a0.size : Int)) = false := decide_eq_false c4
        have c4b1 : decide (1 < a0.size) = false := decide_eq_false (by omega)
        clear c4
        have H' := Aside0.mk H
        clear H
        go_wp2
        go_meet
        case rel => exact ⟨_, (false), (by first | rfl | (simp; done) | (simp [*]; done)), H', ⟨by first | omega | exact Nat.le_refl _⟩, by repeat (first | exact Drawn0.refl _ | apply Drawn0.step)⟩
  case rest =>
    clear HC2
    try clear c1
    try clear p2
    try clear c3
    try clear c3b0
    try clear c3b1
    try clear c4
    try clear c4b0
    try clear c4b1
    try clear c5
    try clear c5b0
    try clear c5b1
    try clear p6
    try clear q6
    try clear hx6
    try clear qi6
    try clear p6
    try clear q6
    obtain ⟨kq, x19_1, rfl, HA, HJ1, ⟨mc1, rfl⟩⟩ := hcut
    cases kq with
    | zero => exact absurd HA.out (by simp [malthouseref01_Number.j0])
    | succ kj1 =>
      have H := HA.out
      clear HA
      simp only [malthouseref01_Number.j0] at H
      by_cases c7 : x19_1 = true
      · subst c7
        have H1 : (some (0, false)) = some (r1, r2) := by rw [if_pos rfl] at H; exact H
        clear H
        have H := H1
        clear H1
        simp only [Option.some.injEq, Prod.mk.injEq] at H
        obtain ⟨rfl, rfl⟩ := H
        go_wp2
        go_ret2
        exact ⟨by first | rfl | (simp; done) | (simp [*]; done), by repeat (first | exact Drawn0.refl _ | apply Drawn0.step)⟩
      · replace c7 := Bool.eq_false_iff.mpr c7
        subst c7
        have H1 : (malthouseref01_Number.l0 kj1 a0 0 0) = some (r1, r2) := by rw [if_neg (show ¬ (false = true) by decide)] at H; exact H
        clear H
        have H := H1
        clear H1
        have H' := Aside0.mk H
        clear H
        go_wp2
        go_loopg [4, 5] kj1 (fun kq v4 v5 w' => ∃ (x4_2 : Int) (x5_2 : Int), v4 = .int .i64 x4_2 ∧ v5 = .int .i64 x5_2 ∧ Aside0 (malthouseref01_Number.l0 kq a0 x4_2 x5_2 = some (r1, r2)) ∧ Aside0 (kq ≤ kj1) ∧ Drawn0 w w')
        case atStart => exact ⟨(0), (0), (by first | rfl | (simp; done) | (simp [*]; done)), (by first | rfl | (simp; done) | (simp [*]; done)), H', ⟨Nat.le_refl _⟩, by repeat (first | exact Drawn0.refl _ | apply Drawn0.step)⟩
        case round =>
          clear H'
          try clear c1
          try clear p2
          try clear c3
          try clear c3b0
          try clear c3b1
          try clear c4
          try clear c4b0
          try clear c4b1
          try clear c5
          try clear c5b0
          try clear c5b1
          try clear p6
          try clear q6
          try clear hx6
          try clear qi6
          try clear c7
          try clear p2
          try clear p6
          try clear q6
          obtain ⟨x4_2, x5_2, rfl, rfl, HA, HK2, ⟨m2, rfl⟩⟩ := hrel
          cases gk with
          | zero => exact absurd HA.out (by simp [malthouseref01_Number.l0])
          | succ k2 =>
            have H := HA.out
            clear HA
            simp only [malthouseref01_Number.l0] at H
            by_cases c8 : x5_2 < (a0.size : Int)
            · rw [if_pos c8] at H
              have c8b0 : decide (x5_2 < (a0.size : Int)) = true := decide_eq_true c8
              clear c8
              have HC9 := Aside0.mk H
              clear H
              go_upto_region 7 with (fail)
              go_cut [35] (fun v35 wc => ∃ (kq : Nat) (x35_8 : Bool), v35 = .bool x35_8 ∧ Aside0 (malthouseref01_Number.j2 kq a0 x4_2 x5_2 x35_8 = some (r1, r2)) ∧ Aside0 (kq ≤ k2) ∧ Drawn0 w wc)
              case first =>
                have H := HC9.out
                clear HC9
                by_cases c10 : 0 ≤ x5_2
                · rw [if_pos c10] at H
                  have c10b0 : decide (0 ≤ x5_2) = true := decide_eq_true c10
                  clear c10
                  (first | rw [c10b0] | (simp only [i64_w, i32_w]; rw [c10b0]) | skip)
                  by_cases c12 : (bt a0 x5_2) < 48
                  · rw [if_pos c12] at H
                    have c12b0 : decide ((bt a0 x5_2) < 48) = true := decide_eq_true c12
                    clear c12
                    have H' := Aside0.mk H
                    clear H
                    have p11 : 0 ≤ (x5_2 : Int) := of_decide_eq_true (by first | (with_reducible assumption) | assumption)
                    have q11 : x5_2 < (a0.size : Int) := of_decide_eq_true (by first | (with_reducible assumption) | assumption)
                    have hx11 := bt_at a0 x5_2
                    replace p11 := eq_true p11
                    replace q11 := eq_true q11
                    go_wp2
                    go_meet
                    case rel => exact ⟨_, (true), (by first | rfl | (simp; done) | (simp [*]; done)), H', ⟨by have := HJ1.out; have := HK2.out; first | omega | exact Nat.le_refl _⟩, by repeat (first | exact Drawn0.refl _ | apply Drawn0.step)⟩
                  · rw [if_neg c12] at H
                    have c12b0 : decide ((bt a0 x5_2) < 48) = false := decide_eq_false c12
                    clear c12
                    have H' := Aside0.mk H
                    clear H
                    have p11 : 0 ≤ (x5_2 : Int) := of_decide_eq_true (by first | (with_reducible assumption) | assumption)
                    have q11 : x5_2 < (a0.size : Int) := of_decide_eq_true (by first | (with_reducible assumption) | assumption)
                    have hx11 := bt_at a0 x5_2
                    replace p11 := eq_true p11
                    replace q11 := eq_true q11
                    have p13 : 0 ≤ (x5_2 : Int) := of_decide_eq_true (by first | (with_reducible assumption) | assumption)
                    have q13 : x5_2 < (a0.size : Int) := of_decide_eq_true (by first | (with_reducible assumption) | assumption)
                    have hx13 := bt_at a0 x5_2
                    replace p13 := eq_true p13
                    replace q13 := eq_true q13
                    go_wp2
                    go_meet
                    case rel => exact ⟨_, (decide ((bt a0 x5_2) > 57)), (by first | rfl | (simp; done) | (simp [*]; done)), H', ⟨by have := HJ1.out; have := HK2.out; first | omega | exact Nat.le_refl _⟩, by repeat (first | exact Drawn0.refl _ | apply Drawn0.step)⟩
                · rw [if_neg c10] at H
                  exact absurd H (by simp)
              case rest =>
                clear HC9
                try clear c1
                try clear p1
                try clear q1
                try clear hx1
                try clear p2
                try clear c3
                try clear c3b0
                try clear c3b1
                try clear c4
                try clear c4b0
                try clear c4b1
                try clear c5
                try clear c5b0
                try clear c5b1
                try clear p6
                try clear q6
                try clear hx6
                try clear qi6
                try clear c7
                try clear c8
                try clear c8b0
                try clear c10
                try clear c10b0
                try clear p11
                try clear q11
                try clear hx11
                try clear c12
                try clear c12b0
                try clear p13
                try clear q13
                try clear hx13
                try clear p11
                try clear p13
                try clear p2
                try clear p6
                try clear q11
                try clear q13
                try clear q6
                obtain ⟨kq, x35_8, rfl, HA, HJ8, ⟨mc8, rfl⟩⟩ := hcut
                cases kq with
                | zero => exact absurd HA.out (by simp [malthouseref01_Number.j2])
                | succ kj8 =>
                  have H := HA.out
                  clear HA
                  simp only [malthouseref01_Number.j2] at H
                  by_cases c14 : x35_8 = true
                  · subst c14
                    have H1 : (some (0, false)) = some (r1, r2) := by rw [if_pos rfl] at H; exact H
                    clear H
                    have H := H1
                    clear H1
                    simp only [Option.some.injEq, Prod.mk.injEq] at H
                    obtain ⟨rfl, rfl⟩ := H
                    go_wp2
                    go_ret2
                    exact ⟨by first | rfl | (simp; done) | (simp [*]; done), by repeat (first | exact Drawn0.refl _ | apply Drawn0.step)⟩
                  · replace c14 := Bool.eq_false_iff.mpr c14
                    subst c14
                    have H1 : (if 0 ≤ x5_2 then (if x5_2 < (a0.size : Int) then (if x4_2 > (wrap64 (Int.tdiv (wrap64 (9223372036854775807 - (wrap64 ((wrap64 (bt a0 x5_2)) - 48)))) 10)) then (some (0, false)) else (malthouseref01_Number.l0 kj8 a0 (wrap64 ((wrap64 (10 * x4_2)) + (wrap64 ((wrap64 (bt a0 x5_2)) - 48)))) (wrap64 (x5_2 + 1)))) else (none)) else (none)) = some (r1, r2) := by rw [if_neg (show ¬ (false = true) by decide)] at H; exact H
                    clear H
                    have H := H1
                    clear H1
                    by_cases c15 : 0 ≤ x5_2
                    · rw [if_pos c15] at H
                      have c15b0 : decide (0 ≤ x5_2) = true := decide_eq_true c15
                      clear c15
                      by_cases c16 : x5_2 < (a0.size : Int)
                      · rw [if_pos c16] at H
                        have c16b0 : decide (x5_2 < (a0.size : Int)) = true := decide_eq_true c16
                        clear c16
                        by_cases c18 : x4_2 > (wrap64 (Int.tdiv (wrap64 (9223372036854775807 - (wrap64 ((wrap64 (bt a0 x5_2)) - 48)))) 10))
                        · rw [if_pos c18] at H
                          have c18b0 : decide ((wrap64 (Int.tdiv (wrap64 (9223372036854775807 - (wrap64 ((wrap64 (bt a0 x5_2)) - 48)))) 10)) < x4_2) = true := decide_eq_true c18
                          clear c18
                          simp only [Option.some.injEq, Prod.mk.injEq] at H
                          obtain ⟨rfl, rfl⟩ := H
                          have p17 : 0 ≤ (x5_2 : Int) := of_decide_eq_true (by first | (with_reducible assumption) | assumption)
                          have q17 : x5_2 < (a0.size : Int) := of_decide_eq_true (by first | (with_reducible assumption) | assumption)
                          have hx17 := bt_at a0 x5_2
                          replace p17 := eq_true p17
                          replace q17 := eq_true q17
                          go_wp2
                          go_ret2
                          exact ⟨by first | rfl | (simp; done) | (simp [*]; done), by repeat (first | exact Drawn0.refl _ | apply Drawn0.step)⟩
                        · rw [if_neg c18] at H
                          have c18b0 : decide ((wrap64 (Int.tdiv (wrap64 (9223372036854775807 - (wrap64 ((wrap64 (bt a0 x5_2)) - 48)))) 10)) < x4_2) = false := decide_eq_false c18
                          clear c18
                          have H' := Aside0.mk H
                          clear H
                          have p17 : 0 ≤ (x5_2 : Int) := of_decide_eq_true (by first | (with_reducible assumption) | assumption)
                          have q17 : x5_2 < (a0.size : Int) := of_decide_eq_true (by first | (with_reducible assumption) | assumption)
                          have hx17 := bt_at a0 x5_2
                          replace p17 := eq_true p17
                          replace q17 := eq_true q17
                          go_wp2
                          go_roundg kj8
                          case measure => have := HJ1.out; have := HK2.out; have := HJ8.out; omega
                          case rel => exact ⟨(wrap64 ((wrap64 (10 * x4_2)) + (wrap64 ((wrap64 (bt a0 x5_2)) - 48)))), (wrap64 (x5_2 + 1)), (by first | rfl | (simp; done) | (simp [*]; done)), (by first | rfl | (simp; done) | (simp [*]; done)), H', ⟨by have := HJ1.out; have := HK2.out; have := HJ8.out; omega⟩, by repeat (first | exact Drawn0.refl _ | apply Drawn0.step)⟩
                      · rw [if_neg c16] at H
                        exact absurd H (by simp)
                    · rw [if_neg c15] at H
                      exact absurd H (by simp)
            · rw [if_neg c8] at H
              have c8b0 : decide (x5_2 < (a0.size : Int)) = false := decide_eq_false c8
              clear c8
              simp only [Option.some.injEq, Prod.mk.injEq] at H
              obtain ⟨rfl, rfl⟩ := H
              go_wp2
              go_ret2
              exact ⟨by first | rfl | (simp; done) | (simp [*]; done), by repeat (first | exact Drawn0.refl _ | apply Drawn0.step)⟩
end Go.Proofs.YtlikjknakplamaaDoor.Print
/-! ### LxLaw3 -/
namespace Go.Proofs.YtlikjknakplamaaDoor.Print
open Go.RowKit Go.Proofs.YtlikjknakplamaaDoorW.PrintWords Go.Proofs.YtlikjknakplamaaDoorW.PrintLast Go.Proofs.YtlikjknakplamaaDoorW.PrintMore
set_option linter.unusedSimpArgs false
set_option linter.unusedVariables false
theorem numFrom_step (s : ByteArray) (f p n : Nat) (hp : p < s.size) : numFrom s (f + 1) p n = if 48 ≤ byteAt s p ∧ byteAt s p ≤ 57 then numFrom s f (p + 1) (10 * n + (byteAt s p - 48)) else none := by
  rw [numFrom, if_pos hp]
  by_cases hb : byteAt s p < 128
  · rw [decode_small s p hb]
    simp only
    by_cases hd : 48 ≤ byteAt s p ∧ byteAt s p ≤ 57
    · rw [if_pos hd, if_pos (class_digit _ hd.1 hd.2)]
    · rw [if_neg hd, if_neg (fun h => hd (by have := class_three h; omega))]
  · have hh : 128 ≤ (s[p]'hp).toNat := by
      have e : s.get! p = s[p]'hp := by have := get_at s p hp; simpa using this
      have : byteAt s p = (s[p]'hp).toNat := by unfold byteAt; rw [e]
      omega
    have := (decode_high s p hp hh).1
    rw [if_neg (fun h => by have := class_three h; omega), if_neg (by omega)]
theorem numFrom_ge (s : ByteArray) : ∀ (f p n m : Nat), numFrom s f p n = some m → n ≤ m := by
  intro f
  induction f with
  | zero => intro p n m h; have := Option.some.inj h; omega
  | succ f ih =>
    intro p n m h
    by_cases hp : p < s.size
    · rw [numFrom_step s f p n hp] at h
      split at h
      · have := ih _ _ _ h
        omega
      · cases h
    · rw [numFrom_end s _ p n hp] at h
      have := Option.some.inj h
      omega
theorem numFrom_pow (s : ByteArray) : ∀ (f p n m : Nat), s.size ≤ p + f → numFrom s f p n = some m → n * 10 ^ (s.size - p) ≤ m := by
  intro f
  induction f with
  | zero =>
    intro p n m h1 h
    have := Option.some.inj h
    rw [show s.size - p = 0 by omega]
    omega
  | succ f ih =>
    intro p n m h1 h
    by_cases hp : p < s.size
    · rw [numFrom_step s f p n hp] at h
      split at h
      · have := ih _ _ _ (by omega) h
        rw [show s.size - p = (s.size - (p + 1)) + 1 by omega, Nat.pow_succ, Nat.mul_comm (10 ^ _), ← Nat.mul_assoc]
        refine Nat.le_trans (Nat.mul_le_mul_right _ ?_) this
        omega
      · cases h
    · rw [numFrom_end s _ p n hp] at h
      have := Option.some.inj h
      rw [show s.size - p = 0 by omega]
      omega
theorem told_over (o : Option Nat) (h : ∀ m, o = some m → 9223372036854775807 < m) : told o = (0, false) := by
  cases o with
  | none => rfl
  | some m => unfold told; simp only; rw [if_pos (h m rfl)]
theorem ref_num_loop (s : ByteArray) (hs : s.size ≤ 1000000000) : ∀ (f i n k : Nat), s.size ≤ i + f → i ≤ s.size → n ≤ 9223372036854775807 → 2 * f + 2 ≤ k → malthouseref01_Number.l0 k s (n : Int) (i : Int) = some (told (numFrom s f i n)) := by
  intro f
  induction f with
  | zero =>
    intro i n k h1 h2 hn hk
    obtain ⟨k, rfl⟩ : ∃ m, k = m + 1 := ⟨k - 1, by omega⟩
    rw [malthouseref01_Number.l0, if_neg (by omega), numFrom]
    unfold told
    simp only
    rw [if_neg (by omega)]
  | succ f ih =>
    intro i n k h1 h2 hn hk
    obtain ⟨k, rfl⟩ : ∃ m, k = m + 1 + 1 := ⟨k - 2, by omega⟩
    by_cases hi : i < s.size
    · have hb := byteAt_lt s i
      rw [malthouseref01_Number.l0, if_pos (by omega), if_pos (by omega), bt_byteAt s i hi, numFrom_step s f i n hi]
      by_cases c1 : byteAt s i < 48
      · rw [if_pos (by omega), malthouseref01_Number.j2, if_pos rfl, if_neg (by omega)]
        rfl
      · rw [if_neg (by omega)]
        by_cases c2 : 57 < byteAt s i
        · rw [malthouseref01_Number.j2, if_pos (by simp; omega), if_neg (by omega)]
          rfl
        · have w1 : wrap64 (byteAt s i : Int) = byteAt s i := wrap_small _ (by omega) (by omega)
          have w2 : wrap64 ((byteAt s i : Int) - 48) = ((byteAt s i - 48 : Nat) : Int) := by rw [wrap_small _ (by omega) (by omega)]; omega
          rw [malthouseref01_Number.j2, if_neg (by simp; omega), if_pos (by omega), if_pos (by omega), bt_byteAt s i hi, w1, w2, if_pos (show 48 ≤ byteAt s i ∧ byteAt s i ≤ 57 by omega)]
          generalize hd : byteAt s i - 48 = d at *
          have hd9 : d ≤ 9 := by omega
          rw [wrap_small (9223372036854775807 - (d : Int)) (by omega) (by omega), Int.tdiv_eq_ediv_of_nonneg (by omega), wrap_small ((9223372036854775807 - (d : Int)) / 10) (by omega) (by omega)]
          by_cases c3 : (n : Int) > (9223372036854775807 - (d : Int)) / 10
          · rw [if_pos c3, told_over _ (fun m hm => by have := numFrom_ge s _ _ _ _ hm; omega)]
          · rw [if_neg c3, wrap_small (10 * (n : Int)) (by omega) (by omega), wrap_small (10 * (n : Int) + (d : Int)) (by omega) (by omega), wrap_small ((i : Int) + 1) (by omega) (by omega)]
            have := ih (i + 1) (10 * n + d) k (by omega) (by omega) (by omega) (by omega)
            rw [show 10 * (n : Int) + (d : Int) = ((10 * n + d : Nat) : Int) by omega, show (i : Int) + 1 = ((i + 1 : Nat) : Int) by omega]
            exact this
    · rw [malthouseref01_Number.l0, if_neg (by omega), numFrom_end s _ i n hi]
      unfold told
      simp only
      rw [if_neg (by omega)]
theorem ref_number_is (s : ByteArray) (hs : s.size ≤ 1000000000) (k : Nat) (hk : 2 * s.size + 10 ≤ k) : malthouseref01_Number.f k s = some (numZ s) := by
  obtain ⟨k, rfl⟩ : ∃ m, k = m + 1 := ⟨k - 1, by omega⟩
  have hl := ref_num_loop s hs s.size 0 0 k (by omega) (by omega) (by omega) (by omega)
  have hb0 : bAt s 0 = byteAt s 0 := rfl
  unfold malthouseref01_Number.f numZ
  by_cases h0 : s.size = 0
  · rw [if_pos (by omega), malthouseref01_Number.j0, if_pos rfl, if_pos (.inl h0)]
  · rw [if_neg (by omega)]
    by_cases h1 : 1 < s.size
    · rw [if_pos (by omega), if_pos (by omega), show (0 : Int) = ((0 : Nat) : Int) from rfl, bt_byteAt s 0 (by omega)]
      by_cases h2 : byteAt s 0 = 48
      · rw [malthouseref01_Number.j0, if_pos (by rw [h2]; rfl), if_pos (.inr (.inr ⟨h1, h2⟩))]
        rfl
      · rw [malthouseref01_Number.j0, if_neg (by simp; omega)]
        by_cases h19 : 19 < s.size
        · rw [if_pos (.inr (.inl h19))]
          refine hl.trans ?_
          rw [told_over]
          · rfl
          · intro m hm
            obtain ⟨f, hf⟩ : ∃ f, s.size = f + 1 := ⟨s.size - 1, by omega⟩
            rw [hf, numFrom_step s f 0 0 (by omega)] at hm
            split at hm
            · rename_i hd
              have h3 := numFrom_pow s f (0 + 1) _ m (by omega) hm
              have h4 : 10 ^ 19 ≤ 10 ^ (s.size - (0 + 1)) := Nat.pow_le_pow_right (by omega) (by omega)
              have h5 : 1 * 10 ^ (s.size - (0 + 1)) ≤ (10 * 0 + (byteAt s 0 - 48)) * 10 ^ (s.size - (0 + 1)) := Nat.mul_le_mul_right _ (by omega)
              have e : (10 : Nat) ^ 19 = 10000000000000000000 := by decide
              omega
            · cases hm
        · rw [if_neg (by rintro (h | h | h); exact h0 h; exact h19 h; exact h2 h.2)]
          exact hl
    · rw [if_neg (by omega), malthouseref01_Number.j0, if_neg (by simp), if_neg (by rintro (h | h | h); exact h0 h; omega; exact h1 h.1)]
      exact hl
end Go.Proofs.YtlikjknakplamaaDoor.Print
