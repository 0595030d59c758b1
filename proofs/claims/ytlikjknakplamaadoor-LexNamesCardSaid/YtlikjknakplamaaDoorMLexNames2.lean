import Derived.Test.YtlikjknakplamaaDoorMLexNames1
import Derived.Below
import Derived.ChangeOld
import Derived.Handed
import Derived.LaidLaws
import Derived.LaidOnce
import Derived.LaidSub
import Derived.Laws.RangeAny
import Derived.Lay
import Derived.Lib.AppendIntMem
import Derived.Lib.LaidTab
import Derived.Lib.LaidU8T
import Derived.Lib.TrimUEq
import Derived.OpenShut
import Derived.PinnedBridge
import Derived.ProofKit
import Derived.SevenTiedAt
import Derived.Shelf.Lay
import Derived.ShutString
import Derived.SizedLaws
import Derived.Test.YtlikjknakplamaaDoorCards
import Derived.Test.YtlikjknakplamaaDoorRows
import Derived.Test.YtlikjknakplamaaDoorTie
import Derived.WalkKit
set_option linter.unusedVariables false
set_option linter.unusedSimpArgs false
namespace Go.Proofs.YtlikjknakplamaaDoorW.PrintWords
end Go.Proofs.YtlikjknakplamaaDoorW.PrintWords
namespace Go.Proofs.YtlikjknakplamaaDoorW.PrintLast
end Go.Proofs.YtlikjknakplamaaDoorW.PrintLast
namespace Go.Proofs.YtlikjknakplamaaDoorW.PrintMore
end Go.Proofs.YtlikjknakplamaaDoorW.PrintMore
/-! ### LxLen -/
namespace Go.Proofs.YtlikjknakplamaaDoor
open Go.Lib
set_option linter.unusedSimpArgs false
set_option linter.unusedVariables false
theorem width_end (s : ByteArray) (p : Nat) (h : p < s.size) : p + (Utf8.decode s p).2 ≤ s.size := by
  rw [Lib.decode_at]
  unfold Lib.decodeN
  repeat' split
  all_goals (simp only; omega)
theorem wordEnd_ge (s : ByteArray) : ∀ f p, p ≤ s.size → p ≤ wordEnd s f p
  | 0, p, h => h
  | f + 1, p, h => by
    unfold wordEnd
    split
    · rename_i hp
      split
      · have := wordEnd_ge s f _ (width_end s p hp)
        omega
      · exact Nat.le_refl _
    · exact h
theorem word_pos (x : ByteArray) (h : 0 < x.size) (hw : wordyZ (Utf8.decode x 0).1 = true) : 1 ≤ wordEnd x x.size 0 := by
  obtain ⟨f, hf⟩ : ∃ f, x.size = f + 1 := ⟨x.size - 1, by omega⟩
  rw [hf]
  unfold wordEnd
  rw [if_pos h, if_pos hw, Nat.zero_add]
  have h1 := decode_width_pos x 0 h
  have h2 := width_end x 0 h
  rw [Nat.zero_add] at h2
  have := wordEnd_ge x f _ h2
  omega
theorem cut_hit_len (s : List UInt8) (c : UInt8) (h : (cut s [c]).2.2 = true) : (cut s [c]).1.length + 1 ≤ s.length := by
  unfold cut at h ⊢
  by_cases hi : 0 ≤ index s [c]
  · rw [if_pos hi] at h ⊢
    obtain ⟨o, ho⟩ : ∃ o : Nat, index s [c] = o := ⟨(index s [c]).toNat, by omega⟩
    have ho' := ho
    rw [index_one] at ho
    have := (indexByte_some ho).1
    have hlt : o < s.length := (List.getElem?_eq_some_iff.1 this).1
    simp only [ho', List.length_take, Int.toNat_natCast]
    omega
  · rw [if_neg hi] at h
    cases h
theorem size_arr (l : List UInt8) : (⟨l.toArray⟩ : ByteArray).size = l.length := by show Array.size _ = _; simp
theorem text_len (x : ByteArray) (h : 0 < x.size) (hc : closed x = true) : (insideOf x).size + 2 ≤ x.size := by
  have h1 := cut_hit_len _ _ hc
  have h2 : (insideOf x).size + 1 ≤ (lineOf x).size := by
    unfold insideOf
    rw [size_arr]
    have : (lineOf x).data.toList.length = (lineOf x).size := by rw [Array.length_toList]; rfl
    omega
  have h3 : (lineOf x).size ≤ x.size - 1 := by
    have h := cut_fst_le (x.extract 1 x.size).data.toList [10]
    have e1 : (lineOf x).size = (Lib.cut (x.extract 1 x.size).data.toList [10]).1.length := by unfold lineOf; exact size_arr _
    have e2 : (x.extract 1 x.size).data.toList.length = (x.extract 1 x.size).size := by rw [Array.length_toList]; rfl
    rw [ByteArray.size_extract] at e2
    omega
  omega
theorem token_len (x : ByteArray) (h : 0 < x.size) (he : (tokenZ x).2.2 = 0) : ∃ n : Nat, (tokenZ x).2.1 = n ∧ 1 ≤ n ∧ n ≤ x.size := by
  have hle := wordEnd_le x x.size 0
  unfold tokenZ at he ⊢
  by_cases c2 : classZ (Utf8.decode x 0).1 = 2
  · have hp := word_pos x h (by unfold wordyZ; simp [c2])
    rw [if_pos c2] at he ⊢
    split at he
    · cases he
    · rename_i hn
      rw [if_neg hn]
      exact ⟨_, rfl, hp, hle⟩
  · rw [if_neg c2] at he ⊢
    by_cases c3 : classZ (Utf8.decode x 0).1 = 3
    · have hp := word_pos x h (by unfold wordyZ; simp [c3])
      rw [if_pos c3] at he ⊢
      split at he
      · rename_i hn
        rw [if_pos hn]
        exact ⟨_, rfl, hp, hle⟩
      · cases he
    · rw [if_neg c3] at he ⊢
      by_cases c5 : classZ (Utf8.decode x 0).1 = 5
      · rw [if_pos c5] at he ⊢
        unfold textZ at he ⊢
        by_cases d1 : closed x = false
        · rw [if_pos d1] at he; cases he
        · rw [if_neg d1] at he ⊢
          have hl := text_len x h (by simpa using d1)
          split at he
          · cases he
          · rename_i d2
            rw [if_neg d2]
            split at he
            · cases he
            · rename_i d3
              rw [if_neg d3]
              exact ⟨(insideOf x).size + 2, by simp, by omega, hl⟩
      · rw [if_neg c5] at he ⊢
        by_cases c4 : classZ (Utf8.decode x 0).1 = 4
        · rw [if_pos c4] at he ⊢
          refine ⟨_, rfl, ?_, ?_⟩
          · unfold signN
            have := decode_width_pos x 0 h
            split <;> omega
          · unfold signN
            have := width_end x 0 h
            split <;> omega
        · rw [if_neg c4] at he; cases he
theorem blanksZ_bound : ∀ (f : Nat) (st : ByteArray × Int) (B : Int), 0 ≤ st.2 → st.2 + st.1.size ≤ B → 0 ≤ (blanksZ f st).2 ∧ (blanksZ f st).2 + (blanksZ f st).1.size ≤ B ∧ (blanksZ f st).1.size ≤ st.1.size
  | 0, st, B, h0, h1 => ⟨h0, h1, Nat.le_refl _⟩
  | f + 1, st, B, h0, h1 => by
    unfold blanksZ
    by_cases hz : st.1.size = 0
    · rw [if_pos hz]; exact ⟨h0, h1, Nat.le_refl _⟩
    · rw [if_neg hz]
      by_cases c1 : classZ (bAt st.1 0) = 1
      · rw [if_pos c1]
        have p1 := passZ_at st 1 (by omega)
        have p2 := passZ_size st 1 (by omega)
        obtain ⟨a, b, c⟩ := blanksZ_bound f (passZ st 1) B (by omega) (by omega)
        exact ⟨a, b, by omega⟩
      · rw [if_neg c1]
        by_cases c6 : classZ (bAt st.1 0) = 6
        · rw [if_pos c6]
          have hn := hashN_le st.1 (by omega) c6
          have p1 := passZ_at st (hashN st.1) hn.2
          have p2 := passZ_size st (hashN st.1) hn.2
          obtain ⟨a, b, c⟩ := blanksZ_bound f (passZ st (hashN st.1)) B (by omega) (by omega)
          exact ⟨a, b, by omega⟩
        · rw [if_neg c6]; exact ⟨h0, h1, Nat.le_refl _⟩
/-- What cutting does behind blanks. -/
def cutTail (f : Nat) (st : ByteArray × Int) (l : List Tok) : List Tok × Int × Int :=
  if st.1.size = 0 then (l ++ [(0, ⟨#[]⟩, 0, st.2)], 0, 0)
  else if l.length = 2000 then ([], 2, st.2)
  else if (tokenZ st.1).2.2 ≠ 0 then ([], (tokenZ st.1).2.2, st.2)
  else cutLoop f (passZ st (tokenZ st.1).2.1.toNat) (l ++ [((tokenZ st.1).1.1, (tokenZ st.1).1.2.1, (tokenZ st.1).1.2.2.1, st.2)])
theorem cutLoop_tail (f : Nat) (st : ByteArray × Int) (l : List Tok) : cutLoop (f + 1) st l = cutTail f (blanks st) l := rfl
end Go.Proofs.YtlikjknakplamaaDoor
/-! ### ECut -/
namespace Go.Proofs.YtlikjknakplamaaDoor.Print
open Go.RowKit Go.Proofs.YtlikjknakplamaaDoorW.PrintWords Go.Proofs.YtlikjknakplamaaDoorW.PrintLast Go.Proofs.YtlikjknakplamaaDoorW.PrintMore
set_option linter.unusedSimpArgs false
set_option linter.unusedVariables false
def tcells (t : Tok) : List Value := [.int .i64 t.1, .string t.2.1, .int .i64 t.2.2.1, .int .i64 t.2.2.2]
def toks (l : List Tok) : List Value := l.flatMap tcells
theorem toks_snoc (l : List Tok) (t : Tok) : toks (l ++ [t]) = toks l ++ tcells t := by unfold toks; rw [List.flatMap_append]; simp
structure OutAt (w : World) (base g : Nat) (A : Option Addr) (c : Nat) (l : List Tok) : Prop where
  own : w.ownsRow base 38 4 (.slice A l.length c) l.length (toks l)
  ne : ∀ k, (Value.slice A l.length c).ownBlock = some k → k ≠ g
theorem OutAt.only {w w' : World} {base g : Nat} {A : Option Addr} {c : Nat} {l : List Tok} {S : List Nat} (h : OutAt w base g A c l) (ho : Only S w w') (hS : ∀ k, (Value.slice A l.length c).ownBlock = some k → k ∉ S) : OutAt w' base g A c l :=
  ⟨ownsRow_only h.own ho hS, h.ne⟩
theorem fill_one4 (z a b c d : Value) (hz : z.cells.size = 4) :
    Instr.fill (fun i => some (i * 4, 4)) ((Array.range (1 * 4)).map (z.cells[· % z.cells.size]!)) [(0, .agg #[a, b, c, d])] = some #[a, b, c, d] := by
  generalize hA : ((Array.range (1 * 4)).map (z.cells[· % z.cells.size]!)) = arr
  have h2 : arr.size = 4 := by rw [← hA]; simp
  match arr, h2 with
  | ⟨[x, y, u, v]⟩, _ => simp [Instr.fill, Value.cells]
abbrev zTok : Value := .agg #[.int .i64 0, .string ⟨#[]⟩, .int .i64 0, .int .i64 0]
set_option maxHeartbeats 8000000 in
set_option maxRecDepth 100000 in
theorem cut_walk (a0 : ByteArray) (w : World) (hs : a0.size ≤ 1000000000) (hT : Tabs w) :
    Calls Tryd.prog 13 #[.string a0] w fun e w' => ∃ A c, e = .returned (.tuple #[.slice A (cutZ a0).1.length c, .int .i64 (cutZ a0).2.1, .int .i64 (cutZ a0).2.2]) ∧ w'.ownsRow w.heap.size 38 4 (.slice A (cutZ a0).1.length c) (cutZ a0).1.length (toks (cutZ a0).1) ∧ Below w.heap.size w w' := by
  obtain ⟨V, hV⟩ : ∃ V, V = cutZ a0 := ⟨_, rfl⟩
  rw [← hV]
  unfold cutZ at hV
  have HV := Lib.hid hV
  have HTB := Lib.hid hT
  have hu2 := Tryd.underlying47
  have hu3 := Tryd.underlying38
  clear hV hT
  go_enter Tryd.func13, Tryd.ntmps13
  by_cases hlong : 8192 < a0.size
  · have hv := HV.out
    rw [if_pos hlong] at hv
    have HV2 := Lib.hid hv
    have hl' : (8192 : Int) < a0.size := by omega
    clear hv HV
    go_wp2
    go_ret3
    refine ⟨none, 0, ?_, ?_, Below.refl _ _⟩
    · rw [HV2.out]; rfl
    · rw [HV2.out]; exact ownsRow_nil _ _ _ _
  · have hl' : (a0.size : Int) ≤ 8192 := by omega
    have hv := HV.out
    rw [if_neg hlong] at hv
    have HBA := Lib.hid (bad_any a0 w hs HTB.out)
    generalize badZ a0 = bz at *
    by_cases hb : 0 ≤ bz
    · rw [if_pos hb] at hv
      have HV2 := Lib.hid hv
      clear hv HV
      go_wp2_with (go_at_call 28; refine HBA.out.mono ?_; rintro e w1 ⟨rfl, hb1⟩; have HB1 := Lib.hid hb1; clear hb1)
      go_ret3
      refine ⟨none, 0, ?_, ?_, HB1.out⟩
      · rw [HV2.out]; rfl
      · rw [HV2.out]; exact ownsRow_nil _ _ _ _
    · rw [if_neg hb] at hv
      have hb' : bz < 0 := by omega
      rw [cutLoop_tail] at hv
      have HV2 := Lib.hid hv
      have hbd := blanksZ_bound a0.size (a0, 0) 8192 (by simp) (by simp; omega)
      have HBD := Lib.hid (show 0 ≤ (blanks (a0, 0)).2 ∧ (blanks (a0, 0)).2 + (blanks (a0, 0)).1.size ≤ 8192 ∧ (blanks (a0, 0)).1.size ≤ a0.size from hbd)
      clear hv HV hbd
      go_wp2_with (go_at_call 28; refine HBA.out.mono ?_; rintro e w1 ⟨rfl, hb1⟩; have HB1 := Lib.hid (Only.of_below hb1); clear hb1; refine (fun (h : Hid _) => h.out) ?_)
      refine Lib.hid ?_
      clear HBA
      obtain ⟨g, hg⟩ : ∃ g, g = w1.heap.size := ⟨_, rfl⟩
      have HGL := Lib.hid (show w.heap.size ≤ g by rw [hg]; exact HB1.out.size)
      have HA1 := Lib.hid (show Only [] w (w1.alloc (.cells #[.string a0, .int .i64 0, .slice none 0 0] 47)) from HB1.out.alloc _)
      have HC1 := Lib.hid (show CutAt (w1.alloc (.cells #[.string a0, .int .i64 0, .slice none 0 0] 47)) g a0 0 (.slice none 0 0) by rw [hg]; exact heap_alloc_new w1 _)
      go_wp2_with (go_at_call 29; rw [← hg]; refine (blanks_any g a0 0 (.slice none 0 0) _ HC1.out (by omega) (by omega)).mono ?_; rintro e w2 ⟨rfl, hg2, ho2⟩; have HG2 := Lib.hid hg2; have HO2 := Lib.hid (HA1.out.then ho2 (by intro i hi; simp at hi; subst hi; exact .inr HGL.out)); clear hg2 ho2; refine (fun (h : Hid _) => h.out) ?_)
      refine Lib.hid ?_
      clear HA1 HC1
      have HO0 := Lib.hid (show OutAt w2 w.heap.size g none 0 [] from ⟨ownsRow_nil _ _ _ _, by simp [Value.ownBlock]⟩)
      rw [← hg]
      clear hg HB1
      have ha8 := hl'
      generalize blanks (a0, 0) = st at *
      obtain ⟨y0, b0⟩ := st
      have HBD2 := Lib.hid (show 0 ≤ b0 ∧ b0 + y0.size ≤ 8192 from ⟨HBD.out.1, HBD.out.2.1⟩)
      have HF := Lib.hid (show y0.size ≤ a0.size from HBD.out.2.2)
      clear HBD
      have HG3 : Hid (CutAt w2 g y0 b0 (.slice none 0 0)) := HG2
      clear HG2
      go_wp2
      go_loopw [7, 8, 9] (fun _ _ _ wr => ∃ (x : ByteArray) (a : Int) (l : List Tok) (A : Option Addr) (c f : Nat), Hid (CutAt wr g x a (.slice A l.length c)) ∧ Hid (OutAt wr w.heap.size g A c l) ∧ Hid (V = cutTail f (x, a) l) ∧ Hid (0 ≤ a ∧ a + x.size ≤ 8192) ∧ Hid (l.length ≤ 2000) ∧ Hid (x.size ≤ f) ∧ Hid (Only [] w wr)) (fun _ _ _ wr => leftN wr g)
      case atStart => exact ⟨y0, b0, [], none, 0, a0.size, HG3, HO0, HV2, HBD2, Lib.hid (by simp), HF, HO2⟩
      case round =>
        obtain ⟨x, a, l, A, c, f, hg, hout, hv, hbd, hln, hf, ho⟩ := hrel
        clear HG3 HO0 HV2 HBD2 HF HO2
        have c0 : wr.cell? ⟨g, 0, none⟩ = some (.string x) := (cell_of_row wr g 0 _ _ _ hg.out).trans rfl
        by_cases hx : x = ⟨#[]⟩
        · have hv' := hv.out
          subst hx
          unfold cutTail at hv'
          rw [if_pos (by rfl)] at hv'
          have HV2 := Lib.hid (show V = (l ++ [((0, ⟨#[]⟩, 0, a) : Tok)], 0, 0) from hv')
          clear hv hv'
          have HGS := Lib.hid (show g ∉ (Value.slice A l.length c).ownBlock.toList ∧ (∀ k ∈ (Value.slice A l.length c).ownBlock.toList, w.heap.size ≤ k) from
            ⟨fun h => hout.out.ne g (by simpa using h) rfl, fun k hk => (ownsRow_lt hout.out.own (by simpa using hk)).1⟩)
          go_wp2
          obtain ⟨S, hS⟩ : ∃ S, S = (Value.slice A l.length c).ownBlock.toList := ⟨_, rfl⟩
          rw [← hS] at HGS
          have HSS := Lib.hid hS
          clear hS c0
          refine L.grow_start S 14 ((0, true, false) :: (1, true, false) :: (2, true, false) :: (3, true, false) :: (4, true, true) :: (5, true, true) :: (6, true, true) :: (7, true, true) :: (8, true, true) :: (9, false, true) :: (10, false, true) :: (11, true, true) :: (12, true, true) :: (13, true, true) :: []) (by kernel_rfl) (([], [6], some 67) :: ([0], [67], some 68) :: ([1], [68], some 69) :: ([2], [69], some 70) :: ([], [6], some 71) :: ([4], [71], some 72) :: ([5], [72], some 73) :: ([6], [73], some 74) :: ([7], [74], some 75) :: ([8], [75], some 76) :: ([3, 9], [70, 76], some 77) :: ([10, 10, 0, 1, 2, 3, 4, 5, 6, 7, 8, 9, 10], [77], some 2) :: ([11, 0, 1, 2, 3, 4, 5, 6, 7, 8, 9, 10, 11], [], some 3) :: ([12, 0, 1, 2, 3, 4, 5, 6, 7, 8, 9, 10, 11, 12], [], some 4) :: []) (by kernel_rfl) (by kernel_rfl) (n := 14) rfl (by kernel_rfl) (fun _ _ _ _ _ h => h) (fun wg hog => ?_)
          refine L.growe_start (N := 78) (by rfl) ?_
          have e2 : ∀ w', Only S wg w' → w'.cell? ⟨g, 2, none⟩ = some (.slice A l.length c) := fun w' q => (cell_of_row w' g 2 _ _ _ (((hog.mono (T := S) (by simp)).trans q).heap hg.out HGS.out.1)).trans rfl
          have e1 : ∀ w', Only S wg w' → w'.cell? ⟨g, 1, none⟩ = some (.int .i64 a) := fun w' q => (cell_of_row w' g 1 _ _ _ (((hog.mono (T := S) (by simp)).trans q).heap hg.out HGS.out.1)).trans rfl
          have HOG := Lib.hid hog
          clear hog
          iterate 8 (first | (refine L.ge_off rfl rfl rfl (by rfl) ?_) | (refine L.ge_move rfl rfl rfl (by rfl) rfl (by simp [L.evE, L.lk, Act.eval]; rfl) ?_) | (refine L.ge_pick rfl rfl rfl (by rfl) rfl (by simp [L.evE, L.lk, Act.eval]; rfl) (by simp [L.evE, L.lk, Act.eval]; rfl) ?_) | (refine L.ge_val rfl rfl rfl (by rfl) (by intro w' hw'; simp [execOp, L.evE, L.lk, Act.eval]; go_simp; rfl) ?_))
          refine L.ge_val (v := .agg #[.int .i64 0, .string ⟨#[]⟩, .int .i64 0, .int .i64 a]) rfl rfl rfl (by rfl) (by intro w' hw'; simp [execOp, L.evE, L.lk, Act.eval]; go_simp) ?_
          refine ge_one rfl rfl rfl (by rfl) _ (.tmp 75) rfl 38 Tryd.underlying23 zTok 4 40 infoTok (by omega) (by omega) #[.int .i64 0, .string ⟨#[]⟩, .int .i64 0, .int .i64 a] (by have h := fill_one4 zTok (.int .i64 0) (.string ⟨#[]⟩) (.int .i64 0) (.int .i64 a) rfl; simpa [L.evE, L.lk, Act.eval] using h) ?_
          have HPN := Lib.hid (heap_alloc_new wg (.cells #[.int .i64 0, .string ⟨#[]⟩, .int .i64 0, .int .i64 a] 38))
          have HOW := Lib.hid ((hout.out.only HOG.out (by simp)).only ((Only.refl [] wg).alloc (.cells #[.int .i64 0, .string ⟨#[]⟩, .int .i64 0, .int .i64 a] 38)) (by simp))
          refine ge_append_row rfl rfl rfl (by rfl) (.tmp 70) (.tmp 76) 23 rfl w.heap.size 38 4 40 zTok Tryd.underlying23 infoTok rfl (by omega) (.slice A l.length c) l.length (toks l) (by simp [L.evE, L.lk, Act.eval]) HOW.out.own (some ⟨wg.heap.size, 0, none⟩) 1 1 [.int .i64 0, .string ⟨#[]⟩, .int .i64 0, .int .i64 a] (by simp [L.evE, L.lk, Act.eval]) rfl (fun _ => ⟨_, rfl, cellsAt_row HPN.out⟩) (by simp [Value.oneCell']) (by have := hln.out; unfold maxLen; omega) (by have := hln.out; omega) (by have := ho.out.size; have := HOG.out.size; simp; omega) ?_
          intro A8 c8 w8 hb8 ho8 hk8
          refine ⟨by rw [HSS.out]; exact ho8, ?_⟩
          have HO8 := Lib.hid (show Only S wg w8 by rw [HSS.out]; exact (((Only.refl [] wg).alloc (.cells #[.int .i64 0, .string ⟨#[]⟩, .int .i64 0, .int .i64 a] 38)).mono (by simp)).trans ho8)
          have HB8 := Lib.hid (show w8.ownsRow w.heap.size 38 4 (.slice A8 (l.length + 1) c8) (l.length + 1) (toks (l ++ [((0, ⟨#[]⟩, 0, a) : Tok)])) by rw [toks_snoc]; exact hb8)
          clear hb8 ho8 hk8 HPN HOW
          iterate 3 (first | (refine L.ge_off rfl rfl rfl (by rfl) ?_) | (refine L.ge_move rfl rfl rfl (by rfl) rfl (by simp [L.evE, L.lk, Act.eval]; rfl) ?_) | (refine L.ge_pick rfl rfl rfl (by rfl) rfl (by simp [L.evE, L.lk, Act.eval]; rfl) (by simp [L.evE, L.lk, Act.eval]; rfl) ?_) | (refine L.ge_val rfl rfl rfl (by rfl) (by intro w' hw'; simp [execOp, L.evE, L.lk, Act.eval]; go_simp; rfl) ?_))
          refine L.ge_done ?_
          simp only [L.puts, Act.put, goInt, List.setIfInBounds_toArray, List.set_cons_zero, List.set_cons_succ]
          go_wp2
          go_ret3
          have hll : (l ++ [((0, ⟨#[]⟩, 0, a) : Tok)]).length = l.length + 1 := by simp
          refine ⟨A8, c8, ?_, ?_, ((ho.out.trans HOG.out).then HO8.out (fun i hi => .inr (HGS.out.2 i hi))).nil_below⟩
          · rw [HV2.out]
            simp only [hll]
            rfl
          · rw [HV2.out]
            simp only [hll]
            exact HB8.out
        · have hpos : 0 < x.size := by
            rcases Nat.eq_zero_or_pos x.size with h | h
            · exact absurd (ByteArray.size_eq_zero_iff.1 h) hx
            · exact h
          have hp' : (0 : Int) < x.size := by omega
          have hie := some_left x hpos
          have hv' := hv.out
          unfold cutTail at hv'
          rw [if_neg (by show ¬ x.size = 0; omega)] at hv'
          have hv' : V = if l.length = 2000 then ([], 2, a) else if (tokenZ x).2.2 ≠ 0 then ([], (tokenZ x).2.2, a) else cutLoop f (passZ (x, a) (tokenZ x).2.1.toNat) (l ++ [((tokenZ x).1.1, (tokenZ x).1.2.1, (tokenZ x).1.2.2.1, a)]) := hv'
          have HTK := Lib.hid (token_any g x a (.slice A l.length c) wr hg.out hpos (by have := hbd.out; omega) (HTB.out.below ho.out.nil_below))
          have HTL := Lib.hid (token_len x hpos)
          have HG0 := Lib.hid (show g < wr.heap.size from heap_lt hg.out)
          generalize tokenZ x = tz at *
          obtain ⟨⟨tk, ts, tn, ta⟩, tl, te⟩ := tz
          have HV := Lib.hid hv'
          clear hv hv' hx
          go_wp2_with (go_at_call 30; refine HTK.out.mono ?_; rintro e w3 ⟨rfl, ho3⟩; have HG3 := Lib.hid (ho3.heap hg.out (by simp)); have HU3 := Lib.hid (hout.out.only ho3 (by simp)); have HO3 := Lib.hid (ho.out.trans ho3); have HS3 := Lib.hid ho3.size; clear ho3; refine (fun (h : Hid _) => h.out) ?_)
          refine Lib.hid ?_
          have HL := Lib.hid (leftN_at hg.out)
          clear HTK hg hout ho c0
          obtain ⟨b, hb⟩ : ∃ b, b = w3.heap.size := ⟨_, rfl⟩
          have HBG := Lib.hid (show g ≠ b ∧ w.heap.size ≤ b ∧ w3.heap.size ≤ b by have := HG0.out; have := HS3.out; have := HO3.out.size; omega)
          have HON := Lib.hid (show Only [] w3 (w3.alloc (.cells #[.int .i64 tk, .string ts, .int .i64 tn, .int .i64 ta] 38)) from (Only.refl _ _).alloc _)
          have HR4 := Lib.hid (show (w3.alloc (.cells #[.int .i64 tk, .string ts, .int .i64 tn, .int .i64 ta] 38)).heap[b]? = some (.cells #[.int .i64 tk, .string ts, .int .i64 tn, .int .i64 ta] 38 (0, 0)) by rw [hb]; exact heap_alloc_new w3 _)
          have HG4 := Lib.hid (HON.out.heap HG3.out (by simp))
          have HU4 := Lib.hid (HU3.out.only HON.out (by simp))
          have HO4 := Lib.hid (HO3.out.trans HON.out)
          have HON5 := Lib.hid (show Only [] w3 (w3.alloc (.cells #[.int .i64 tk, .string ts, .int .i64 tn, .int .i64 a] 38)) from (Only.refl _ _).alloc _)
          have HR5 := Lib.hid (show (w3.alloc (.cells #[.int .i64 tk, .string ts, .int .i64 tn, .int .i64 a] 38)).heap[b]? = some (.cells #[.int .i64 tk, .string ts, .int .i64 tn, .int .i64 a] 38 (0, 0)) by rw [hb]; exact heap_alloc_new w3 _)
          have HG5 := Lib.hid (HON5.out.heap HG3.out (by simp))
          have HU5 := Lib.hid (HU3.out.only HON5.out (by simp))
          have HO5 := Lib.hid (HO3.out.trans HON5.out)
          have HGS := Lib.hid (show g ∉ (Value.slice A l.length c).ownBlock.toList ∧ b ∉ (Value.slice A l.length c).ownBlock.toList ∧ (∀ k ∈ (Value.slice A l.length c).ownBlock.toList, w.heap.size ≤ k) by
            refine ⟨fun h => HU3.out.ne g (by simpa using h) rfl, fun h => ?_, fun k hk => (ownsRow_lt HU3.out.own (by simpa using hk)).1⟩
            have := (ownsRow_lt HU3.out.own (by simpa using h)).2
            omega)
          have hb3 : w3.heap.size = b := hb.symm
          clear HON hb
          have c1 : (w3.alloc (.cells #[.int .i64 tk, .string ts, .int .i64 tn, .int .i64 ta] 38)).cell? ⟨g, 1, none⟩ = some (.int .i64 a) := (cell_of_row _ g 1 _ _ _ HG4.out).trans rfl
          have c2 : (w3.alloc (.cells #[.int .i64 tk, .string ts, .int .i64 tn, .int .i64 ta] 38)).cell? ⟨g, 2, none⟩ = some (.slice A l.length c) := (cell_of_row _ g 2 _ _ _ HG4.out).trans rfl
          by_cases hfull : l.length = 2000
          · have hfb : ((l.length : Int) == 2000) = true := by rw [hfull]; rfl
            have hv := HV.out
            rw [if_pos hfull] at hv
            have HV2 := Lib.hid hv
            clear hv HV
            go_wp2
            generalize (w3.alloc (.cells #[.int .i64 tk, .string ts, .int .i64 tn, .int .i64 ta] 38)) = w4 at *
            refine L.grow_start [] 8 ((0, true, false) :: (1, true, false) :: (2, true, false) :: (3, true, false) :: (4, true, false) :: (5, true, true) :: (6, true, true) :: (7, true, true) :: []) (by kernel_rfl) (([], [9], some 44) :: ([], [6], some 45) :: ([1], [45], some 46) :: ([2], [46], some 47) :: ([3], [47], some 48) :: ([], [], some 2) :: ([0, 5, 0, 5], [44], some 3) :: ([4, 6, 0, 1, 2, 3, 4, 5, 6], [48], some 4) :: []) (by kernel_rfl) (by kernel_rfl) (n := 8) rfl (by kernel_rfl) (fun _ _ _ _ _ h => h) (fun wg hog => ?_)
            refine L.growe_start (N := 78) (by rfl) ?_
            have e1 : ∀ w', Only [] wg w' → w'.cell? ⟨g, 1, none⟩ = some (.int .i64 a) := fun w' q => (cell_of_row w' g 1 _ _ _ ((hog.trans q).heap HG4.out (by simp))).trans rfl
            have HOG := Lib.hid hog
            clear hog
            iterate 8 (first | (refine L.ge_off rfl rfl rfl (by rfl) ?_) | (refine L.ge_move rfl rfl rfl (by rfl) rfl (by simp [L.evE, L.lk, Act.eval]; rfl) ?_) | (refine L.ge_pick rfl rfl rfl (by rfl) rfl (by simp [L.evE, L.lk, Act.eval]; rfl) (by simp [L.evE, L.lk, Act.eval]; rfl) ?_) | (refine L.ge_val rfl rfl rfl (by rfl) (by intro w' hw'; simp [execOp, L.evE, L.lk, Act.eval]; go_simp; rfl) ?_))
            refine L.ge_done ?_
            simp only [L.puts, Act.put, goInt, List.setIfInBounds_toArray, List.set_cons_zero, List.set_cons_succ]
            go_wp2
            go_ret3
            refine ⟨none, 0, ?_, ?_, (HO4.out.trans HOG.out).nil_below⟩
            · rw [HV2.out]; rfl
            · rw [HV2.out]; exact ownsRow_nil _ _ _ _
          · have hfb : ((l.length : Int) == 2000) = false := by rw [beq_eq_false_iff_ne]; omega
            have hv := HV.out
            rw [if_neg hfull] at hv
            by_cases hte : te = 0
            · have hv' := hv
              rw [if_neg (by simpa using hte)] at hv'
              have HV2 := Lib.hid hv'
              obtain ⟨n, rfl, hn1, hn2⟩ := HTL.out hte
              subst hte
              clear hv hv' HV HTL HR4 HG4 HU4 HO4 c1 c2
              have c2 : (w3.alloc (.cells #[.int .i64 tk, .string ts, .int .i64 tn, .int .i64 ta] 38)).cell? ⟨g, 2, none⟩ = some (.slice A l.length c) := (cell_of_row _ g 2 _ _ _ (((Only.refl [] w3).alloc _).heap HG3.out (by simp))).trans rfl
              have c1 : (w3.alloc (.cells #[.int .i64 tk, .string ts, .int .i64 tn, .int .i64 ta] 38)).cell? ⟨g, 1, none⟩ = some (.int .i64 a) := (cell_of_row _ g 1 _ _ _ (((Only.refl [] w3).alloc _).heap HG3.out (by simp))).trans rfl
              clear HG3 HU3 HO3 HON5
              go_wp2
              clear c1 c2
              generalize (w3.alloc (.cells #[.int .i64 tk, .string ts, .int .i64 tn, .int .i64 a] 38)) = w5 at *
              obtain ⟨S, hS⟩ : ∃ S, S = (Value.slice A l.length c).ownBlock.toList := ⟨_, rfl⟩
              rw [← hS] at HGS
              have HSS := Lib.hid hS
              clear hS
              refine L.grow_start S 10 ((0, true, false) :: (1, true, false) :: (2, true, false) :: (3, true, false) :: (4, true, false) :: (5, true, true) :: (6, false, true) :: (7, false, true) :: (8, true, true) :: (9, true, true) :: (10, false, true) :: []) (by kernel_rfl) (([], [6], some 54) :: ([], [6], some 55) :: ([1], [55], some 56) :: ([2], [56], some 57) :: ([3], [57], some 58) :: ([], [7], some 59) :: ([5], [59], some 60) :: ([4, 6], [58, 60], some 61) :: ([0, 0, 1, 2, 3, 4, 5, 6, 7], [54], some 62) :: ([8, 0, 1, 2, 3, 4, 5, 6, 7], [62], some 63) :: ([9, 7, 7, 0, 1, 2, 3, 4, 5, 6, 7], [63, 61], none) :: []) (by kernel_rfl) (by kernel_rfl) (n := 11) rfl (by kernel_rfl) (fun _ _ _ _ _ h => h) (fun wg hog => ?_)
              refine L.growe_start (N := 78) (by rfl) ?_
              have e2 : ∀ w', Only S wg w' → w'.cell? ⟨g, 2, none⟩ = some (.slice A l.length c) := fun w' q => (cell_of_row w' g 2 _ _ _ (((hog.mono (T := S) (by simp)).trans q).heap HG5.out HGS.out.1)).trans rfl
              have e3 : ∀ w', Only S wg w' → (loadVar 38 ⟨b, 0, none⟩).run Tryd.prog w' = .ok (.agg #[.int .i64 tk, .string ts, .int .i64 tn, .int .i64 a]) w' := fun w' q => run_loadVar_row w' b 38 38 _ (0, 0) _ (((hog.mono (T := S) (by simp)).trans q).heap HR5.out HGS.out.2.1) hu3 rfl (by kernel_rfl)
              have HOG := Lib.hid hog
              clear hog
              iterate 5 (first | (refine L.ge_off rfl rfl rfl (by rfl) ?_) | (refine L.ge_move rfl rfl rfl (by rfl) rfl (by simp [L.evE, L.lk, Act.eval]; rfl) ?_) | (refine L.ge_pick rfl rfl rfl (by rfl) rfl (by simp [L.evE, L.lk, Act.eval]; rfl) (by simp [L.evE, L.lk, Act.eval]; rfl) ?_) | (refine L.ge_val rfl rfl rfl (by rfl) (by intro w' hw'; simp [execOp, L.evE, L.lk, Act.eval]; go_simp; rfl) ?_))
              refine L.ge_val (v := .agg #[.int .i64 tk, .string ts, .int .i64 tn, .int .i64 a]) rfl rfl rfl (by rfl) (by intro w' hw'; simp [execOp, L.evE, L.lk, Act.eval, Instr.loadAt, Instr.sureAddr, e3 w' hw']) ?_
              have e2z := e2
              clear e3
              refine ge_one rfl rfl rfl (by rfl) _ (.tmp 59) rfl 38 Tryd.underlying23 zTok 4 40 infoTok (by omega) (by omega) #[.int .i64 tk, .string ts, .int .i64 tn, .int .i64 a] (by have h := fill_one4 zTok (.int .i64 tk) (.string ts) (.int .i64 tn) (.int .i64 a) rfl; simpa [L.evE, L.lk, Act.eval] using h) ?_
              have HPN := Lib.hid (heap_alloc_new wg (.cells #[.int .i64 tk, .string ts, .int .i64 tn, .int .i64 a] 38))
              have HOW := Lib.hid ((HU5.out.only HOG.out (by simp)).only ((Only.refl [] wg).alloc (.cells #[.int .i64 tk, .string ts, .int .i64 tn, .int .i64 a] 38)) (by simp))
              refine ge_append_row rfl rfl rfl (by rfl) (.tmp 58) (.tmp 60) 23 rfl w.heap.size 38 4 40 zTok Tryd.underlying23 infoTok rfl (by omega) (.slice A l.length c) l.length (toks l) (by simp [L.evE, L.lk, Act.eval]) HOW.out.own (some ⟨wg.heap.size, 0, none⟩) 1 1 [.int .i64 tk, .string ts, .int .i64 tn, .int .i64 a] (by simp [L.evE, L.lk, Act.eval]) rfl (fun _ => ⟨_, rfl, cellsAt_row HPN.out⟩) (by simp [Value.oneCell']) (by have := hln.out; unfold maxLen; omega) (by have := hln.out; omega) (by have := HO5.out.size; have := HOG.out.size; simp; omega) ?_
              intro A8 c8 w8 hb8 ho8 hk8
              refine ⟨by rw [HSS.out]; exact ho8, ?_⟩
              have HO8 := Lib.hid (show Only S wg w8 by rw [HSS.out]; exact (((Only.refl [] wg).alloc (.cells #[.int .i64 tk, .string ts, .int .i64 tn, .int .i64 a] 38)).mono (by simp)).trans ho8)
              have HB8 := Lib.hid (show w8.ownsRow w.heap.size 38 4 (.slice A8 (l.length + 1) c8) (l.length + 1) (toks (l ++ [((tk, ts, tn, a) : Tok)])) by rw [toks_snoc]; exact hb8)
              have HK8 := Lib.hid (show ∀ k, (Value.slice A8 (l.length + 1) c8).ownBlock = some k → k ≠ g from fun k hk => by
                rcases hk8 k hk with h | h
                · exact HU5.out.ne k h
                · have h1 := heap_lt HG5.out
                  have h2 := HOG.out.size
                  simp at h
                  omega)
              clear hb8 ho8 hk8 HPN HOW
              iterate 2 (first | (refine L.ge_off rfl rfl rfl (by rfl) ?_) | (refine L.ge_move rfl rfl rfl (by rfl) rfl (by simp [L.evE, L.lk, Act.eval]; rfl) ?_) | (refine L.ge_pick rfl rfl rfl (by rfl) rfl (by simp [L.evE, L.lk, Act.eval]; rfl) (by simp [L.evE, L.lk, Act.eval]; rfl) ?_) | (refine L.ge_val rfl rfl rfl (by rfl) (by intro w' hw'; simp [execOp, L.evE, L.lk, Act.eval]; go_simp; rfl) ?_))
              have HG8 := Lib.hid (HO8.out.heap (HOG.out.heap HG5.out (by simp)) HGS.out.1)
              have c2 : w8.cell? ⟨g, 2, none⟩ = some (.slice A l.length c) := (cell_of_row _ g 2 _ _ _ HG8.out).trans rfl
              have z2 : w8.frozen? ⟨g, 2, none⟩ = false := frozen_of_row w8 g 2 _ _ HG8.out
              refine L.ge_last (w' := w8.setCell ⟨g, 2, none⟩ (.slice A8 (l.length + 1) c8)) rfl rfl (by rfl) (by simp [execOp, L.evE, L.lk, Act.eval]; go_simp) ?_
              simp only [L.puts, Act.put, goInt, List.setIfInBounds_toArray, List.set_cons_zero, List.set_cons_succ]
              have HG9 := Lib.hid (show CutAt (w8.setCell ⟨g, 2, none⟩ (.slice A8 (l.length + 1) c8)) g x a (.slice A8 (l.length + 1) c8) from heap_setCell_same w8 g 2 _ _ _ HG8.out)
              have HO9 := Lib.hid (show Only [g] w8 (w8.setCell ⟨g, 2, none⟩ (.slice A8 (l.length + 1) c8)) from (Only.refl _ _).setCell (by simp) _)
              clear c2 z2 HG8
              generalize w8.setCell ⟨g, 2, none⟩ (.slice A8 (l.length + 1) c8) = w9 at *
              have HB9 := Lib.hid (ownsRow_only HB8.out HO9.out (fun k hk => by simpa using HK8.out k hk))
              have HOA := Lib.hid (show Only [] w w9 from ((HO5.out.trans HOG.out).then HO8.out (fun i hi => .inr (HGS.out.2.2 i hi))).then HO9.out (fun i hi => by simp at hi; subst hi; exact .inr HGL.out))
              clear HB8 HO9 HO8 HU5 HG5 HR5 HO5 HOG e2 e2z HSS HGS
              have hn0 : (0 : Int) ≤ n := by omega
              have hbnd := hbd.out
              have HPA := Lib.hid (passZ_at (x, a) n hn2)
              have HPS := Lib.hid (passZ_size (x, a) n hn2)
              have HPX := Lib.hid (pass_any g n x a (.slice A8 (l.length + 1) c8) w9 HG9.out (by omega) hn2 hbnd.1 (by omega))
              obtain ⟨px, hpx⟩ : ∃ px, px = passZ (x, a) n := ⟨_, rfl⟩
              obtain ⟨p1, p2⟩ := px
              have q1 : x.extract n x.size = p1 := (congrArg Prod.fst hpx).symm
              have q2 : a + Lib.runeCount (x.extract 0 n) = p2 := (congrArg Prod.snd hpx).symm
              rw [q1, q2] at HPX
              rw [← hpx] at HPA HPS
              have HPS2 : Hid (p1.size = x.size - n) := HPS
              have HPA2 : Hid (a ≤ p2 ∧ p2 + (p1.size : Int) ≤ a + x.size) := HPA
              have HVV := HV2.out
              rw [Int.toNat_natCast, ← hpx] at HVV
              have HV3 := Lib.hid HVV
              clear HVV HV2 hpx q1 q2
              go_wp2_with (go_at_call 31; refine HPX.out.mono ?_; rintro e w10 ⟨rfl, hg10, ho10⟩; have HG10 := Lib.hid hg10; have HB10 := Lib.hid (ownsRow_only HB9.out ho10 (fun k hk => by simpa using HK8.out k hk)); have HO10 := Lib.hid (HOA.out.then ho10 (fun i hi => by simp at hi; subst hi; exact .inr HGL.out)); clear hg10 ho10; refine (fun (h : Hid _) => h.out) ?_)
              refine Lib.hid ?_
              have HBB := Lib.hid (blanksZ_bound p1.size (p1, p2) 8192 (show 0 ≤ p2 by have := HPA2.out; omega) (show p2 + (p1.size : Int) ≤ 8192 by have := HPA2.out; omega))
              have HBL := Lib.hid (blanks_any g p1 p2 (.slice A8 (l.length + 1) c8) w10 HG10.out (by have := HPA2.out; omega) (by have := HPA2.out; omega))
              obtain ⟨f, rfl⟩ : ∃ m, f = m + 1 := ⟨f - 1, by have := hf.out; omega⟩
              have HVV := HV3.out
              rw [cutLoop_tail] at HVV
              have HBB2 : Hid (0 ≤ (blanks (p1, p2)).2 ∧ (blanks (p1, p2)).2 + (blanks (p1, p2)).1.size ≤ 8192 ∧ (blanks (p1, p2)).1.size ≤ p1.size) := HBB
              clear HBB HV3
              generalize blanks (p1, p2) = bx at *
              obtain ⟨b1, b2⟩ := bx
              have HV4 := Lib.hid HVV
              clear HVV HG9 HB9 HPX HOA
              go_wp2_with (go_at_call 29; refine HBL.out.mono ?_; rintro e w11 ⟨rfl, hg11, ho11⟩; have HG11 := Lib.hid hg11; have HB11 := Lib.hid (ownsRow_only HB10.out ho11 (fun k hk => by simpa using HK8.out k hk)); have HO11 := Lib.hid (HO10.out.then ho11 (fun i hi => by simp at hi; subst hi; exact .inr HGL.out)); clear hg11 ho11)
              go_roundw
              case rel =>
                have hll : (l ++ [((tk, ts, tn, a) : Tok)]).length = l.length + 1 := by simp
                refine ⟨b1, b2, l ++ [(tk, ts, tn, a)], A8, c8, f, Lib.hid (by rw [hll]; exact HG11.out), Lib.hid ⟨by rw [hll]; exact HB11.out, by rw [hll]; exact HK8.out⟩, HV4, Lib.hid ⟨HBB2.out.1, HBB2.out.2.1⟩, Lib.hid (by rw [hll]; have := hln.out; omega), Lib.hid (by have := HBB2.out.2.2; have := HPS2.out; have := hf.out; omega), HO11⟩
              case measure =>
                rw [leftN_at HG11.out, HL.out]
                have := HBB2.out.2.2
                have := HPS2.out
                omega
            · have hv' := hv
              rw [if_pos (by simpa using hte)] at hv'
              have HV2 := Lib.hid hv'
              have hte' : ¬ te = 0 := hte
              clear hv hv' HV HTL
              go_wp2
              generalize (w3.alloc (.cells #[.int .i64 tk, .string ts, .int .i64 tn, .int .i64 ta] 38)) = w4 at *
              refine L.grow_start [] 8 ((0, true, false) :: (1, true, false) :: (2, true, false) :: (3, true, false) :: (4, true, false) :: (5, true, true) :: (6, true, true) :: (7, true, true) :: []) (by kernel_rfl) (([], [9], some 44) :: ([], [6], some 45) :: ([1], [45], some 46) :: ([2], [46], some 47) :: ([3], [47], some 48) :: ([], [], some 2) :: ([0, 5, 0, 5], [44], some 3) :: ([4, 6, 0, 1, 2, 3, 4, 5, 6], [48], some 4) :: []) (by kernel_rfl) (by kernel_rfl) (n := 8) rfl (by kernel_rfl) (fun _ _ _ _ _ h => h) (fun wg hog => ?_)
              refine L.growe_start (N := 78) (by rfl) ?_
              have e1 : ∀ w', Only [] wg w' → w'.cell? ⟨g, 1, none⟩ = some (.int .i64 a) := fun w' q => (cell_of_row w' g 1 _ _ _ ((hog.trans q).heap HG4.out (by simp))).trans rfl
              have HOG := Lib.hid hog
              clear hog
              iterate 8 (first | (refine L.ge_off rfl rfl rfl (by rfl) ?_) | (refine L.ge_move rfl rfl rfl (by rfl) rfl (by simp [L.evE, L.lk, Act.eval]; rfl) ?_) | (refine L.ge_pick rfl rfl rfl (by rfl) rfl (by simp [L.evE, L.lk, Act.eval]; rfl) (by simp [L.evE, L.lk, Act.eval]; rfl) ?_) | (refine L.ge_val rfl rfl rfl (by rfl) (by intro w' hw'; simp [execOp, L.evE, L.lk, Act.eval]; go_simp; rfl) ?_))
              refine L.ge_done ?_
              simp only [L.puts, Act.put, goInt, List.setIfInBounds_toArray, List.set_cons_zero, List.set_cons_succ]
              go_wp2
              go_ret3
              refine ⟨none, 0, ?_, ?_, (HO4.out.trans HOG.out).nil_below⟩
              · rw [HV2.out]; rfl
              · rw [HV2.out]; exact ownsRow_nil _ _ _ _
end Go.Proofs.YtlikjknakplamaaDoor.Print
/-! ### EShow -/
namespace Go.Proofs.YtlikjknakplamaaDoor.Print
open Go.RowKit Go.Proofs.YtlikjknakplamaaDoorW.PrintWords Go.Proofs.YtlikjknakplamaaDoorW.PrintLast Go.Proofs.YtlikjknakplamaaDoorW.PrintMore
set_option linter.unusedSimpArgs false
set_option linter.unusedVariables false
def showZ (n : Int) : ByteArray := ⟨(Lib.itoa n).toArray⟩
theorem show_any (n : Int) (w : World) (h0 : -9223372036854775808 ≤ n) (h1 : n ≤ 9223372036854775807) (hT : Tabs w) :
    Calls Tryd.prog 20 #[.int .i64 n] w fun e w' => e = .returned (.string (showZ n)) ∧ Below w.heap.size w w' := by
  obtain ⟨V, hV⟩ : ∃ V, V = showZ n := ⟨_, rfl⟩
  have hc := Lib.hid (show Calls Tryd.prog 36 #[.int .i64 n] w fun e w' => e = .returned (.string V) ∧ Below w.heap.size w w' from
    (Tryd.strconv_Itoa n h0 h1 w hT.ten).mono fun e w' ⟨he, k, os, hw⟩ => ⟨by rw [he, hV]; rfl, hw ▸ Lib.below_grow _ w (Nat.le_refl _) k os⟩)
  rw [← hV]
  clear hV h0 h1 hT
  go_enter Tryd.func20, Tryd.ntmps20
  go_wp2_with (go_at_call 36; refine hc.out.mono ?_; rintro e w1 ⟨rfl, hb⟩; have HB := Lib.hid hb; clear hb)
  go_ret
  exact ⟨rfl, HB.out⟩
end Go.Proofs.YtlikjknakplamaaDoor.Print
/-! ### EAwake -/
namespace Go.Proofs.YtlikjknakplamaaDoor.Print
open Go.RowKit Go.Proofs.YtlikjknakplamaaDoorW.PrintWords Go.Proofs.YtlikjknakplamaaDoorW.PrintLast Go.Proofs.YtlikjknakplamaaDoorW.PrintMore
set_option linter.unusedSimpArgs false
set_option linter.unusedVariables false
def exText : ByteArray := ⟨#[97, 49, 32, 58, 61, 32, 50, 48, 32, 35, 32, 120]⟩
def exToks : List Tok := [(1, ⟨#[97, 49]⟩, 0, 0), (4, ⟨#[58, 61]⟩, 0, 3), (2, ⟨#[50, 48]⟩, 20, 6), (0, ⟨#[]⟩, 0, 12)]
theorem ex_cut : cutZ exText = (exToks, 0, 0) := by kernel_rfl
theorem ex_num : numZ ⟨#[50, 48]⟩ = (20, true) := by kernel_rfl
theorem ex_show : showZ (-7) = ⟨#[45, 55]⟩ := by
  unfold showZ Lib.itoa
  rw [if_pos (by decide), show (-7 : Int).natAbs = 7 from rfl]
  unfold Lib.decDigits
  rw [dif_pos (by decide)]
  rfl
def malthouselaw01_awake.f : Option Bool := some true
set_option maxHeartbeats 4000000 in
set_option maxRecDepth 100000 in
theorem malthouselaw01_awake.calls (r : Bool) (w : World) (hT : Tabs w) (h : malthouselaw01_awake.f = some r) :
    Calls Tryd.prog 12 #[] w fun e w' => e = .returned (.bool r) ∧ Below w.heap.size w w' := by
  obtain rfl := Option.some.inj h
  clear h
  have HTB := Lib.hid hT
  have hu3 := Tryd.underlying38
  have hc1 := Lib.hid (cut_walk exText w (by decide) hT)
  rw [ex_cut] at hc1
  have hc1 : Hid (Calls Tryd.prog 13 #[.string ⟨#[97, 49, 32, 58, 61, 32, 50, 48, 32, 35, 32, 120]⟩] w fun e w' => ∃ A c, e = .returned (.tuple #[.slice A 4 c, .int .i64 0, .int .i64 0]) ∧ w'.ownsRow w.heap.size 38 4 (.slice A 4 c) 4 (toks exToks) ∧ Below w.heap.size w w') := hc1
  have hc2 := Lib.hid (fun W => number_any ⟨#[50, 48]⟩ W)
  rw [ex_num] at hc2
  have hc3 := Lib.hid (fun W (hW : Tabs W) => show_any (-7) W (by decide) (by decide) hW)
  rw [ex_show] at hc3
  clear hT
  go_enter Tryd.func12, Tryd.ntmps12
  go_wp2_with (first
    | (go_at_call 13; refine hc1.out.mono ?_; rintro e w1 ⟨A, c, rfl, how, hb1⟩; have HOW := Lib.hid how; have HB1 := Lib.hid hb1; clear how hb1)
    | (go_at_call 18; refine (hc2.out _).mono ?_; rintro e w2 ⟨rfl, hb2⟩; have HB2 := Lib.hid (below_then HB1.out HB1.out.size hb2); have HO2 := Lib.hid (Only.of_below hb2); clear hb2; refine (fun (h : Hid _) => h.out) ?_))
  refine Lib.hid ?_
  have ho := ownsRow_only HOW.out HO2.out (by simp)
  rcases ho.2 with ⟨_, h0⟩ | ⟨g, cap, cur, e1, hb, hh, hn, _, hs, ht⟩
  · cases h0
  · injection e1 with e1 e2 e3
    subst e1 e3
    have hcl := Lib.hid (show ∀ j u, (toks exToks)[j]? = some u → w2.cell? ⟨g, j, none⟩ = some u from fun j u hj => by
      rw [cell_of_row w2 g j _ _ _ hh, ← Array.getElem?_toList]
      rw [← ht, List.getElem?_take] at hj
      split at hj
      · exact hj
      · cases hj)
    clear ho hh hs ht hn hb e2 HO2 HOW HB1
    have q0 : w2.cell? ⟨g, 0, none⟩ = some (.int .i64 1) := hcl.out 0 _ rfl
    have q1 : w2.cell? ⟨g, 1, none⟩ = some (.string ⟨#[97, 49]⟩) := hcl.out 1 _ rfl
    have q2 : w2.cell? ⟨g, 2, none⟩ = some (.int .i64 0) := hcl.out 2 _ rfl
    have q3 : w2.cell? ⟨g, 3, none⟩ = some (.int .i64 0) := hcl.out 3 _ rfl
    have q8 : w2.cell? ⟨g, 8, none⟩ = some (.int .i64 2) := hcl.out 8 _ rfl
    have q9 : w2.cell? ⟨g, 9, none⟩ = some (.string ⟨#[50, 48]⟩) := hcl.out 9 _ rfl
    have q10 : w2.cell? ⟨g, 10, none⟩ = some (.int .i64 20) := hcl.out 10 _ rfl
    have q11 : w2.cell? ⟨g, 11, none⟩ = some (.int .i64 6) := hcl.out 11 _ rfl
    have q12 : w2.cell? ⟨g, 12, none⟩ = some (.int .i64 0) := hcl.out 12 _ rfl
    have q13 : w2.cell? ⟨g, 13, none⟩ = some (.string ⟨#[]⟩) := hcl.out 13 _ rfl
    have q14 : w2.cell? ⟨g, 14, none⟩ = some (.int .i64 0) := hcl.out 14 _ rfl
    have q15 : w2.cell? ⟨g, 15, none⟩ = some (.int .i64 12) := hcl.out 15 _ rfl
    go_wp2_with (go_at_call 20; refine (hc3.out _ (HTB.out.below HB2.out)).mono ?_; rintro e w3 ⟨rfl, hb3⟩; have HB3 := Lib.hid (below_then HB2.out HB2.out.size hb3); clear hb3)
    go_ret
    exact ⟨by rfl, HB3.out⟩
end Go.Proofs.YtlikjknakplamaaDoor.Print
/-! ### EQuote -/
namespace Go.Proofs.YtlikjknakplamaaDoor.Print
open Go.RowKit Go.Proofs.YtlikjknakplamaaDoorW.PrintWords Go.Proofs.YtlikjknakplamaaDoorW.PrintLast Go.Proofs.YtlikjknakplamaaDoorW.PrintMore
set_option linter.unusedSimpArgs false
set_option linter.unusedVariables false
/-- Is there a rune below a blank, or a quote? -/
def oddFrom (s : ByteArray) : Nat → Nat → Bool
  | 0, _ => false
  | f + 1, p => if p < s.size then decide ((Utf8.decode s p).1 < 32) || decide ((Utf8.decode s p).1 = 34) || oddFrom s f (p + (Utf8.decode s p).2) else false
theorem oddFrom_end (s : ByteArray) (f p : Nat) (h : ¬ p < s.size) : oddFrom s f p = false := by
  cases f with
  | zero => rfl
  | succ f => unfold oddFrom; rw [if_neg h]
def quoteZ (s : ByteArray) : ByteArray × Bool :=
  if Lib.validD s.data.toList = false then (⟨#[]⟩, false) else if 20 < Lib.runeCount s then (⟨#[]⟩, false) else if oddFrom s s.size 0 = true then (⟨#[]⟩, false)
  else ((⟨#[34]⟩ : ByteArray) ++ s ++ (⟨#[34]⟩ : ByteArray), true)
set_option maxHeartbeats 2000000 in
set_option maxRecDepth 100000 in
theorem quote_any (a0 : ByteArray) (w : World) (hs : a0.size ≤ 1000000000) (hT : Tabs w) :
    Calls Tryd.prog 24 #[.string a0] w fun e w' => e = .returned (.tuple #[.string (quoteZ a0).1, .bool (quoteZ a0).2]) ∧ Below w.heap.size w w' := by
  obtain ⟨V, hV⟩ : ∃ V, V = quoteZ a0 := ⟨_, rfl⟩
  rw [← hV]
  unfold quoteZ at hV
  have HV := Lib.hid hV
  have hc1 := Lib.hid (utf8_ValidString.calls a0 _ w hT (if_pos (by omega)))
  have hc2 := Lib.hid (fun W => utf8_RuneCountInString.calls a0 _ W (if_pos (by omega)))
  clear hV hT
  generalize Lib.validD a0.data.toList = bv at *
  generalize Lib.runeCount a0 = rc at *
  go_enter Tryd.func24, Tryd.ntmps24
  cases bv with
  | false =>
    have hv := HV.out
    rw [if_pos rfl] at hv
    have HV2 := Lib.hid hv
    clear hv HV
    go_wp2_with (go_at_call 37; refine hc1.out.mono ?_; rintro e w1 ⟨rfl, hb⟩; have HB := Lib.hid hb; clear hb)
    go_ret2
    exact ⟨by rw [HV2.out]; rfl, HB.out⟩
  | true =>
    have hv := HV.out
    rw [if_neg (by simp)] at hv
    have HV2 := Lib.hid hv
    clear hv HV
    by_cases hr : 20 < rc
    · have hr' : (20 : Int) < rc := by omega
      have hv := HV2.out
      rw [if_pos hr] at hv
      have HV3 := Lib.hid hv
      clear hv HV2
      go_wp2_with (first
        | (go_at_call 37; refine hc1.out.mono ?_; rintro e w1 ⟨rfl, hb⟩; have HB := Lib.hid hb; clear hb)
        | (go_at_call 38; refine (hc2.out _).mono ?_; rintro e w2 ⟨rfl, hb⟩; have HB2 := Lib.hid (below_then HB.out HB.out.size hb); clear hb))
      go_ret2
      exact ⟨by rw [HV3.out]; rfl, HB2.out⟩
    · have hr' : (rc : Int) ≤ 20 := by omega
      have hv := HV2.out
      rw [if_neg hr] at hv
      have HV3 := Lib.hid hv
      clear hv HV2
      go_wp2_with (first
        | (go_at_call 37; refine hc1.out.mono ?_; rintro e w1 ⟨rfl, hb⟩; have HB := Lib.hid hb; clear hb)
        | (go_at_call 38; refine (hc2.out _).mono ?_; rintro e w2 ⟨rfl, hb⟩; have HB2 := Lib.hid (below_then HB.out HB.out.size hb); clear hb))
      obtain ⟨g, hg⟩ : ∃ g, g = w2.heap.size := ⟨_, rfl⟩
      have HI := Lib.hid (show (w2.iter a0 0).heap[g]? = some (.stringIter a0 0) by rw [hg]; exact World.iter_heap w2 a0 0)
      have HB3 := Lib.hid (show Below w.heap.size w (w2.iter a0 0) from HB2.out.alloc HB2.out.size _)
      rw [← hg]
      have HG := Lib.hid (show w.heap.size ≤ g by have := HB2.out.size; omega)
      clear hg HB HB2
      have HL := Lib.hid (rfl : oddFrom a0 a0.size 0 = oddFrom a0 a0.size 0)
      generalize w2.iter a0 0 = w3 at *
      go_loopw [5] (fun r wr => ∃ (pos b : Nat), Hid (wr.heap[g]? = some (.stringIter a0 pos)) ∧ Hid (Below w.heap.size w wr) ∧ Hid (oddFrom a0 a0.size 0 = oddFrom a0 b pos) ∧ a0.size ≤ pos + b) (fun _ wr => a0.size - wr.iterPos g)
      case atStart => exact ⟨0, a0.size, HI, HB3, HL, by omega⟩
      case round =>
        obtain ⟨pos, b, hi, hb, hw, hle⟩ := hrel
        clear HI HB3 HL
        by_cases hp : pos < a0.size
        · have hnx : ∀ ty, (Instr.next (.pointer (some ⟨g, 0, none⟩)) true ty).run Tryd.prog wr = _ := fun ty => Lib.run_next_any_at wr g a0 pos ty hi.out hp
          have hwd := Lib.decode_width_pos a0 pos hp
          have hdl := decode_le a0 pos
          obtain ⟨b', rfl⟩ : ∃ b', b = b' + 1 := ⟨b - 1, by omega⟩
          have hw' := hw.out
          rw [show oddFrom a0 (b' + 1) pos = (decide ((Utf8.decode a0 pos).1 < 32) || decide ((Utf8.decode a0 pos).1 = 34) || oddFrom a0 b' (pos + (Utf8.decode a0 pos).2)) by rw [oddFrom, if_pos hp]] at hw'
          have HW := Lib.hid hw'
          have HI2 := Lib.hid (iterAt_heap wr g a0 (pos + (Utf8.decode a0 pos).2) _ hi.out)
          have HB2 := Lib.hid (iterAt_below g a0 (pos + (Utf8.decode a0 pos).2) hb.out HG.out)
          have HP := Lib.hid (show wr.iterPos g = pos by unfold World.iterPos; rw [hi.out])
          clear hw hw' hi hb
          generalize wr.iterAt g a0 (pos + (Utf8.decode a0 pos).2) = w2 at *
          generalize (Utf8.decode a0 pos).2 = d2 at *
          generalize (Utf8.decode a0 pos).1 = d1 at *
          by_cases hd : d1 < 32
          · have hd' : (d1 : Int) < 32 := by omega
            go_wp2
            go_ret2
            refine ⟨?_, HB2.out⟩
            rw [HV3.out, HW.out, if_pos (by simp [hd])]
            rfl
          · have hd' : (32 : Int) ≤ d1 := by omega
            by_cases hq : d1 = 34
            · subst hq
              go_wp2
              go_ret2
              refine ⟨?_, HB2.out⟩
              rw [HV3.out, HW.out, if_pos (by simp)]
              rfl
            · have hq' : ((d1 : Int) == 34) = false := by rw [beq_eq_false_iff_ne]; omega
              go_wp2
              go_roundw
              case rel => exact ⟨pos + d2, b', HI2, HB2, Lib.hid (by rw [HW.out]; simp [hd, hq]), by omega⟩
              case measure =>
                have e1 : w2.iterPos g = pos + d2 := by unfold World.iterPos; rw [HI2.out]
                rw [e1, HP.out]; omega
        · have hnx : ∀ ty, (Instr.next (.pointer (some ⟨g, 0, none⟩)) true ty).run Tryd.prog wr = _ := fun ty => Lib.run_next_end_at wr g a0 pos ty hi.out hp
          have hwe := hw.out
          rw [oddFrom_end a0 b pos hp] at hwe
          have hv := HV3.out
          rw [hwe, if_neg (by simp)] at hv
          have HV4 := Lib.hid hv
          clear hw hwe hv HV3
          go_wp2
          go_ret2
          exact ⟨by rw [HV4.out]; rfl, hb.out⟩
def lex_Quote.f (a0 : ByteArray) : Option (ByteArray × Bool) := if a0.size ≤ 1000000000 then some (quoteZ a0) else none
theorem lex_Quote.calls (a0 : ByteArray) (r1 : ByteArray) (r2 : Bool) (w : World) (hT : Tabs w) (h : lex_Quote.f a0 = some (r1, r2)) :
    Calls Tryd.prog 24 #[.string a0] w fun e w' => e = .returned (.tuple #[.string r1, .bool r2]) ∧ Below w.heap.size w w' := by
  unfold lex_Quote.f at h
  split at h
  · rename_i hb
    have e : quoteZ a0 = (r1, r2) := Option.some.inj h
    have := quote_any a0 w hb hT
    rw [e] at this
    exact this
  · cases h
end Go.Proofs.YtlikjknakplamaaDoor.Print
/-! ### Print14 -/
namespace Go.Proofs.YtlikjknakplamaaDoor.Print
open Go.RowKit Go.Proofs.YtlikjknakplamaaDoorW.PrintWords Go.Proofs.YtlikjknakplamaaDoorW.PrintLast Go.Proofs.YtlikjknakplamaaDoorW.PrintMore
set_option linter.unusedVariables false
set_option linter.unusedSimpArgs false
def lex_Name.f (a0 : ByteArray) : Option (Bool) := (utf8_ValidString.f a0).bind fun t279 => (if t279 = true then ((lex_wordy.f a0).bind fun t280 => (if t280 = true then (if 0 < (a0.size : Int) then (if (bt a0 0) < 48 then ((utf8_RuneCountInString.f a0).bind fun t281 => (some (decide (t281 ≤ 12)))) else (if (bt a0 0) > 57 then ((utf8_RuneCountInString.f a0).bind fun t282 => (some (decide (t282 ≤ 12)))) else (some false))) else (none)) else (some false))) else (some false))
set_option maxHeartbeats 8000000 in
set_option maxRecDepth 100000 in
theorem lex_Name.calls (a0 : ByteArray) (r : Bool) (w : World) (hT : Tabs w) (h : lex_Name.f a0 = some r) :
    Calls Tryd.prog 26 #[.string a0] w fun e w' => e = .returned (.bool r) ∧ Below w.heap.size w w' := by
  have HB := Aside0.mk (Below.refl w.heap.size w)
  have H : ((utf8_ValidString.f a0).bind fun t279 => (if t279 = true then ((lex_wordy.f a0).bind fun t280 => (if t280 = true then (if 0 < (a0.size : Int) then (if (bt a0 0) < 48 then ((utf8_RuneCountInString.f a0).bind fun t281 => (some (decide (t281 ≤ 12)))) else (if (bt a0 0) > 57 then ((utf8_RuneCountInString.f a0).bind fun t282 => (some (decide (t282 ≤ 12)))) else (some false))) else (none)) else (some false))) else (some false))) = some r := h
  clear h
  replace H := Option.bind_eq_some_iff.mp H
  obtain ⟨t279, A20, H⟩ := H
  replace H : (if t279 = true then ((lex_wordy.f a0).bind fun t280 => (if t280 = true then (if 0 < (a0.size : Int) then (if (bt a0 0) < 48 then ((utf8_RuneCountInString.f a0).bind fun t281 => (some (decide (t281 ≤ 12)))) else (if (bt a0 0) > 57 then ((utf8_RuneCountInString.f a0).bind fun t282 => (some (decide (t282 ≤ 12)))) else (some false))) else (none)) else (some false))) else (some false)) = some r := H
  have A2 := Aside0.mk A20
  clear A20
  by_cases c3 : t279 = true
  · subst c3
    have H1 : ((lex_wordy.f a0).bind fun t280 => (if t280 = true then (if 0 < (a0.size : Int) then (if (bt a0 0) < 48 then ((utf8_RuneCountInString.f a0).bind fun t281 => (some (decide (t281 ≤ 12)))) else (if (bt a0 0) > 57 then ((utf8_RuneCountInString.f a0).bind fun t282 => (some (decide (t282 ≤ 12)))) else (some false))) else (none)) else (some false))) = some r := by rw [if_pos rfl] at H; exact H
    clear H
    have H := H1
    clear H1
    replace H := Option.bind_eq_some_iff.mp H
    obtain ⟨t280, A40, H⟩ := H
    replace H : (if t280 = true then (if 0 < (a0.size : Int) then (if (bt a0 0) < 48 then ((utf8_RuneCountInString.f a0).bind fun t281 => (some (decide (t281 ≤ 12)))) else (if (bt a0 0) > 57 then ((utf8_RuneCountInString.f a0).bind fun t282 => (some (decide (t282 ≤ 12)))) else (some false))) else (none)) else (some false)) = some r := H
    have A4 := Aside0.mk A40
    clear A40
    by_cases c5 : t280 = true
    · subst c5
      have H1 : (if 0 < (a0.size : Int) then (if (bt a0 0) < 48 then ((utf8_RuneCountInString.f a0).bind fun t281 => (some (decide (t281 ≤ 12)))) else (if (bt a0 0) > 57 then ((utf8_RuneCountInString.f a0).bind fun t282 => (some (decide (t282 ≤ 12)))) else (some false))) else (none)) = some r := by rw [if_pos rfl] at H; exact H
      clear H
      have H := H1
      clear H1
      by_cases c6 : 0 < (a0.size : Int)
      · rw [if_pos c6] at H
        have c6b0 : decide (0 < (a0.size : Int)) = true := decide_eq_true c6
        have c6b1 : decide (0 < a0.size) = true := decide_eq_true (by omega)
        clear c6
        by_cases c8 : (bt a0 0) < 48
        · rw [if_pos c8] at H
          have c8b0 : decide ((bt a0 0) < 48) = true := decide_eq_true c8
          clear c8
          replace H := Option.bind_eq_some_iff.mp H
          obtain ⟨t281, A90, H⟩ := H
          replace H : (some (decide (t281 ≤ 12))) = some r := H
          have A9 := Aside0.mk A90
          clear A90
          obtain rfl := Option.some.inj H
          go_enter Tryd.func26, Tryd.ntmps26
          go_wp2_with (first | ((with_reducible refine gate_callee (f := 37) rfl ?_); refine goesL_ (some 4) rfl rfl Tryd.func37 (by kernel_rfl) rfl #[.string a0] rfl (by (try simp only [List.map_toArray, List.map_cons, List.map_nil]); first | done | rfl | (simp only [List.length_drop, List.length_take]; rfl)) ?_; (with_reducible refine (utf8_ValidString.calls a0 true _ ?side1 A2.out).mono ?_); (case side1 => exact Tabs.below hT (by repeat (first | (with_reducible first | exact HB.out | apply below_alloc | apply pw_below_drewN | apply below_drew1) | exact HB.out))); rintro e w10 ⟨rfl, hb⟩; refine ⟨_, rfl, ?_⟩; have n0_ := Aside0.mk (below_step (by repeat (first | (with_reducible first | exact HB.out | apply below_alloc | apply pw_below_drewN | apply below_drew1) | exact HB.out)) hb); clear HB; have HB := n0_; clear n0_; (try clear hb); (try clear hb2); (try clear hk); (try clear hi)) | (go_at_call 39; (with_reducible refine (lex_wordy.calls a0 true _ A4.out).mono ?_); rintro e w11 ⟨rfl, hb⟩; have n0_ := Aside0.mk (below_step (by repeat (first | (with_reducible first | exact HB.out | apply below_alloc | apply pw_below_drewN | apply below_drew1) | exact HB.out)) hb); clear HB; have HB := n0_; clear n0_; (try clear hb); (try clear hb2); (try clear hk); (try clear hi); have p7 : 0 ≤ (0 : Int) := (by omega); have q7 : 0 < a0.size := (by have : (0 : Int) < (a0.size : Int) := of_decide_eq_true (by first | (with_reducible assumption) | assumption); omega); have hx7 : ∀ h : 0 < a0.size, ((a0[0]'h).toNat : Int) = bt a0 0 := bt_at a0 0; clear p7; have qi7 : (0 < (a0.size : Int)) = True := eq_true (of_decide_eq_true (by first | (with_reducible assumption) | assumption)); replace q7 := eq_true q7) | (go_at_call 38; (with_reducible refine (utf8_RuneCountInString.calls a0 t281 _ A9.out).mono ?_); rintro e w12 ⟨rfl, hb⟩; have n0_ := Aside0.mk (below_step (by repeat (first | (with_reducible first | exact HB.out | apply below_alloc | apply pw_below_drewN | apply below_drew1) | exact HB.out)) hb); clear HB; have HB := n0_; clear n0_; (try clear hb); (try clear hb2); (try clear hk); (try clear hi)))
          go_ret
          exact ⟨by first | rfl | (simp [errW_none, errW_some] <;> rfl) | (simp [*, errW_none, errW_some] <;> rfl), by repeat (first | (with_reducible first | exact HB.out | apply below_alloc | apply pw_below_drewN | apply below_drew1) | exact HB.out)⟩
        · rw [if_neg c8] at H
          have c8b0 : decide ((bt a0 0) < 48) = false := decide_eq_false c8
          clear c8
          by_cases c14 : (bt a0 0) > 57
          · rw [if_pos c14] at H
            have c14b0 : decide (57 < (bt a0 0)) = true := decide_eq_true c14
            clear c14
            replace H := Option.bind_eq_some_iff.mp H
            obtain ⟨t282, A150, H⟩ := H
            replace H : (some (decide (t282 ≤ 12))) = some r := H
            have A15 := Aside0.mk A150
            clear A150
            obtain rfl := Option.some.inj H
            go_enter Tryd.func26, Tryd.ntmps26
            go_wp2_with (first | ((with_reducible refine gate_callee (f := 37) rfl ?_); refine goesL_ (some 4) rfl rfl Tryd.func37 (by kernel_rfl) rfl #[.string a0] rfl (by (try simp only [List.map_toArray, List.map_cons, List.map_nil]); first | done | rfl | (simp only [List.length_drop, List.length_take]; rfl)) ?_; (with_reducible refine (utf8_ValidString.calls a0 true _ ?side1 A2.out).mono ?_); (case side1 => exact Tabs.below hT (by repeat (first | (with_reducible first | exact HB.out | apply below_alloc | apply pw_below_drewN | apply below_drew1) | exact HB.out))); rintro e w16 ⟨rfl, hb⟩; refine ⟨_, rfl, ?_⟩; have n0_ := Aside0.mk (below_step (by repeat (first | (with_reducible first | exact HB.out | apply below_alloc | apply pw_below_drewN | apply below_drew1) | exact HB.out)) hb); clear HB; have HB := n0_; clear n0_; (try clear hb); (try clear hb2); (try clear hk); (try clear hi)) | (go_at_call 39; (with_reducible refine (lex_wordy.calls a0 true _ A4.out).mono ?_); rintro e w17 ⟨rfl, hb⟩; have n0_ := Aside0.mk (below_step (by repeat (first | (with_reducible first | exact HB.out | apply below_alloc | apply pw_below_drewN | apply below_drew1) | exact HB.out)) hb); clear HB; have HB := n0_; clear n0_; (try clear hb); (try clear hb2); (try clear hk); (try clear hi); have p7 : 0 ≤ (0 : Int) := (by omega); have q7 : 0 < a0.size := (by have : (0 : Int) < (a0.size : Int) := of_decide_eq_true (by first | (with_reducible assumption) | assumption); omega); have hx7 : ∀ h : 0 < a0.size, ((a0[0]'h).toNat : Int) = bt a0 0 := bt_at a0 0; clear p7; have qi7 : (0 < (a0.size : Int)) = True := eq_true (of_decide_eq_true (by first | (with_reducible assumption) | assumption)); replace q7 := eq_true q7; have p13 : 0 ≤ (0 : Int) := (by omega); have q13 : 0 < a0.size := (by have : (0 : Int) < (a0.size : Int) := of_decide_eq_true (by first | (with_reducible assumption) | assumption); omega); have hx13 : ∀ h : 0 < a0.size, ((a0[0]'h).toNat : Int) = bt a0 0 := bt_at a0 0; clear p13; have qi13 : (0 < (a0.size : Int)) = True := eq_true (of_decide_eq_true (by first | (with_reducible assumption) | assumption)); replace q13 := eq_true q13) | (go_at_call 38; (with_reducible refine (utf8_RuneCountInString.calls a0 t282 _ A15.out).mono ?_); rintro e w18 ⟨rfl, hb⟩; have n0_ := Aside0.mk (below_step (by repeat (first | (with_reducible first | exact HB.out | apply below_alloc | apply pw_below_drewN | apply below_drew1) | exact HB.out)) hb); clear HB; have HB := n0_; clear n0_; (try clear hb); (try clear hb2); (try clear hk); (try clear hi)))
            go_ret
            exact ⟨by first | rfl | (simp [errW_none, errW_some] <;> rfl) | (simp [*, errW_none, errW_some] <;> rfl), by repeat (first | (with_reducible first | exact HB.out | apply below_alloc | apply pw_below_drewN | apply below_drew1) | exact HB.out)⟩
          · rw [if_neg c14] at H
            have c14b0 : decide (57 < (bt a0 0)) = false := decide_eq_false c14
            clear c14
            obtain rfl := Option.some.inj H
            go_enter Tryd.func26, Tryd.ntmps26
            go_wp2_with (first | ((with_reducible refine gate_callee (f := 37) rfl ?_); refine goesL_ (some 4) rfl rfl Tryd.func37 (by kernel_rfl) rfl #[.string a0] rfl (by (try simp only [List.map_toArray, List.map_cons, List.map_nil]); first | done | rfl | (simp only [List.length_drop, List.length_take]; rfl)) ?_; (with_reducible refine (utf8_ValidString.calls a0 true _ ?side1 A2.out).mono ?_); (case side1 => exact Tabs.below hT (by repeat (first | (with_reducible first | exact HB.out | apply below_alloc | apply pw_below_drewN | apply below_drew1) | exact HB.out))); rintro e w19 ⟨rfl, hb⟩; refine ⟨_, rfl, ?_⟩; have n0_ := Aside0.mk (below_step (by repeat (first | (with_reducible first | exact HB.out | apply below_alloc | apply pw_below_drewN | apply below_drew1) | exact HB.out)) hb); clear HB; have HB := n0_; clear n0_; (try clear hb); (try clear hb2); (try clear hk); (try clear hi)) | (go_at_call 39; (with_reducible refine (lex_wordy.calls a0 true _ A4.out).mono ?_); rintro e w20 ⟨rfl, hb⟩; have n0_ := Aside0.mk (below_step (by repeat (first | (with_reducible first | exact HB.out | apply below_alloc | apply pw_below_drewN | apply below_drew1) | exact HB.out)) hb); clear HB; have HB := n0_; clear n0_; (try clear hb); (try clear hb2); (try clear hk); (try clear hi); have p7 : 0 ≤ (0 : Int) := (by omega); have q7 : 0 < a0.size := (by have : (0 : Int) < (a0.size : Int) := of_decide_eq_true (by first | (with_reducible assumption) | assumption); omega); have hx7 : ∀ h : 0 < a0.size, ((a0[0]'h).toNat : Int) = bt a0 0 := bt_at a0 0; clear p7; have qi7 : (0 < (a0.size : Int)) = True := eq_true (of_decide_eq_true (by first | (with_reducible assumption) | assumption)); replace q7 := eq_true q7; have p13 : 0 ≤ (0 : Int) := (by omega); have q13 : 0 < a0.size := (by have : (0 : Int) < (a0.size : Int) := of_decide_eq_true (by first | (with_reducible assumption) | assumption); omega); have hx13 : ∀ h : 0 < a0.size, ((a0[0]'h).toNat : Int) = bt a0 0 := bt_at a0 0; clear p13; have qi13 : (0 < (a0.size : Int)) = True := eq_true (of_decide_eq_true (by first | (with_reducible assumption) | assumption)); replace q13 := eq_true q13))
            go_ret
            exact ⟨by first | rfl | (simp [errW_none, errW_some] <;> rfl) | (simp [*, errW_none, errW_some] <;> rfl), by repeat (first | (with_reducible first | exact HB.out | apply below_alloc | apply pw_below_drewN | apply below_drew1) | exact HB.out)⟩
      · rw [if_neg c6] at H
        exact absurd H (by simp)
    · replace c5 := Bool.eq_false_iff.mpr c5
      subst c5
      have H1 : (some false) = some r := by rw [if_neg (show ¬ (false = true) by decide)] at H; exact H
      clear H
      have H := H1
      clear H1
      obtain rfl := Option.some.inj H
      go_enter Tryd.func26, Tryd.ntmps26
      go_wp2_with (first | ((with_reducible refine gate_callee (f := 37) rfl ?_); refine goesL_ (some 4) rfl rfl Tryd.func37 (by kernel_rfl) rfl #[.string a0] rfl (by (try simp only [List.map_toArray, List.map_cons, List.map_nil]); first | done | rfl | (simp only [List.length_drop, List.length_take]; rfl)) ?_; (with_reducible refine (utf8_ValidString.calls a0 true _ ?side1 A2.out).mono ?_); (case side1 => exact Tabs.below hT (by repeat (first | (with_reducible first | exact HB.out | apply below_alloc | apply pw_below_drewN | apply below_drew1) | exact HB.out))); rintro e w21 ⟨rfl, hb⟩; refine ⟨_, rfl, ?_⟩; have n0_ := Aside0.mk (below_step (by repeat (first | (with_reducible first | exact HB.out | apply below_alloc | apply pw_below_drewN | apply below_drew1) | exact HB.out)) hb); clear HB; have HB := n0_; clear n0_; (try clear hb); (try clear hb2); (try clear hk); (try clear hi)) | (go_at_call 39; (with_reducible refine (lex_wordy.calls a0 false _ A4.out).mono ?_); rintro e w22 ⟨rfl, hb⟩; have n0_ := Aside0.mk (below_step (by repeat (first | (with_reducible first | exact HB.out | apply below_alloc | apply pw_below_drewN | apply below_drew1) | exact HB.out)) hb); clear HB; have HB := n0_; clear n0_; (try clear hb); (try clear hb2); (try clear hk); (try clear hi)))
      go_ret
      exact ⟨by first | rfl | (simp [errW_none, errW_some] <;> rfl) | (simp [*, errW_none, errW_some] <;> rfl), by repeat (first | (with_reducible first | exact HB.out | apply below_alloc | apply pw_below_drewN | apply below_drew1) | exact HB.out)⟩
  · replace c3 := Bool.eq_false_iff.mpr c3
    subst c3
    have H1 : (some false) = some r := by rw [if_neg (show ¬ (false = true) by decide)] at H; exact H
    clear H
    have H := H1
    clear H1
    obtain rfl := Option.some.inj H
    go_enter Tryd.func26, Tryd.ntmps26
    go_wp2_with (first | ((with_reducible refine gate_callee (f := 37) rfl ?_); refine goesL_ (some 4) rfl rfl Tryd.func37 (by kernel_rfl) rfl #[.string a0] rfl (by (try simp only [List.map_toArray, List.map_cons, List.map_nil]); first | done | rfl | (simp only [List.length_drop, List.length_take]; rfl)) ?_; (with_reducible refine (utf8_ValidString.calls a0 false _ ?side1 A2.out).mono ?_); (case side1 => exact Tabs.below hT (by repeat (first | (with_reducible first | exact HB.out | apply below_alloc | apply pw_below_drewN | apply below_drew1) | exact HB.out))); rintro e w23 ⟨rfl, hb⟩; refine ⟨_, rfl, ?_⟩; have n0_ := Aside0.mk (below_step (by repeat (first | (with_reducible first | exact HB.out | apply below_alloc | apply pw_below_drewN | apply below_drew1) | exact HB.out)) hb); clear HB; have HB := n0_; clear n0_; (try clear hb); (try clear hb2); (try clear hk); (try clear hi)))
    go_ret
    exact ⟨by first | rfl | (simp [errW_none, errW_some] <;> rfl) | (simp [*, errW_none, errW_some] <;> rfl), by repeat (first | (with_reducible first | exact HB.out | apply below_alloc | apply pw_below_drewN | apply below_drew1) | exact HB.out)⟩
mutual
def malthouseref01_Name.j0 : Nat → Bool → ByteArray → List Int → List Int → Option (Bool)
  | 0, _, _, _, _ => none
  | k + 1, x32, x292000, x292001, x292002 => if x32 = true then (some false) else (malthouseref01_Name.l0 k 0 x292000 x292001 x292002)
def malthouseref01_Name.l0 : Nat → Int → ByteArray → List Int → List Int → Option (Bool)
  | 0, _, _, _, _ => none
  | k + 1, x5, x292000, x292001, x292002 => if x5 < (x292001.length : Int) then (if 0 ≤ x5 then ((malthouseref01_wordy.f (rd x292001 x5)).bind fun t295 => (if t295 = true then (malthouseref01_Name.l0 k (wrap64 (x5 + 1)) x292000 x292001 x292002) else (some false))) else (none)) else (some true)
end
def malthouseref01_Name.f (k : Nat) (a0 : ByteArray) : Option (Bool) := (malthouseref01_Runes.f k a0).bind fun bt283 => (if bt283.2.2.2 = true then (if (bt283.2.1.length : Int) = 0 then (malthouseref01_Name.j0 k true bt283.1 bt283.2.1 bt283.2.2.1) else (if (bt283.2.1.length : Int) > 12 then (malthouseref01_Name.j0 k true bt283.1 bt283.2.1 bt283.2.2.1) else (if 0 < (bt283.2.1.length : Int) then ((malthouseref01_Class.f (rd bt283.2.1 0)).bind fun t293 => (malthouseref01_Name.j0 k (t293 != 2) bt283.1 bt283.2.1 bt283.2.2.1)) else (none)))) else (malthouseref01_Name.j0 k true bt283.1 bt283.2.1 bt283.2.2.1))
set_option maxHeartbeats 8000000 in
set_option maxRecDepth 100000 in
theorem malthouseref01_Name.calls (k : Nat) (a0 : ByteArray) (r : Bool) (w : World) (h : malthouseref01_Name.f k a0 = some r) :
    Calls Tryd.prog 27 #[.string a0] w fun e w' => e = .returned (.bool r) ∧ Below w.heap.size w w' := by
  have hu53 := Tryd.underlying53
  have HB := Aside0.mk (Below.refl w.heap.size w)
  have H : ((malthouseref01_Runes.f k a0).bind fun bt283 => (if bt283.2.2.2 = true then (if (bt283.2.1.length : Int) = 0 then (malthouseref01_Name.j0 k true bt283.1 bt283.2.1 bt283.2.2.1) else (if (bt283.2.1.length : Int) > 12 then (malthouseref01_Name.j0 k true bt283.1 bt283.2.1 bt283.2.2.1) else (if 0 < (bt283.2.1.length : Int) then ((malthouseref01_Class.f (rd bt283.2.1 0)).bind fun t293 => (malthouseref01_Name.j0 k (t293 != 2) bt283.1 bt283.2.1 bt283.2.2.1)) else (none)))) else (malthouseref01_Name.j0 k true bt283.1 bt283.2.1 bt283.2.2.1))) = some r := h
  clear h
  replace H := Option.bind_eq_some_iff.mp H
  obtain ⟨⟨t283, t284, t287, t290⟩, A20, H⟩ := H
  replace H : (if t290 = true then (if (t284.length : Int) = 0 then (malthouseref01_Name.j0 k true t283 t284 t287) else (if (t284.length : Int) > 12 then (malthouseref01_Name.j0 k true t283 t284 t287) else (if 0 < (t284.length : Int) then ((malthouseref01_Class.f (rd t284 0)).bind fun t293 => (malthouseref01_Name.j0 k (t293 != 2) t283 t284 t287)) else (none)))) else (malthouseref01_Name.j0 k true t283 t284 t287)) = some r := H
  have A2 := Aside0.mk A20
  clear A20
  have HC3 := Aside0.mk H
  clear H
  go_enter Tryd.func27, Tryd.ntmps27
  go_upto_region 2 with (first | ((with_reducible refine gate_callee (f := 32) rfl ?_); refine goesL_ (some 8) rfl rfl Tryd.func32 (by kernel_rfl) rfl #[.string a0] rfl (by (try simp only [List.map_toArray, List.map_cons, List.map_nil]); first | done | rfl | (simp only [List.length_drop, List.length_take]; rfl)) ?_; (with_reducible refine (malthouseref01_Runes.calls k a0 t283 t284 t287 t290 _ A2.out).mono ?_); rintro e w4 ⟨v285, v288, rfl, ho0, ho1, hb⟩; refine ⟨_, rfl, ?_⟩; have n0_ := Aside0.mk (Kd.R_lower ho0 (below_size (by repeat (first | (with_reducible first | exact HB.out | apply below_alloc | apply pw_below_drewN | apply below_drew1) | exact HB.out)))); have n1_ := Aside0.mk (Kd.R_lower ho1 (below_size (by repeat (first | (with_reducible first | exact HB.out | apply below_alloc | apply pw_below_drewN | apply below_drew1) | exact HB.out)))); have n2_ := Aside0.mk (below_step (by repeat (first | (with_reducible first | exact HB.out | apply below_alloc | apply pw_below_drewN | apply below_drew1) | exact HB.out)) hb); clear HB; have HO286 := n0_; have HO289 := n1_; have HB := n2_; clear n0_ n1_ n2_; (try clear hb); (try clear hb2); (try clear hk); (try clear hi); (try clear ho0); (try clear ho1)) | ((with_reducible refine gate_dst (N := 3) rfl ?_); (try (refine gate_guard (by rfl) ?_; dsimp only)); refine box_event ?hg (N := 3) ?hd (cs := #[.string (⟨#[]⟩ : ByteArray), .slice none 0 0, .slice none 0 0]) (t := 53) ?hr ?_; (case hd => rfl); (case hg => rfl); (case hr => first | (go_simp; done) | (go_simp; rfl)); intro gb291 hg w5 hbox hb; have n0_ := Aside0.mk (Kd.R_below (by (with_reducible repeat (first | apply Kd.R_alloc | apply Kd.R_drewN | apply Kd.R_drew)); exact HO286.out) hb); have n1_ := Aside0.mk (Kd.R_below (by (with_reducible repeat (first | apply Kd.R_alloc | apply Kd.R_drewN | apply Kd.R_drew)); exact HO289.out) hb); have n2_ := Aside0.mk (below_step (by repeat (first | (with_reducible first | exact HB.out | apply below_alloc | apply pw_below_drewN | apply below_drew1) | exact HB.out)) hb); have n3_ := Aside0.mk (hbox); have n4_ := Aside0.mk ((by rw [hg]; exact (below_size (by repeat (first | (with_reducible first | exact HB.out | apply below_alloc | apply pw_below_drewN | apply below_drew1) | exact HB.out))) : w.heap.size ≤ gb291)); have n5_ := Aside0.mk ((by rw [hg]; exact (below_size (by repeat (first | (with_reducible first | exact HB.out | apply below_alloc | apply pw_below_drewN | apply below_drew1) | exact HB.out))) : w.heap.size ≤ gb291)); clear HO286; clear HO289; clear HB; have HO286 := n0_; have HO289 := n1_; have HB := n2_; have BK291 := n3_; have GW291 := n4_; have GE291 := n5_; clear n0_ n1_ n2_ n3_ n4_ n5_; clear hb hbox hg; have hcz6_0 : w5.cell? ⟨gb291, 0, none⟩ = some (.string (⟨#[]⟩ : ByteArray)) := (blk_cell BK291.out 0).trans rfl; have hcz6_1 : w5.cell? ⟨gb291, 1, none⟩ = some (.slice none 0 0) := (blk_cell BK291.out 1).trans rfl; have hcz6_2 : w5.cell? ⟨gb291, 2, none⟩ = some (.slice none 0 0) := (blk_cell BK291.out 2).trans rfl; have hfz6_0 := blk_frozen BK291.out 0; have hfz6_1 := blk_frozen BK291.out 1; have hfz6_2 := blk_frozen BK291.out 2; obtain ⟨Ao7, co7, eo7⟩ := Kd.R_slice HO286.out; subst eo7; obtain ⟨Ao8, co8, eo8⟩ := Kd.R_slice HO289.out; subst eo8))
  (try simp only [Act.put, List.setIfInBounds_toArray, List.set_cons_zero, List.set_cons_succ])
  go_cut [32] (fun v32 wc => ∃ (kq : Nat) (x32_2 : Bool), v32 = .bool x32_2 ∧ Aside0 (malthouseref01_Name.j0 kq x32_2 t283 t284 t287 = some r) ∧ Aside0 (kq ≤ k) ∧ Aside0 (Kd.R (Kd.int .i64) 3 wc w.heap.size (fun k_ => some k_ ≠ ((.slice Ao8 t287.length co8) : Value).ownBlock) (.slice Ao7 t284.length co7) t284) ∧ Aside0 (Kd.R (Kd.int .i64) 3 wc w.heap.size (fun k_ => some k_ ≠ ((.slice Ao7 t284.length co7) : Value).ownBlock) (.slice Ao8 t287.length co8) t287) ∧ Aside0 (wc.heap[gb291]? = some (.cells #[.string t283, (.slice Ao7 t284.length co7), (.slice Ao8 t287.length co8)] 53 (0, 0))) ∧ Aside0 (Below w.heap.size w wc))
  case first =>
    have H := HC3.out
    clear HC3
    by_cases c9 : t290 = true
    · subst c9
      have H1 : (if (t284.length : Int) = 0 then (malthouseref01_Name.j0 k true t283 t284 t287) else (if (t284.length : Int) > 12 then (malthouseref01_Name.j0 k true t283 t284 t287) else (if 0 < (t284.length : Int) then ((malthouseref01_Class.f (rd t284 0)).bind fun t293 => (malthouseref01_Name.j0 k (t293 != 2) t283 t284 t287)) else (none)))) = some r := by rw [if_pos rfl] at H; exact H
      clear H
      have H := H1
      clear H1
      by_cases c10 : (t284.length : Int) = 0
      · rw [if_pos c10] at H
        have c10b0 : ((t284.length : Int) == 0) = true := beq_iff_eq.mpr c10
        have c10b1 : ((t284.length : Int) != 0) = false := bne_eq_false_iff_eq.mpr c10
        clear c10
        (first | rw [c10b0] | (simp only [i64_w, i32_w]; rw [c10b0]) | skip)
        have H' := Aside0.mk H
        clear H
        have hcz11_0 : w5.cell? ⟨gb291, 0, none⟩ = some (.string (⟨#[]⟩ : ByteArray)) := (blk_cell BK291.out 0).trans rfl
        have hcz11_1 : w5.cell? ⟨gb291, 1, none⟩ = some (.slice none 0 0) := (blk_cell BK291.out 1).trans rfl
        have hcz11_2 : w5.cell? ⟨gb291, 2, none⟩ = some (.slice none 0 0) := (blk_cell BK291.out 2).trans rfl
        have hfz11_0 := blk_frozen BK291.out 0
        have hfz11_1 := blk_frozen BK291.out 1
        have hfz11_2 := blk_frozen BK291.out 2
        go_wp2
        go_meet
        case rel => exact ⟨_, (true), (by first | rfl | (simp; done) | (simp [*]; done)), H', ⟨by first | omega | exact Nat.le_refl _⟩, ⟨by (with_reducible repeat (first | apply Kd.R_alloc | apply Kd.R_drewN | apply Kd.R_drew)); exact Kd.R_mono (Kd.R_far (p := ⟨gb291, 2, none⟩) (Kd.R_far (p := ⟨gb291, 1, none⟩) (Kd.R_far (p := ⟨gb291, 0, none⟩) (Kd.R_types HO286.out BK291.out (by decide)) (fun _ hk => hk.2) (.string t283)) (fun _ hk => hk.2) (.slice Ao7 t284.length co7)) (fun _ hk => hk.2) (.slice Ao8 t287.length co8)) (fun _ hk => hk.1)⟩, ⟨by (with_reducible repeat (first | apply Kd.R_alloc | apply Kd.R_drewN | apply Kd.R_drew)); exact Kd.R_mono (Kd.R_far (p := ⟨gb291, 2, none⟩) (Kd.R_far (p := ⟨gb291, 1, none⟩) (Kd.R_far (p := ⟨gb291, 0, none⟩) (Kd.R_types HO289.out BK291.out (by decide)) (fun _ hk => hk.2) (.string t283)) (fun _ hk => hk.2) (.slice Ao7 t284.length co7)) (fun _ hk => hk.2) (.slice Ao8 t287.length co8)) (fun _ hk => hk.1)⟩, ⟨by (with_reducible repeat (first | refine blk_drewN ?_ _ | refine blk_drew ?_ | refine blk_alloc ?_ _)); refine blk_put (cs := #[.string t283, .slice Ao7 t284.length co7, .slice none 0 0]) ?_ 2 _ rfl; (with_reducible repeat (first | refine blk_drewN ?_ _ | refine blk_drew ?_ | refine blk_alloc ?_ _)); refine blk_put (cs := #[.string t283, .slice none 0 0, .slice none 0 0]) ?_ 1 _ rfl; (with_reducible repeat (first | refine blk_drewN ?_ _ | refine blk_drew ?_ | refine blk_alloc ?_ _)); refine blk_put (cs := #[.string (⟨#[]⟩ : ByteArray), .slice none 0 0, .slice none 0 0]) ?_ 0 _ rfl; (with_reducible repeat (first | refine blk_drewN ?_ _ | refine blk_drew ?_ | refine blk_alloc ?_ _)); exact BK291.out⟩, ⟨by repeat (first | (with_reducible first | exact HB.out | apply below_alloc | apply pw_below_drewN | apply below_drew1 | refine below_set ?_ GE291.out) | exact HB.out)⟩⟩
      · rw [if_neg c10] at H
        have c10b0 : ((t284.length : Int) == 0) = false := beq_eq_false_iff_ne.mpr c10
        have c10b1 : ((t284.length : Int) != 0) = true := bne_iff_ne.mpr c10
        have c10b2 : ¬ (t284 = []) := fun h_ => c10 (by rw [h_]; rfl)
        (first | rw [c10b0] | (simp only [i64_w, i32_w]; rw [c10b0]) | skip)
        by_cases c12 : (t284.length : Int) > 12
        · rw [if_pos c12] at H
          have c12b0 : decide (12 < (t284.length : Int)) = true := decide_eq_true c12
          have c12b1 : decide (12 < t284.length) = true := decide_eq_true (by omega)
          clear c12
          have H' := Aside0.mk H
          clear H
          have hcz13_0 : w5.cell? ⟨gb291, 0, none⟩ = some (.string (⟨#[]⟩ : ByteArray)) := (blk_cell BK291.out 0).trans rfl
          have hcz13_1 : w5.cell? ⟨gb291, 1, none⟩ = some (.slice none 0 0) := (blk_cell BK291.out 1).trans rfl
          have hcz13_2 : w5.cell? ⟨gb291, 2, none⟩ = some (.slice none 0 0) := (blk_cell BK291.out 2).trans rfl
          have hfz13_0 := blk_frozen BK291.out 0
          have hfz13_1 := blk_frozen BK291.out 1
          have hfz13_2 := blk_frozen BK291.out 2
          go_wp2
          go_meet
          case rel => exact ⟨_, (true), (by first | rfl | (simp; done) | (simp [*]; done)), H', ⟨by first | omega | exact Nat.le_refl _⟩, ⟨by (with_reducible repeat (first | apply Kd.R_alloc | apply Kd.R_drewN | apply Kd.R_drew)); exact Kd.R_mono (Kd.R_far (p := ⟨gb291, 2, none⟩) (Kd.R_far (p := ⟨gb291, 1, none⟩) (Kd.R_far (p := ⟨gb291, 0, none⟩) (Kd.R_types HO286.out BK291.out (by decide)) (fun _ hk => hk.2) (.string t283)) (fun _ hk => hk.2) (.slice Ao7 t284.length co7)) (fun _ hk => hk.2) (.slice Ao8 t287.length co8)) (fun _ hk => hk.1)⟩, ⟨by (with_reducible repeat (first | apply Kd.R_alloc | apply Kd.R_drewN | apply Kd.R_drew)); exact Kd.R_mono (Kd.R_far (p := ⟨gb291, 2, none⟩) (Kd.R_far (p := ⟨gb291, 1, none⟩) (Kd.R_far (p := ⟨gb291, 0, none⟩) (Kd.R_types HO289.out BK291.out (by decide)) (fun _ hk => hk.2) (.string t283)) (fun _ hk => hk.2) (.slice Ao7 t284.length co7)) (fun _ hk => hk.2) (.slice Ao8 t287.length co8)) (fun _ hk => hk.1)⟩, ⟨by (with_reducible repeat (first | refine blk_drewN ?_ _ | refine blk_drew ?_ | refine blk_alloc ?_ _)); refine blk_put (cs := #[.string t283, .slice Ao7 t284.length co7, .slice none 0 0]) ?_ 2 _ rfl; (with_reducible repeat (first | refine blk_drewN ?_ _ | refine blk_drew ?_ | refine blk_alloc ?_ _)); refine blk_put (cs := #[.string t283, .slice none 0 0, .slice none 0 0]) ?_ 1 _ rfl; (with_reducible repeat (first | refine blk_drewN ?_ _ | refine blk_drew ?_ | refine blk_alloc ?_ _)); refine blk_put (cs := #[.string (⟨#[]⟩ : ByteArray), .slice none 0 0, .slice none 0 0]) ?_ 0 _ rfl; (with_reducible repeat (first | refine blk_drewN ?_ _ | refine blk_drew ?_ | refine blk_alloc ?_ _)); exact BK291.out⟩, ⟨by repeat (first | (with_reducible first | exact HB.out | apply below_alloc | apply pw_below_drewN | apply below_drew1 | refine below_set ?_ GE291.out) | exact HB.out)⟩⟩
        · rw [if_neg c12] at H
          have c12b0 : decide (12 < (t284.length : Int)) = false := decide_eq_false c12
          have c12b1 : decide (12 < t284.length) = false := decide_eq_false (by omega)
          clear c12
          by_cases c14 : 0 < (t284.length : Int)
          · rw [if_pos c14] at H
            have c14b0 : decide (0 < (t284.length : Int)) = true := decide_eq_true c14
            have c14b1 : decide (0 < t284.length) = true := decide_eq_true (by omega)
            clear c14
            replace H := Option.bind_eq_some_iff.mp H
            obtain ⟨t293, A150, H⟩ := H
            replace H : (malthouseref01_Name.j0 k (t293 != 2) t283 t284 t287) = some r := H
            have A15 := Aside0.mk A150
            clear A150
            have H' := Aside0.mk H
            clear H
            have hcz16_0 : w5.cell? ⟨gb291, 0, none⟩ = some (.string (⟨#[]⟩ : ByteArray)) := (blk_cell BK291.out 0).trans rfl
            have hcz16_1 : w5.cell? ⟨gb291, 1, none⟩ = some (.slice none 0 0) := (blk_cell BK291.out 1).trans rfl
            have hcz16_2 : w5.cell? ⟨gb291, 2, none⟩ = some (.slice none 0 0) := (blk_cell BK291.out 2).trans rfl
            have hfz16_0 := blk_frozen BK291.out 0
            have hfz16_1 := blk_frozen BK291.out 1
            have hfz16_2 := blk_frozen BK291.out 2
            have p292 : 0 ≤ (0 : Int) := (by omega)
            have q292 : 0 < (t284.length : Int) := of_decide_eq_true (by first | (with_reducible assumption) | assumption)
            obtain ⟨ad292, e292, hx292_0⟩ := Kd.at_int (Kd.R_reads' HO286.out).2.2 0 p292 q292
            cases e292
            have qi292 : (0 < t284.length) = True := eq_true (by omega)
            (try rw [show ((0 : Int)).toNat = 0 from rfl] at hx292_0)
            (try rw [Addr.add_zero'] at hx292_0)
            have hn292_0 : ad292.block ≠ gb291 := Kd.own_blk (Kd.R_ne HO286.out BK291.out (by decide))
            have hn292_1 : ad292.block ≠ gb291 := Kd.own_blk (Kd.R_ne HO286.out BK291.out (by decide))
            have hn292_2 : ad292.block ≠ gb291 := Kd.own_blk (Kd.R_ne HO286.out BK291.out (by decide))
            replace hx292_0 := (cell_far (p := ⟨gb291, 0, none⟩) (by first | (rw [add_block]; exact hn292_0) | (show (Addr.add _ _).block ≠ _; rw [add_block]; exact hn292_0) | exact hn292_0) (.string t283)).trans hx292_0
            replace hx292_0 := (cell_far (p := ⟨gb291, 1, none⟩) (by first | (rw [add_block]; exact hn292_1) | (show (Addr.add _ _).block ≠ _; rw [add_block]; exact hn292_1) | exact hn292_1) (.slice (some ad292) t284.length co7)).trans hx292_0
            replace hx292_0 := (cell_far (p := ⟨gb291, 2, none⟩) (by first | (rw [add_block]; exact hn292_2) | (show (Addr.add _ _).block ≠ _; rw [add_block]; exact hn292_2) | exact hn292_2) (.slice Ao8 t287.length co8)).trans hx292_0
            clear hn292_0
            clear hn292_1
            clear hn292_2
            replace p292 := eq_true p292
            replace q292 := eq_true q292
            go_wp2_with (first | (go_at_call 17; (with_reducible refine (malthouseref01_Class.calls (rd t284 0) t293 _ A15.out).mono ?_); rintro e w' ⟨rfl, ⟨nd, rfl⟩⟩))
            go_meet
            case rel => exact ⟨_, ((t293 != 2)), (by first | rfl | (simp; done) | (simp [*]; done)), H', ⟨by first | omega | exact Nat.le_refl _⟩, ⟨by (with_reducible repeat (first | apply Kd.R_alloc | apply Kd.R_drewN | apply Kd.R_drew)); exact Kd.R_mono (Kd.R_far (p := ⟨gb291, 2, none⟩) (Kd.R_far (p := ⟨gb291, 1, none⟩) (Kd.R_far (p := ⟨gb291, 0, none⟩) (Kd.R_types HO286.out BK291.out (by decide)) (fun _ hk => hk.2) (.string t283)) (fun _ hk => hk.2) (.slice (some ad292) t284.length co7)) (fun _ hk => hk.2) (.slice Ao8 t287.length co8)) (fun _ hk => hk.1)⟩, ⟨by (with_reducible repeat (first | apply Kd.R_alloc | apply Kd.R_drewN | apply Kd.R_drew)); exact Kd.R_mono (Kd.R_far (p := ⟨gb291, 2, none⟩) (Kd.R_far (p := ⟨gb291, 1, none⟩) (Kd.R_far (p := ⟨gb291, 0, none⟩) (Kd.R_types HO289.out BK291.out (by decide)) (fun _ hk => hk.2) (.string t283)) (fun _ hk => hk.2) (.slice (some ad292) t284.length co7)) (fun _ hk => hk.2) (.slice Ao8 t287.length co8)) (fun _ hk => hk.1)⟩, ⟨by (with_reducible repeat (first | refine blk_drewN ?_ _ | refine blk_drew ?_ | refine blk_alloc ?_ _)); refine blk_put (cs := #[.string t283, .slice (some ad292) t284.length co7, .slice none 0 0]) ?_ 2 _ rfl; (with_reducible repeat (first | refine blk_drewN ?_ _ | refine blk_drew ?_ | refine blk_alloc ?_ _)); refine blk_put (cs := #[.string t283, .slice none 0 0, .slice none 0 0]) ?_ 1 _ rfl; (with_reducible repeat (first | refine blk_drewN ?_ _ | refine blk_drew ?_ | refine blk_alloc ?_ _)); refine blk_put (cs := #[.string (⟨#[]⟩ : ByteArray), .slice none 0 0, .slice none 0 0]) ?_ 0 _ rfl; (with_reducible repeat (first | refine blk_drewN ?_ _ | refine blk_drew ?_ | refine blk_alloc ?_ _)); exact BK291.out⟩, ⟨by repeat (first | (with_reducible first | exact HB.out | apply below_alloc | apply pw_below_drewN | apply below_drew1 | refine below_set ?_ GE291.out) | exact HB.out)⟩⟩
          · rw [if_neg c14] at H
            exact absurd H (by simp)
    · replace c9 := Bool.eq_false_iff.mpr c9
      subst c9
      have H1 : (malthouseref01_Name.j0 k true t283 t284 t287) = some r := by rw [if_neg (show ¬ (false = true) by decide)] at H; exact H
      clear H
      have H := H1
      clear H1
      have H' := Aside0.mk H
      clear H
      go_wp2
      go_meet
      case rel => exact ⟨_, (true), (by first | rfl | (simp; done) | (simp [*]; done)), H', ⟨by first | omega | exact Nat.le_refl _⟩, ⟨by (with_reducible repeat (first | apply Kd.R_alloc | apply Kd.R_drewN | apply Kd.R_drew)); exact Kd.R_mono (Kd.R_far (p := ⟨gb291, 2, none⟩) (Kd.R_far (p := ⟨gb291, 1, none⟩) (Kd.R_far (p := ⟨gb291, 0, none⟩) (Kd.R_types HO286.out BK291.out (by decide)) (fun _ hk => hk.2) (.string t283)) (fun _ hk => hk.2) (.slice Ao7 t284.length co7)) (fun _ hk => hk.2) (.slice Ao8 t287.length co8)) (fun _ hk => hk.1)⟩, ⟨by (with_reducible repeat (first | apply Kd.R_alloc | apply Kd.R_drewN | apply Kd.R_drew)); exact Kd.R_mono (Kd.R_far (p := ⟨gb291, 2, none⟩) (Kd.R_far (p := ⟨gb291, 1, none⟩) (Kd.R_far (p := ⟨gb291, 0, none⟩) (Kd.R_types HO289.out BK291.out (by decide)) (fun _ hk => hk.2) (.string t283)) (fun _ hk => hk.2) (.slice Ao7 t284.length co7)) (fun _ hk => hk.2) (.slice Ao8 t287.length co8)) (fun _ hk => hk.1)⟩, ⟨by (with_reducible repeat (first | refine blk_drewN ?_ _ | refine blk_drew ?_ | refine blk_alloc ?_ _)); refine blk_put (cs := #[.string t283, .slice Ao7 t284.length co7, .slice none 0 0]) ?_ 2 _ rfl; (with_reducible repeat (first | refine blk_drewN ?_ _ | refine blk_drew ?_ | refine blk_alloc ?_ _)); refine blk_put (cs := #[.string t283, .slice none 0 0, .slice none 0 0]) ?_ 1 _ rfl; (with_reducible repeat (first | refine blk_drewN ?_ _ | refine blk_drew ?_ | refine blk_alloc ?_ _)); refine blk_put (cs := #[.string (⟨#[]⟩ : ByteArray), .slice none 0 0, .slice none 0 0]) ?_ 0 _ rfl; (with_reducible repeat (first | refine blk_drewN ?_ _ | refine blk_drew ?_ | refine blk_alloc ?_ _)); exact BK291.out⟩, ⟨by repeat (first | (with_reducible first | exact HB.out | apply below_alloc | apply pw_below_drewN | apply below_drew1 | refine below_set ?_ GE291.out) | exact HB.out)⟩⟩
  case rest =>
    clear HC3
    try clear c1
    try clear c2
    try clear p2
    try clear q2
    try clear hx2
    try clear qi2
    try clear c3
    try clear c9
    try clear c10
    try clear c10b0
    try clear c10b1
    try clear c10b2
    try clear c12
    try clear c12b0
    try clear c12b1
    try clear c14
    try clear c14b0
    try clear c14b1
    try clear hcz11_0
    try clear hcz11_1
    try clear hcz11_2
    try clear hcz13_0
    try clear hcz13_1
    try clear hcz13_2
    try clear hcz16_0
    try clear hcz16_1
    try clear hcz16_2
    try clear hcz6_0
    try clear hcz6_1
    try clear hcz6_2
    try clear hfz11_0
    try clear hfz11_1
    try clear hfz11_2
    try clear hfz13_0
    try clear hfz13_1
    try clear hfz13_2
    try clear hfz16_0
    try clear hfz16_1
    try clear hfz16_2
    try clear hfz6_0
    try clear hfz6_1
    try clear hfz6_2
    try clear hx292_0
    try clear p292
    try clear q292
    obtain ⟨kq, x32_2, rfl, HA, HJ2, HO_292001, HO_292002, BK291, HB⟩ := hcut
    cases kq with
    | zero => exact absurd HA.out (by simp [malthouseref01_Name.j0])
    | succ kj2 =>
      have H := HA.out
      clear HA
      simp only [malthouseref01_Name.j0] at H
      by_cases c17 : x32_2 = true
      · subst c17
        have H1 : (some false) = some r := by rw [if_pos rfl] at H; exact H
        clear H
        have H := H1
        clear H1
        obtain rfl := Option.some.inj H
        go_wp2
        go_ret
        exact ⟨by first | rfl | (simp [errW_none, errW_some] <;> rfl) | (simp [*, errW_none, errW_some] <;> rfl), by repeat (first | (with_reducible first | exact HB.out | apply below_alloc | apply pw_below_drewN | apply below_drew1 | refine below_set ?_ GE291.out) | exact HB.out)⟩
      · replace c17 := Bool.eq_false_iff.mpr c17
        subst c17
        have H1 : (malthouseref01_Name.l0 kj2 0 t283 t284 t287) = some r := by rw [if_neg (show ¬ (false = true) by decide)] at H; exact H
        clear H
        have H := H1
        clear H1
        have H' := Aside0.mk H
        clear H
        go_wp2
        go_loopg [5] kj2 (fun kq v5 w' => ∃ (x5_2 : Int), v5 = .int .i64 x5_2 ∧ Aside0 (malthouseref01_Name.l0 kq x5_2 t283 t284 t287 = some r) ∧ Aside0 (kq ≤ kj2) ∧ Aside0 (Kd.R (Kd.int .i64) 3 w' w.heap.size (fun k_ => some k_ ≠ ((.slice Ao8 t287.length co8) : Value).ownBlock) (.slice Ao7 t284.length co7) t284) ∧ Aside0 (Kd.R (Kd.int .i64) 3 w' w.heap.size (fun k_ => some k_ ≠ ((.slice Ao7 t284.length co7) : Value).ownBlock) (.slice Ao8 t287.length co8) t287) ∧ Aside0 (w'.heap[gb291]? = some (.cells #[.string t283, (.slice Ao7 t284.length co7), (.slice Ao8 t287.length co8)] 53 (0, 0))) ∧ Aside0 (Below w.heap.size w w'))
        case atStart => exact ⟨(0), (by first | rfl | (simp; done) | (simp [*]; done)), H', ⟨Nat.le_refl _⟩, ⟨by (with_reducible repeat (first | apply Kd.R_alloc | apply Kd.R_drewN | apply Kd.R_drew)); exact HO_292001.out⟩, ⟨by (with_reducible repeat (first | apply Kd.R_alloc | apply Kd.R_drewN | apply Kd.R_drew)); exact HO_292002.out⟩, ⟨by (with_reducible repeat (first | refine blk_drewN ?_ _ | refine blk_drew ?_ | refine blk_alloc ?_ _)); exact BK291.out⟩, ⟨by repeat (first | (with_reducible first | exact HB.out | apply below_alloc | apply pw_below_drewN | apply below_drew1 | refine below_set ?_ GE291.out) | exact HB.out)⟩⟩
        case round =>
          clear H'
          try clear c1
          try clear c2
          try clear p2
          try clear q2
          try clear hx2
          try clear qi2
          try clear c3
          try clear c9
          try clear c10
          try clear c10b0
          try clear c10b1
          try clear c10b2
          try clear c12
          try clear c12b0
          try clear c12b1
          try clear c14
          try clear c14b0
          try clear c14b1
          try clear c17
          try clear hcz11_0
          try clear hcz11_1
          try clear hcz11_2
          try clear hcz13_0
          try clear hcz13_1
          try clear hcz13_2
          try clear hcz16_0
          try clear hcz16_1
          try clear hcz16_2
          try clear hcz6_0
          try clear hcz6_1
          try clear hcz6_2
          try clear hfz11_0
          try clear hfz11_1
          try clear hfz11_2
          try clear hfz13_0
          try clear hfz13_1
          try clear hfz13_2
          try clear hfz16_0
          try clear hfz16_1
          try clear hfz16_2
          try clear hfz6_0
          try clear hfz6_1
          try clear hfz6_2
          try clear hx292_0
          try clear p2
          try clear p292
          try clear q2
          try clear q292
          obtain ⟨x5_2, rfl, HA, HK2, HO_292001, HO_292002, BK291, HB⟩ := hrel
          cases gk with
          | zero => exact absurd HA.out (by simp [malthouseref01_Name.l0])
          | succ k2 =>
            have H := HA.out
            clear HA
            simp only [malthouseref01_Name.l0] at H
            by_cases c18 : x5_2 < (t284.length : Int)
            · rw [if_pos c18] at H
              have c18b0 : decide (x5_2 < (t284.length : Int)) = true := decide_eq_true c18
              clear c18
              by_cases c19 : 0 ≤ x5_2
              · rw [if_pos c19] at H
                have c19b0 : decide (0 ≤ x5_2) = true := decide_eq_true c19
                clear c19
                replace H := Option.bind_eq_some_iff.mp H
                obtain ⟨t295, A200, H⟩ := H
                replace H : (if t295 = true then (malthouseref01_Name.l0 k2 (wrap64 (x5_2 + 1)) t283 t284 t287) else (some false)) = some r := H
                have A20 := Aside0.mk A200
                clear A200
                by_cases c21 : t295 = true
                · subst c21
                  have H1 : (malthouseref01_Name.l0 k2 (wrap64 (x5_2 + 1)) t283 t284 t287) = some r := by rw [if_pos rfl] at H; exact H
                  clear H
                  have H := H1
                  clear H1
                  have H' := Aside0.mk H
                  clear H
                  have hcz22_0 : wr.cell? ⟨gb291, 0, none⟩ = some (.string t283) := (blk_cell BK291.out 0).trans rfl
                  have hcz22_1 : wr.cell? ⟨gb291, 1, none⟩ = some (.slice Ao7 t284.length co7) := (blk_cell BK291.out 1).trans rfl
                  have hcz22_2 : wr.cell? ⟨gb291, 2, none⟩ = some (.slice Ao8 t287.length co8) := (blk_cell BK291.out 2).trans rfl
                  have hfz22_0 := blk_frozen BK291.out 0
                  have hfz22_1 := blk_frozen BK291.out 1
                  have hfz22_2 := blk_frozen BK291.out 2
                  have p294 : 0 ≤ (x5_2 : Int) := of_decide_eq_true (by first | (with_reducible assumption) | assumption)
                  have q294 : x5_2 < (t284.length : Int) := of_decide_eq_true (by first | (with_reducible assumption) | assumption)
                  obtain ⟨ad294, e294, hx294_0⟩ := Kd.at_int (Kd.R_reads' HO_292001.out).2.2 x5_2 p294 q294
                  cases e294
                  replace p294 := eq_true p294
                  replace q294 := eq_true q294
                  go_wp2_with (first | ((with_reducible refine gate_callee (f := 40) rfl ?_); refine goesL_ (some 45) rfl rfl Tryd.func40 (by kernel_rfl) rfl #[.int .i64 (rd t284 x5_2)] rfl (by (try simp only [List.map_toArray, List.map_cons, List.map_nil]); first | done | rfl | (simp only [List.length_drop, List.length_take]; rfl)) ?_; (with_reducible refine (malthouseref01_wordy.calls (rd t284 x5_2) true _ A20.out).mono ?_); rintro e w' ⟨rfl, ⟨nd, rfl⟩⟩; refine ⟨_, rfl, ?_⟩))
                  go_roundg k2
                  case measure => have := HJ2.out; have := HK2.out; omega
                  case rel => exact ⟨(wrap64 (x5_2 + 1)), (by first | rfl | (simp; done) | (simp [*]; done)), H', ⟨by have := HJ2.out; have := HK2.out; omega⟩, ⟨by (with_reducible repeat (first | apply Kd.R_alloc | apply Kd.R_drewN | apply Kd.R_drew)); exact HO_292001.out⟩, ⟨by (with_reducible repeat (first | apply Kd.R_alloc | apply Kd.R_drewN | apply Kd.R_drew)); exact HO_292002.out⟩, ⟨by (with_reducible repeat (first | refine blk_drewN ?_ _ | refine blk_drew ?_ | refine blk_alloc ?_ _)); exact BK291.out⟩, ⟨by repeat (first | (with_reducible first | exact HB.out | apply below_alloc | apply pw_below_drewN | apply below_drew1 | refine below_set ?_ GE291.out) | exact HB.out)⟩⟩
                · replace c21 := Bool.eq_false_iff.mpr c21
                  subst c21
                  have H1 : (some false) = some r := by rw [if_neg (show ¬ (false = true) by decide)] at H; exact H
                  clear H
                  have H := H1
                  clear H1
                  obtain rfl := Option.some.inj H
                  have hcz23_0 : wr.cell? ⟨gb291, 0, none⟩ = some (.string t283) := (blk_cell BK291.out 0).trans rfl
                  have hcz23_1 : wr.cell? ⟨gb291, 1, none⟩ = some (.slice Ao7 t284.length co7) := (blk_cell BK291.out 1).trans rfl
                  have hcz23_2 : wr.cell? ⟨gb291, 2, none⟩ = some (.slice Ao8 t287.length co8) := (blk_cell BK291.out 2).trans rfl
                  have hfz23_0 := blk_frozen BK291.out 0
                  have hfz23_1 := blk_frozen BK291.out 1
                  have hfz23_2 := blk_frozen BK291.out 2
                  have p294 : 0 ≤ (x5_2 : Int) := of_decide_eq_true (by first | (with_reducible assumption) | assumption)
                  have q294 : x5_2 < (t284.length : Int) := of_decide_eq_true (by first | (with_reducible assumption) | assumption)
                  obtain ⟨ad294, e294, hx294_0⟩ := Kd.at_int (Kd.R_reads' HO_292001.out).2.2 x5_2 p294 q294
                  cases e294
                  replace p294 := eq_true p294
                  replace q294 := eq_true q294
                  go_wp2_with (first | ((with_reducible refine gate_callee (f := 40) rfl ?_); refine goesL_ (some 45) rfl rfl Tryd.func40 (by kernel_rfl) rfl #[.int .i64 (rd t284 x5_2)] rfl (by (try simp only [List.map_toArray, List.map_cons, List.map_nil]); first | done | rfl | (simp only [List.length_drop, List.length_take]; rfl)) ?_; (with_reducible refine (malthouseref01_wordy.calls (rd t284 x5_2) false _ A20.out).mono ?_); rintro e w' ⟨rfl, ⟨nd, rfl⟩⟩; refine ⟨_, rfl, ?_⟩))
                  go_ret
                  exact ⟨by first | rfl | (simp [errW_none, errW_some] <;> rfl) | (simp [*, errW_none, errW_some] <;> rfl), by repeat (first | (with_reducible first | exact HB.out | apply below_alloc | apply pw_below_drewN | apply below_drew1 | refine below_set ?_ GE291.out) | exact HB.out)⟩
              · rw [if_neg c19] at H
                exact absurd H (by simp)
            · rw [if_neg c18] at H
              have c18b0 : decide (x5_2 < (t284.length : Int)) = false := decide_eq_false c18
              clear c18
              obtain rfl := Option.some.inj H
              have hcz24_0 : wr.cell? ⟨gb291, 0, none⟩ = some (.string t283) := (blk_cell BK291.out 0).trans rfl
              have hcz24_1 : wr.cell? ⟨gb291, 1, none⟩ = some (.slice Ao7 t284.length co7) := (blk_cell BK291.out 1).trans rfl
              have hcz24_2 : wr.cell? ⟨gb291, 2, none⟩ = some (.slice Ao8 t287.length co8) := (blk_cell BK291.out 2).trans rfl
              have hfz24_0 := blk_frozen BK291.out 0
              have hfz24_1 := blk_frozen BK291.out 1
              have hfz24_2 := blk_frozen BK291.out 2
              go_wp2
              go_ret
              exact ⟨by first | rfl | (simp [errW_none, errW_some] <;> rfl) | (simp [*, errW_none, errW_some] <;> rfl), by repeat (first | (with_reducible first | exact HB.out | apply below_alloc | apply pw_below_drewN | apply below_drew1 | refine below_set ?_ GE291.out) | exact HB.out)⟩
def malthouselaw01_LexNames.f (k : Nat) (a0 : ByteArray) : Option (Bool) := (malthouselaw01_awake.f).bind fun t296 => (if (a0.size : Int) > 5000 then (some t296) else ((lex_Quote.f a0).bind fun bt297 => ((malthouseref01_Quote.f k a0).bind fun bt299 => (if t296 = true then ((lex_Name.f a0).bind fun t301 => ((malthouseref01_Name.f k a0).bind fun t302 => (if (t301 == t302) = true then (if bt297.1.toList = bt299.1.toList then (some (bt297.2 == bt299.2)) else (some false)) else (some false)))) else (some false)))))
set_option maxHeartbeats 8000000 in
set_option maxRecDepth 100000 in
theorem malthouselaw01_LexNames.calls (k : Nat) (a0 : ByteArray) (r : Bool) (w : World) (hT : Tabs w) (h : malthouselaw01_LexNames.f k a0 = some r) :
    Calls Tryd.prog 10 #[.string a0] w fun e w' => e = .returned (.bool r) ∧ Below w.heap.size w w' := by
  have HB := Aside0.mk (Below.refl w.heap.size w)
  have H : ((malthouselaw01_awake.f).bind fun t296 => (if (a0.size : Int) > 5000 then (some t296) else ((lex_Quote.f a0).bind fun bt297 => ((malthouseref01_Quote.f k a0).bind fun bt299 => (if t296 = true then ((lex_Name.f a0).bind fun t301 => ((malthouseref01_Name.f k a0).bind fun t302 => (if (t301 == t302) = true then (if bt297.1.toList = bt299.1.toList then (some (bt297.2 == bt299.2)) else (some false)) else (some false)))) else (some false)))))) = some r := h
  clear h
  replace H := Option.bind_eq_some_iff.mp H
  obtain ⟨t296, A20, H⟩ := H
  replace H : (if (a0.size : Int) > 5000 then (some t296) else ((lex_Quote.f a0).bind fun bt297 => ((malthouseref01_Quote.f k a0).bind fun bt299 => (if t296 = true then ((lex_Name.f a0).bind fun t301 => ((malthouseref01_Name.f k a0).bind fun t302 => (if (t301 == t302) = true then (if bt297.1.toList = bt299.1.toList then (some (bt297.2 == bt299.2)) else (some false)) else (some false)))) else (some false))))) = some r := H
  have A2 := Aside0.mk A20
  clear A20
  by_cases c3 : (a0.size : Int) > 5000
  · rw [if_pos c3] at H
    have c3b0 : decide (5000 < (a0.size : Int)) = true := decide_eq_true c3
    have c3b1 : decide (5000 < a0.size) = true := decide_eq_true (by omega)
    clear c3
    obtain rfl := Option.some.inj H
    go_enter Tryd.func10, Tryd.ntmps10
    go_wp2_with (first | ((with_reducible refine gate_callee (f := 12) rfl ?_); refine goesL_ (some 8) rfl rfl Tryd.func12 (by kernel_rfl) rfl #[] rfl (by (try simp only [List.map_toArray, List.map_cons, List.map_nil]); first | done | rfl | (simp only [List.length_drop, List.length_take]; rfl)) ?_; (with_reducible refine (malthouselaw01_awake.calls  t296 _ ?side1 A2.out).mono ?_); (case side1 => exact Tabs.below hT (by repeat (first | (with_reducible first | exact HB.out | apply below_alloc | apply pw_below_drewN | apply below_drew1) | exact HB.out))); rintro e w4 ⟨rfl, hb⟩; refine ⟨_, rfl, ?_⟩; have n0_ := Aside0.mk (below_step (by repeat (first | (with_reducible first | exact HB.out | apply below_alloc | apply pw_below_drewN | apply below_drew1) | exact HB.out)) hb); clear HB; have HB := n0_; clear n0_; (try clear hb); (try clear hb2); (try clear hk); (try clear hi)))
    go_ret
    exact ⟨by first | rfl | (simp [errW_none, errW_some] <;> rfl) | (simp [*, errW_none, errW_some] <;> rfl), by repeat (first | (with_reducible first | exact HB.out | apply below_alloc | apply pw_below_drewN | apply below_drew1) | exact HB.out)⟩
  · rw [if_neg c3] at H
    have c3b0 : decide (5000 < (a0.size : Int)) = false := decide_eq_false c3
    have c3b1 : decide (5000 < a0.size) = false := decide_eq_false (by omega)
    clear c3
    replace H := Option.bind_eq_some_iff.mp H
    obtain ⟨⟨t297, t298⟩, A50, H⟩ := H
    replace H : ((malthouseref01_Quote.f k a0).bind fun bt299 => (if t296 = true then ((lex_Name.f a0).bind fun t301 => ((malthouseref01_Name.f k a0).bind fun t302 => (if (t301 == t302) = true then (if t297.toList = bt299.1.toList then (some (t298 == bt299.2)) else (some false)) else (some false)))) else (some false))) = some r := H
    have A5 := Aside0.mk A50
    clear A50
    replace H := Option.bind_eq_some_iff.mp H
    obtain ⟨⟨t299, t300⟩, A60, H⟩ := H
    replace H : (if t296 = true then ((lex_Name.f a0).bind fun t301 => ((malthouseref01_Name.f k a0).bind fun t302 => (if (t301 == t302) = true then (if t297.toList = t299.toList then (some (t298 == t300)) else (some false)) else (some false)))) else (some false)) = some r := H
    have A6 := Aside0.mk A60
    clear A60
    by_cases c7 : t296 = true
    · subst c7
      have H1 : ((lex_Name.f a0).bind fun t301 => ((malthouseref01_Name.f k a0).bind fun t302 => (if (t301 == t302) = true then (if t297.toList = t299.toList then (some (t298 == t300)) else (some false)) else (some false)))) = some r := by rw [if_pos rfl] at H; exact H
      clear H
      have H := H1
      clear H1
      replace H := Option.bind_eq_some_iff.mp H
      obtain ⟨t301, A80, H⟩ := H
      replace H : ((malthouseref01_Name.f k a0).bind fun t302 => (if (t301 == t302) = true then (if t297.toList = t299.toList then (some (t298 == t300)) else (some false)) else (some false))) = some r := H
      have A8 := Aside0.mk A80
      clear A80
      replace H := Option.bind_eq_some_iff.mp H
      obtain ⟨t302, A90, H⟩ := H
      replace H : (if (t301 == t302) = true then (if t297.toList = t299.toList then (some (t298 == t300)) else (some false)) else (some false)) = some r := H
      have A9 := Aside0.mk A90
      clear A90
      by_cases c10 : (t301 == t302) = true
      · rw [if_pos c10] at H
        have c10b0 : (t301 == t302) = true := c10
        (try (have c10b1 : decide (t301 = t302) = true := by simpa using c10))
        (try (have c10b2 : (t301 == t302) = true := by simpa using c10))
        clear c10
        by_cases c11 : t297.toList = t299.toList
        · rw [if_pos c11] at H
          have c11b0 : (t297.toList == t299.toList) = true := beq_iff_eq.mpr c11
          have c11b1 : (t297.toList != t299.toList) = false := bne_eq_false_iff_eq.mpr c11
          clear c11
          obtain rfl := Option.some.inj H
          go_enter Tryd.func10, Tryd.ntmps10
          go_wp2_with (first | ((with_reducible refine gate_callee (f := 12) rfl ?_); refine goesL_ (some 8) rfl rfl Tryd.func12 (by kernel_rfl) rfl #[] rfl (by (try simp only [List.map_toArray, List.map_cons, List.map_nil]); first | done | rfl | (simp only [List.length_drop, List.length_take]; rfl)) ?_; (with_reducible refine (malthouselaw01_awake.calls  true _ ?side1 A2.out).mono ?_); (case side1 => exact Tabs.below hT (by repeat (first | (with_reducible first | exact HB.out | apply below_alloc | apply pw_below_drewN | apply below_drew1) | exact HB.out))); rintro e w12 ⟨rfl, hb⟩; refine ⟨_, rfl, ?_⟩; have n0_ := Aside0.mk (below_step (by repeat (first | (with_reducible first | exact HB.out | apply below_alloc | apply pw_below_drewN | apply below_drew1) | exact HB.out)) hb); clear HB; have HB := n0_; clear n0_; (try clear hb); (try clear hb2); (try clear hk); (try clear hi)) | ((with_reducible refine gate_callee (f := 24) rfl ?_); refine goesL_ (some 15) rfl rfl Tryd.func24 (by kernel_rfl) rfl #[.string a0] rfl (by (try simp only [List.map_toArray, List.map_cons, List.map_nil]); first | done | rfl | (simp only [List.length_drop, List.length_take]; rfl)) ?_; (with_reducible refine (lex_Quote.calls a0 t297 t298 _ ?side1 A5.out).mono ?_); (case side1 => exact Tabs.below hT (by repeat (first | (with_reducible first | exact HB.out | apply below_alloc | apply pw_below_drewN | apply below_drew1) | exact HB.out))); rintro e w13 ⟨rfl, hb⟩; refine ⟨_, rfl, ?_⟩; have n0_ := Aside0.mk (below_step (by repeat (first | (with_reducible first | exact HB.out | apply below_alloc | apply pw_below_drewN | apply below_drew1) | exact HB.out)) hb); clear HB; have HB := n0_; clear n0_; (try clear hb); (try clear hb2); (try clear hk); (try clear hi)) | ((with_reducible refine gate_callee (f := 25) rfl ?_); refine goesL_ (some 20) rfl rfl Tryd.func25 (by kernel_rfl) rfl #[.string a0] rfl (by (try simp only [List.map_toArray, List.map_cons, List.map_nil]); first | done | rfl | (simp only [List.length_drop, List.length_take]; rfl)) ?_; (with_reducible refine (malthouseref01_Quote.calls k a0 t299 t300 _ A6.out).mono ?_); rintro e w14 ⟨rfl, hb⟩; refine ⟨_, rfl, ?_⟩; have n0_ := Aside0.mk (below_step (by repeat (first | (with_reducible first | exact HB.out | apply below_alloc | apply pw_below_drewN | apply below_drew1) | exact HB.out)) hb); clear HB; have HB := n0_; clear n0_; (try clear hb); (try clear hb2); (try clear hk); (try clear hi)) | (go_at_call 26; (with_reducible refine (lex_Name.calls a0 t301 _ ?side1 A8.out).mono ?_); (case side1 => exact Tabs.below hT (by repeat (first | (with_reducible first | exact HB.out | apply below_alloc | apply pw_below_drewN | apply below_drew1) | exact HB.out))); rintro e w15 ⟨rfl, hb⟩; have n0_ := Aside0.mk (below_step (by repeat (first | (with_reducible first | exact HB.out | apply below_alloc | apply pw_below_drewN | apply below_drew1) | exact HB.out)) hb); clear HB; have HB := n0_; clear n0_; (try clear hb); (try clear hb2); (try clear hk); (try clear hi)) | (go_at_call 27; (with_reducible refine (malthouseref01_Name.calls k a0 t302 _ A9.out).mono ?_); rintro e w16 ⟨rfl, hb⟩; have n0_ := Aside0.mk (below_step (by repeat (first | (with_reducible first | exact HB.out | apply below_alloc | apply pw_below_drewN | apply below_drew1) | exact HB.out)) hb); clear HB; have HB := n0_; clear n0_; (try clear hb); (try clear hb2); (try clear hk); (try clear hi)))
          go_ret
          exact ⟨by first | rfl | (simp [errW_none, errW_some] <;> rfl) | (simp [*, errW_none, errW_some] <;> rfl), by repeat (first | (with_reducible first | exact HB.out | apply below_alloc | apply pw_below_drewN | apply below_drew1) | exact HB.out)⟩
        · rw [if_neg c11] at H
          have c11b0 : (t297.toList == t299.toList) = false := beq_eq_false_iff_ne.mpr c11
          have c11b1 : (t297.toList != t299.toList) = true := bne_iff_ne.mpr c11
          obtain rfl := Option.some.inj H
          go_enter Tryd.func10, Tryd.ntmps10
          go_wp2_with (first | ((with_reducible refine gate_callee (f := 12) rfl ?_); refine goesL_ (some 8) rfl rfl Tryd.func12 (by kernel_rfl) rfl #[] rfl (by (try simp only [List.map_toArray, List.map_cons, List.map_nil]); first | done | rfl | (simp only [List.length_drop, List.length_take]; rfl)) ?_; (with_reducible refine (malthouselaw01_awake.calls  true _ ?side1 A2.out).mono ?_); (case side1 => exact Tabs.below hT (by repeat (first | (with_reducible first | exact HB.out | apply below_alloc | apply pw_below_drewN | apply below_drew1) | exact HB.out))); rintro e w17 ⟨rfl, hb⟩; refine ⟨_, rfl, ?_⟩; have n0_ := Aside0.mk (below_step (by repeat (first | (with_reducible first | exact HB.out | apply below_alloc | apply pw_below_drewN | apply below_drew1) | exact HB.out)) hb); clear HB; have HB := n0_; clear n0_; (try clear hb); (try clear hb2); (try clear hk); (try clear hi)) | ((with_reducible refine gate_callee (f := 24) rfl ?_); refine goesL_ (some 15) rfl rfl Tryd.func24 (by kernel_rfl) rfl #[.string a0] rfl (by (try simp only [List.map_toArray, List.map_cons, List.map_nil]); first | done | rfl | (simp only [List.length_drop, List.length_take]; rfl)) ?_; (with_reducible refine (lex_Quote.calls a0 t297 t298 _ ?side1 A5.out).mono ?_); (case side1 => exact Tabs.below hT (by repeat (first | (with_reducible first | exact HB.out | apply below_alloc | apply pw_below_drewN | apply below_drew1) | exact HB.out))); rintro e w18 ⟨rfl, hb⟩; refine ⟨_, rfl, ?_⟩; have n0_ := Aside0.mk (below_step (by repeat (first | (with_reducible first | exact HB.out | apply below_alloc | apply pw_below_drewN | apply below_drew1) | exact HB.out)) hb); clear HB; have HB := n0_; clear n0_; (try clear hb); (try clear hb2); (try clear hk); (try clear hi)) | ((with_reducible refine gate_callee (f := 25) rfl ?_); refine goesL_ (some 20) rfl rfl Tryd.func25 (by kernel_rfl) rfl #[.string a0] rfl (by (try simp only [List.map_toArray, List.map_cons, List.map_nil]); first | done | rfl | (simp only [List.length_drop, List.length_take]; rfl)) ?_; (with_reducible refine (malthouseref01_Quote.calls k a0 t299 t300 _ A6.out).mono ?_); rintro e w19 ⟨rfl, hb⟩; refine ⟨_, rfl, ?_⟩; have n0_ := Aside0.mk (below_step (by repeat (first | (with_reducible first | exact HB.out | apply below_alloc | apply pw_below_drewN | apply below_drew1) | exact HB.out)) hb); clear HB; have HB := n0_; clear n0_; (try clear hb); (try clear hb2); (try clear hk); (try clear hi)) | (go_at_call 26; (with_reducible refine (lex_Name.calls a0 t301 _ ?side1 A8.out).mono ?_); (case side1 => exact Tabs.below hT (by repeat (first | (with_reducible first | exact HB.out | apply below_alloc | apply pw_below_drewN | apply below_drew1) | exact HB.out))); rintro e w20 ⟨rfl, hb⟩; have n0_ := Aside0.mk (below_step (by repeat (first | (with_reducible first | exact HB.out | apply below_alloc | apply pw_below_drewN | apply below_drew1) | exact HB.out)) hb); clear HB; have HB := n0_; clear n0_; (try clear hb); (try clear hb2); (try clear hk); (try clear hi)) | (go_at_call 27; (with_reducible refine (malthouseref01_Name.calls k a0 t302 _ A9.out).mono ?_); rintro e w21 ⟨rfl, hb⟩; have n0_ := Aside0.mk (below_step (by repeat (first | (with_reducible first | exact HB.out | apply below_alloc | apply pw_below_drewN | apply below_drew1) | exact HB.out)) hb); clear HB; have HB := n0_; clear n0_; (try clear hb); (try clear hb2); (try clear hk); (try clear hi)))
          go_ret
          exact ⟨by first | rfl | (simp [errW_none, errW_some] <;> rfl) | (simp [*, errW_none, errW_some] <;> rfl), by repeat (first | (with_reducible first | exact HB.out | apply below_alloc | apply pw_below_drewN | apply below_drew1) | exact HB.out)⟩
      · rw [if_neg c10] at H
        have c10b0 : (t301 == t302) = false := by simpa using c10
        (try (have c10b1 : decide (t301 = t302) = false := by simpa using c10))
        (try (have c10b2 : (t301 == t302) = false := by simpa using c10))
        (try (have c10b3 : ¬ (t301 = t302) := by simpa using c10))
        clear c10
        obtain rfl := Option.some.inj H
        go_enter Tryd.func10, Tryd.ntmps10
        go_wp2_with (first | ((with_reducible refine gate_callee (f := 12) rfl ?_); refine goesL_ (some 8) rfl rfl Tryd.func12 (by kernel_rfl) rfl #[] rfl (by (try simp only [List.map_toArray, List.map_cons, List.map_nil]); first | done | rfl | (simp only [List.length_drop, List.length_take]; rfl)) ?_; (with_reducible refine (malthouselaw01_awake.calls  true _ ?side1 A2.out).mono ?_); (case side1 => exact Tabs.below hT (by repeat (first | (with_reducible first | exact HB.out | apply below_alloc | apply pw_below_drewN | apply below_drew1) | exact HB.out))); rintro e w22 ⟨rfl, hb⟩; refine ⟨_, rfl, ?_⟩; have n0_ := Aside0.mk (below_step (by repeat (first | (with_reducible first | exact HB.out | apply below_alloc | apply pw_below_drewN | apply below_drew1) | exact HB.out)) hb); clear HB; have HB := n0_; clear n0_; (try clear hb); (try clear hb2); (try clear hk); (try clear hi)) | ((with_reducible refine gate_callee (f := 24) rfl ?_); refine goesL_ (some 15) rfl rfl Tryd.func24 (by kernel_rfl) rfl #[.string a0] rfl (by (try simp only [List.map_toArray, List.map_cons, List.map_nil]); first | done | rfl | (simp only [List.length_drop, List.length_take]; rfl)) ?_; (with_reducible refine (lex_Quote.calls a0 t297 t298 _ ?side1 A5.out).mono ?_); (case side1 => exact Tabs.below hT (by repeat (first | (with_reducible first | exact HB.out | apply below_alloc | apply pw_below_drewN | apply below_drew1) | exact HB.out))); rintro e w23 ⟨rfl, hb⟩; refine ⟨_, rfl, ?_⟩; have n0_ := Aside0.mk (below_step (by repeat (first | (with_reducible first | exact HB.out | apply below_alloc | apply pw_below_drewN | apply below_drew1) | exact HB.out)) hb); clear HB; have HB := n0_; clear n0_; (try clear hb); (try clear hb2); (try clear hk); (try clear hi)) | ((with_reducible refine gate_callee (f := 25) rfl ?_); refine goesL_ (some 20) rfl rfl Tryd.func25 (by kernel_rfl) rfl #[.string a0] rfl (by (try simp only [List.map_toArray, List.map_cons, List.map_nil]); first | done | rfl | (simp only [List.length_drop, List.length_take]; rfl)) ?_; (with_reducible refine (malthouseref01_Quote.calls k a0 t299 t300 _ A6.out).mono ?_); rintro e w24 ⟨rfl, hb⟩; refine ⟨_, rfl, ?_⟩; have n0_ := Aside0.mk (below_step (by repeat (first | (with_reducible first | exact HB.out | apply below_alloc | apply pw_below_drewN | apply below_drew1) | exact HB.out)) hb); clear HB; have HB := n0_; clear n0_; (try clear hb); (try clear hb2); (try clear hk); (try clear hi)) | (go_at_call 26; (with_reducible refine (lex_Name.calls a0 t301 _ ?side1 A8.out).mono ?_); (case side1 => exact Tabs.below hT (by repeat (first | (with_reducible first | exact HB.out | apply below_alloc | apply pw_below_drewN | apply below_drew1) | exact HB.out))); rintro e w25 ⟨rfl, hb⟩; have n0_ := Aside0.mk (below_step (by repeat (first | (with_reducible first | exact HB.out | apply below_alloc | apply pw_below_drewN | apply below_drew1) | exact HB.out)) hb); clear HB; have HB := n0_; clear n0_; (try clear hb); (try clear hb2); (try clear hk); (try clear hi)) | (go_at_call 27; (with_reducible refine (malthouseref01_Name.calls k a0 t302 _ A9.out).mono ?_); rintro e w26 ⟨rfl, hb⟩; have n0_ := Aside0.mk (below_step (by repeat (first | (with_reducible first | exact HB.out | apply below_alloc | apply pw_below_drewN | apply below_drew1) | exact HB.out)) hb); clear HB; have HB := n0_; clear n0_; (try clear hb); (try clear hb2); (try clear hk); (try clear hi)))
        go_ret
        exact ⟨by first | rfl | (simp [errW_none, errW_some] <;> rfl) | (simp [*, errW_none, errW_some] <;> rfl), by repeat (first | (with_reducible first | exact HB.out | apply below_alloc | apply pw_below_drewN | apply below_drew1) | exact HB.out)⟩
    · replace c7 := Bool.eq_false_iff.mpr c7
      subst c7
      have H1 : (some false) = some r := by rw [if_neg (show ¬ (false = true) by decide)] at H; exact H
      clear H
      have H := H1
      clear H1
      obtain rfl := Option.some.inj H
      go_enter Tryd.func10, Tryd.ntmps10
      go_wp2_with (first | ((with_reducible refine gate_callee (f := 12) rfl ?_); refine goesL_ (some 8) rfl rfl Tryd.func12 (by kernel_rfl) rfl #[] rfl (by (try simp only [List.map_toArray, List.map_cons, List.map_nil]); first | done | rfl | (simp only [List.length_drop, List.length_take]; rfl)) ?_; (with_reducible refine (malthouselaw01_awake.calls  false _ ?side1 A2.out).mono ?_); (case side1 => exact Tabs.below hT (by repeat (first | (with_reducible first | exact HB.out | apply below_alloc | apply pw_below_drewN | apply below_drew1) | exact HB.out))); rintro e w27 ⟨rfl, hb⟩; refine ⟨_, rfl, ?_⟩; have n0_ := Aside0.mk (below_step (by repeat (first | (with_reducible first | exact HB.out | apply below_alloc | apply pw_below_drewN | apply below_drew1) | exact HB.out)) hb); clear HB; have HB := n0_; clear n0_; (try clear hb); (try clear hb2); (try clear hk); (try clear hi)) | ((with_reducible refine gate_callee (f := 24) rfl ?_); refine goesL_ (some 15) rfl rfl Tryd.func24 (by kernel_rfl) rfl #[.string a0] rfl (by (try simp only [List.map_toArray, List.map_cons, List.map_nil]); first | done | rfl | (simp only [List.length_drop, List.length_take]; rfl)) ?_; (with_reducible refine (lex_Quote.calls a0 t297 t298 _ ?side1 A5.out).mono ?_); (case side1 => exact Tabs.below hT (by repeat (first | (with_reducible first | exact HB.out | apply below_alloc | apply pw_below_drewN | apply below_drew1) | exact HB.out))); rintro e w28 ⟨rfl, hb⟩; refine ⟨_, rfl, ?_⟩; have n0_ := Aside0.mk (below_step (by repeat (first | (with_reducible first | exact HB.out | apply below_alloc | apply pw_below_drewN | apply below_drew1) | exact HB.out)) hb); clear HB; have HB := n0_; clear n0_; (try clear hb); (try clear hb2); (try clear hk); (try clear hi)) | ((with_reducible refine gate_callee (f := 25) rfl ?_); refine goesL_ (some 20) rfl rfl Tryd.func25 (by kernel_rfl) rfl #[.string a0] rfl (by (try simp only [List.map_toArray, List.map_cons, List.map_nil]); first | done | rfl | (simp only [List.length_drop, List.length_take]; rfl)) ?_; (with_reducible refine (malthouseref01_Quote.calls k a0 t299 t300 _ A6.out).mono ?_); rintro e w29 ⟨rfl, hb⟩; refine ⟨_, rfl, ?_⟩; have n0_ := Aside0.mk (below_step (by repeat (first | (with_reducible first | exact HB.out | apply below_alloc | apply pw_below_drewN | apply below_drew1) | exact HB.out)) hb); clear HB; have HB := n0_; clear n0_; (try clear hb); (try clear hb2); (try clear hk); (try clear hi)))
      go_ret
      exact ⟨by first | rfl | (simp [errW_none, errW_some] <;> rfl) | (simp [*, errW_none, errW_some] <;> rfl), by repeat (first | (with_reducible first | exact HB.out | apply below_alloc | apply pw_below_drewN | apply below_drew1) | exact HB.out)⟩
end Go.Proofs.YtlikjknakplamaaDoor.Print
/-! ### NmPure -/
namespace Go.Proofs.YtlikjknakplamaaDoor.Print
open Go.RowKit Go.Proofs.YtlikjknakplamaaDoorW.PrintWords Go.Proofs.YtlikjknakplamaaDoorW.PrintLast Go.Proofs.YtlikjknakplamaaDoorW.PrintMore
set_option linter.unusedSimpArgs false
set_option linter.unusedVariables false
def byteAt (s : ByteArray) (i : Nat) : Nat := (s.get! i).toNat
theorem byteAt_lt (s : ByteArray) (i : Nat) : byteAt s i < 256 := (s.get! i).toNat_lt
theorem bt_byteAt (s : ByteArray) (i : Nat) (h : i < s.size) : bt s (i : Int) = byteAt s i := by
  unfold bt byteAt
  have e : s.get! i = s[i]'h := by have := get_at s i h; simpa using this
  rw [Int.toNat_natCast, dif_pos h, e]
theorem wrap_small (x : Int) (h0 : -9223372036854775808 ≤ x) (h1 : x ≤ 9223372036854775807) : wrap64 x = x := by unfold wrap64; omega
theorem rune_step (s : ByteArray) (i j m : Nat) (x6 n least : Int) (hs : s.size ≤ 140737488351232) (hj : (j : Int) < n) (hlt : i + j < s.size) (hx0 : 0 ≤ x6) (hx1 : x6 ≤ 2000000) :
    malthouseref01_Rune.l0 (m + 1) s i x6 n least j = if 128 ≤ byteAt s (i + j) ∧ byteAt s (i + j) < 192 then malthouseref01_Rune.l0 m s i (64 * x6 + byteAt s (i + j) - 128) n least ((j + 1 : Nat) : Int) else some (0, 0) := by
  have hb := byteAt_lt s (i + j)
  have e1 : wrap64 ((i : Int) + j) = ((i + j : Nat) : Int) := by rw [wrap_small _ (by omega) (by omega)]; omega
  have e2 := bt_byteAt s (i + j) hlt
  simp only [malthouseref01_Rune.l0]
  rw [if_pos hj, e1, if_pos (by omega), if_pos (by omega), e2, wrap_small (byteAt s (i + j) : Int) (by omega) (by omega), wrap_small (64 * x6) (by omega) (by omega), wrap_small (64 * x6 + (byteAt s (i + j) : Int)) (by omega) (by omega), wrap_small (64 * x6 + (byteAt s (i + j) : Int) - 128) (by omega) (by omega), wrap_small ((j : Int) + 1) (by omega) (by omega)]
  by_cases h1 : byteAt s (i + j) < 128
  · rw [if_pos (by omega), if_neg (by omega)]
  · rw [if_neg (by omega)]
    by_cases h2 : 192 ≤ byteAt s (i + j)
    · rw [if_pos (by omega), if_neg (by omega)]
    · rw [if_neg (by omega), if_pos (by omega)]
      rfl
theorem rune_end (s : ByteArray) (i : Int) (j : Int) (m : Nat) (x6 n least : Int) (hj : ¬ j < n) :
    malthouseref01_Rune.l0 (m + 1) s i x6 n least j = if least ≤ x6 ∧ x6 ≤ 1114111 ∧ (x6 < 55296 ∨ 57343 < x6) then some (x6, n) else some (0, 0) := by
  simp only [malthouseref01_Rune.l0]
  rw [if_neg hj]
  by_cases h1 : x6 < least
  · rw [if_pos h1, if_neg (by omega)]
  · rw [if_neg h1]
    by_cases h2 : x6 > 1114111
    · rw [if_pos h2, if_neg (by omega)]
    · rw [if_neg h2]
      by_cases h3 : x6 ≥ 55296
      · rw [if_pos h3]
        by_cases h4 : x6 ≤ 57343
        · rw [if_pos h4, if_neg (by omega)]
        · rw [if_neg h4, if_pos (by omega)]
      · rw [if_neg h3, if_pos (by omega)]
theorem rune_begin (s : ByteArray) (i m : Nat) (x6 n least : Int) (hs : s.size ≤ 140737488351232) (hi : i < s.size) :
    malthouseref01_Rune.j2 (m + 1) s i x6 n least = if n ≤ ((s.size - i : Nat) : Int) then malthouseref01_Rune.l0 m s i x6 n least 1 else some (0, 0) := by
  simp only [malthouseref01_Rune.j2]
  rw [wrap_small ((s.size : Int) - i) (by omega) (by omega)]
  by_cases h : n > (s.size : Int) - i
  · rw [if_pos h, if_neg (by omega)]
  · rw [if_neg h, if_pos (by omega)]
/-- What the reference's Rune answers. -/
def runeR (d : Nat × Nat) (b0 : Nat) : Int × Int := if 128 ≤ b0 ∧ d = (65533, 1) then (0, 0) else ((d.1 : Int), (d.2 : Int))
set_option maxHeartbeats 4000000 in
set_option maxRecDepth 100000 in
theorem rune_is (s : ByteArray) (i k : Nat) (hs : s.size ≤ 140737488351232) (hi : i < s.size) : malthouseref01_Rune.f (k + 8) s (i : Int) = some (runeR (Utf8.decode s i) (byteAt s i)) := by
  have h0 := byteAt_lt s i
  have h1 := byteAt_lt s (i + 1)
  have h2 := byteAt_lt s (i + 2)
  have h3 := byteAt_lt s (i + 3)
  have e0 := bt_byteAt s i hi
  rw [Lib.decode_at]
  show _ = some (runeR (Lib.decodeN (s.size - i) (byteAt s i) (byteAt s (i + 1)) (byteAt s (i + 2)) (byteAt s (i + 3))) (byteAt s i))
  unfold malthouseref01_Rune.f
  rw [if_pos (by omega), if_pos (by omega), e0, wrap_small (byteAt s i : Int) (by omega) (by omega)]
  have r2 := fun m x6 n least (hn : 1 < n) (hl : i + 1 < s.size) (a : 0 ≤ x6) (b : x6 ≤ 2000000) => rune_step s i 1 m x6 n least hs hn hl a b
  have r3 := fun m x6 n least (hn : 2 < n) (hl : i + 2 < s.size) (a : 0 ≤ x6) (b : x6 ≤ 2000000) => rune_step s i 2 m x6 n least hs hn hl a b
  have r4 := fun m x6 n least (hn : 3 < n) (hl : i + 3 < s.size) (a : 0 ≤ x6) (b : x6 ≤ 2000000) => rune_step s i 3 m x6 n least hs hn hl a b
  have rb := fun m x6 n least => rune_begin s i m x6 n least hs hi
  generalize hN : s.size - i = N at *
  generalize byteAt s i = b0 at *
  generalize byteAt s (i + 1) = b1 at *
  generalize byteAt s (i + 2) = b2 at *
  generalize byteAt s (i + 3) = b3 at *
  by_cases c0 : b0 < 128
  · rw [if_pos (by omega)]
    unfold runeR Lib.decodeN
    rw [if_neg (by omega), if_pos c0]
    rfl
  rw [if_neg (by omega)]
  by_cases c1 : b0 < 192
  · rw [if_neg (by omega)]
    simp only [malthouseref01_Rune.j0, malthouseref01_Rune.j1]
    rw [if_neg (by simp), if_neg (by omega), if_neg (by simp), if_neg (by omega)]
    unfold Lib.decodeN
    rw [if_neg (by omega), if_neg (by omega), if_neg (by omega), if_neg (by omega)]
    unfold runeR
    rw [if_pos ⟨by omega, rfl⟩]
  rw [if_pos (by omega)]
  simp only [malthouseref01_Rune.j0, malthouseref01_Rune.j1, decide_eq_true_eq]
  have fin : ∀ (x : Nat) (w : Nat), (x, w) ≠ (65533, 1) → some ((x : Int), (w : Int)) = some (runeR (x, w) b0) := fun x w h => by
    unfold runeR
    rw [if_neg (fun hh => h hh.2)]
  have bad : some ((0 : Int), (0 : Int)) = some (runeR (65533, 1) b0) := by
    unfold runeR
    rw [if_pos ⟨by omega, rfl⟩]
  by_cases c2 : b0 < 224
  · rw [if_pos (by omega), wrap_small _ (by omega) (by omega), rb]
    by_cases d1 : 1 < N
    · rw [if_pos (by omega), show ((1 : Int)) = ((1 : Nat) : Int) from rfl, r2 _ _ _ _ (by omega) (by omega) (by omega) (by omega)]
      by_cases d2 : 128 ≤ b1 ∧ b1 < 192
      · rw [if_pos d2]
        unfold Lib.decodeN
        rw [if_neg (by omega), if_pos (by omega)]
        by_cases d3 : b0 % 32 * 64 + b1 % 64 ≥ 128
        · rw [if_pos d3, rune_end _ _ _ _ _ _ _ (by omega), if_pos (by omega), ← fin _ _ (by simp)]
          congr 2; omega
        · rw [if_neg d3, rune_end _ _ _ _ _ _ _ (by omega), if_neg (by omega)]; exact bad
      · rw [if_neg d2]
        unfold Lib.decodeN
        rw [if_neg (by omega), if_neg (by omega), if_neg (by omega), if_neg (by omega)]; exact bad
    · rw [if_neg (by omega)]
      unfold Lib.decodeN
      rw [if_neg (by omega), if_neg (by omega), if_neg (by omega), if_neg (by omega)]; exact bad
  rw [if_neg (by omega), if_pos (by omega)]
  by_cases c3 : b0 < 240
  · rw [if_pos (by omega), wrap_small _ (by omega) (by omega), rb]
    by_cases d1 : 2 < N
    · rw [if_pos (by omega), show ((1 : Int)) = ((1 : Nat) : Int) from rfl, r2 _ _ _ _ (by omega) (by omega) (by omega) (by omega)]
      by_cases d2 : 128 ≤ b1 ∧ b1 < 192
      · rw [if_pos d2, show 1 + 1 = 2 from rfl, r3 _ _ _ _ (by omega) (by omega) (by omega) (by omega)]
        by_cases d3 : 128 ≤ b2 ∧ b2 < 192
        · rw [if_pos d3]
          unfold Lib.decodeN
          rw [if_neg (by omega), if_neg (by omega), if_pos (by omega)]
          by_cases d4 : b0 % 16 * 4096 + b1 % 64 * 64 + b2 % 64 ≥ 2048 ∧ (b0 % 16 * 4096 + b1 % 64 * 64 + b2 % 64 < 55296 ∨ (57344 ≤ b0 % 16 * 4096 + b1 % 64 * 64 + b2 % 64 ∧ b0 % 16 * 4096 + b1 % 64 * 64 + b2 % 64 ≤ 1114111))
          · rw [if_pos d4, rune_end _ _ _ _ _ _ _ (by omega), if_pos (by omega), ← fin _ _ (by simp)]
            congr 2; omega
          · rw [if_neg d4, rune_end _ _ _ _ _ _ _ (by omega), if_neg (by omega)]; exact bad
        · rw [if_neg d3]
          unfold Lib.decodeN
          rw [if_neg (by omega), if_neg (by omega), if_neg (by omega), if_neg (by omega)]; exact bad
      · rw [if_neg d2]
        unfold Lib.decodeN
        rw [if_neg (by omega), if_neg (by omega), if_neg (by omega), if_neg (by omega)]; exact bad
    · rw [if_neg (by omega)]
      unfold Lib.decodeN
      rw [if_neg (by omega), if_neg (by omega), if_neg (by omega), if_neg (by omega)]; exact bad
  rw [if_neg (by omega), if_pos (by omega)]
  by_cases c4 : b0 < 248
  · rw [if_pos (by omega), wrap_small _ (by omega) (by omega), rb]
    by_cases d1 : 3 < N
    · rw [if_pos (by omega), show ((1 : Int)) = ((1 : Nat) : Int) from rfl, r2 _ _ _ _ (by omega) (by omega) (by omega) (by omega)]
      by_cases d2 : 128 ≤ b1 ∧ b1 < 192
      · rw [if_pos d2, show 1 + 1 = 2 from rfl, r3 _ _ _ _ (by omega) (by omega) (by omega) (by omega)]
        by_cases d3 : 128 ≤ b2 ∧ b2 < 192
        · rw [if_pos d3, show 2 + 1 = 3 from rfl, r4 _ _ _ _ (by omega) (by omega) (by omega) (by omega)]
          by_cases d5 : 128 ≤ b3 ∧ b3 < 192
          · rw [if_pos d5]
            unfold Lib.decodeN
            rw [if_neg (by omega), if_neg (by omega), if_neg (by omega), if_pos (by omega)]
            by_cases d4 : b0 % 8 * 262144 + b1 % 64 * 4096 + b2 % 64 * 64 + b3 % 64 ≥ 65536 ∧ (b0 % 8 * 262144 + b1 % 64 * 4096 + b2 % 64 * 64 + b3 % 64 < 55296 ∨ (57344 ≤ b0 % 8 * 262144 + b1 % 64 * 4096 + b2 % 64 * 64 + b3 % 64 ∧ b0 % 8 * 262144 + b1 % 64 * 4096 + b2 % 64 * 64 + b3 % 64 ≤ 1114111))
            · rw [if_pos d4, rune_end _ _ _ _ _ _ _ (by omega), if_pos (by omega), ← fin _ _ (by simp)]
              congr 2; omega
            · rw [if_neg d4, rune_end _ _ _ _ _ _ _ (by omega), if_neg (by omega)]; exact bad
          · rw [if_neg d5]
            unfold Lib.decodeN
            rw [if_neg (by omega), if_neg (by omega), if_neg (by omega), if_neg (by omega)]; exact bad
        · rw [if_neg d3]
          unfold Lib.decodeN
          rw [if_neg (by omega), if_neg (by omega), if_neg (by omega), if_neg (by omega)]; exact bad
      · rw [if_neg d2]
        unfold Lib.decodeN
        rw [if_neg (by omega), if_neg (by omega), if_neg (by omega), if_neg (by omega)]; exact bad
    · rw [if_neg (by omega)]
      unfold Lib.decodeN
      rw [if_neg (by omega), if_neg (by omega), if_neg (by omega), if_neg (by omega)]; exact bad
  · rw [if_neg (by omega)]
    unfold Lib.decodeN
    rw [if_neg (by omega), if_neg (by omega), if_neg (by omega), if_neg (by omega)]; exact bad
/-- A text's runes from a place on, where each begins, is there no bad byte. -/
def runesFrom (s : ByteArray) : Nat → Nat → List Int × List Int × Bool
  | 0, _ => ([], [(s.size : Int)], true)
  | f + 1, p => if p < s.size then
      (if (Utf8.decode s p).1 = 65533 ∧ (Utf8.decode s p).2 = 1 then ([], [], false)
       else (((Utf8.decode s p).1 : Int) :: (runesFrom s f (p + (Utf8.decode s p).2)).1, (p : Int) :: (runesFrom s f (p + (Utf8.decode s p).2)).2.1, (runesFrom s f (p + (Utf8.decode s p).2)).2.2)) else ([], [(s.size : Int)], true)
theorem decode_small (s : ByteArray) (p : Nat) (h : byteAt s p < 128) : Utf8.decode s p = (byteAt s p, 1) := by
  rw [Lib.decode_at]
  unfold Lib.decodeN
  rw [if_pos (by exact h)]
  rfl
theorem runeR_good (s : ByteArray) (p : Nat) (h : ¬ ((Utf8.decode s p).1 = 65533 ∧ (Utf8.decode s p).2 = 1)) : runeR (Utf8.decode s p) (byteAt s p) = (((Utf8.decode s p).1 : Int), ((Utf8.decode s p).2 : Int)) := by
  unfold runeR
  rw [if_neg]
  rintro ⟨_, h2⟩
  exact h (by rw [h2]; exact ⟨rfl, rfl⟩)
theorem runeR_bad (s : ByteArray) (p : Nat) (h : (Utf8.decode s p).1 = 65533 ∧ (Utf8.decode s p).2 = 1) : runeR (Utf8.decode s p) (byteAt s p) = (0, 0) := by
  unfold runeR
  rw [if_pos]
  refine ⟨?_, Prod.ext h.1 h.2⟩
  rcases Nat.lt_or_ge (byteAt s p) 128 with hb | hb
  · rw [decode_small s p hb] at h
    have := h.1
    simp only at this
    omega
  · exact hb
theorem decode_width (s : ByteArray) (p : Nat) (h : p < s.size) : 1 ≤ (Utf8.decode s p).2 ∧ p + (Utf8.decode s p).2 ≤ s.size ∧ (Utf8.decode s p).2 ≤ 4 := by
  rw [Lib.decode_at]
  unfold Lib.decodeN
  repeat' split
  all_goals (simp only; omega)
set_option maxRecDepth 100000 in
theorem runes_loop (s S : ByteArray) (hs : s.size ≤ 1000000000) : ∀ (f p k : Nat) (rs qs : List Int), s.size ≤ p + f → p ≤ s.size → rs.length ≤ p → qs.length ≤ p →
    malthouseref01_Runes.l0 (k + f + 9) s (p : Int) S rs qs = some (S, rs ++ (runesFrom s f p).1, qs ++ (runesFrom s f p).2.1, (runesFrom s f p).2.2) := by
  intro f
  induction f with
  | zero =>
    intro p k rs qs h1 h2 h3 h4
    have e : k + 0 + 9 = (k + 8) + 1 := by omega
    rw [e]
    generalize k + 8 = K
    simp only [malthouseref01_Runes.l0, runesFrom]
    rw [if_neg (by omega), if_pos (by omega)]
    simp
  | succ f ih =>
    intro p k rs qs h1 h2 h3 h4
    have e : k + (f + 1) + 9 = (k + f + 9) + 1 := by omega
    rw [e]
    have ih' := fun p rs qs => ih p k rs qs
    have hrune := rune_is s p (k + f + 1) (by omega)
    rw [show k + f + 1 + 8 = k + f + 9 by omega] at hrune
    clear ih e
    generalize k + f + 9 = K at *
    by_cases hp : p < s.size
    · simp only [malthouseref01_Runes.l0, runesFrom]
      rw [if_pos (by omega), hrune hp]
      simp only [Option.bind_some]
      obtain ⟨w1, w2, w3⟩ := decode_width s p hp
      rw [if_pos hp]
      by_cases hb : (Utf8.decode s p).1 = 65533 ∧ (Utf8.decode s p).2 = 1
      · rw [runeR_bad s p hb, if_pos rfl, if_pos hb]
        simp
      · rw [runeR_good s p hb, if_neg hb]
        simp only
        rw [if_neg (by omega), if_pos (by omega), if_pos (by omega), wrap_small _ (by omega) (by omega)]
        have := ih' (p + (Utf8.decode s p).2) (rs ++ [((Utf8.decode s p).1 : Int)]) (qs ++ [(p : Int)]) (by omega) w2 (by simp; omega) (by simp; omega)
        rw [show (p : Int) + ((Utf8.decode s p).2 : Int) = ((p + (Utf8.decode s p).2 : Nat) : Int) by omega, this]
        simp
    · simp only [malthouseref01_Runes.l0, runesFrom]
      rw [if_neg (by omega), if_pos (by omega), if_neg hp]
      simp
theorem runes_is (s : ByteArray) (hs : s.size ≤ 1000000000) (k : Nat) : malthouseref01_Runes.f (k + s.size + 9) s = some (s, (runesFrom s s.size 0).1, (runesFrom s s.size 0).2.1, (runesFrom s s.size 0).2.2) := by
  have := runes_loop s s hs s.size 0 k [] [] (by omega) (by omega) (by simp) (by simp)
  simpa [malthouseref01_Runes.f] using this
theorem valid_from (s : ByteArray) : ∀ (f p : Nat), s.size ≤ p + f → p ≤ s.size → (runesFrom s f p).2.2 = Lib.validD (s.data.toList.drop p) := by
  have hsz : s.data.toList.length = s.size := by rw [Array.length_toList]; rfl
  intro f
  induction f with
  | zero =>
    intro p h1 h2
    rw [List.drop_eq_nil_of_le (by omega)]
    rfl
  | succ f ih =>
    intro p h1 h2
    simp only [runesFrom]
    by_cases hp : p < s.size
    · rw [if_pos hp]
      have hne : s.data.toList.drop p ≠ [] := by
        intro h
        have := congrArg List.length h
        rw [List.length_drop] at this
        simp at this
        omega
      rw [Lib.validD_step _ hne, Lib.decodeL_drop]
      obtain ⟨w1, w2, w3⟩ := decode_width s p hp
      by_cases hb : (Utf8.decode s p).1 = 65533 ∧ (Utf8.decode s p).2 = 1
      · rw [if_pos hb, if_pos hb]
      · rw [if_neg hb, if_neg hb]
        simp only
        rw [ih _ (by omega) w2, List.drop_drop]
    · rw [if_neg hp, List.drop_eq_nil_of_le (by omega)]
      rfl
theorem count_from (s : ByteArray) : ∀ (f p : Nat), s.size ≤ p + f → p ≤ s.size → (runesFrom s f p).2.2 = true → (runesFrom s f p).1.length = Lib.runeCountFrom s f p := by
  intro f
  induction f with
  | zero => intro p _ _ _; rfl
  | succ f ih =>
    intro p h1 h2 h3
    simp only [runesFrom, Lib.runeCountFrom] at h3 ⊢
    by_cases hp : p < s.size
    · rw [if_pos hp] at h3 ⊢
      rw [if_pos hp]
      obtain ⟨w1, w2, w3⟩ := decode_width s p hp
      by_cases hb : (Utf8.decode s p).1 = 65533 ∧ (Utf8.decode s p).2 = 1
      · rw [if_pos hb] at h3; cases h3
      · rw [if_neg hb] at h3 ⊢
        simp only at h3 ⊢
        rw [List.length_cons, ih _ (by omega) w2 h3]
        omega
    · rw [if_neg hp, if_neg hp]; rfl
theorem wordy_from (s : ByteArray) : ∀ (f p : Nat), s.size ≤ p + f → p ≤ s.size → (runesFrom s f p).2.2 = true → (runesFrom s f p).1.all wordyZ = wordyFrom s f p := by
  intro f
  induction f with
  | zero => intro p _ _ _; rfl
  | succ f ih =>
    intro p h1 h2 h3
    simp only [runesFrom, wordyFrom] at h3 ⊢
    by_cases hp : p < s.size
    · rw [if_pos hp] at h3 ⊢
      rw [if_pos hp]
      obtain ⟨w1, w2, w3⟩ := decode_width s p hp
      by_cases hb : (Utf8.decode s p).1 = 65533 ∧ (Utf8.decode s p).2 = 1
      · rw [if_pos hb] at h3; cases h3
      · rw [if_neg hb] at h3 ⊢
        simp only at h3 ⊢
        rw [List.all_cons, ih _ (by omega) w2 h3]
    · rw [if_neg hp, if_neg hp]; rfl
/-- Is a text a name? -/
def nameB (s : ByteArray) : Bool := Lib.validD s.data.toList && wordyB s && (decide (byteAt s 0 < 48) || decide (57 < byteAt s 0)) && decide (Lib.runeCount s ≤ 12)
theorem lex_name_is (s : ByteArray) (hs : s.size ≤ 1000000000) : lex_Name.f s = some (nameB s) := by
  have hcount : utf8_RuneCountInString.f s = some (Lib.runeCount s : Int) := if_pos (by omega)
  have hvalid : utf8_ValidString.f s = some (Lib.validD s.data.toList) := if_pos (by omega)
  unfold lex_Name.f nameB lex_wordy.f
  rw [hvalid, hcount]
  simp only [Option.bind_some]
  by_cases h1 : Lib.validD s.data.toList = true
  · rw [if_pos h1, h1]
    by_cases h2 : wordyB s = true
    · rw [if_pos h2, h2]
      have hpos : 0 < s.size := by
        have := h2
        unfold wordyB at this
        simp at this
        exact this.2
      rw [if_pos (by omega), show (0 : Int) = ((0 : Nat) : Int) from rfl, bt_byteAt s 0 hpos]
      simp only [Bool.true_and]
      by_cases h3 : byteAt s 0 < 48
      · rw [if_pos (by omega)]
        simp [h3]
        norm_cast
      · rw [if_neg (by omega)]
        by_cases h4 : 57 < byteAt s 0
        · rw [if_pos (by omega)]
          simp [h3, h4]
          norm_cast
        · rw [if_neg (by omega)]
          simp [h3, h4]
    · rw [if_neg h2]
      simp [h2]
  · rw [if_neg h1]
    simp [h1]
theorem wordy_is (r : Int) : malthouseref01_wordy.f r = some (wordyZ r) := by
  unfold malthouseref01_wordy.f malthouseref01_Class.f wordyZ
  simp only [Option.bind_some]
  by_cases h : classZ r = 2
  · rw [if_pos h, h]; rfl
  · rw [if_neg h]
    simp [h]
theorem name_loop (S : ByteArray) (rs qs : List Int) (hl : rs.length ≤ 1000000000) : ∀ (f i k : Nat), rs.length ≤ i + f → i ≤ rs.length → malthouseref01_Name.l0 (k + f + 1) (i : Int) S rs qs = some ((rs.drop i).all wordyZ) := by
  intro f
  induction f with
  | zero =>
    intro i k h1 h2
    simp only [malthouseref01_Name.l0]
    rw [if_neg (by omega), List.drop_eq_nil_of_le (by omega)]
    rfl
  | succ f ih =>
    intro i k h1 h2
    rw [show k + (f + 1) + 1 = (k + f + 1) + 1 by omega]
    have ih' := fun i => ih i k
    clear ih
    generalize k + f + 1 = K at *
    simp only [malthouseref01_Name.l0]
    by_cases hi : i < rs.length
    · rw [if_pos (by omega), if_pos (by omega), wordy_is, List.drop_eq_getElem_cons hi]
      simp only [Option.bind_some]
      have e : rd rs (i : Int) = rs[i] := getD_at rs 0 i hi
      rw [e, List.all_cons]
      cases h : wordyZ rs[i]
      · rw [if_neg (by simp)]; rfl
      · rw [if_pos rfl, wrap_small _ (by omega) (by omega)]
        have := ih' (i + 1) (by omega) (by omega)
        rw [show (i : Int) + 1 = ((i + 1 : Nat) : Int) by omega, this]
        rfl
    · rw [if_neg (by omega), List.drop_eq_nil_of_le (by omega)]
      rfl
theorem ref_name_is (s : ByteArray) (hs : s.size ≤ 1000000000) (k : Nat) : malthouseref01_Name.f (k + s.size + 20) s = some (nameB s) := by
  unfold malthouseref01_Name.f
  rw [show k + s.size + 20 = (k + 11) + s.size + 9 by omega, runes_is s hs]
  simp only [Option.bind_some]
  have hv := valid_from s s.size 0 (by omega) (by omega)
  rw [List.drop_zero] at hv
  unfold nameB
  rw [← hv]
  cases hok : (runesFrom s s.size 0).2.2 with
  | false =>
    rw [if_neg (by simp)]
    rw [show k + 11 + s.size + 9 = (k + s.size + 19) + 1 by omega]
    simp only [malthouseref01_Name.j0]
    simp
  | true =>
    have hc := count_from s s.size 0 (by omega) (by omega) hok
    have hw := wordy_from s s.size 0 (by omega) (by omega) hok
    have hle := Lib.runeCount_le s
    have hrc : Lib.runeCount s = (runesFrom s s.size 0).1.length := hc.symm
    have hwb : wordyB s = ((runesFrom s s.size 0).1.all wordyZ && decide (0 < s.size)) := by unfold wordyB; rw [hw]
    rw [if_pos rfl, hrc, hwb]
    have hfirst : 0 < s.size → ∃ l, (runesFrom s s.size 0).1 = ((Utf8.decode s 0).1 : Int) :: l := by
      intro hp
      obtain ⟨m, hm⟩ : ∃ m, s.size = m + 1 := ⟨s.size - 1, by omega⟩
      rw [hm] at hok ⊢
      simp only [runesFrom] at hok ⊢
      rw [if_pos hp] at hok ⊢
      split at hok
      · cases hok
      · rename_i hb
        rw [if_neg hb]
        exact ⟨_, rfl⟩
    have hempty : ¬ 0 < s.size → (runesFrom s s.size 0).1 = [] := by
      intro hp
      rw [show s.size = 0 by omega]
      rfl
    rw [hrc] at hle
    generalize (runesFrom s s.size 0).1 = rs at *
    generalize (runesFrom s s.size 0).2.1 = qs at *
    have hj := name_loop s rs qs (by omega) rs.length 0 (k + 19 + (s.size - rs.length) - 1) (by omega) (by omega)
    rw [show k + 19 + (s.size - rs.length) - 1 + rs.length + 1 = k + s.size + 19 by omega, List.drop_zero] at hj
    have hjt : malthouseref01_Name.j0 (k + 11 + s.size + 9) true s rs qs = some false := by
      rw [show k + 11 + s.size + 9 = (k + s.size + 19) + 1 by omega]
      simp only [malthouseref01_Name.j0]
      simp
    have hjf : malthouseref01_Name.j0 (k + 11 + s.size + 9) false s rs qs = some (rs.all wordyZ) := by
      rw [show k + 11 + s.size + 9 = (k + s.size + 19) + 1 by omega]
      simp only [malthouseref01_Name.j0]
      rw [if_neg (by simp)]
      exact hj
    by_cases hz : rs.length = 0
    · rw [if_pos (by omega), hjt]
      have hp : ¬ 0 < s.size := by
        intro hp
        obtain ⟨l, hl⟩ := hfirst hp
        rw [hl] at hz
        simp at hz
      simp [hp]
    · rw [if_neg (by omega)]
      by_cases h12 : rs.length ≤ 12
      · rw [if_neg (by omega), if_pos (by omega)]
        have hp : 0 < s.size := by
          rcases Nat.lt_or_ge 0 s.size with h | h
          · exact h
          · exact absurd (by rw [hempty (by omega)]; rfl) hz
        obtain ⟨l, hl⟩ := hfirst hp
        have e : rd rs 0 = ((Utf8.decode s 0).1 : Int) := by rw [hl]; rfl
        rw [e]
        unfold malthouseref01_Class.f
        simp only [Option.bind_some]
        have hall : rs.all wordyZ = (wordyZ (Utf8.decode s 0).1 && l.all wordyZ) := by rw [hl]; rfl
        -- the first rune is a letter just where it is a letter or digit and no digit
        have hd : (classZ (Utf8.decode s 0).1 != 2) = (!wordyZ (Utf8.decode s 0).1 || !(decide (byteAt s 0 < 48) || decide (57 < byteAt s 0))) := by
          have hcl : ∀ r : Int, classZ r = 3 ↔ 48 ≤ r ∧ r ≤ 57 := by
            intro r
            unfold classZ
            constructor
            · intro h
              repeat' split at h
              all_goals omega
            · rintro ⟨a, b⟩
              rw [if_neg (by omega), if_neg (by omega), if_neg (by omega), if_pos ⟨a, b⟩]
          rcases Nat.lt_or_ge (byteAt s 0) 128 with hb | hb
          · rw [decode_small s 0 hb]
            simp only
            have h3 := hcl (byteAt s 0)
            unfold wordyZ
            by_cases d2 : classZ (byteAt s 0) = 2
            · have : ¬ (48 ≤ (byteAt s 0 : Int) ∧ (byteAt s 0 : Int) ≤ 57) := by rw [← h3]; omega
              simp [d2]
              omega
            · by_cases d3 : classZ (byteAt s 0) = 3
              · have := h3.1 d3
                simp [d3]
                omega
              · have b2 : (classZ (byteAt s 0) == 2) = false := by simpa using d2
                have b3 : (classZ (byteAt s 0) == 3) = false := by simpa using d3
                have b4 : (classZ (byteAt s 0) != 2) = true := by simpa using d2
                rw [b2, b3, b4]
                rfl
          · have hge : 128 ≤ (Utf8.decode s 0).1 := by
              rw [Lib.decode_at]
              have h0 := byteAt_lt s 0
              unfold byteAt at hb h0
              unfold Lib.decodeN
              repeat' split
              all_goals (simp only; omega)
            have h3 := hcl ((Utf8.decode s 0).1 : Int)
            have n3 : classZ ((Utf8.decode s 0).1 : Int) ≠ 3 := by rw [ne_eq, h3]; omega
            unfold wordyZ
            by_cases d2 : classZ ((Utf8.decode s 0).1 : Int) = 2
            · simp [d2]; omega
            · have b2 : (classZ ((Utf8.decode s 0).1 : Int) == 2) = false := by simpa using d2
              have b3 : (classZ ((Utf8.decode s 0).1 : Int) == 3) = false := by simpa using n3
              have b4 : (classZ ((Utf8.decode s 0).1 : Int) != 2) = true := by simpa using d2
              rw [b2, b3, b4]
              rfl
        rw [hd]
        have hdp : decide (0 < s.size) = true := decide_eq_true hp
        have hd12 : decide (rs.length ≤ 12) = true := decide_eq_true h12
        rw [hdp, hd12, Bool.and_true, Bool.and_true, Bool.true_and]
        cases hw1 : wordyZ (Utf8.decode s 0).1
        · rw [hall, hw1]; simp [hjt]
        · cases hx : (decide (byteAt s 0 < 48) || decide (57 < byteAt s 0))
          · simp [hjt]
          · simp [hjf]
      · rw [if_pos (by omega), hjt]
        have : decide (rs.length ≤ 12) = false := decide_eq_false h12
        rw [this]
        simp
end Go.Proofs.YtlikjknakplamaaDoor.Print
/-! ### LxLaw2 -/
namespace Go.Proofs.YtlikjknakplamaaDoor.Print
open Go.RowKit Go.Proofs.YtlikjknakplamaaDoorW.PrintWords Go.Proofs.YtlikjknakplamaaDoorW.PrintLast Go.Proofs.YtlikjknakplamaaDoorW.PrintMore
set_option linter.unusedSimpArgs false
set_option linter.unusedVariables false
def oddR (r : Int) : Bool := decide (r < 32) || decide (r = 34)
theorem odd_from (s : ByteArray) : ∀ (f p : Nat), s.size ≤ p + f → p ≤ s.size → (runesFrom s f p).2.2 = true → (runesFrom s f p).1.any oddR = oddFrom s f p := by
  intro f
  induction f with
  | zero => intro p _ _ _; rfl
  | succ f ih =>
    intro p h1 h2 h3
    simp only [runesFrom, oddFrom] at h3 ⊢
    by_cases hp : p < s.size
    · rw [if_pos hp] at h3 ⊢
      rw [if_pos hp]
      obtain ⟨w1, w2, w3⟩ := decode_width s p hp
      by_cases hb : (Utf8.decode s p).1 = 65533 ∧ (Utf8.decode s p).2 = 1
      · rw [if_pos hb] at h3; cases h3
      · rw [if_neg hb] at h3 ⊢
        simp only at h3 ⊢
        rw [List.any_cons, ih _ (by omega) w2 h3]
        unfold oddR
        congr 2
        · simp; omega
        · simp; omega
    · rw [if_neg hp, if_neg hp]; rfl
theorem quote_loop (s S : ByteArray) (rs qs : List Int) (hs : s.size ≤ 1000000000) (hl : rs.length ≤ 1000000000) : ∀ (f i k : Nat), rs.length ≤ i + f → i ≤ rs.length → f < k →
    malthouseref01_Quote.l0 k s (i : Int) S rs qs = some (if (rs.drop i).any oddR = true then (⟨#[]⟩, false) else ((⟨#[34]⟩ : ByteArray) ++ s ++ (⟨#[34]⟩ : ByteArray), true)) := by
  have e1 : (⟨#[34]⟩ : ByteArray).size = 1 := rfl
  have fin : ∀ k : Nat, malthouseref01_Quote.l0 (k + 1) s ((rs.length : Nat) : Int) S rs qs = some ((⟨#[34]⟩ : ByteArray) ++ s ++ (⟨#[34]⟩ : ByteArray), true) := by
    intro k
    rw [malthouseref01_Quote.l0, if_neg (by omega), if_pos (by omega), if_pos (by rw [ByteArray.size_append, e1]; omega)]
  intro f
  induction f with
  | zero =>
    intro i k h1 h2 hk
    obtain ⟨k, rfl⟩ : ∃ m, k = m + 1 := ⟨k - 1, by omega⟩
    obtain rfl : i = rs.length := by omega
    rw [fin k, List.drop_eq_nil_of_le (by omega)]
    rfl
  | succ f ih =>
    intro i k h1 h2 hk
    obtain ⟨k, rfl⟩ : ∃ m, k = m + 1 := ⟨k - 1, by omega⟩
    by_cases hi : i < rs.length
    · have e : rd rs (i : Int) = rs[i] := getD_at rs 0 i hi
      rw [malthouseref01_Quote.l0, if_pos (by omega), if_pos (by omega), e, List.drop_eq_getElem_cons hi, List.any_cons, wrap_small _ (by omega) (by omega), show (i : Int) + 1 = ((i + 1 : Nat) : Int) by omega, ih (i + 1) k (by omega) (by omega) (by omega)]
      by_cases h3 : rs[i] < 32
      · rw [if_pos h3, if_pos (by unfold oddR; simp [h3])]
      · rw [if_neg h3]
        by_cases h4 : rs[i] = 34
        · rw [if_pos h4, if_pos (by unfold oddR; simp [h4])]
        · rw [if_neg h4, show oddR rs[i] = false by unfold oddR; simp [h3, h4], Bool.false_or]
    · obtain rfl : i = rs.length := by omega
      rw [fin k, List.drop_eq_nil_of_le (by omega)]
      rfl
theorem ref_quote_is (s : ByteArray) (hs : s.size ≤ 1000000000) (k : Nat) (hk : s.size + 20 ≤ k) : malthouseref01_Quote.f k s = some (quoteZ s) := by
  have hr := runes_is s hs (k - s.size - 9)
  rw [show k - s.size - 9 + s.size + 9 = k by omega] at hr
  unfold malthouseref01_Quote.f
  rw [hr]
  simp only [Option.bind_some]
  have hv := valid_from s s.size 0 (by omega) (by omega)
  rw [List.drop_zero] at hv
  obtain ⟨k, rfl⟩ : ∃ m, k = m + 1 := ⟨k - 1, by omega⟩
  unfold quoteZ
  rw [← hv]
  cases hok : (runesFrom s s.size 0).2.2 with
  | false =>
    rw [if_neg (by simp), malthouseref01_Quote.j0, if_pos rfl]
    simp
  | true =>
    have hc := count_from s s.size 0 (by omega) (by omega) hok
    have ho := odd_from s s.size 0 (by omega) (by omega) hok
    have hle := Lib.runeCount_le s
    have hrc : (runesFrom s s.size 0).1.length = Lib.runeCount s := hc
    have e20 : decide (((runesFrom s s.size 0).1.length : Int) > 20) = decide (20 < Lib.runeCount s) := by
      rw [hrc]
      congr 1
      refine propext ⟨fun h => ?_, fun h => ?_⟩ <;> omega
    rw [if_pos rfl, e20, malthouseref01_Quote.j0]
    have hq := quote_loop s s (runesFrom s s.size 0).1 (runesFrom s s.size 0).2.1 hs (by omega) (runesFrom s s.size 0).1.length 0 k (by omega) (by omega) (by omega)
    rw [List.drop_zero, ho] at hq
    by_cases h20 : 20 < Lib.runeCount s
    · rw [if_pos (decide_eq_true h20), if_pos h20]
      rfl
    · rw [if_neg (by rw [decide_eq_false h20]; simp), if_neg h20]
      exact hq
theorem lexNames_pure (a0 : ByteArray) : malthouselaw01_LexNames.f 10000 a0 = some true := by
  unfold malthouselaw01_LexNames.f malthouselaw01_awake.f
  simp only [Option.bind_some]
  by_cases h0 : (a0.size : Int) > 5000
  · rw [if_pos h0]
  · rw [if_neg h0]
    have q : lex_Quote.f a0 = some (quoteZ a0) := if_pos (by omega)
    have n2 : malthouseref01_Name.f 10000 a0 = some (nameB a0) := by
      have := ref_name_is a0 (by omega) (10000 - a0.size - 20)
      rwa [show 10000 - a0.size - 20 + a0.size + 20 = 10000 by omega] at this
    rw [q, ref_quote_is a0 (by omega) 10000 (by omega)]
    simp only [Option.bind_some, if_true]
    rw [lex_name_is a0 (by omega), n2]
    simp
end Go.Proofs.YtlikjknakplamaaDoor.Print
/-! ### LxWalk2 -/
namespace Go.Proofs.YtlikjknakplamaaDoor.Print
open Go.RowKit Go.Proofs.YtlikjknakplamaaDoorW.PrintWords Go.Proofs.YtlikjknakplamaaDoorW.PrintLast Go.Proofs.YtlikjknakplamaaDoorW.PrintMore
theorem lexNames_walk (a0 : ByteArray) (w : World) (w0 : a0.size ≤ 140737488351232) (hT : Tabs w) :
    Calls Tryd.prog 10 #[.string a0] w fun e w' => e = .returned (.bool true) ∧ Below w.heap.size w w' :=
  malthouselaw01_LexNames.calls 10000 a0 true w hT (lexNames_pure a0)
end Go.Proofs.YtlikjknakplamaaDoor.Print
/-! ### Tied -/
namespace Go.Proofs.YtlikjknakplamaaDoor
open Go Go.RowKit Go.Shelf Go.Lib
set_option linter.unusedVariables false
theorem returnsInHanded_of_change_and_shaped {H : Type} {enc : TypeId × Value → H} {a : Assume} {C : Checked} {os : Os} {f : FuncId} {fn : Func} {s : ChangeSpec} {conds : List PathCond} {apart fresh handsOn again : Bool} {X : World → Array Value → Prop}
    (hX : ∀ (w w' : World) (args : Array Value), w.heap = w'.heap → X w args → X w' args)
    (own : ownKnob C.prog.godebug = none) (started : os.Started) (noInit : C.prog.inits.idxOf? f = none) (hfn : C.prog.funcs[f]? = some fn)
    (witness : ∃ (w : World) (tape : Tape) (i : Input), w.os = os ∧ (w.forCall tape i).Shaped C.prog ∧ i.vars = [] ∧ Input.okWide C.prog (w.forCall tape i) .any w.heap.size f i ∧
      ((s.pre enc C.prog fn conds apart (w.forCall tape i).memory i.args ∧ X (w.forCall tape i).memory i.args) ∧ sizedMet enc C.prog fn (OpenSpec.ofChange s) apart (w.forCall tape i).memory i.args) ∧ a.holds C.prog (lone (Frame.enter C.prog f i.args .normal) [] (w.forCall tape i)))
    (contract : ∀ (W : World) (base : Nat) (args : Array Value) (ds gs : List (DataW H)) (before : List MemPlace),
      (∀ (j : Nat) t v, fn.params[j]? = some t → args[j]? = some v → Value.okWide C.prog W .any base t v) →
      DataW.Whole enc C.prog fn.params.toList s.vars apart W args.toList ds gs before →
      conds.all (PathCond.test C.prog ⟨fn.params.toList, ds, s.plain.varTypes C.prog, gs⟩) = true →
      (DataW.weightsEach C.prog (fn.params.toList ++ s.plain.varTypes C.prog) (ds ++ gs)).all (· ≤ reachBytes) = true → X W args →
      W.ShapedOpen C.prog →
      a.holds C.prog (lone (Frame.enter C.prog f args .normal) [] W) →
      Calls C.prog f args W fun e W' => ∃ v, e = .returned v ∧ s.post enc C.prog fn apart fresh handsOn again W args v W') :
    ReturnsInHanded a C os f .any (fun w args => (s.pre enc C.prog fn conds apart w args ∧ X w args) ∧ sizedMet enc C.prog fn (OpenSpec.ofChange s) apart w args) (s.post enc C.prog fn apart fresh handsOn again) := by
  refine returnsInHanded_of_calls own started noInit witness ?_
  intro w tape i _ hsh _ hok hpre hholds
  obtain ⟨_, _, _, fn', hfn', _, _, _, _, hval⟩ := hok
  have e : fn' = fn := Option.some.inj (hfn'.symm.trans hfn)
  subst e
  obtain ⟨⟨⟨ds, gs, before, hw, hc⟩, hx⟩, hz⟩ := hpre
  have hw' := DataW.Whole.of_heap (w' := w.forCall tape i) (by rfl) hw
  refine (contract (w.forCall tape i) w.heap.size i.args ds gs before hval hw' hc (hz.weights hw) (hX _ _ _ (by rfl) hx) hsh hholds).mono fun e W' ⟨v, he, hp⟩ => ?_
  subst he
  exact ChangeSpec.post_blind hp
theorem tabs_of {W : World} (hL : laidMet Tryd.prog Rows.lexFoldsRow.laid W) (hsh : W.ShapedOpen Tryd.prog) : Tabs W := by
  refine ⟨?_, ?_, ?_⟩
  · exact utf8Tabs_of_readsT (U8Types.of196 Tryd.laysValid) ⟨by kernel_rfl, by kernel_rfl, by kernel_rfl, by kernel_rfl, by kernel_rfl, by kernel_rfl, by kernel_rfl⟩ (Pinned.utf8First_eq ▸ Lib.laidMet.reads hL (.tail _ (.tail _ (.tail _ (.tail _ (.head _)))))) ((show Rows.laid_unicode_utf8_acceptRanges = acceptData from rfl) ▸ Lib.laidMet.reads hL (.tail _ (.tail _ (.tail _ (.head _)))))
  · have h := laidMet.filter (fun x => x.1 == "internal/strconv.uint64pow10") hL
    exact tabIs_of_head (rest := []) (t := 84) (e := 59) (n := 20) (g := Tryd.laysM171_ren.g 17) pow_named (by kernel_rfl) (by kernel_rfl) (by kernel_rfl) (by kernel_rfl) (by kernel_rfl) (show laidMet Tryd.prog [("internal/strconv.uint64pow10", tabData .u64 pow10Tab)] W from h)
  · exact Tryd.laysM145.s1_3 W hsh
end Go.Proofs.YtlikjknakplamaaDoor
/-! ### LexNamesRow -/
namespace Go.Proofs.YtlikjknakplamaaDoor.lexNames
open Go.ChangeShapes Go.WideShapes Go.ChangeAt Go.RowKit Go.Shelf Go.Lib Go.Proofs.YtlikjknakplamaaDoor.Print
open Go.ChangeMaps (open_string shut_string)
set_option linter.unusedVariables false
set_option linter.unusedSimpArgs false
theorem own : ownKnob Tryd.prog.godebug = none := by kernel_rfl
set_option maxRecDepth 100000 in
theorem lifted (os : Os) (started : os.Started) (H : Type) (enc : TypeId × Value → H) :
    ReturnsInHanded {} Tryd.checked os 10 .any (fun w args => (Rows.lexNamesSpec.pre enc Tryd.prog Tryd.f10 [] false w args ∧ laidMetH Tryd.prog Rows.lexNamesRow.laid w) ∧ sizedMet enc Tryd.prog Tryd.f10 (OpenSpec.ofChange Rows.lexNamesSpec) false w args) (Rows.lexNamesSpec.post enc Tryd.prog Tryd.f10 false true false false) := by
  refine returnsInHanded_of_change_and_shaped (C := Tryd.checked) (X := fun w _ => laidMetH Tryd.prog Rows.lexNamesRow.laid w) (fun _ _ _ hh h => h.of_heap hh) own started (by kernel_rfl) Tryd.func10
    (ChangeSpec.witness_shaped (enc := enc) (C := Tryd.checked) (os := os) (X := fun w _ => laidMetH Tryd.prog Rows.lexNamesRow.laid w) false (World.laidAll Tryd.prog os Rows.lexNamesRow.laid) #[.string ByteArray.empty] 8 (World.laidAll_os _ _ _)
      (World.shaped_of_ZipB (by kernel_rfl) (by kernel_rfl)) (by kernel_rfl) (by kernel_rfl) (by kernel_rfl)
      (by rw [MakeChecks.laidMetH_plain _ _ _ (by kernel_rfl)]; exact laidMet_laidAll _ (by kernel_rfl) (by kernel_rfl))) ?_
  intro W base args ds gs before hval0 hW hcnd hsz0 hL0 hsh _
  have hL : laidMet Tryd.prog Rows.lexNamesRow.laid W := by
    have h := hL0
    rw [MakeChecks.laidMetH_plain _ _ _ (by kernel_rfl)] at h
    exact h
  have hT : Tabs W := tabs_of (show laidMet Tryd.prog Rows.lexFoldsRow.laid W from hL) hsh
  have hsz : (DataW.weightsEach Tryd.prog (Tryd.f10.params.toList ++ Rows.lexNamesSpec.plain.varTypes Tryd.prog) (ds ++ gs)).all (· ≤ reachBytes) = true := hsz0
  have hval : ∀ (j : Nat) t v, Tryd.f10.params[j]? = some t → args[j]? = some v → Value.okWide Tryd.prog W .any base t v := hval0
  have hW' := hW
  obtain ⟨p, q, hA0, hV, rfl, hfz, hnd⟩ := hW
  have hA : DataW.TrodAll enc Tryd.prog W 0 (fun _ => true) true Tryd.f10.params.toList args.toList ds p := hA0
  rw [Tryd.params10] at hA hval hsz
  obtain ⟨v0, vs0, d0, ds0, p0, q0, hargs, rfl, rfl, h0, r0⟩ := trodAll_cons hA
  obtain ⟨rfl, rfl, rfl⟩ := trodAll_nil r0
  obtain rfl : args = #[v0] := by cases args; simp_all
  obtain ⟨rfl, rfl⟩ := trodVars_none hV
  obtain ⟨a0, rfl, rfl, rfl, y0⟩ := open_string Tryd.underlying9 (hval 0 9 v0 rfl rfl) h0
  have w0 : a0.size ≤ 140737488351232 := by
    have z := sized_string hsz (j := 0) (t := 9) rfl rfl
    rw [Array.length_toList] at z
    exact z
  clear hA0 hval0 hsz0 hsz
  refine (lexNames_walk a0 W w0 hT).mono fun e W' ⟨he, bel⟩ => ?_
  subst he
  exact ⟨_, rfl, _, _, _, [], _, [], hW', trodAll_mk1 (shut_bool Tryd.underlying4 _), (trodAll_cons_mk (shut_string Tryd.underlying9 y0) trodAll_mk0), rfl, bel.frame _, fun h => by cases h⟩
theorem over : Rows.lexNamesRow.holds Tryd.pinned (OpenSpec.ofChange Rows.lexNamesSpec) :=
  OpenClaim.holds_of_wide 10 Tryd.f10 rfl rfl rfl rfl rfl rfl rfl ⟨rfl, rfl, rfl, rfl, rfl⟩ rfl rfl rfl rfl rfl (by kernel_rfl) Tryd.func10 (by kernel_rfl)
    (of_decide_eq_true (by kernel_rfl)) (by unfold Func.isWrapper; first | (rw [if_pos (by decide +kernel)]; kernel_rfl) | (rw [if_neg (by decide +kernel)]; exact ⟨rfl, rfl⟩))
    (fun os started H enc _ => lifted os started H enc)
theorem card_holds : Claim7.holds Tryd.pinned (.plain (OpenSpec.ofChange Rows.lexNamesSpec)) Rows.lexNamesCard :=
  Claim7.holds_tied_plain_at .later [] [.data, .data, .data, .data, .pinned] true (true, "2df379d0a8e382ae56a4a25da8425f329115bfa31b6102406861f16ecf271d0c") false over (fun _ h => by cases h) (by kernel_rfl) (fun _ h => by cases h) lexNames_row_tie rfl ⟨rfl, rfl⟩ (by kernel_rfl) rfl
    (fun f fn hf hfn => by
      obtain rfl : f = 10 := Option.some.inj ((show Tryd.prog.funcNamed "malthouse/malthouselaw01.LexNames" = some 10 by kernel_rfl).symm.trans hf) |>.symm
      obtain rfl : fn = Tryd.f10 := (Option.some.inj (Tryd.func10.symm.trans hfn)).symm
      exact ⟨by kernel_rfl, fun j t ht => by
        rw [Tryd.params10] at ht
        have hm : t ∈ [9] := by simpa using Array.mem_of_getElem? ht
        have hall : ([9].all fun u => !Tryd.prog.wantsStandIn u) = true := by kernel_rfl
        exact (show Tryd.prog.wantsStandIn t = false by simpa using List.all_eq_true.1 hall t hm)⟩)
    (by kernel_rfl)
theorem proved : Rows.LexNamesCardSaid := card_holds
#print axioms proved
end Go.Proofs.YtlikjknakplamaaDoor.lexNames
namespace Go.Proofs.YtlikjknakplamaaDoor
/-- The card, under a short name, for the claim. -/
theorem lexNames_holds : Rows.LexNamesCardSaid := lexNames.proved
end Go.Proofs.YtlikjknakplamaaDoor
