import Derived.Test.YtlikjknakplamaaDoorMC0
import Derived.ArgAppend
import Derived.Below
import Derived.BigQuiet
import Derived.ChangeArms
import Derived.Deep.AppendLies
import Derived.Deep.CutBlock
import Derived.Deep.DeepCutAuto
import Derived.Deep.Draws
import Derived.Deep.LoopGhost
import Derived.Deep.OwnRows
import Derived.Deep.QuietTactic
import Derived.Deep.RegionHeld3
import Derived.Deep.Slices
import Derived.Great.BuildSlice
import Derived.Ground.NamesProg
import Derived.KernelRfl
import Derived.Laws.BitsLemmas
import Derived.Laws.BytesArg
import Derived.Laws.CopyOwn
import Derived.Laws.IdiomCopy
import Derived.Laws.MakeOwn
import Derived.Laws.OwnMore
import Derived.Laws.RangeAny
import Derived.Laws.Rows
import Derived.Laws.Slices
import Derived.Lib.AppendStr
import Derived.Lib.ConvBytes
import Derived.Lib.CutLaws
import Derived.Lib.DecodeN
import Derived.Lib.Hide
import Derived.Lib.IndexLaws
import Derived.Lib.IndexMore
import Derived.Lib.LaidU8T
import Derived.Lib.MapLaws
import Derived.Lib.OthersKept
import Derived.Lib.RuneCount
import Derived.Lib.SmallJoins
import Derived.Lib.ValidLaws
import Derived.Maps.AppendAt
import Derived.OrdersHeld
import Derived.OwnWalk
import Derived.RegionTactic
import Derived.RowKit
import Derived.RowKit3
import Derived.Shelf.LaysM
import Derived.Shelf.Small.Strs
import Derived.Shelf.Strconv.Itoa0
import Derived.Shelf.Strconv.Itoa1
import Derived.Shelf.Strconv.Itoa2
import Derived.Shelf.Strconv.Itoa3
import Derived.Shelf.Strings.Cut
import Derived.Shelf.Strings.Search1
import Derived.Shelf.Strings.Search2
import Derived.Shelf.Strings.Shaped
import Derived.Shelf.Unicode.DecodeAny
import Derived.Shelf.Unicode.DecodeSlow
import Derived.Shelf.Unicode.ValidAny
import Derived.Shelf.Utf8.RuneCount
import Derived.SizedLaws
import Derived.Tactics
import Derived.Test.YtlikjknakplamaaDoorProg
import Derived.WalkKit
import Derived.WideLaws
set_option linter.unusedVariables false
set_option linter.unusedSimpArgs false
namespace Go.Proofs.YtlikjknakplamaaDoorW.PrintWords
end Go.Proofs.YtlikjknakplamaaDoorW.PrintWords
namespace Go.Proofs.YtlikjknakplamaaDoorW.PrintLast
end Go.Proofs.YtlikjknakplamaaDoorW.PrintLast
namespace Go.Proofs.YtlikjknakplamaaDoorW.PrintMore
end Go.Proofs.YtlikjknakplamaaDoorW.PrintMore
/-! ### LexPure -/
namespace Go.Proofs.YtlikjknakplamaaDoor
/-- The signs. -/
def signs : List Int := [40, 41, 123, 125, 44, 59, 58, 61, 43, 45, 42, 47, 37, 60, 62, 33, 38, 124]
/-- What a rune is. -/
def classZ (r : Int) : Int :=
  if r = 32 ∨ r = 9 ∨ r = 13 ∨ r = 10 then 1
  else if (97 ≤ r ∧ r ≤ 122) ∨ (65 ≤ r ∧ r ≤ 90) ∨ r = 95 then 2
  else if 192 ≤ r ∧ r ≤ 591 ∧ r ≠ 215 ∧ r ≠ 247 then 2
  else if 48 ≤ r ∧ r ≤ 57 then 3
  else if r = 34 then 5
  else if r = 35 then 6
  else if r ∈ signs then 4 else 0
def wordyZ (r : Int) : Bool := classZ r == 2 || classZ r == 3
end Go.Proofs.YtlikjknakplamaaDoor
/-! ### LxPure -/
namespace Go.Proofs.YtlikjknakplamaaDoor
set_option linter.unusedSimpArgs false
set_option linter.unusedVariables false
/-- Passing over some bytes. -/
def passZ (st : ByteArray × Int) (n : Nat) : ByteArray × Int := (st.1.extract n st.1.size, st.2 + Lib.runeCount (st.1.extract 0 n))
/-- A byte of a text. -/
def bAt (s : ByteArray) (i : Nat) : Nat := (s.get! i).toNat
def hashN (s : ByteArray) : Nat := if Lib.indexByte s.data.toList 10 < 0 then s.size else (Lib.indexByte s.data.toList 10).toNat
def blanksZ : Nat → ByteArray × Int → ByteArray × Int
  | 0, st => st
  | f + 1, st => if st.1.size = 0 then st else if classZ (bAt st.1 0) = 1 then blanksZ f (passZ st 1) else if classZ (bAt st.1 0) = 6 then blanksZ f (passZ st (hashN st.1)) else st
def blanks (st : ByteArray × Int) : ByteArray × Int := blanksZ st.1.size st
theorem bAt_zero (s : ByteArray) (h : 0 < s.size) : s.data.toList[0]? = some (s.get! 0) := by
  have h1 : 0 < s.data.size := h
  rw [Array.getElem?_toList, Array.getElem?_eq_getElem h1]
  simp only [ByteArray.get!]
  rw [getElem!_pos s.data 0 h1]
/-- A remark has a byte, and ends within the text. -/
theorem hashN_le (s : ByteArray) (h : 0 < s.size) (hc : classZ (bAt s 0) = 6) : 1 ≤ hashN s ∧ hashN s ≤ s.size := by
  unfold hashN
  split
  · exact ⟨h, Nat.le_refl _⟩
  · rename_i hi
    obtain ⟨o, ho⟩ : ∃ o : Nat, Lib.indexByte s.data.toList 10 = o := ⟨(Lib.indexByte s.data.toList 10).toNat, by omega⟩
    obtain ⟨h1, _⟩ := Lib.indexByte_some ho
    rw [ho, Int.toNat_natCast]
    have hlt : o < s.data.toList.length := (List.getElem?_eq_some_iff.1 h1).1
    refine ⟨?_, ?_⟩
    · rcases Nat.eq_zero_or_pos o with h0 | h0
      · subst h0
        rw [bAt_zero s h] at h1
        have h2 : s.get! 0 = 10 := Option.some.inj h1
        unfold bAt at hc
        rw [h2] at hc
        revert hc
        decide
      · exact h0
    · rw [Array.length_toList] at hlt
      exact Nat.le_of_lt hlt
theorem passZ_size (st : ByteArray × Int) (n : Nat) (h : n ≤ st.1.size) : (passZ st n).1.size = st.1.size - n := by
  unfold passZ
  simp [ByteArray.size_extract]
theorem passZ_at (st : ByteArray × Int) (n : Nat) (h : n ≤ st.1.size) : st.2 ≤ (passZ st n).2 ∧ (passZ st n).2 + (passZ st n).1.size ≤ st.2 + st.1.size := by
  have h1 := Lib.runeCount_le (st.1.extract 0 n)
  rw [ByteArray.size_extract] at h1
  rw [passZ_size st n h]
  show st.2 ≤ st.2 + (Lib.runeCount (st.1.extract 0 n) : Int) ∧ st.2 + (Lib.runeCount (st.1.extract 0 n) : Int) + ((st.1.size - n : Nat) : Int) ≤ st.2 + st.1.size
  omega
/-- Where letters and digits end. -/
def wordEnd (s : ByteArray) : Nat → Nat → Nat
  | 0, _ => s.size
  | f + 1, p => if p < s.size then if wordyZ (Utf8.decode s p).1 = true then wordEnd s f (p + (Utf8.decode s p).2) else p else s.size
theorem wordEnd_end (s : ByteArray) (f p : Nat) (h : ¬ p < s.size) : wordEnd s f p = s.size := by
  cases f with
  | zero => rfl
  | succ f => unfold wordEnd; rw [if_neg h]
theorem wordEnd_le (s : ByteArray) : ∀ f p, wordEnd s f p ≤ s.size
  | 0, _ => Nat.le_refl _
  | f + 1, p => by
    unfold wordEnd
    split
    · split
      · exact wordEnd_le s f _
      · omega
    · exact Nat.le_refl _
/-- A token as plain data: its kind, text, number and place; how many bytes it has; what is wrong. -/
abbrev Tok := Int × ByteArray × Int × Int
def noTok : Tok := (0, ⟨#[]⟩, 0, 0)
/-- Is there a rune below a blank? -/
def lowFrom (s : ByteArray) : Nat → Nat → Bool
  | 0, _ => false
  | f + 1, p => if p < s.size then decide ((Utf8.decode s p).1 < 32) || lowFrom s f (p + (Utf8.decode s p).2) else false
theorem lowFrom_end (s : ByteArray) (f p : Nat) (h : ¬ p < s.size) : lowFrom s f p = false := by
  cases f with
  | zero => rfl
  | succ f => unfold lowFrom; rw [if_neg h]
def lineOf (x : ByteArray) : ByteArray := ⟨(Lib.cut (x.extract 1 x.size).data.toList [10]).1.toArray⟩
def insideOf (x : ByteArray) : ByteArray := ⟨(Lib.cut (lineOf x).data.toList [34]).1.toArray⟩
def closed (x : ByteArray) : Bool := (Lib.cut (lineOf x).data.toList [34]).2.2
def textZ (x : ByteArray) : Tok × Int × Int :=
  if closed x = false then (noTok, 0, 11) else if lowFrom (insideOf x) (insideOf x).size 0 = true then (noTok, 0, 11)
  else if 20 < Lib.runeCount (insideOf x) then (noTok, 0, 2) else ((3, insideOf x, 0, 0), ((insideOf x).size : Int) + 2, 0)
theorem cut_fst_le (s sep : List UInt8) : (Lib.cut s sep).1.length ≤ s.length := by
  unfold Lib.cut
  split
  · simp only [List.length_take]; omega
  · exact Nat.le_refl _
theorem lineOf_le (x : ByteArray) : (lineOf x).size ≤ x.size := by
  have h := cut_fst_le (x.extract 1 x.size).data.toList [10]
  have h1 : (lineOf x).size = (Lib.cut (x.extract 1 x.size).data.toList [10]).1.length := by unfold lineOf; show Array.size _ = _; simp
  have h2 : (x.extract 1 x.size).data.toList.length = (x.extract 1 x.size).size := by rw [Array.length_toList]; rfl
  rw [ByteArray.size_extract] at h2
  omega
theorem insideOf_le (x : ByteArray) : (insideOf x).size ≤ x.size := by
  have h := cut_fst_le (lineOf x).data.toList [34]
  have h1 : (insideOf x).size = (Lib.cut (lineOf x).data.toList [34]).1.length := by unfold insideOf; show Array.size _ = _; simp
  have h2 : (lineOf x).data.toList.length = (lineOf x).size := by rw [Array.length_toList]; rfl
  have := lineOf_le x
  omega
/-- A number's digits, one behind the other; none where a rune is no digit. -/
def numFrom (s : ByteArray) : Nat → Nat → Nat → Option Nat
  | 0, _, n => some n
  | f + 1, p, n => if p < s.size then (if classZ (Utf8.decode s p).1 = 3 then numFrom s f (p + (Utf8.decode s p).2) (10 * n + ((Utf8.decode s p).1 - 48)) else none) else some n
theorem numFrom_end (s : ByteArray) (f p n : Nat) (h : ¬ p < s.size) : numFrom s f p n = some n := by
  cases f with
  | zero => rfl
  | succ f => unfold numFrom; rw [if_neg h]
/-- What is told of a number. -/
def told (o : Option Nat) : Int × Bool := match o with
  | some n => if 9223372036854775807 < n then (0, false) else ((n : Int), true)
  | none => (0, false)
def numZ (s : ByteArray) : Int × Bool := if s.size = 0 ∨ 19 < s.size ∨ (1 < s.size ∧ bAt s 0 = 48) then (0, false) else told (numFrom s s.size 0 0)
/-- How many runes stand ahead of the first bad byte; below 0: there is none. -/
def badFrom (s : ByteArray) : Nat → Nat → Int → Int
  | 0, _, _ => -1
  | f + 1, p, a => if p < s.size then (if (Utf8.decode s p).1 = 65533 ∧ (Utf8.decode s p).2 = 1 then a else badFrom s f (p + (Utf8.decode s p).2) (a + 1)) else -1
theorem badFrom_end (s : ByteArray) (f p : Nat) (a : Int) (h : ¬ p < s.size) : badFrom s f p a = -1 := by
  cases f with
  | zero => rfl
  | succ f => unfold badFrom; rw [if_neg h]
def badZ (s : ByteArray) : Int := badFrom s s.size 0 0
/-- How many bytes a sign has. -/
def twoSigns : List UInt8 := [60, 62, 61, 33, 58]
def signN (x : ByteArray) : Nat := if 1 < x.size ∧ bAt x 1 = 61 ∧ 0 ≤ Lib.indexByte twoSigns (x.get! 0) then 2 else (Utf8.decode x 0).2
def tokenZ (x : ByteArray) : Tok × Int × Int :=
  if classZ (Utf8.decode x 0).1 = 2 then
    (if 12 < Lib.runeCount (x.extract 0 (wordEnd x x.size 0)) then (noTok, 0, 2) else ((1, x.extract 0 (wordEnd x x.size 0), 0, 0), (wordEnd x x.size 0 : Int), 0))
  else if classZ (Utf8.decode x 0).1 = 3 then
    (if (numZ (x.extract 0 (wordEnd x x.size 0))).2 = true then ((2, x.extract 0 (wordEnd x x.size 0), (numZ (x.extract 0 (wordEnd x x.size 0))).1, 0), (wordEnd x x.size 0 : Int), 0) else (noTok, 0, 11))
  else if classZ (Utf8.decode x 0).1 = 5 then textZ x
  else if classZ (Utf8.decode x 0).1 = 4 then ((4, x.extract 0 (signN x), 0, 0), (signN x : Int), 0)
  else (noTok, 0, 11)
/-- The tokens from a state on, behind those that were cut; what is wrong, and where. -/
def cutLoop : Nat → ByteArray × Int → List Tok → List Tok × Int × Int
  | 0, _, l => (l, 0, 0)
  | f + 1, st, l =>
    if (blanks st).1.size = 0 then (l ++ [(0, ⟨#[]⟩, 0, (blanks st).2)], 0, 0)
    else if l.length = 2000 then ([], 2, (blanks st).2)
    else if (tokenZ (blanks st).1).2.2 ≠ 0 then ([], (tokenZ (blanks st).1).2.2, (blanks st).2)
    else cutLoop f (passZ (blanks st) (tokenZ (blanks st).1).2.1.toNat) (l ++ [((tokenZ (blanks st).1).1.1, (tokenZ (blanks st).1).1.2.1, (tokenZ (blanks st).1).1.2.2.1, (blanks st).2)])
def cutZ (s : ByteArray) : List Tok × Int × Int := if 8192 < s.size then ([], 2, 0) else if 0 ≤ badZ s then ([], 10, badZ s) else cutLoop (s.size + 1) (s, 0) []
end Go.Proofs.YtlikjknakplamaaDoor
/-! ### LxTxt -/
namespace Go.Proofs.YtlikjknakplamaaDoor
open Go.Lib
set_option linter.unusedSimpArgs false
set_option linter.unusedVariables false
abbrev enc (r : Nat) : List UInt8 := Lib.encodeRune (r : Int)
/-- A rune that decodes out of its own bytes. -/
def okR (r : Nat) : Prop := decodeL (enc r) = (r, (enc r).length) ∧ ¬ (r = 65533 ∧ (enc r).length = 1)
def txt (rs : List Nat) : List UInt8 := rs.flatMap enc
theorem txt_nil : txt [] = [] := rfl
theorem txt_cons (r : Nat) (rs : List Nat) : txt (r :: rs) = enc r ++ txt rs := by simp [txt]
theorem txt_append (a b : List Nat) : txt (a ++ b) = txt a ++ txt b := by simp [txt]
theorem enc_len (r : Nat) : 1 ≤ (enc r).length ∧ (enc r).length ≤ 4 := by
  unfold enc encodeRune
  rw [List.length_map]
  unfold encodeRuneZ
  repeat' split
  all_goals simp
theorem enc_small (r : Nat) (h : r < 128) : enc r = [UInt8.ofNat r] := by
  unfold enc encodeRune
  rw [encodeRuneZ_one (by omega) (by omega)]
  rfl
theorem enc_high (r : Nat) (h : 128 ≤ r) : ∀ b ∈ enc r, 128 ≤ b.toNat := by
  intro b hb
  unfold enc encodeRune at hb
  obtain ⟨z, hz, rfl⟩ := List.mem_map.1 hb
  have : 128 ≤ z ∧ z ≤ 255 := by
    unfold encodeRuneZ at hz
    split at hz
    · omega
    split at hz
    · simp at hz; omega
    split at hz
    · simp at hz; omega
    split at hz
    · simp at hz; omega
    · simp at hz; omega
  have e : z.toNat.toUInt8.toNat = z.toNat % 256 := by simp
  rw [e]
  omega
set_option maxRecDepth 100000 in
theorem decodeN_cut (n b0 b1 b2 b3 : Nat) (h : ¬ ((decodeN n b0 b1 b2 b3).1 = 65533 ∧ (decodeN n b0 b1 b2 b3).2 = 1)) : decodeN (decodeN n b0 b1 b2 b3).2 b0 b1 b2 b3 = decodeN n b0 b1 b2 b3 := by
  rcases decodeN_shape n b0 b1 b2 b3 with ⟨c, e⟩ | ⟨c1, c2, c3, cv, e⟩ | ⟨c1, c2, c3, c4, cv, cs, e⟩ | ⟨c1, c2, c3, c4, c5, cv, cw, e⟩ | e
  · rw [e, decodeN_ascii _ _ _ _ _ c]
  · rw [e]
    simp only
    unfold decodeN
    repeat' split
    all_goals first | rfl | (exfalso; omega)
  · rw [e]
    simp only
    unfold decodeN
    repeat' split
    all_goals first | rfl | (exfalso; omega)
  · rw [e]
    simp only
    unfold decodeN
    repeat' split
    all_goals first | rfl | (exfalso; omega)
  · rw [e] at h
    exact absurd ⟨rfl, rfl⟩ h
theorem decodeL_width (l : List UInt8) (hne : l ≠ []) : 1 ≤ (decodeL l).2 ∧ (decodeL l).2 ≤ l.length := by
  have hl : 0 < l.length := List.length_pos_iff.2 hne
  rw [decodeL_N]
  rcases decodeN_shape l.length (l.getD 0 0).toNat (l.getD 1 0).toNat (l.getD 2 0).toNat (l.getD 3 0).toNat with ⟨c, e⟩ | ⟨c1, c2, c3, cv, e⟩ | ⟨c1, c2, c3, c4, cv, cs, e⟩ | ⟨c1, c2, c3, c4, c5, cv, cw, e⟩ | e
  all_goals (rw [e]; simp only; omega)
theorem getD_app (a t : List UInt8) (i : Nat) (h : i < a.length) : (a ++ t).getD i 0 = a.getD i 0 := by
  rw [List.getD_eq_getElem?_getD, List.getD_eq_getElem?_getD, List.getElem?_append_left h]
theorem dec_app (r : Nat) (h : okR r) (t : List UInt8) : decodeL (enc r ++ t) = (r, (enc r).length) := by
  obtain ⟨h1, h2⟩ := h
  obtain ⟨l1, l4⟩ := enc_len r
  rw [decodeL_N] at h1 ⊢
  generalize enc r = e at *
  rw [List.length_append, getD_app e t 0 (by omega)]
  by_cases hn : 2 ≤ e.length
  · rw [decodeN_more e.length (e.length + t.length) (e.getD 0 0).toNat (e.getD 1 0).toNat (e.getD 2 0).toNat (e.getD 3 0).toNat _ _ _ hn (by omega) (by rw [h1])
      (fun hh => by rw [getD_app e t 1 hh]) (fun hh => by rw [getD_app e t 2 hh]) (fun hh => by rw [getD_app e t 3 hh])]
    exact h1
  · have h1n : e.length = 1 := by omega
    rw [h1n] at h1 h2
    have hb : (e.getD 0 0).toNat < 128 := by
      rcases decodeN_shape 1 (e.getD 0 0).toNat (e.getD 1 0).toNat (e.getD 2 0).toNat (e.getD 3 0).toNat with ⟨c, _⟩ | ⟨_, c, _⟩ | ⟨_, c, _⟩ | ⟨_, c, _⟩ | e5
      · exact c
      · omega
      · omega
      · omega
      · rw [e5] at h1
        exact absurd ⟨(congrArg Prod.fst h1).symm, rfl⟩ h2
    rw [decodeN_ascii _ _ _ _ _ hb] at h1 ⊢
    rw [h1n]
    exact h1
theorem ok_small (r : Nat) (h : r < 128) : okR r := by
  have e := enc_small r h
  refine ⟨?_, by omega⟩
  rw [e, decodeL_N]
  have e0 : ([UInt8.ofNat r].getD 0 0).toNat = r := by
    show (UInt8.ofNat r).toNat = r
    simp
    omega
  rw [e0, decodeN_ascii _ _ _ _ _ h]
  rfl
set_option maxRecDepth 100000 in
theorem dec_ok (l : List UInt8) (hne : l ≠ []) (hv : ¬ ((decodeL l).1 = 65533 ∧ (decodeL l).2 = 1)) : okR (decodeL l).1 ∧ enc (decodeL l).1 = l.take (decodeL l).2 ∧ (enc (decodeL l).1).length = (decodeL l).2 := by
  have e := encode_decode l hne hv
  obtain ⟨w1, w2⟩ := decodeL_width l hne
  have hlen : (enc (decodeL l).1).length = (decodeL l).2 := by
    show (encodeRune _).length = _
    rw [e, List.length_take]
    omega
  refine ⟨⟨?_, fun h => hv ⟨h.1, by rw [← hlen]; exact h.2⟩⟩, e, hlen⟩
  rw [hlen]
  show decodeL (encodeRune _) = _
  rw [e, decodeL_N, List.length_take, Nat.min_eq_left w2]
  have hd : ∀ k, k < (decodeL l).2 → (l.take (decodeL l).2).getD k 0 = l.getD k 0 := fun k hk => getD_takeU l _ k hk
  have hN := decodeL_N l
  have hcut := decodeN_cut l.length (l.getD 0 0).toNat (l.getD 1 0).toNat (l.getD 2 0).toNat (l.getD 3 0).toNat (by rw [← hN]; exact hv)
  rw [← hN] at hcut
  rw [hd 0 (by omega)]
  rcases decodeN_shape l.length (l.getD 0 0).toNat (l.getD 1 0).toNat (l.getD 2 0).toNat (l.getD 3 0).toNat with ⟨c, e1⟩ | ⟨c1, c2, c3, cv, e1⟩ | ⟨c1, c2, c3, c4, cv, cs, e1⟩ | ⟨c1, c2, c3, c4, c5, cv, cw, e1⟩ | e1
  · rw [decodeN_ascii _ _ _ _ _ c, hN, e1]
  · rw [← hN] at e1
    have hw : (decodeL l).2 = 2 := by rw [e1]
    rw [hd 1 (by omega), e1]
    simp only
    unfold decodeN
    repeat' split
    all_goals first | rfl | (exfalso; omega)
  · rw [← hN] at e1
    have hw : (decodeL l).2 = 3 := by rw [e1]
    rw [hd 1 (by omega), hd 2 (by omega), e1]
    simp only
    unfold decodeN
    repeat' split
    all_goals first | rfl | (exfalso; omega)
  · rw [← hN] at e1
    have hw : (decodeL l).2 = 4 := by rw [e1]
    rw [hd 1 (by omega), hd 2 (by omega), hd 3 (by omega)]
    exact hcut
  · rw [← hN] at e1
    exact absurd ⟨by rw [e1], by rw [e1]⟩ hv
/-- Any bytes are the runes up to the first bad byte, and what begins there. -/
theorem split_txt : ∀ (n : Nat) (l : List UInt8), l.length ≤ n → ∃ rs t, (∀ r ∈ rs, okR r) ∧ l = txt rs ++ t ∧ (t = [] ∨ t ≠ [] ∧ (decodeL t).1 = 65533 ∧ (decodeL t).2 = 1) := by
  intro n
  induction n with
  | zero =>
    intro l h
    obtain rfl : l = [] := List.eq_nil_of_length_eq_zero (by omega)
    exact ⟨[], [], by simp, rfl, .inl rfl⟩
  | succ n ih =>
    intro l h
    by_cases hne : l = []
    · exact ⟨[], [], by simp, by rw [hne]; rfl, .inl rfl⟩
    · by_cases hv : (decodeL l).1 = 65533 ∧ (decodeL l).2 = 1
      · exact ⟨[], l, by simp, rfl, .inr ⟨hne, hv⟩⟩
      · obtain ⟨k1, k2, k3⟩ := dec_ok l hne hv
        obtain ⟨w1, w2⟩ := decodeL_width l hne
        obtain ⟨rs, t, a, b, c⟩ := ih (l.drop (decodeL l).2) (by rw [List.length_drop]; omega)
        refine ⟨(decodeL l).1 :: rs, t, ?_, ?_, c⟩
        · intro r hr
          rcases List.mem_cons.1 hr with rfl | hr
          · exact k1
          · exact a r hr
        · rw [txt_cons, k2, List.append_assoc, ← b, List.take_append_drop]
/-- The text of runes. -/
def str (rs : List Nat) : ByteArray := ⟨(txt rs).toArray⟩
theorem str_list (rs : List Nat) : (str rs).data.toList = txt rs := rfl
theorem str_size (rs : List Nat) : (str rs).size = (txt rs).length := by show Array.size _ = _; simp [str]
theorem str_of {s : ByteArray} {rs : List Nat} (h : s.data.toList = txt rs) : s = str rs := by
  cases s with | mk d => unfold str; rw [← h]
theorem decode_str (a : List Nat) (r : Nat) (b : List Nat) (hr : okR r) : Utf8.decode (str (a ++ r :: b)) (txt a).length = (r, (enc r).length) := by
  rw [← decodeL_drop, str_list, txt_append, List.drop_left, txt_cons, dec_app r hr]
theorem txt_len_cons (r : Nat) (rs : List Nat) : (txt (r :: rs)).length = (enc r).length + (txt rs).length := by rw [txt_cons, List.length_append]
theorem txt_len_append (a b : List Nat) : (txt (a ++ b)).length = (txt a).length + (txt b).length := by rw [txt_append, List.length_append]
theorem txt_len (rs : List Nat) : rs.length ≤ (txt rs).length := by
  induction rs with
  | nil => exact Nat.le_refl _
  | cons r rs ih => rw [txt_len_cons, List.length_cons]; have := (enc_len r).1; omega
theorem count_str : ∀ (b a : List Nat) (f : Nat), (∀ r ∈ b, okR r) → (txt b).length ≤ f → runeCountFrom (str (a ++ b)) f (txt a).length = b.length
  | [], a, f, _, _ => by
    rw [runeCountFrom_end _ _ _ (by rw [str_size, List.append_nil]; omega)]
    rfl
  | r :: b, a, f, h, hf => by
    have hr := h r List.mem_cons_self
    have hl := (enc_len r).1
    rw [txt_len_cons] at hf
    obtain ⟨f, rfl⟩ : ∃ m, f = m + 1 := ⟨f - 1, by omega⟩
    unfold runeCountFrom
    rw [if_pos (by rw [str_size, txt_len_append, txt_len_cons]; omega), decode_str a r b hr]
    have := count_str b (a ++ [r]) f (fun r hr => h r (List.mem_cons_of_mem _ hr)) (by omega)
    rw [List.append_assoc, txt_len_append, txt_len_cons, txt_nil] at this
    simp only [List.length_nil, Nat.add_zero, List.singleton_append] at this
    rw [this, List.length_cons]
    omega
theorem count_is (rs : List Nat) (h : ∀ r ∈ rs, okR r) : runeCount (str rs) = rs.length := by
  have := count_str rs [] (str rs).size h (by rw [str_size]; exact Nat.le_refl _)
  exact this
theorem word_str : ∀ (b a : List Nat) (f : Nat), (∀ r ∈ b, okR r) → (txt b).length ≤ f → wordEnd (str (a ++ b)) f (txt a).length = (txt a).length + (txt (b.takeWhile fun r => wordyZ r)).length
  | [], a, f, _, _ => by
    rw [wordEnd_end _ _ _ (by rw [str_size, List.append_nil]; omega), str_size, List.append_nil]
    rfl
  | r :: b, a, f, h, hf => by
    have hr := h r List.mem_cons_self
    have hl := (enc_len r).1
    rw [txt_len_cons] at hf
    obtain ⟨f, rfl⟩ : ∃ m, f = m + 1 := ⟨f - 1, by omega⟩
    unfold wordEnd
    rw [if_pos (by rw [str_size, txt_len_append, txt_len_cons]; omega), decode_str a r b hr]
    have := word_str b (a ++ [r]) f (fun r hr => h r (List.mem_cons_of_mem _ hr)) (by omega)
    rw [List.append_assoc, txt_len_append, txt_len_cons, txt_nil] at this
    simp only [List.length_nil, Nat.add_zero, List.singleton_append] at this
    by_cases hw : wordyZ (r : Int) = true
    · rw [if_pos hw, this]
      simp only [List.takeWhile_cons, hw, if_true, txt_len_cons]
      omega
    · rw [if_neg hw]
      simp only [List.takeWhile_cons, hw]
      rfl
theorem word_is (rs : List Nat) (h : ∀ r ∈ rs, okR r) : wordEnd (str rs) (str rs).size 0 = (txt (rs.takeWhile fun r => wordyZ r)).length := by
  have := word_str rs [] (str rs).size h (by rw [str_size]; exact Nat.le_refl _)
  rw [txt_nil, List.length_nil, Nat.zero_add] at this
  exact this
theorem low_str : ∀ (b a : List Nat) (f : Nat), (∀ r ∈ b, okR r) → (txt b).length ≤ f → lowFrom (str (a ++ b)) f (txt a).length = b.any fun r => decide (r < 32)
  | [], a, f, _, _ => by
    rw [lowFrom_end _ _ _ (by rw [str_size, List.append_nil]; omega)]
    rfl
  | r :: b, a, f, h, hf => by
    have hr := h r List.mem_cons_self
    have hl := (enc_len r).1
    rw [txt_len_cons] at hf
    obtain ⟨f, rfl⟩ : ∃ m, f = m + 1 := ⟨f - 1, by omega⟩
    unfold lowFrom
    rw [if_pos (by rw [str_size, txt_len_append, txt_len_cons]; omega), decode_str a r b hr]
    have := low_str b (a ++ [r]) f (fun r hr => h r (List.mem_cons_of_mem _ hr)) (by omega)
    rw [List.append_assoc, txt_len_append, txt_len_cons, txt_nil] at this
    simp only [List.length_nil, Nat.add_zero, List.singleton_append] at this
    rw [this, List.any_cons]
theorem low_is (rs : List Nat) (h : ∀ r ∈ rs, okR r) : lowFrom (str rs) (str rs).size 0 = rs.any fun r => decide (r < 32) := low_str rs [] (str rs).size h (by rw [str_size]; exact Nat.le_refl _)
/-- Parts of a text. -/
theorem extract_str (a b c : List Nat) : (str (a ++ b ++ c)).extract (txt a).length ((txt a).length + (txt b).length) = str b := by
  have hl : ((str (a ++ b ++ c)).extract (txt a).length ((txt a).length + (txt b).length)).data.toList = txt b := by
    rw [ByteArray.data_extract, Array.toList_extract, str_list, txt_append, txt_append]
    simp [List.extract_eq_take_drop, List.append_assoc]
  exact str_of hl
theorem extract_front (a c : List Nat) : (str (a ++ c)).extract 0 (txt a).length = str a := by
  have := extract_str [] a c
  rw [txt_nil] at this
  simpa using this
theorem extract_back (a c : List Nat) : (str (a ++ c)).extract (txt a).length (str (a ++ c)).size = str c := by
  have := extract_str a c []
  rw [List.append_nil] at this
  rw [str_size, txt_len_append]
  exact this
theorem pass_str (a c : List Nat) (n : Int) (h : ∀ r ∈ a, okR r) : passZ (str (a ++ c), n) (txt a).length = (str c, n + a.length) := by
  unfold passZ
  simp only
  rw [extract_back, extract_front, count_is a h]
end Go.Proofs.YtlikjknakplamaaDoor
/-! ### LxList -/
namespace Go.Proofs.YtlikjknakplamaaDoor
open Go.Lib
set_option linter.unusedSimpArgs false
set_option linter.unusedVariables false
theorem indexByte_cons (b : UInt8) (l : List UInt8) (c : UInt8) : indexByte (b :: l) c = if b = c then 0 else if indexByte l c = -1 then -1 else indexByte l c + 1 := by
  rw [indexByte]
  simp only [beq_iff_eq]
theorem index_cons1 (b : UInt8) (l : List UInt8) (c : UInt8) : index (b :: l) [c] = if b = c then 0 else if index l [c] = -1 then -1 else index l [c] + 1 := by
  rw [index]
  by_cases h : b = c
  · rw [if_pos h, if_pos (by simp [h])]
  · rw [if_neg h, if_neg (by simp; exact fun e => h e.symm)]
    simp only [beq_iff_eq]
theorem index_one (c : UInt8) : ∀ l : List UInt8, index l [c] = indexByte l c
  | [] => rfl
  | b :: l => by rw [index_cons1, indexByte_cons, index_one c l]
theorem indexByte_app (c : UInt8) : ∀ (a t : List UInt8), (∀ b ∈ a, b ≠ c) → indexByte (a ++ t) c = if indexByte t c = -1 then -1 else indexByte t c + a.length
  | [], t, _ => by
    simp only [List.nil_append, List.length_nil, Int.natCast_zero, Int.add_zero]
    split
    · assumption
    · rfl
  | b :: a, t, h => by
    have hb := h b List.mem_cons_self
    have ih := indexByte_app c a t (fun x hx => h x (List.mem_cons_of_mem _ hx))
    have hge := indexByte_ge t c
    rw [List.cons_append, indexByte_cons, if_neg hb, ih]
    by_cases e : indexByte t c = -1
    · rw [if_pos e, if_pos rfl, if_pos e]
    · rw [if_neg e, if_neg (by omega), if_neg e, List.length_cons]
      omega
theorem enc_no (c : Nat) (hc : c < 128) (r : Nat) (hr : r ≠ c) : ∀ b ∈ enc r, b ≠ UInt8.ofNat c := by
  intro b hb e
  subst e
  have hcc : (UInt8.ofNat c).toNat = c := by simp; omega
  by_cases h : r < 128
  · rw [enc_small r h] at hb
    have := List.mem_singleton.1 hb
    have h2 := congrArg UInt8.toNat this
    rw [hcc] at h2
    simp at h2
    omega
  · have := enc_high r (by omega) _ hb
    omega
theorem indexByte_txt (c : Nat) (hc : c < 128) : ∀ rs : List Nat, indexByte (txt rs) (UInt8.ofNat c) = if c ∈ rs then ((txt (rs.takeWhile fun r => decide (r ≠ c))).length : Int) else -1
  | [] => rfl
  | r :: rs => by
    have ih := indexByte_txt c hc rs
    by_cases h : r = c
    · subst h
      rw [txt_cons, enc_small r hc, if_pos List.mem_cons_self, List.takeWhile_cons]
      rw [show ([UInt8.ofNat r] ++ txt rs) = UInt8.ofNat r :: txt rs from rfl, indexByte_cons, if_pos rfl]
      simp
      rfl
    · rw [txt_cons, indexByte_app _ _ _ (enc_no c hc r h), ih, List.takeWhile_cons]
      have hm : (c ∈ r :: rs) ↔ c ∈ rs := by simp; exact fun e => absurd e.symm h
      simp only [hm]
      by_cases h2 : c ∈ rs
      · rw [if_pos h2, if_pos h2, if_neg (by omega), if_pos (by simpa using h), txt_len_cons]
        omega
      · rw [if_neg h2, if_neg h2, if_pos rfl]
theorem takeWhile_all {α : Type} (p : α → Bool) : ∀ l : List α, (∀ x ∈ l, p x = true) → l.takeWhile p = l
  | [], _ => rfl
  | x :: l, h => by rw [List.takeWhile_cons, if_pos (h x List.mem_cons_self), takeWhile_all p l (fun y hy => h y (List.mem_cons_of_mem _ hy))]
theorem take_drop_while {α : Type} (p : α → Bool) (l : List α) : l = l.takeWhile p ++ l.dropWhile p := (List.takeWhile_append_dropWhile).symm
theorem cut_txt (c : Nat) (hc : c < 128) (rs : List Nat) : (cut (txt rs) [UInt8.ofNat c]).1 = txt (rs.takeWhile fun r => decide (r ≠ c)) ∧ (cut (txt rs) [UInt8.ofNat c]).2.2 = decide (c ∈ rs) := by
  unfold cut
  rw [index_one, indexByte_txt c hc rs]
  by_cases h : c ∈ rs
  · rw [if_pos h, if_pos (by omega)]
    refine ⟨?_, by simpa using h⟩
    simp only [Int.toNat_natCast]
    have e := congrArg txt (take_drop_while (fun r => decide (r ≠ c)) rs)
    rw [txt_append] at e
    rw [e]
    rw [← e]
    conv => lhs; rw [e]
    rw [List.take_left]
  · rw [if_neg h, if_neg (by omega)]
    refine ⟨?_, by simpa using h⟩
    rw [takeWhile_all]
    intro x hx
    have : x ≠ c := fun e => h (e ▸ hx)
    simpa using this
/-- The first byte of a text. -/
theorem first_byte (r : Nat) (t : List Nat) : bAt (str (r :: t)) 0 = ((enc r).getD 0 0).toNat := by
  have hp : 0 < (str (r :: t)).size := by rw [str_size, txt_len_cons]; have := (enc_len r).1; omega
  have h := bAt_zero (str (r :: t)) hp
  rw [str_list, txt_cons, List.getElem?_append_left (by have := (enc_len r).1; omega)] at h
  unfold bAt
  rw [List.getD_eq_getElem?_getD, h]
  rfl
theorem first_small (r : Nat) (t : List Nat) (h : r < 128) : bAt (str (r :: t)) 0 = r := by
  rw [first_byte, enc_small r h]
  show (UInt8.ofNat r).toNat = r
  simp; omega
theorem first_high (r : Nat) (t : List Nat) (h : 128 ≤ r) : 128 ≤ bAt (str (r :: t)) 0 := by
  rw [first_byte]
  have hl := (enc_len r).1
  refine enc_high r h _ ?_
  rw [List.getD_eq_getElem?_getD, List.getElem?_eq_getElem (by omega)]
  exact List.getElem_mem _
theorem class_one {r : Int} (h : classZ r = 1) : r = 32 ∨ r = 9 ∨ r = 13 ∨ r = 10 := by
  unfold classZ at h
  split at h
  · assumption
  · repeat' split at h
    all_goals omega
theorem class_six {r : Int} (h : classZ r = 6) : r = 35 := by
  unfold classZ at h
  repeat' split at h
  all_goals first | assumption | omega
/-- How many runes blanks and remarks are. -/
def blanksN : Bool → List Nat → Nat
  | _, [] => 0
  | c, r :: t => if c = true ∧ r ≠ 10 then 1 + blanksN true t else if classZ r = 1 then 1 + blanksN false t else if classZ r = 6 then 1 + blanksN true t else 0
theorem blanksN_le : ∀ (c : Bool) (rs : List Nat), blanksN c rs ≤ rs.length
  | _, [] => Nat.le_refl _
  | c, r :: t => by
    have h1 := blanksN_le true t
    have h2 := blanksN_le false t
    unfold blanksN
    rw [List.length_cons]
    split
    · omega
    split
    · omega
    split
    · omega
    · omega
/-- In a remark: up to the line's end. -/
theorem blanksN_in : ∀ rs : List Nat, blanksN true rs = (rs.takeWhile fun r => decide (r ≠ 10)).length + blanksN false (rs.dropWhile fun r => decide (r ≠ 10))
  | [] => rfl
  | r :: t => by
    rw [List.takeWhile_cons, List.dropWhile_cons]
    by_cases h : r = 10
    · subst h
      rw [if_neg (by simp), if_neg (by simp)]
      rw [List.length_nil, Nat.zero_add]
      rw [blanksN, blanksN, if_neg (show ¬ (true = true ∧ 10 ≠ 10) by simp), if_neg (show ¬ (false = true ∧ 10 ≠ 10) by simp)]
    · rw [if_pos (by simpa using h), if_pos (by simpa using h), List.length_cons]
      have ih := blanksN_in t
      rw [blanksN, if_pos ⟨rfl, h⟩, ih]
      omega
theorem hashN_str (rs : List Nat) : hashN (str rs) = (txt (rs.takeWhile fun r => decide (r ≠ 10))).length := by
  unfold hashN
  rw [str_list, show (10 : UInt8) = UInt8.ofNat 10 from rfl, indexByte_txt 10 (by omega) rs]
  by_cases h : 10 ∈ rs
  · rw [if_pos h, if_neg (by omega), Int.toNat_natCast]
  · rw [if_neg h, if_pos (by omega), str_size, takeWhile_all]
    intro x hx
    have : x ≠ 10 := fun e => h (e ▸ hx)
    simpa using this
theorem blanks_str : ∀ (f : Nat) (rs : List Nat) (n : Int), (∀ r ∈ rs, okR r) → (txt rs).length ≤ f → blanksZ f (str rs, n) = (str (rs.drop (blanksN false rs)), n + blanksN false rs) := by
  intro f
  induction f with
  | zero =>
    intro rs n h hf
    have h0 : rs.length = 0 := by have := txt_len rs; omega
    obtain rfl := List.eq_nil_of_length_eq_zero h0
    simp [blanksZ, blanksN]
  | succ f ih =>
    intro rs n h hf
    cases rs with
    | nil =>
      unfold blanksZ
      rw [if_pos (by rw [str_size]; rfl)]
      simp [blanksN]
    | cons r t =>
      have hp : 0 < (str (r :: t)).size := by rw [str_size, txt_len_cons]; have := (enc_len r).1; omega
      have ht : ∀ x ∈ t, okR x := fun x hx => h x (List.mem_cons_of_mem _ hx)
      rw [txt_len_cons] at hf
      have hl := (enc_len r).1
      unfold blanksZ
      rw [if_neg (by simp only; omega)]
      simp only
      by_cases c1 : classZ (bAt (str (r :: t)) 0) = 1
      · have hs : r < 128 := by
          rcases Nat.lt_or_ge r 128 with h1 | h1
          · exact h1
          · have := first_high r t h1
            have := class_one c1
            omega
        rw [if_pos c1]
        rw [first_small r t hs] at c1
        have hpass := pass_str [r] t n (by simpa using h r List.mem_cons_self)
        rw [show (txt [r]).length = 1 by rw [txt_len_cons, enc_small r hs]; rfl] at hpass
        rw [show [r] ++ t = r :: t from rfl] at hpass
        rw [hpass, ih t _ ht (by omega)]
        have e : blanksN false (r :: t) = blanksN false t + 1 := by rw [blanksN, if_neg (by simp), if_pos c1, Nat.add_comm]
        rw [e, List.drop_succ_cons, List.length_singleton]
        simp only [Prod.mk.injEq, true_and]
        omega
      · rw [if_neg c1]
        by_cases c6 : classZ (bAt (str (r :: t)) 0) = 6
        · have hs : r < 128 := by
            rcases Nat.lt_or_ge r 128 with h1 | h1
            · exact h1
            · have := first_high r t h1
              have := class_six c6
              omega
          rw [if_pos c6]
          rw [first_small r t hs] at c6 c1
          have hr : r = 35 := by have := class_six c6; omega
          subst hr
          rw [hashN_str]
          have hsplit := take_drop_while (fun r => decide (r ≠ 10)) (35 :: t)
          have hpass := pass_str ((35 :: t).takeWhile fun r => decide (r ≠ 10)) ((35 :: t).dropWhile fun r => decide (r ≠ 10)) n (fun x hx => h x (List.takeWhile_sublist _ |>.subset hx))
          rw [← hsplit] at hpass
          rw [hpass]
          rw [List.takeWhile_cons, if_pos (by simp), List.dropWhile_cons, if_pos (by simp)]
          rw [ih _ _ (fun x hx => ht x (List.dropWhile_sublist _ |>.subset hx)) (by
            have := congrArg (fun l => (txt l).length) (take_drop_while (fun r => decide (r ≠ 10)) t)
            simp only [txt_len_append] at this
            omega)]
          have e : blanksN false (35 :: t) = 1 + blanksN true t := by
            rw [blanksN, if_neg (by simp), if_neg c1, if_pos c6]
          rw [e, blanksN_in, Nat.add_comm 1, List.drop_succ_cons]
          have hd : t.drop ((t.takeWhile fun r => decide (r ≠ 10)).length + blanksN false (t.dropWhile fun r => decide (r ≠ 10))) = (t.dropWhile fun r => decide (r ≠ 10)).drop (blanksN false (t.dropWhile fun r => decide (r ≠ 10))) := by
            conv => lhs; arg 2; rw [take_drop_while (fun r => decide (r ≠ 10)) t]
            rw [← List.drop_drop, List.drop_left]
          rw [hd, List.length_cons]
          simp only [Prod.mk.injEq, true_and]
          omega
        · rw [if_neg c6]
          have e : blanksN false (r :: t) = 0 := by
            rw [blanksN, if_neg (by simp)]
            have d1 : ¬ classZ r = 1 := by
              intro hc
              have hs : r < 128 := by have := class_one hc; omega
              rw [first_small r t hs] at c1
              exact c1 hc
            have d6 : ¬ classZ r = 6 := by
              intro hc
              have hs : r < 128 := by have := class_six hc; omega
              rw [first_small r t hs] at c6
              exact c6 hc
            rw [if_neg d1, if_neg d6]
          rw [e]
          simp
theorem blanks_is (rs : List Nat) (n : Int) (h : ∀ r ∈ rs, okR r) : blanks (str rs, n) = (str (rs.drop (blanksN false rs)), n + blanksN false rs) := blanks_str _ rs n h (by rw [str_size]; exact Nat.le_refl _)
end Go.Proofs.YtlikjknakplamaaDoor
/-! ### LxToks -/
namespace Go.Proofs.YtlikjknakplamaaDoor
open Go.Lib
set_option linter.unusedSimpArgs false
set_option linter.unusedVariables false
theorem class_three {r : Int} (h : classZ r = 3) : 48 ≤ r ∧ r ≤ 57 := by
  unfold classZ at h
  repeat' split at h
  all_goals first | assumption | omega
theorem class_five {r : Int} (h : classZ r = 5) : r = 34 := by
  unfold classZ at h
  repeat' split at h
  all_goals first | assumption | omega
theorem class_four {r : Int} (h : classZ r = 4) : r ∈ signs := by
  unfold classZ at h
  repeat' split at h
  all_goals first | assumption | omega
theorem signs_small : ∀ r ∈ signs, 32 < r ∧ r < 127 := by decide
abbrev isW (r : Nat) : Bool := wordyZ r
def digitsR : List Nat → Nat → Option Nat
  | [], n => some n
  | r :: t, n => if classZ r = 3 then digitsR t (10 * n + (r - 48)) else none
theorem digits_str : ∀ (b a : List Nat) (f n : Nat), (∀ r ∈ b, okR r) → (txt b).length ≤ f → numFrom (str (a ++ b)) f (txt a).length n = digitsR b n
  | [], a, f, n, _, _ => by
    rw [numFrom_end _ _ _ _ (by rw [str_size, List.append_nil]; omega)]
    rfl
  | r :: b, a, f, n, h, hf => by
    have hr := h r List.mem_cons_self
    have hl := (enc_len r).1
    rw [txt_len_cons] at hf
    obtain ⟨f, rfl⟩ : ∃ m, f = m + 1 := ⟨f - 1, by omega⟩
    unfold numFrom digitsR
    rw [if_pos (by rw [str_size, txt_len_append, txt_len_cons]; omega), decode_str a r b hr]
    have := digits_str b (a ++ [r]) f (10 * n + (r - 48)) (fun r hr => h r (List.mem_cons_of_mem _ hr)) (by omega)
    rw [List.append_assoc, txt_len_append, txt_len_cons, txt_nil] at this
    simp only [List.length_nil, Nat.add_zero, List.singleton_append] at this
    rw [this]
theorem digits_all : ∀ (rs : List Nat) (n : Nat), (digitsR rs n).isSome = true → ∀ r ∈ rs, 48 ≤ r ∧ r ≤ 57
  | [], _, _, r, hr => by simp at hr
  | x :: rs, n, h, r, hr => by
    unfold digitsR at h
    split at h
    · rename_i hc
      rcases List.mem_cons.1 hr with rfl | hr
      · have := class_three hc
        omega
      · exact digits_all rs _ h r hr
    · cases h
theorem txt_small : ∀ rs : List Nat, (∀ r ∈ rs, r < 128) → (txt rs).length = rs.length
  | [], _ => rfl
  | r :: rs, h => by
    rw [txt_len_cons, enc_small r (h r List.mem_cons_self), txt_small rs (fun x hx => h x (List.mem_cons_of_mem _ hx)), List.length_cons]
    simp only [List.length_cons, List.length_nil]
    omega
def numR (rs : List Nat) : Int × Bool := if rs = [] ∨ 19 < rs.length ∨ (1 < rs.length ∧ rs.head? = some 48) then (0, false) else told (digitsR rs 0)
theorem num_is (rs : List Nat) (h : ∀ r ∈ rs, okR r) : numZ (str rs) = numR rs := by
  unfold numZ numR
  have hd : numFrom (str rs) (str rs).size 0 0 = digitsR rs 0 := digits_str rs [] _ 0 h (by rw [str_size]; exact Nat.le_refl _)
  rw [hd]
  cases ho : digitsR rs 0 with
  | none =>
    rw [show told none = ((0 : Int), false) from rfl]
    split <;> split <;> rfl
  | some n =>
    have ha := digits_all rs 0 (by rw [ho]; rfl)
    have hsz : (str rs).size = rs.length := by rw [str_size, txt_small rs (fun r hr => by have := ha r hr; omega)]
    have e : ((str rs).size = 0 ∨ 19 < (str rs).size ∨ 1 < (str rs).size ∧ bAt (str rs) 0 = 48) ↔ (rs = [] ∨ 19 < rs.length ∨ (1 < rs.length ∧ rs.head? = some 48)) := by
      rw [hsz, List.length_eq_zero_iff]
      cases rs with
      | nil => simp
      | cons r t =>
        have := ha r List.mem_cons_self
        rw [first_small r t (by omega)]
        simp
    simp only [e]
/-- A token as runes: its kind, text, number. -/
abbrev TokR := Int × List Nat × Int
def noTokR : TokR := (0, [], 0)
def textR (t : List Nat) : TokR × Nat × Int :=
  if 34 ∈ t.takeWhile (fun r => decide (r ≠ 10)) then
    (if ((t.takeWhile fun r => decide (r ≠ 10)).takeWhile fun r => decide (r ≠ 34)).any (fun r => decide (r < 32)) = true then (noTokR, 0, 11)
     else if 20 < ((t.takeWhile fun r => decide (r ≠ 10)).takeWhile fun r => decide (r ≠ 34)).length then (noTokR, 0, 2)
     else ((3, (t.takeWhile fun r => decide (r ≠ 10)).takeWhile (fun r => decide (r ≠ 34)), 0), ((t.takeWhile fun r => decide (r ≠ 10)).takeWhile fun r => decide (r ≠ 34)).length + 2, 0))
  else (noTokR, 0, 11)
def two (r : Nat) (t : List Nat) : Bool := (t.head? == some 61) && (r == 60 || r == 62 || r == 61 || r == 33 || r == 58)
def signR (r : Nat) (t : List Nat) : Nat := if two r t = true then 2 else 1
def tokR : List Nat → TokR × Nat × Int
  | [] => (noTokR, 0, 11)
  | r :: t =>
    if classZ r = 2 then (if 12 < ((r :: t).takeWhile isW).length then (noTokR, 0, 2) else ((1, (r :: t).takeWhile isW, 0), ((r :: t).takeWhile isW).length, 0))
    else if classZ r = 3 then (if (numR ((r :: t).takeWhile isW)).2 = true then ((2, (r :: t).takeWhile isW, (numR ((r :: t).takeWhile isW)).1), ((r :: t).takeWhile isW).length, 0) else (noTokR, 0, 11))
    else if classZ r = 5 then textR t
    else if classZ r = 4 then ((4, (r :: t).take (signR r t), 0), signR r t, 0)
    else (noTokR, 0, 11)
def tokZ (x : TokR) : Tok := (x.1, str x.2.1, x.2.2, 0)
theorem str_nil : str [] = ⟨#[]⟩ := rfl
theorem line_is (t : List Nat) (q : Nat) (hq : q < 128) : lineOf (str (q :: t)) = str (t.takeWhile fun r => decide (r ≠ 10)) := by
  have e := extract_back [q] t
  rw [show (txt [q]).length = 1 by rw [txt_len_cons, enc_small q hq]; rfl, List.singleton_append] at e
  unfold lineOf
  rw [e, str_list, show (10 : UInt8) = UInt8.ofNat 10 from rfl, (cut_txt 10 (by omega) t).1]
  rfl
theorem inside_is (t : List Nat) (q : Nat) (hq : q < 128) : insideOf (str (q :: t)) = str ((t.takeWhile fun r => decide (r ≠ 10)).takeWhile fun r => decide (r ≠ 34)) := by
  unfold insideOf
  rw [line_is t q hq, str_list, show (34 : UInt8) = UInt8.ofNat 34 from rfl, (cut_txt 34 (by omega) _).1]
  rfl
theorem closed_is (t : List Nat) (q : Nat) (hq : q < 128) : closed (str (q :: t)) = decide (34 ∈ t.takeWhile fun r => decide (r ≠ 10)) := by
  unfold closed
  rw [line_is t q hq, str_list, show (34 : UInt8) = UInt8.ofNat 34 from rfl, (cut_txt 34 (by omega) _).2]
theorem takeWhile_sub {α : Type} (p : α → Bool) (l : List α) : ∀ x ∈ l.takeWhile p, x ∈ l := fun x hx => List.takeWhile_sublist _ |>.subset hx
theorem take_takeWhile {α : Type} (p : α → Bool) (l : List α) : l.take (l.takeWhile p).length = l.takeWhile p := by
  conv => lhs; arg 2; rw [take_drop_while p l]
  rw [List.take_left]
/-- Behind the part up to a mark that is there stands the mark. -/
theorem takeWhile_mark (c : Nat) : ∀ l : List Nat, c ∈ l → ∃ u, l = (l.takeWhile fun r => decide (r ≠ c)) ++ c :: u
  | [], h => by simp at h
  | x :: l, h => by
    rw [List.takeWhile_cons]
    by_cases hx : x = c
    · subst hx
      exact ⟨l, by simp⟩
    · rw [if_pos (by simpa using hx)]
      obtain ⟨u, hu⟩ := takeWhile_mark c l (by rcases List.mem_cons.1 h with e | e; exact absurd e.symm hx; exact e)
      exact ⟨u, by rw [List.cons_append, ← hu]⟩
theorem text_is (t : List Nat) (h : ∀ r ∈ t, okR r) : textZ (str (34 :: t)) = (tokZ (textR t).1, ((txt ((34 :: t).take (textR t).2.1)).length : Int), (textR t).2.2) := by
  unfold textZ textR
  rw [closed_is t 34 (by omega), inside_is t 34 (by omega)]
  by_cases h1 : 34 ∈ t.takeWhile (fun r => decide (r ≠ 10))
  · rw [if_neg (by simpa using h1), if_pos h1, low_is _ (fun r hr => h r (takeWhile_sub _ _ _ (takeWhile_sub _ _ _ hr))), count_is _ (fun r hr => h r (takeWhile_sub _ _ _ (takeWhile_sub _ _ _ hr)))]
    obtain ⟨u, hu⟩ := takeWhile_mark 34 _ h1
    have hpre := take_drop_while (fun r => decide (r ≠ 10)) t
    generalize t.dropWhile (fun r => decide (r ≠ 10)) = v at *
    generalize t.takeWhile (fun r => decide (r ≠ 10)) = line at *
    generalize line.takeWhile (fun r => decide (r ≠ 34)) = ins at *
    by_cases h2 : ins.any (fun r => decide (r < 32)) = true
    · rw [if_pos h2, if_pos h2]; rfl
    · rw [if_neg h2, if_neg h2]
      by_cases h3 : 20 < ins.length
      · rw [if_pos h3, if_pos h3]; rfl
      · rw [if_neg h3, if_neg h3]
        simp only [tokZ, Prod.mk.injEq, true_and, and_true]
        rw [List.take_succ_cons, hpre, hu, List.append_assoc, List.take_append, List.take_of_length_le (by omega), show ins.length + 1 - ins.length = 1 by omega]
        simp only [List.cons_append, List.take_succ_cons, List.take_zero]
        rw [txt_len_cons, txt_len_append, txt_len_cons, txt_nil, enc_small 34 (by omega), str_size]
        simp only [List.length_singleton, List.length_nil]
        omega
  · rw [if_pos (by simpa using h1), if_neg h1]
    rfl
theorem two_signs (r : Nat) (h : r < 128) : (0 ≤ indexByte twoSigns (UInt8.ofNat r)) ↔ (r = 60 ∨ r = 62 ∨ r = 61 ∨ r = 33 ∨ r = 58) := by
  have : ∀ x : Fin 128, (0 ≤ indexByte twoSigns (UInt8.ofNat x.val)) ↔ (x.val = 60 ∨ x.val = 62 ∨ x.val = 61 ∨ x.val = 33 ∨ x.val = 58) := by decide +kernel
  exact this ⟨r, h⟩
theorem second_byte (r : Nat) (hr : r < 128) (x : Nat) (t : List Nat) : bAt (str (r :: x :: t)) 1 = ((enc x).getD 0 0).toNat := by
  have hl := (enc_len x).1
  have hp : 1 < (str (r :: x :: t)).data.size := by
    show 1 < (str (r :: x :: t)).size
    rw [str_size, txt_len_cons, txt_len_cons, enc_small r hr, List.length_singleton]
    omega
  unfold bAt
  simp only [ByteArray.get!]
  rw [getElem!_pos _ 1 hp]
  have e : (str (r :: x :: t)).data[1] = (enc x).getD 0 0 := by
    have e1 : (str (r :: x :: t)).data.toList[1]? = some (str (r :: x :: t)).data[1] := by rw [Array.getElem?_toList, Array.getElem?_eq_getElem hp]
    rw [str_list, txt_cons, enc_small r hr, List.singleton_append, List.getElem?_cons_succ, txt_cons, List.getElem?_append_left (by omega)] at e1
    rw [List.getD_eq_getElem?_getD, e1]
    rfl
  rw [e]
theorem second_is (r : Nat) (hr : r < 128) (x : Nat) (t : List Nat) : bAt (str (r :: x :: t)) 1 = 61 ↔ x = 61 := by
  rw [second_byte r hr x t]
  have hl := (enc_len x).1
  constructor
  · intro e
    by_cases hx : x < 128
    · rw [enc_small x hx] at e
      have e2 : (UInt8.ofNat x).toNat = 61 := e
      simp at e2
      omega
    · have := enc_high x (by omega) ((enc x).getD 0 0) (by rw [List.getD_eq_getElem?_getD, List.getElem?_eq_getElem (by omega)]; exact List.getElem_mem _)
      omega
  · rintro rfl
    rw [enc_small 61 (by omega)]
    rfl
theorem sign_is (r : Nat) (t : List Nat) (hr : r < 128) (h : ∀ x ∈ r :: t, okR x) : signN (str (r :: t)) = (txt ((r :: t).take (signR r t))).length ∧ (r :: t).take (signR r t) = (r :: t).take (signR r t) := by
  refine ⟨?_, rfl⟩
  have hd : Utf8.decode (str (r :: t)) 0 = (r, (enc r).length) := decode_str [] r t (h r List.mem_cons_self)
  have hg : (str (r :: t)).get! 0 = UInt8.ofNat r := by
    have := bAt_zero (str (r :: t)) (by rw [str_size, txt_len_cons]; have := (enc_len r).1; omega)
    rw [str_list, txt_cons, enc_small r hr, List.singleton_append, List.getElem?_cons_zero] at this
    exact (Option.some.inj this).symm
  unfold signN signR two
  rw [hd, hg]
  simp only [two_signs r hr]
  cases t with
  | nil =>
    have hs : ¬ 1 < (str [r]).size := by rw [str_size, txt_len_cons, enc_small r hr]; simp [txt]
    rw [if_neg (by omega), if_neg (by simp)]
    simp [txt_len_cons, txt_nil]
  | cons x t =>
    have hs : 1 < (str (r :: x :: t)).size := by rw [str_size, txt_len_cons, txt_len_cons, enc_small r hr, List.length_singleton]; have := (enc_len x).1; omega
    simp only [second_is r hr x t]
    by_cases hx : x = 61
    · subst hx
      by_cases h5 : r = 60 ∨ r = 62 ∨ r = 61 ∨ r = 33 ∨ r = 58
      · rw [if_pos ⟨hs, rfl, h5⟩, if_pos (by rcases h5 with rfl | rfl | rfl | rfl | rfl <;> rfl)]
        simp only [List.take_succ_cons, List.take_zero]
        rw [txt_len_cons, txt_len_cons, txt_nil, enc_small r hr, enc_small 61 (by omega)]
        rfl
      · have hb : ((r == 60 || r == 62 || r == 61 || r == 33 || r == 58) = false) := by simp; omega
        rw [if_neg (fun hh => h5 hh.2.2), if_neg (by rw [hb, Bool.and_false]; simp)]
        simp [txt_len_cons, txt_nil]
    · rw [if_neg (fun hh => hx hh.2.1), if_neg (by simp [hx])]
      simp [txt_len_cons, txt_nil]
theorem token_is (rs : List Nat) (hne : rs ≠ []) (h : ∀ r ∈ rs, okR r) : tokenZ (str rs) = (tokZ (tokR rs).1, ((txt (rs.take (tokR rs).2.1)).length : Int), (tokR rs).2.2) := by
  cases rs with
  | nil => exact absurd rfl hne
  | cons r t =>
    have hd : Utf8.decode (str (r :: t)) 0 = (r, (enc r).length) := decode_str [] r t (h r List.mem_cons_self)
    have hw := word_is (r :: t) h
    have hsplit := take_drop_while (fun r : Nat => wordyZ r) (r :: t)
    have hfront := extract_front ((r :: t).takeWhile fun r : Nat => wordyZ r) ((r :: t).dropWhile fun r : Nat => wordyZ r)
    rw [← hsplit] at hfront
    have hok : ∀ x ∈ (r :: t).takeWhile (fun r : Nat => wordyZ r), okR x := fun x hx => h x (takeWhile_sub _ _ _ hx)
    have htk := take_takeWhile (fun r : Nat => wordyZ r) (r :: t)
    unfold tokenZ tokR
    rw [hd, hw, hfront, count_is _ hok, num_is _ hok]
    simp only
    show _ = _
    generalize hgw : (r :: t).takeWhile (fun r : Nat => wordyZ r) = W at *
    by_cases c2 : classZ r = 2
    · rw [if_pos c2, if_pos c2]
      by_cases c : 12 < W.length
      · rw [if_pos c, if_pos c]; rfl
      · rw [if_neg c, if_neg c]
        simp only [tokZ, htk]
    · rw [if_neg c2, if_neg c2]
      by_cases c3 : classZ r = 3
      · rw [if_pos c3, if_pos c3]
        by_cases c : (numR W).2 = true
        · rw [if_pos c, if_pos c]
          simp only [tokZ, htk]
        · rw [if_neg c, if_neg c]; rfl
      · rw [if_neg c3, if_neg c3]
        by_cases c5 : classZ r = 5
        · rw [if_pos c5, if_pos c5]
          have : r = 34 := by have := class_five c5; omega
          subst this
          exact text_is t (fun x hx => h x (List.mem_cons_of_mem _ hx))
        · rw [if_neg c5, if_neg c5]
          by_cases c4 : classZ r = 4
          · rw [if_pos c4, if_pos c4]
            have hr : r < 128 := by have := signs_small _ (class_four c4); omega
            have hs := (sign_is r t hr h).1
            have hf := extract_front ((r :: t).take (signR r t)) ((r :: t).drop (signR r t))
            rw [List.take_append_drop] at hf
            rw [hs, hf]
            rfl
          · rw [if_neg c4, if_neg c4]; rfl
/-- The tokens from a place on: at which rune that is, how many there are ahead. -/
def lexR : Nat → List Nat → Nat → Nat → List (TokR × Nat) × Int × Int
  | 0, _, _, _ => ([], 0, 0)
  | f + 1, rs, n, k =>
    if rs.drop (blanksN false rs) = [] then ([(noTokR, n + blanksN false rs)], 0, 0)
    else if k = 2000 then ([], 2, ((n + blanksN false rs : Nat) : Int))
    else if (tokR (rs.drop (blanksN false rs))).2.2 ≠ 0 then ([], (tokR (rs.drop (blanksN false rs))).2.2, ((n + blanksN false rs : Nat) : Int))
    else if (lexR f ((rs.drop (blanksN false rs)).drop (tokR (rs.drop (blanksN false rs))).2.1) (n + blanksN false rs + (tokR (rs.drop (blanksN false rs))).2.1) (k + 1)).2.1 ≠ 0 then
      ([], (lexR f ((rs.drop (blanksN false rs)).drop (tokR (rs.drop (blanksN false rs))).2.1) (n + blanksN false rs + (tokR (rs.drop (blanksN false rs))).2.1) (k + 1)).2)
    else (((tokR (rs.drop (blanksN false rs))).1, n + blanksN false rs) :: (lexR f ((rs.drop (blanksN false rs)).drop (tokR (rs.drop (blanksN false rs))).2.1) (n + blanksN false rs + (tokR (rs.drop (blanksN false rs))).2.1) (k + 1)).1, 0, 0)
def tokAt (x : TokR × Nat) : Tok := (x.1.1, str x.1.2.1, x.1.2.2, (x.2 : Int))
end Go.Proofs.YtlikjknakplamaaDoor
/-! ### LxLen -/
namespace Go.Proofs.YtlikjknakplamaaDoor
open Go.Lib
set_option linter.unusedSimpArgs false
set_option linter.unusedVariables false
theorem width_end (s : ByteArray) (p : Nat) (h : p < s.size) : p + (Utf8.decode s p).2 ≤ s.size := by
  rw [Lib.decode_at]
  unfold Lib.decodeN
  repeat' split
  all_goals (simp only; omega)
theorem wordEnd_ge (s : ByteArray) : ∀ f p, p ≤ s.size → p ≤ wordEnd s f p
  | 0, p, h => h
  | f + 1, p, h => by
    unfold wordEnd
    split
    · rename_i hp
      split
      · have := wordEnd_ge s f _ (width_end s p hp)
        omega
      · exact Nat.le_refl _
    · exact h
theorem word_pos (x : ByteArray) (h : 0 < x.size) (hw : wordyZ (Utf8.decode x 0).1 = true) : 1 ≤ wordEnd x x.size 0 := by
  obtain ⟨f, hf⟩ : ∃ f, x.size = f + 1 := ⟨x.size - 1, by omega⟩
  rw [hf]
  unfold wordEnd
  rw [if_pos h, if_pos hw, Nat.zero_add]
  have h1 := decode_width_pos x 0 h
  have h2 := width_end x 0 h
  rw [Nat.zero_add] at h2
  have := wordEnd_ge x f _ h2
  omega
theorem cut_hit_len (s : List UInt8) (c : UInt8) (h : (cut s [c]).2.2 = true) : (cut s [c]).1.length + 1 ≤ s.length := by
  unfold cut at h ⊢
  by_cases hi : 0 ≤ index s [c]
  · rw [if_pos hi] at h ⊢
    obtain ⟨o, ho⟩ : ∃ o : Nat, index s [c] = o := ⟨(index s [c]).toNat, by omega⟩
    have ho' := ho
    rw [index_one] at ho
    have := (indexByte_some ho).1
    have hlt : o < s.length := (List.getElem?_eq_some_iff.1 this).1
    simp only [ho', List.length_take, Int.toNat_natCast]
    omega
  · rw [if_neg hi] at h
    cases h
theorem size_arr (l : List UInt8) : (⟨l.toArray⟩ : ByteArray).size = l.length := by show Array.size _ = _; simp
theorem text_len (x : ByteArray) (h : 0 < x.size) (hc : closed x = true) : (insideOf x).size + 2 ≤ x.size := by
  have h1 := cut_hit_len _ _ hc
  have h2 : (insideOf x).size + 1 ≤ (lineOf x).size := by
    unfold insideOf
    rw [size_arr]
    have : (lineOf x).data.toList.length = (lineOf x).size := by rw [Array.length_toList]; rfl
    omega
  have h3 : (lineOf x).size ≤ x.size - 1 := by
    have h := cut_fst_le (x.extract 1 x.size).data.toList [10]
    have e1 : (lineOf x).size = (Lib.cut (x.extract 1 x.size).data.toList [10]).1.length := by unfold lineOf; exact size_arr _
    have e2 : (x.extract 1 x.size).data.toList.length = (x.extract 1 x.size).size := by rw [Array.length_toList]; rfl
    rw [ByteArray.size_extract] at e2
    omega
  omega
theorem token_len (x : ByteArray) (h : 0 < x.size) (he : (tokenZ x).2.2 = 0) : ∃ n : Nat, (tokenZ x).2.1 = n ∧ 1 ≤ n ∧ n ≤ x.size := by
  have hle := wordEnd_le x x.size 0
  unfold tokenZ at he ⊢
  by_cases c2 : classZ (Utf8.decode x 0).1 = 2
  · have hp := word_pos x h (by unfold wordyZ; simp [c2])
    rw [if_pos c2] at he ⊢
    split at he
    · cases he
    · rename_i hn
      rw [if_neg hn]
      exact ⟨_, rfl, hp, hle⟩
  · rw [if_neg c2] at he ⊢
    by_cases c3 : classZ (Utf8.decode x 0).1 = 3
    · have hp := word_pos x h (by unfold wordyZ; simp [c3])
      rw [if_pos c3] at he ⊢
      split at he
      · rename_i hn
        rw [if_pos hn]
        exact ⟨_, rfl, hp, hle⟩
      · cases he
    · rw [if_neg c3] at he ⊢
      by_cases c5 : classZ (Utf8.decode x 0).1 = 5
      · rw [if_pos c5] at he ⊢
        unfold textZ at he ⊢
        by_cases d1 : closed x = false
        · rw [if_pos d1] at he; cases he
        · rw [if_neg d1] at he ⊢
          have hl := text_len x h (by simpa using d1)
          split at he
          · cases he
          · rename_i d2
            rw [if_neg d2]
            split at he
            · cases he
            · rename_i d3
              rw [if_neg d3]
              exact ⟨(insideOf x).size + 2, by simp, by omega, hl⟩
      · rw [if_neg c5] at he ⊢
        by_cases c4 : classZ (Utf8.decode x 0).1 = 4
        · rw [if_pos c4] at he ⊢
          refine ⟨_, rfl, ?_, ?_⟩
          · unfold signN
            have := decode_width_pos x 0 h
            split <;> omega
          · unfold signN
            have := width_end x 0 h
            split <;> omega
        · rw [if_neg c4] at he; cases he
theorem blanksZ_bound : ∀ (f : Nat) (st : ByteArray × Int) (B : Int), 0 ≤ st.2 → st.2 + st.1.size ≤ B → 0 ≤ (blanksZ f st).2 ∧ (blanksZ f st).2 + (blanksZ f st).1.size ≤ B ∧ (blanksZ f st).1.size ≤ st.1.size
  | 0, st, B, h0, h1 => ⟨h0, h1, Nat.le_refl _⟩
  | f + 1, st, B, h0, h1 => by
    unfold blanksZ
    by_cases hz : st.1.size = 0
    · rw [if_pos hz]; exact ⟨h0, h1, Nat.le_refl _⟩
    · rw [if_neg hz]
      by_cases c1 : classZ (bAt st.1 0) = 1
      · rw [if_pos c1]
        have p1 := passZ_at st 1 (by omega)
        have p2 := passZ_size st 1 (by omega)
        obtain ⟨a, b, c⟩ := blanksZ_bound f (passZ st 1) B (by omega) (by omega)
        exact ⟨a, b, by omega⟩
      · rw [if_neg c1]
        by_cases c6 : classZ (bAt st.1 0) = 6
        · rw [if_pos c6]
          have hn := hashN_le st.1 (by omega) c6
          have p1 := passZ_at st (hashN st.1) hn.2
          have p2 := passZ_size st (hashN st.1) hn.2
          obtain ⟨a, b, c⟩ := blanksZ_bound f (passZ st (hashN st.1)) B (by omega) (by omega)
          exact ⟨a, b, by omega⟩
        · rw [if_neg c6]; exact ⟨h0, h1, Nat.le_refl _⟩
/-- What cutting does behind blanks. -/
def cutTail (f : Nat) (st : ByteArray × Int) (l : List Tok) : List Tok × Int × Int :=
  if st.1.size = 0 then (l ++ [(0, ⟨#[]⟩, 0, st.2)], 0, 0)
  else if l.length = 2000 then ([], 2, st.2)
  else if (tokenZ st.1).2.2 ≠ 0 then ([], (tokenZ st.1).2.2, st.2)
  else cutLoop f (passZ st (tokenZ st.1).2.1.toNat) (l ++ [((tokenZ st.1).1.1, (tokenZ st.1).1.2.1, (tokenZ st.1).1.2.2.1, st.2)])
theorem cutLoop_tail (f : Nat) (st : ByteArray × Int) (l : List Tok) : cutLoop (f + 1) st l = cutTail f (blanks st) l := rfl
end Go.Proofs.YtlikjknakplamaaDoor
/-! ### LxCutP -/
namespace Go.Proofs.YtlikjknakplamaaDoor
open Go.Lib
set_option linter.unusedSimpArgs false
set_option linter.unusedVariables false
theorem takeWhile_len {α : Type} (p : α → Bool) (l : List α) : (l.takeWhile p).length ≤ l.length := (List.takeWhile_sublist _).length_le
theorem takeWhile_pos {α : Type} (p : α → Bool) (x : α) (l : List α) (h : p x = true) : 1 ≤ ((x :: l).takeWhile p).length := by
  rw [List.takeWhile_cons, if_pos h]
  simp
theorem wordy_two {r : Nat} (h : classZ (r : Int) = 2) : isW r = true := by
  show wordyZ (r : Int) = true
  unfold wordyZ
  rw [h]
  rfl
theorem wordy_three {r : Nat} (h : classZ (r : Int) = 3) : isW r = true := by
  show wordyZ (r : Int) = true
  unfold wordyZ
  rw [h]
  rfl
theorem signR_le (r : Nat) (t : List Nat) : 1 ≤ signR r t ∧ signR r t ≤ (r :: t).length := by
  unfold signR two
  cases t with
  | nil => simp
  | cons x t => split <;> simp
/-- A token takes something, and no more than there is; what it is. -/
theorem tokR_good (rs : List Nat) (he : (tokR rs).2.2 = 0) :
    1 ≤ (tokR rs).2.1 ∧ (tokR rs).2.1 ≤ rs.length ∧ (tokR rs).1.1 ≠ 0 ∧ ((tokR rs).1.2.1 = [] → (tokR rs).1.1 = 3) ∧ (∀ r ∈ (tokR rs).1.2.1, r ∈ rs) := by
  cases rs with
  | nil => cases he
  | cons r t =>
    have htw := takeWhile_len isW (r :: t)
    unfold tokR at he ⊢
    by_cases c2 : classZ r = 2
    · have hp := takeWhile_pos isW r t (wordy_two c2)
      simp only [if_pos c2] at he ⊢
      by_cases c : 12 < ((r :: t).takeWhile isW).length
      · rw [if_pos c] at he; cases he
      · simp only [if_neg c]
        refine ⟨hp, htw, by decide, fun h => ?_, takeWhile_sub _ _⟩
        rw [h] at hp
        simp at hp
    · simp only [if_neg c2] at he ⊢
      by_cases c3 : classZ r = 3
      · have hp := takeWhile_pos isW r t (wordy_three c3)
        simp only [if_pos c3] at he ⊢
        by_cases c : (numR ((r :: t).takeWhile isW)).2 = true
        · simp only [if_pos c]
          refine ⟨hp, htw, by decide, fun h => ?_, takeWhile_sub _ _⟩
          rw [h] at hp
          simp at hp
        · rw [if_neg c] at he; cases he
      · simp only [if_neg c3] at he ⊢
        by_cases c5 : classZ r = 5
        · simp only [if_pos c5] at he ⊢
          unfold textR at he ⊢
          by_cases d1 : 34 ∈ t.takeWhile (fun r => decide (r ≠ 10))
          · simp only [if_pos d1] at he ⊢
            by_cases d2 : ((t.takeWhile fun r => decide (r ≠ 10)).takeWhile fun r => decide (r ≠ 34)).any (fun r => decide (r < 32)) = true
            · rw [if_pos d2] at he; cases he
            · simp only [if_neg d2] at he ⊢
              by_cases d3 : 20 < ((t.takeWhile fun r => decide (r ≠ 10)).takeWhile fun r => decide (r ≠ 34)).length
              · rw [if_pos d3] at he; cases he
              · simp only [if_neg d3]
                refine ⟨by omega, ?_, by decide, fun _ => trivial, fun x hx => List.mem_cons_of_mem _ (takeWhile_sub _ _ _ (takeWhile_sub _ _ _ hx))⟩
                obtain ⟨u, hu⟩ := takeWhile_mark 34 _ d1
                have h1 := congrArg List.length hu
                have h2 := takeWhile_len (fun r : Nat => decide (r ≠ 10)) t
                simp only [List.length_append, List.length_cons] at h1 ⊢
                omega
          · rw [if_neg d1] at he; cases he
        · simp only [if_neg c5] at he ⊢
          by_cases c4 : classZ r = 4
          · simp only [if_pos c4]
            obtain ⟨h1, h2⟩ := signR_le r t
            refine ⟨h1, h2, by decide, fun h => ?_, fun x hx => List.mem_of_mem_take hx⟩
            obtain ⟨m, hm⟩ : ∃ m, signR r t = m + 1 := ⟨signR r t - 1, by omega⟩
            rw [hm, List.take_succ_cons] at h
            cases h
          · rw [if_neg c4] at he; cases he
theorem drop_blanks_len (rs : List Nat) : (rs.drop (blanksN false rs)).length + blanksN false rs = rs.length := by
  rw [List.length_drop]
  have := blanksN_le false rs
  omega
theorem lexR_fuel : ∀ (f g : Nat) (rs : List Nat) (n k : Nat), rs.length < f → rs.length < g → lexR f rs n k = lexR g rs n k := by
  intro f
  induction f with
  | zero => intro g rs n k h; omega
  | succ f ih =>
    intro g rs n k h1 h2
    obtain ⟨g, rfl⟩ : ∃ m, g = m + 1 := ⟨g - 1, by omega⟩
    unfold lexR
    by_cases h : rs.drop (blanksN false rs) = []
    · rw [if_pos h, if_pos h]
    · rw [if_neg h, if_neg h]
      by_cases hk : k = 2000
      · rw [if_pos hk, if_pos hk]
      · rw [if_neg hk, if_neg hk]
        by_cases he : (tokR (rs.drop (blanksN false rs))).2.2 ≠ 0
        · rw [if_pos he, if_pos he]
        · have hg := tokR_good _ (by simpa using he)
          have hd := drop_blanks_len rs
          rw [if_neg he, if_neg he, ih g _ _ _ (by rw [List.length_drop]; omega) (by rw [List.length_drop]; omega)]
def lex (rs : List Nat) (n k : Nat) : List (TokR × Nat) × Int × Int := lexR (rs.length + 1) rs n k
/-- What is left behind blanks. -/
def past (rs : List Nat) : List Nat := rs.drop (blanksN false rs)
theorem lex_eq (rs : List Nat) (n k : Nat) : lex rs n k =
    if past rs = [] then ([(noTokR, n + blanksN false rs)], 0, 0)
    else if k = 2000 then ([], 2, ((n + blanksN false rs : Nat) : Int))
    else if (tokR (past rs)).2.2 ≠ 0 then ([], (tokR (past rs)).2.2, ((n + blanksN false rs : Nat) : Int))
    else if (lex ((past rs).drop (tokR (past rs)).2.1) (n + blanksN false rs + (tokR (past rs)).2.1) (k + 1)).2.1 ≠ 0 then
      ([], (lex ((past rs).drop (tokR (past rs)).2.1) (n + blanksN false rs + (tokR (past rs)).2.1) (k + 1)).2)
    else (((tokR (past rs)).1, n + blanksN false rs) :: (lex ((past rs).drop (tokR (past rs)).2.1) (n + blanksN false rs + (tokR (past rs)).2.1) (k + 1)).1, 0, 0) := by
  unfold lex past
  conv => lhs; unfold lexR
  by_cases h : rs.drop (blanksN false rs) = []
  · rw [if_pos h, if_pos h]
  · rw [if_neg h, if_neg h]
    by_cases hk : k = 2000
    · rw [if_pos hk, if_pos hk]
    · rw [if_neg hk, if_neg hk]
      by_cases he : (tokR (rs.drop (blanksN false rs))).2.2 ≠ 0
      · rw [if_pos he, if_pos he]
      · have hg := tokR_good _ (by simpa using he)
        have hd := drop_blanks_len rs
        rw [if_neg he, if_neg he, lexR_fuel rs.length (((rs.drop (blanksN false rs)).drop (tokR (rs.drop (blanksN false rs))).2.1).length + 1) _ _ _ (by rw [List.length_drop]; omega) (by omega)]
theorem lex_end (rs : List Nat) (n k : Nat) (h : past rs = []) : lex rs n k = ([(noTokR, n + blanksN false rs)], 0, 0) := by rw [lex_eq, if_pos h]
theorem lex_full (rs : List Nat) (n : Nat) (h : past rs ≠ []) : lex rs n 2000 = ([], 2, ((n + blanksN false rs : Nat) : Int)) := by rw [lex_eq, if_neg h, if_pos rfl]
theorem lex_err (rs : List Nat) (n k : Nat) (h : past rs ≠ []) (hk : k ≠ 2000) (he : (tokR (past rs)).2.2 ≠ 0) : lex rs n k = ([], (tokR (past rs)).2.2, ((n + blanksN false rs : Nat) : Int)) := by
  rw [lex_eq, if_neg h, if_neg hk, if_pos he]
/-- What comes behind a token. -/
def rest (rs : List Nat) (n k : Nat) : List (TokR × Nat) × Int × Int := lex ((past rs).drop (tokR (past rs)).2.1) (n + blanksN false rs + (tokR (past rs)).2.1) (k + 1)
theorem lex_more (rs : List Nat) (n k : Nat) (h : past rs ≠ []) (hk : k ≠ 2000) (he : (tokR (past rs)).2.2 = 0) : lex rs n k = if (rest rs n k).2.1 ≠ 0 then ([], (rest rs n k).2) else (((tokR (past rs)).1, n + blanksN false rs) :: (rest rs n k).1, 0, 0) := by
  rw [lex_eq, if_neg h, if_neg hk, if_neg (by simpa using he)]
  rfl
theorem past_ok {rs : List Nat} (h : ∀ r ∈ rs, okR r) : ∀ r ∈ past rs, okR r := fun r hr => h r (List.mem_of_mem_drop hr)
theorem str_zero (rs : List Nat) : (str rs).size = 0 ↔ rs = [] := by
  rw [str_size]
  constructor
  · intro h
    have := txt_len rs
    exact List.eq_nil_of_length_eq_zero (by omega)
  · rintro rfl; rfl
theorem tokens_at (t : TokR × Nat) (n : Int) (h : n = t.2) : ((tokZ t.1).1, (tokZ t.1).2.1, (tokZ t.1).2.2.1, n) = tokAt t := by
  rw [h]
  rfl
theorem cutLoop_is : ∀ (f : Nat) (rs : List Nat) (n : Nat) (l : List Tok), (∀ r ∈ rs, okR r) → rs.length < f → l.length ≤ 2000 →
    cutLoop f (str rs, (n : Int)) l = if (lex rs n l.length).2.1 = 0 then (l ++ (lex rs n l.length).1.map tokAt, 0, 0) else ([], (lex rs n l.length).2) := by
  intro f
  induction f with
  | zero => intro rs n l _ h; omega
  | succ f ih =>
    intro rs n l hok hf hl
    have hb := blanks_is rs (n : Int) hok
    have hpl := drop_blanks_len rs
    rw [cutLoop, hb]
    show (if (str (past rs)).size = 0 then _ else _) = _
    by_cases h : past rs = []
    · rw [if_pos ((str_zero _).2 h), lex_end rs n _ h]
      simp only [if_true]
      rw [List.map_singleton]
      have e : tokAt (noTokR, n + blanksN false rs) = (0, ⟨#[]⟩, 0, (n : Int) + blanksN false rs) := by
        unfold tokAt noTokR
        simp only
        rw [str_nil]
        congr 3
      rw [e]
    · rw [if_neg (fun hz => h ((str_zero _).1 hz))]
      by_cases hk : l.length = 2000
      · rw [if_pos hk, hk, lex_full rs n h]
        simp only
        rw [if_neg (by omega)]
        congr 2
      · rw [if_neg hk]
        have ht := token_is (past rs) h (past_ok hok)
        show (if (tokenZ (str (past rs))).2.2 ≠ 0 then ([], (tokenZ (str (past rs))).2.2, (n : Int) + blanksN false rs) else cutLoop f (passZ (str (past rs), (n : Int) + blanksN false rs) (tokenZ (str (past rs))).2.1.toNat) (l ++ [((tokenZ (str (past rs))).1.1, (tokenZ (str (past rs))).1.2.1, (tokenZ (str (past rs))).1.2.2.1, (n : Int) + blanksN false rs)])) = _
        rw [ht]
        simp only [Int.toNat_natCast]
        by_cases he : (tokR (past rs)).2.2 = 0
        · obtain ⟨g1, g2, _⟩ := tokR_good _ he
          rw [if_neg (by simpa using he), lex_more rs n _ h hk he]
          have hps := pass_str ((past rs).take (tokR (past rs)).2.1) ((past rs).drop (tokR (past rs)).2.1) ((n : Int) + blanksN false rs) (fun r hr => past_ok hok r (List.mem_of_mem_take hr))
          rw [List.take_append_drop, List.length_take, Nat.min_eq_left g2] at hps
          rw [hps, tokens_at ((tokR (past rs)).1, n + blanksN false rs) _ (by simp)]
          have ih' := ih ((past rs).drop (tokR (past rs)).2.1) (n + blanksN false rs + (tokR (past rs)).2.1) (l ++ [tokAt ((tokR (past rs)).1, n + blanksN false rs)]) (fun r hr => past_ok hok r (List.mem_of_mem_drop hr)) (by rw [List.length_drop]; unfold past at *; omega) (by simp; omega)
          rw [show (n : Int) + (blanksN false rs : Int) + ((tokR (past rs)).2.1 : Int) = ((n + blanksN false rs + (tokR (past rs)).2.1 : Nat) : Int) by omega, ih', List.length_append, List.length_singleton]
          show (if (rest rs n l.length).2.1 = 0 then (l ++ [_] ++ (rest rs n l.length).1.map tokAt, 0, 0) else ([], (rest rs n l.length).2)) = _
          by_cases hr : (rest rs n l.length).2.1 = 0
          · have hr' : ¬ (rest rs n l.length).2.1 ≠ 0 := by simpa using hr
            rw [if_pos hr]
            simp only [if_neg hr']
            rw [if_pos trivial, List.append_assoc]
            rfl
          · rw [if_neg hr]
            simp only [if_pos (show (rest rs n l.length).2.1 ≠ 0 from hr)]
            rw [if_neg hr]
        · rw [if_pos (by simpa using he), lex_err rs n _ h hk he]
          simp only
          rw [if_neg he]
          congr 2
/-- What cutting valid runes tells. -/
def cutR (rs : List Nat) : List Tok × Int × Int := if (lex rs 0 0).2.1 = 0 then ((lex rs 0 0).1.map tokAt, 0, 0) else ([], (lex rs 0 0).2)
/-- A text of runes, and bytes behind them. -/
def strT (rs : List Nat) (t : List UInt8) : ByteArray := ⟨(txt rs ++ t).toArray⟩
theorem strT_list (rs : List Nat) (t : List UInt8) : (strT rs t).data.toList = txt rs ++ t := rfl
theorem strT_size (rs : List Nat) (t : List UInt8) : (strT rs t).size = (txt rs).length + t.length := by
  show Array.size _ = _
  simp [strT]
theorem strT_nil (rs : List Nat) : strT rs [] = str rs := by unfold strT str; rw [List.append_nil]
theorem of_list {s : ByteArray} {l : List UInt8} (h : s.data.toList = l) : s = ⟨l.toArray⟩ := by cases s with | mk d => rw [← h]
theorem bad_from : ∀ (b a : List Nat) (t : List UInt8) (f : Nat) (n : Int), (∀ r ∈ b, okR r) → (t = [] ∨ t ≠ [] ∧ (decodeL t).1 = 65533 ∧ (decodeL t).2 = 1) → (txt b).length + t.length ≤ f →
    badFrom (strT (a ++ b) t) f (txt a).length n = if t = [] then -1 else n + b.length
  | [], a, t, f, n, _, ht, hf => by
    rcases ht with rfl | ⟨hne, hd⟩
    · rw [badFrom_end _ _ _ _ (by rw [strT_size, List.append_nil]; simp), if_pos rfl]
    · have hl := List.length_pos_iff.2 hne
      obtain ⟨f, rfl⟩ : ∃ m, f = m + 1 := ⟨f - 1, by omega⟩
      unfold badFrom
      rw [if_pos (by rw [strT_size, List.append_nil]; omega), ← decodeL_drop, strT_list, List.append_nil, List.drop_left, if_pos hd, if_neg hne]
      simp
  | r :: b, a, t, f, n, h, ht, hf => by
    have hr := h r List.mem_cons_self
    have hl := (enc_len r).1
    rw [txt_len_cons] at hf
    obtain ⟨f, rfl⟩ : ∃ m, f = m + 1 := ⟨f - 1, by omega⟩
    have hdec : Utf8.decode (strT (a ++ r :: b) t) (txt a).length = (r, (enc r).length) := by
      rw [← decodeL_drop, strT_list, txt_append, List.append_assoc, List.drop_left, txt_cons, List.append_assoc, dec_app r hr]
    unfold badFrom
    rw [if_pos (by rw [strT_size, txt_len_append, txt_len_cons]; omega), hdec, if_neg hr.2]
    have := bad_from b (a ++ [r]) t f (n + 1) (fun r hr => h r (List.mem_cons_of_mem _ hr)) ht (by omega)
    rw [List.append_assoc, txt_len_append, txt_len_cons, txt_nil] at this
    simp only [List.length_nil, Nat.add_zero, List.singleton_append] at this
    rw [this, List.length_cons]
    split
    · rfl
    · omega
theorem bad_is (rs : List Nat) (t : List UInt8) (h : ∀ r ∈ rs, okR r) (ht : t = [] ∨ t ≠ [] ∧ (decodeL t).1 = 65533 ∧ (decodeL t).2 = 1) : badZ (strT rs t) = if t = [] then -1 else (rs.length : Int) := by
  have := bad_from rs [] t (strT rs t).size 0 h ht (by rw [strT_size]; exact Nat.le_refl _)
  rw [txt_nil, List.length_nil, List.nil_append] at this
  unfold badZ
  rw [this]
  simp
theorem cut_valid (rs : List Nat) (h : ∀ r ∈ rs, okR r) (hs : (str rs).size ≤ 8192) : cutZ (str rs) = cutR rs := by
  unfold cutZ cutR
  have hb := bad_is rs [] h (.inl rfl)
  rw [strT_nil, if_pos rfl] at hb
  rw [if_neg (by omega), hb, if_neg (by omega)]
  have := cutLoop_is ((str rs).size + 1) rs 0 [] h (by rw [str_size]; have := txt_len rs; omega) (by simp)
  simpa using this
theorem cut_bad (rs : List Nat) (t : List UInt8) (h : ∀ r ∈ rs, okR r) (ht : t ≠ [] ∧ (decodeL t).1 = 65533 ∧ (decodeL t).2 = 1) (hs : (strT rs t).size ≤ 8192) : cutZ (strT rs t) = ([], 10, (rs.length : Int)) := by
  unfold cutZ
  rw [if_neg (by omega), bad_is rs t h (.inr ht), if_neg ht.1, if_pos (by omega)]
/-- Any text: too long, with a bad byte, or of runes. -/
theorem text_cases (s : ByteArray) : (∃ rs, (∀ r ∈ rs, okR r) ∧ s = str rs) ∨ ∃ rs t, (∀ r ∈ rs, okR r) ∧ (t ≠ [] ∧ (decodeL t).1 = 65533 ∧ (decodeL t).2 = 1) ∧ s = strT rs t := by
  obtain ⟨rs, t, a, b, c⟩ := split_txt s.data.toList.length s.data.toList (Nat.le_refl _)
  rcases c with rfl | c
  · exact .inl ⟨rs, a, str_of (by rw [b, List.append_nil])⟩
  · exact .inr ⟨rs, t, a, c, of_list b⟩
end Go.Proofs.YtlikjknakplamaaDoor
/-! ### LxRise -/
namespace Go.Proofs.YtlikjknakplamaaDoor
open Go.Lib
set_option linter.unusedSimpArgs false
set_option linter.unusedVariables false
/-- Places rise from lo on up to hi; the last token is the end. -/
def Rising : Nat → Nat → List (TokR × Nat) → Prop
  | _, _, [] => False
  | lo, hi, x :: l => lo ≤ x.2 ∧ x.2 ≤ hi ∧ ((l = [] ∧ x.1 = noTokR) ∨ (l ≠ [] ∧ x.1.1 ≠ 0 ∧ (x.1.2.1 = [] → x.1.1 = 3) ∧ Rising (x.2 + 1) hi l))
theorem Rising.ne {lo hi : Nat} {l : List (TokR × Nat)} (h : Rising lo hi l) : l ≠ [] := by
  rintro rfl
  exact h
theorem Rising.lower {lo lo' hi : Nat} {l : List (TokR × Nat)} (h : Rising lo hi l) (hl : lo' ≤ lo) : Rising lo' hi l := by
  cases l with
  | nil => exact h
  | cons x l => exact ⟨Nat.le_trans hl h.1, h.2⟩
theorem lex_rising : ∀ (m : Nat) (rs : List Nat) (n k : Nat), rs.length ≤ m →
    ((lex rs n k).2.1 = 0 → (lex rs n k).2.2 = 0 ∧ Rising n (n + rs.length) (lex rs n k).1) ∧ ((lex rs n k).2.1 ≠ 0 → (lex rs n k).1 = [] ∧ ∃ j : Nat, (lex rs n k).2.2 = j ∧ j ≤ n + rs.length) := by
  intro m
  induction m with
  | zero =>
    intro rs n k hm
    obtain rfl := List.eq_nil_of_length_eq_zero (show rs.length = 0 by omega)
    rw [lex_end [] n k rfl]
    refine ⟨fun _ => ⟨rfl, ?_⟩, fun h => absurd rfl h⟩
    exact ⟨by simp [blanksN], by simp [blanksN], .inl ⟨rfl, rfl⟩⟩
  | succ m ih =>
    intro rs n k hm
    have hd := drop_blanks_len rs
    have hp : (past rs).length + blanksN false rs = rs.length := hd
    by_cases h : past rs = []
    · rw [lex_end rs n k h]
      refine ⟨fun _ => ⟨rfl, ?_⟩, fun h => absurd rfl h⟩
      exact ⟨by simp, by simp; omega, .inl ⟨rfl, rfl⟩⟩
    · by_cases hk : k = 2000
      · subst hk
        rw [lex_full rs n h]
        exact ⟨fun h => absurd (show (2 : Int) = 0 from h) (by decide), fun _ => ⟨rfl, _, rfl, by omega⟩⟩
      · by_cases he : (tokR (past rs)).2.2 = 0
        · obtain ⟨g1, g2, g3, g4, _⟩ := tokR_good _ he
          have ih' := ih ((past rs).drop (tokR (past rs)).2.1) (n + blanksN false rs + (tokR (past rs)).2.1) (k + 1) (by rw [List.length_drop]; omega)
          rw [List.length_drop] at ih'
          have ih2 : ((rest rs n k).2.1 = 0 → (rest rs n k).2.2 = 0 ∧ Rising (n + blanksN false rs + (tokR (past rs)).2.1) (n + blanksN false rs + (tokR (past rs)).2.1 + ((past rs).length - (tokR (past rs)).2.1)) (rest rs n k).1) ∧ ((rest rs n k).2.1 ≠ 0 → (rest rs n k).1 = [] ∧ ∃ j : Nat, (rest rs n k).2.2 = j ∧ j ≤ n + blanksN false rs + (tokR (past rs)).2.1 + ((past rs).length - (tokR (past rs)).2.1)) := ih'
          rw [lex_more rs n k h hk he]
          by_cases hr : (rest rs n k).2.1 = 0
          · have hr' : ¬ (rest rs n k).2.1 ≠ 0 := by simpa using hr
            rw [if_neg hr']
            obtain ⟨_, h2⟩ := ih2.1 hr
            refine ⟨fun _ => ⟨rfl, ?_⟩, fun h => absurd rfl h⟩
            refine ⟨by simp, by simp; omega, .inr ⟨h2.ne, g3, g4, ?_⟩⟩
            have h3 := h2.lower (lo' := n + blanksN false rs + 1) (by omega)
            rw [show n + blanksN false rs + (tokR (past rs)).2.1 + ((past rs).length - (tokR (past rs)).2.1) = n + rs.length by omega] at h3
            exact h3
          · rw [if_pos hr]
            refine ⟨fun h => absurd h hr, fun _ => ⟨rfl, ?_⟩⟩
            obtain ⟨_, j, hj, hj2⟩ := ih2.2 hr
            exact ⟨j, hj, by omega⟩
        · rw [lex_err rs n k h hk he]
          exact ⟨fun h => absurd h he, fun _ => ⟨rfl, _, rfl, by omega⟩⟩
theorem rising_at : ∀ (l : List (TokR × Nat)) (lo hi : Nat), Rising lo hi l → ∀ (i : Nat) (h : i < l.length),
    lo ≤ l[i].2 ∧ l[i].2 ≤ hi ∧ (i + 1 = l.length → l[i].1 = noTokR) ∧ (i + 1 < l.length → l[i].1.1 ≠ 0 ∧ (l[i].1.2.1 = [] → l[i].1.1 = 3)) ∧ (∀ j, i = j + 1 → ∀ hj : j < l.length, l[j].2 < l[i].2)
  | [], _, _, h, _, hi => by simp at hi
  | x :: l, lo, hi, ⟨h1, h2, h3⟩, i, hlt => by
    cases i with
    | zero =>
      refine ⟨h1, h2, fun hl => ?_, fun hl => ?_, fun j hj => by omega⟩
      · rcases h3 with ⟨_, h⟩ | ⟨h, _⟩
        · exact h
        · have := List.length_pos_iff.2 h
          simp at hl
          exact absurd hl h
      · rcases h3 with ⟨h, _⟩ | ⟨_, h4, h5, _⟩
        · subst h; simp at hl
        · exact ⟨h4, h5⟩
    | succ i =>
      rcases h3 with ⟨h, _⟩ | ⟨_, _, _, h6⟩
      · subst h; simp at hlt
      · obtain ⟨a, b, c, d, e⟩ := rising_at l (x.2 + 1) hi h6 i (by simpa using hlt)
        refine ⟨by simp only [List.getElem_cons_succ]; omega, b, fun hl => c (by simpa using hl), fun hl => d (by simpa using hl), fun j hj hjl => ?_⟩
        obtain rfl : i = j := by omega
        cases i with
        | zero => simp only [List.getElem_cons_zero, List.getElem_cons_succ]; omega
        | succ i => simp only [List.getElem_cons_succ]; exact e i rfl (by simp at hlt; omega)
end Go.Proofs.YtlikjknakplamaaDoor
/-! ### LxAgain -/
namespace Go.Proofs.YtlikjknakplamaaDoor
open Go.Lib
set_option linter.unusedSimpArgs false
set_option linter.unusedVariables false
theorem tokR_cons (r : Nat) (t : List Nat) : tokR (r :: t) =
    if classZ r = 2 then (if 12 < ((r :: t).takeWhile isW).length then (noTokR, 0, 2) else ((1, (r :: t).takeWhile isW, 0), ((r :: t).takeWhile isW).length, 0))
    else if classZ r = 3 then (if (numR ((r :: t).takeWhile isW)).2 = true then ((2, (r :: t).takeWhile isW, (numR ((r :: t).takeWhile isW)).1), ((r :: t).takeWhile isW).length, 0) else (noTokR, 0, 11))
    else if classZ r = 5 then textR t
    else if classZ r = 4 then ((4, (r :: t).take (signR r t), 0), signR r t, 0)
    else (noTokR, 0, 11) := rfl
end Go.Proofs.YtlikjknakplamaaDoor
/-! ### LxJoin -/
namespace Go.Proofs.YtlikjknakplamaaDoor
open Go.Lib
set_option linter.unusedSimpArgs false
set_option linter.unusedVariables false
theorem tw_app {α : Type} (p : α → Bool) (x : α) (b : List α) (h : p x = false) : ∀ a : List α, (a ++ x :: b).takeWhile p = a.takeWhile p
  | [] => by simp [h]
  | y :: a => by
    rw [List.cons_append, List.takeWhile_cons, List.takeWhile_cons, tw_app p x b h a]
theorem wordy10 : isW 10 = false := by decide
theorem signR_join (r : Nat) (t v : List Nat) : signR r (t ++ 10 :: v) = signR r t := by
  unfold signR two
  cases t with
  | nil => simp
  | cons x t => simp
theorem textR_join (t v : List Nat) : textR (t ++ 10 :: v) = textR t := by
  unfold textR
  rw [tw_app _ 10 v (by simp) t]
theorem tokR_join (r : Nat) (t v : List Nat) : tokR (r :: (t ++ 10 :: v)) = tokR (r :: t) := by
  have h1 : (r :: (t ++ 10 :: v)).takeWhile isW = (r :: t).takeWhile isW := tw_app isW 10 v wordy10 (r :: t)
  rw [tokR_cons, tokR_cons, h1, textR_join, signR_join]
  by_cases h4 : classZ r = 4
  · have hs := (signR_le r t).2
    have e : (r :: (t ++ 10 :: v)).take (signR r t) = (r :: t).take (signR r t) := by
      rw [show r :: (t ++ 10 :: v) = (r :: t) ++ 10 :: v from rfl, List.take_append_of_le_length hs]
    rw [e]
  · rw [if_neg h4, if_neg h4]
theorem blanksN_cons (c : Bool) (r : Nat) (t : List Nat) : blanksN c (r :: t) = if c = true ∧ r ≠ 10 then 1 + blanksN true t else if classZ r = 1 then 1 + blanksN false t else if classZ r = 6 then 1 + blanksN true t else 0 := by rw [blanksN]
theorem blanksN_join (v : List Nat) : ∀ (c : Bool) (u : List Nat), blanksN c (u ++ 10 :: v) = if blanksN c u = u.length then u.length + 1 + blanksN false v else blanksN c u
  | c, [] => by
    have h0 : blanksN c [] = 0 := by unfold blanksN; rfl
    rw [List.nil_append, h0, List.length_nil, if_pos rfl, blanksN_cons, if_neg (by simp), if_pos (by decide)]
  | c, r :: t => by
    have h1 := blanksN_join v true t
    have h2 := blanksN_join v false t
    rw [List.cons_append, blanksN_cons, blanksN_cons, List.length_cons]
    by_cases a : c = true ∧ r ≠ 10
    · rw [if_pos a, if_pos a, h1]
      split <;> split <;> omega
    · rw [if_neg a, if_neg a]
      by_cases b : classZ r = 1
      · rw [if_pos b, if_pos b, h2]
        split <;> split <;> omega
      · rw [if_neg b, if_neg b]
        by_cases d : classZ r = 6
        · rw [if_pos d, if_pos d, h1]
          split <;> split <;> omega
        · rw [if_neg d, if_neg d, if_neg (by omega)]
theorem past_nil (u : List Nat) : past u = [] ↔ blanksN false u = u.length := by
  have := blanksN_le false u
  unfold past
  rw [List.drop_eq_nil_iff]
  omega
theorem past_join_end (u v : List Nat) (h : past u = []) : past (u ++ 10 :: v) = past v ∧ blanksN false (u ++ 10 :: v) = u.length + 1 + blanksN false v := by
  have e := blanksN_join v false u
  rw [if_pos ((past_nil u).1 h)] at e
  refine ⟨?_, e⟩
  unfold past
  rw [e, ← List.drop_drop, show u.length + 1 = (u ++ [10]).length by simp, show u ++ 10 :: v = (u ++ [10]) ++ v by simp, List.drop_left]
theorem past_join (u v : List Nat) (h : past u ≠ []) : past (u ++ 10 :: v) = past u ++ 10 :: v ∧ blanksN false (u ++ 10 :: v) = blanksN false u := by
  have e := blanksN_join v false u
  rw [if_neg (fun hh => h ((past_nil u).2 hh))] at e
  refine ⟨?_, e⟩
  unfold past
  rw [e, List.drop_append_of_le_length (blanksN_le false u)]
/-- The join, told by what both parts answer. -/
def joinedL (u v : List Nat) (n k : Nat) : List (TokR × Nat) × Int × Int :=
  if (lex u n k).2.1 ≠ 0 then lex u n k
  else if (lex v (n + u.length + 1) (k + (lex u n k).1.length - 1)).2.1 ≠ 0 then ([], (lex v (n + u.length + 1) (k + (lex u n k).1.length - 1)).2)
  else ((lex u n k).1.dropLast ++ (lex v (n + u.length + 1) (k + (lex u n k).1.length - 1)).1, 0, 0)
theorem lex_ok_shape (u : List Nat) (n k : Nat) (h : (lex u n k).2.1 = 0) : (lex u n k).2 = (0, 0) ∧ (lex u n k).1 ≠ [] := by
  by_cases hp : past u = []
  · rw [lex_end u n k hp]; simp
  · by_cases hk : k = 2000
    · subst hk; rw [lex_full u n hp] at h; simp at h
    · by_cases he : (tokR (past u)).2.2 = 0
      · rw [lex_more u n k hp hk he] at h ⊢
        split
        · rename_i hr; rw [if_pos hr] at h; exact absurd h hr
        · simp
      · rw [lex_err u n k hp hk he] at h
        exact absurd h he
theorem lex_err_shape (u : List Nat) (n k : Nat) (h : (lex u n k).2.1 ≠ 0) : (lex u n k).1 = [] := by
  by_cases hp : past u = []
  · rw [lex_end u n k hp] at h; simp at h
  · by_cases hk : k = 2000
    · subst hk; rw [lex_full u n hp]
    · by_cases he : (tokR (past u)).2.2 = 0
      · rw [lex_more u n k hp hk he] at h ⊢
        split
        · rfl
        · rename_i hr; rw [if_neg hr] at h; simp at h
      · rw [lex_err u n k hp hk he]
theorem lex_eta (v : List Nat) (n k : Nat) : (if (lex v n k).2.1 ≠ 0 then (([] : List (TokR × Nat)), (lex v n k).2) else ((lex v n k).1, 0, 0)) = lex v n k := by
  split
  · rename_i h
    rw [← lex_err_shape v n k h]
  · rename_i h
    rw [← (lex_ok_shape v n k (by simpa using h)).1]
theorem lex_join_end (u v : List Nat) (n k : Nat) (hp : past u = []) : lex (u ++ 10 :: v) n k = joinedL u v n k := by
  obtain ⟨e1, e2⟩ := past_join_end u v hp
  have e3 : n + blanksN false (u ++ 10 :: v) = n + u.length + 1 + blanksN false v := by rw [e2]; omega
  have e4 : lex (u ++ 10 :: v) n k = lex v (n + u.length + 1) k := by rw [lex_eq, lex_eq v, e1, e3]
  unfold joinedL
  rw [lex_end u n k hp]
  simp only [List.length_singleton, Nat.add_sub_cancel, List.dropLast_singleton, List.nil_append]
  rw [if_neg (by simp), lex_eta, e4]
theorem lex_join : ∀ (m : Nat) (u v : List Nat) (n k : Nat), u.length ≤ m → lex (u ++ 10 :: v) n k = joinedL u v n k := by
  intro m
  induction m with
  | zero =>
    intro u v n k hm
    have hu : u = [] := List.length_eq_zero_iff.1 (by omega)
    subst hu
    exact lex_join_end [] v n k rfl
  | succ m ih =>
    intro u v n k hm
    by_cases hp : past u = []
    · exact lex_join_end u v n k hp
    · obtain ⟨e1, e2⟩ := past_join u v hp
      obtain ⟨r, t, hrt⟩ := List.exists_cons_of_ne_nil hp
      have hpj : past (u ++ 10 :: v) ≠ [] := by rw [e1, hrt]; simp
      have htok : tokR (past (u ++ 10 :: v)) = tokR (past u) := by rw [e1, hrt, List.cons_append]; exact tokR_join r t v
      by_cases hk : k = 2000
      · subst hk
        unfold joinedL
        rw [lex_full _ n hpj, lex_full u n hp, e2, if_pos (by simp)]
      · by_cases he : (tokR (past u)).2.2 = 0
        · have hg := tokR_good _ he
          have hd : (past u).length + blanksN false u = u.length := drop_blanks_len u
          have hle : (tokR (past u)).2.1 ≤ (past u).length := hg.2.1
          have hrest : rest (u ++ 10 :: v) n k = lex (((past u).drop (tokR (past u)).2.1) ++ 10 :: v) (n + blanksN false u + (tokR (past u)).2.1) (k + 1) := by
            unfold rest
            rw [htok, e1, e2, List.drop_append_of_le_length hle]
          have hlen : ((past u).drop (tokR (past u)).2.1).length + blanksN false u + (tokR (past u)).2.1 = u.length := by
            rw [List.length_drop]; omega
          have hih := ih ((past u).drop (tokR (past u)).2.1) v (n + blanksN false u + (tokR (past u)).2.1) (k + 1) (by have := hg.1; omega)
          rw [lex_more _ n k hpj hk (by rw [htok]; exact he), hrest, hih, htok, e2]
          unfold joinedL
          rw [lex_more u n k hp hk he]
          have hR : lex ((past u).drop (tokR (past u)).2.1) (n + blanksN false u + (tokR (past u)).2.1) (k + 1) = rest u n k := rfl
          rw [hR]
          by_cases hz : (rest u n k).2.1 = 0
          · have hz' : ¬ (rest u n k).2.1 ≠ 0 := by simpa using hz
            have hne := (lex_ok_shape _ _ _ (hR ▸ hz)).2
            rw [hR] at hne
            have hl1 : 1 ≤ (rest u n k).1.length := by
              have := List.length_pos_iff.2 hne
              omega
            have hnum : n + blanksN false u + (tokR (past u)).2.1 + ((past u).drop (tokR (past u)).2.1).length + 1 = n + u.length + 1 := by omega
            rw [if_neg hz', if_neg hz', hnum]
            simp only [List.length_cons]
            rw [show k + ((rest u n k).1.length + 1) - 1 = k + 1 + (rest u n k).1.length - 1 by omega]
            generalize lex v (n + u.length + 1) (k + 1 + (rest u n k).1.length - 1) = M
            by_cases hM : M.2.1 = 0
            · have hM' : ¬ M.2.1 ≠ 0 := by simpa using hM
              simp only [if_neg hM']
              rw [if_neg (by simp), if_neg (by simp), List.dropLast_cons_of_ne_nil hne, List.cons_append]
            · have hM' : M.2.1 ≠ 0 := hM
              simp only [if_pos hM']
              rw [if_neg (by simp)]
          · have hz' : (rest u n k).2.1 ≠ 0 := hz
            simp only [if_pos hz']
        · have hj : (tokR (past (u ++ 10 :: v))).2.2 ≠ 0 := by rw [htok]; exact he
          unfold joinedL
          rw [lex_err _ n k hpj hk hj, lex_err u n k hp hk he, htok, e2, if_pos he]
def shiftT (d : Nat) (x : TokR × Nat) : TokR × Nat := (x.1, x.2 + d)
theorem lex_shift : ∀ (m : Nat) (v : List Nat) (n k d k' : Nat), v.length ≤ m → (lex v n k).2.1 = 0 → k' ≤ 2000 →
    (k' + (lex v n k).1.length ≤ 2001 → lex v (n + d) k' = ((lex v n k).1.map (shiftT d), 0, 0)) ∧ (2001 < k' + (lex v n k).1.length → (lex v (n + d) k').2.1 = 2) := by
  have hend : ∀ (v : List Nat) (n k d k' : Nat), past v = [] → k' ≤ 2000 →
      (k' + (lex v n k).1.length ≤ 2001 → lex v (n + d) k' = ((lex v n k).1.map (shiftT d), 0, 0)) ∧ (2001 < k' + (lex v n k).1.length → (lex v (n + d) k').2.1 = 2) := by
    intro v n k d k' hp hk'
    rw [lex_end v n k hp, lex_end v (n + d) k' hp]
    refine ⟨fun _ => ?_, fun h => ?_⟩
    · simp only [List.map_cons, List.map_nil, shiftT]
      rw [show n + d + blanksN false v = n + blanksN false v + d by omega]
    · simp only [List.length_singleton] at h
      omega
  intro m
  induction m with
  | zero =>
    intro v n k d k' hm h hk'
    obtain rfl : v = [] := List.length_eq_zero_iff.1 (by omega)
    exact hend [] n k d k' rfl hk'
  | succ m ih =>
    intro v n k d k' hm h hk'
    by_cases hp : past v = []
    · exact hend v n k d k' hp hk'
    · by_cases hk : k = 2000
      · subst hk; rw [lex_full v n hp] at h; simp at h
      · by_cases he : (tokR (past v)).2.2 = 0
        · rw [lex_more v n k hp hk he] at h ⊢
          by_cases hz : (rest v n k).2.1 = 0
          · have hz' : ¬ (rest v n k).2.1 ≠ 0 := by simpa using hz
            have hne := (lex_ok_shape _ _ _ (show (lex ((past v).drop (tokR (past v)).2.1) (n + blanksN false v + (tokR (past v)).2.1) (k + 1)).2.1 = 0 from hz)).2
            have hl1 : 1 ≤ (rest v n k).1.length := List.length_pos_iff.2 hne
            rw [if_neg hz'] at h ⊢
            simp only [List.length_cons, List.map_cons]
            by_cases hk2 : k' = 2000
            · subst hk2
              rw [lex_full v (n + d) hp]
              exact ⟨fun hh => by omega, fun _ => rfl⟩
            · have hg := tokR_good _ he
              have hd : (past v).length + blanksN false v = v.length := drop_blanks_len v
              have hle : (tokR (past v)).2.1 ≤ (past v).length := hg.2.1
              obtain ⟨i1, i2⟩ := ih ((past v).drop (tokR (past v)).2.1) (n + blanksN false v + (tokR (past v)).2.1) (k + 1) d (k' + 1) (by rw [List.length_drop]; have := hg.1; omega) hz (by omega)
              have hr : rest v (n + d) k' = lex ((past v).drop (tokR (past v)).2.1) (n + blanksN false v + (tokR (past v)).2.1 + d) (k' + 1) := by
                unfold rest
                rw [show n + d + blanksN false v + (tokR (past v)).2.1 = n + blanksN false v + (tokR (past v)).2.1 + d by omega]
              rw [← hr] at i1 i2
              rw [lex_more v (n + d) k' hp hk2 he]
              refine ⟨fun hh => ?_, fun hh => ?_⟩
              · have e := i1 (show k' + 1 + (rest v n k).1.length ≤ 2001 by omega)
                rw [e]
                simp only
                rw [if_neg (by simp)]
                unfold shiftT
                simp only
                rw [show n + d + blanksN false v = n + blanksN false v + d by omega]
                rfl
              · have e := i2 (show 2001 < k' + 1 + (rest v n k).1.length by omega)
                rw [if_pos (by rw [e]; decide)]
                exact e
          · rw [if_pos hz] at h
            exact absurd h hz
        · rw [lex_err v n k hp hk he] at h
          exact absurd h he
theorem lex_fail : ∀ (m : Nat) (v : List Nat) (n k n' k' : Nat), v.length ≤ m → v.length + k ≤ 2000 → (lex v n k).2.1 ≠ 0 → (lex v n' k').2.1 ≠ 0 := by
  intro m
  induction m with
  | zero =>
    intro v n k n' k' hm hs h
    obtain rfl : v = [] := List.length_eq_zero_iff.1 (by omega)
    exact absurd (by rw [lex_end [] n k rfl]) h
  | succ m ih =>
    intro v n k n' k' hm hs h
    by_cases hp : past v = []
    · exact absurd (by rw [lex_end v n k hp]) h
    · have hv1 : 1 ≤ v.length := by
        rcases v with _ | ⟨x, v⟩
        · exact absurd rfl hp
        · simp
      by_cases hk2 : k' = 2000
      · subst hk2; rw [lex_full v n' hp]; simp
      · have hk : k ≠ 2000 := by omega
        by_cases he : (tokR (past v)).2.2 = 0
        · have hg := tokR_good _ he
          have hd : (past v).length + blanksN false v = v.length := drop_blanks_len v
          have hle : (tokR (past v)).2.1 ≤ (past v).length := hg.2.1
          have hlen : ((past v).drop (tokR (past v)).2.1).length + 1 ≤ v.length := by
            rw [List.length_drop]; have := hg.1; omega
          rw [lex_more v n k hp hk he] at h
          rw [lex_more v n' k' hp hk2 he]
          by_cases hz : (rest v n k).2.1 = 0
          · rw [if_neg (by simpa using hz)] at h
            exact absurd rfl h
          · have := ih ((past v).drop (tokR (past v)).2.1) (n + blanksN false v + (tokR (past v)).2.1) (k + 1) (n' + blanksN false v + (tokR (past v)).2.1) (k' + 1) (by omega) (by omega) hz
            rw [if_pos (show (rest v n' k').2.1 ≠ 0 from this)]
            exact this
        · rw [lex_err v n' k' hp hk2 he]
          exact he
end Go.Proofs.YtlikjknakplamaaDoor
/-! ### Shelf -/
namespace Go.Proofs
open Go.Shelf
def Tryd.lays137_ren : Go.Shelf.Ren := ⟨fun | 137 => 35 | 217 => 48 | 266 => 53 | n => n, fun | 9 => 9 | 5 => 5 | 3 => 3 | n => n, fun | n => n⟩
theorem Tryd.lays137 : Go.Proofs.Lays.n137 Tryd.prog Tryd.lays137_ren := {
  mixed := by kernel_rfl
  f137 := Tryd.func35.trans (congrArg some (by kernel_rfl))
  f217 := Tryd.func48.trans (congrArg some (by kernel_rfl))
  f266 := Tryd.func53.trans (congrArg some (by kernel_rfl))
  t3 := Tryd.underlying3
  a3 := Tryd.isAgg3
  z3 := Tryd.sizeOf3
  v3 := Tryd.zeroValue3
  t5 := Tryd.underlying5
  a5 := Tryd.isAgg5
  z5 := Tryd.sizeOf5
  v5 := Tryd.zeroValue5
  t9 := Tryd.underlying9
  a9 := Tryd.isAgg9
  z9 := Tryd.sizeOf9
  v9 := Tryd.zeroValue9 }
open Go.RowKit in
/-- strings.IndexByte: "IndexByte returns the index of the first instance of c in s, or -1 if c is not present in s.": IT RETURNS 'Lib.indexByte s c'; the world is as it was. (LAID: no walk: one application.) -/
theorem Tryd.strings_IndexByte (s : ByteArray) (c : Int) (w : World) :
    Calls Tryd.prog 35 #[.string s, .int .u8 c] w fun e w' => e = .returned (.int .i64 (Lib.indexByte s.data.toList c.toNat.toUInt8)) ∧ w' = w := Any.strings_IndexByte Tryd.lays137 s c w
def Tryd.lays195_ren : Go.Shelf.Ren := ⟨fun | 195 => 38 | n => n, fun | 9 => 9 | 3 => 3 | 0 => 0 | 4 => 4 | n => n, fun | n => n⟩
theorem Tryd.lays195 : Go.Proofs.Lays.n195 Tryd.prog Tryd.lays195_ren := {
  mixed := by kernel_rfl
  f195 := Tryd.func38.trans (congrArg some (by kernel_rfl))
  t0 := Tryd.underlying0
  a0 := Tryd.isAgg0
  z0 := Tryd.sizeOf0
  v0 := Tryd.zeroValue0
  t3 := Tryd.underlying3
  a3 := Tryd.isAgg3
  z3 := Tryd.sizeOf3
  v3 := Tryd.zeroValue3
  t4 := Tryd.underlying4
  a4 := Tryd.isAgg4
  z4 := Tryd.sizeOf4
  v4 := Tryd.zeroValue4
  t9 := Tryd.underlying9
  a9 := Tryd.isAgg9
  z9 := Tryd.sizeOf9
  v9 := Tryd.zeroValue9 }
open Go.RowKit in
/-- unicode/utf8.RuneCountInString: "RuneCountInString is like RuneCount but its input is a string." ("RuneCount returns the number of runes in p. Erroneous and short encodings are treated as single runes of width 1 byte."): EVERY STRING, valid UTF-8 or not: 'Lib.runeCount s' (plain Lean over the model's own 'Utf8.decode'; 'Lib.runeCount_le': at most len(s); 'Lib.runeCount_ascii': on ASCII: len(s)). THE ONE CONDITION: len(s) below 2^63 - 1 (the counter does not wrap): the form's reach pays it. THE WORLD BEHIND THE CALL: ONE BLOCK MORE: the model's iterator over s, at its end: all else as it was. (LAID: no walk: one application.) -/
theorem Tryd.utf8_RuneCountInString (s : ByteArray) (w : World) (hs : s.size < 9223372036854775807) :
    Calls Tryd.prog 38 #[.string s] w fun e w' => e = .returned (.int .i64 (Lib.runeCount s)) ∧ ∃ pos, w' = w.iter s pos := Any.utf8_RuneCountInString Tryd.lays195 s w hs
def Tryd.laysM171_ren : Go.Shelf.Ren := ⟨fun | 171 => 36 | 243 => 49 | 246 => 54 | 283 => 56 | 284 => 57 | 285 => 58 | 286 => 59 | 129 => 62 | 317 => 61 | 318 => 63 | 319 => 64 | 320 => 65 | 337 => 69 | 338 => 70 | n => n, fun | 3 => 3 | 9 => 9 | 2 => 2 | 4 => 4 | 171 => 77 | 0 => 0 | 53 => 59 | 37 => 60 | 5 => 5 | 173 => 80 | 212 => 84 | 51 => 85 | 20 => 20 | 213 => 86 | 46 => 73 | 232 => 91 | 233 => 92 | n => n, fun | 17 => 3 | 18 => 4 | 19 => 5 | n => n⟩
theorem Tryd.laysM171 : Go.Proofs.LaysM.n171 Tryd.prog Tryd.laysM171_ren := {
  mixed := by kernel_rfl
  f129 := Tryd.func62.trans (congrArg some (by kernel_rfl))
  f171 := Tryd.func36.trans (congrArg some (by kernel_rfl))
  f243 := Tryd.func49.trans (congrArg some (by kernel_rfl))
  f246 := Tryd.func54.trans (congrArg some (by kernel_rfl))
  f283 := Tryd.func56.trans (congrArg some (by kernel_rfl))
  f284 := Tryd.func57.trans (congrArg some (by kernel_rfl))
  f285 := Tryd.func58.trans (congrArg some (by kernel_rfl))
  f286 := Tryd.func59.trans (congrArg some (by kernel_rfl))
  f317 := Tryd.func61.trans (congrArg some (by kernel_rfl))
  f318 := Tryd.func63.trans (congrArg some (by kernel_rfl))
  f319 := Tryd.func64.trans (congrArg some (by kernel_rfl))
  f320 := Tryd.func65.trans (congrArg some (by kernel_rfl))
  f337 := Tryd.func69.trans (congrArg some (by kernel_rfl))
  f338 := Tryd.func70.trans (congrArg some (by kernel_rfl))
  t0 := Tryd.underlying0
  a0 := Tryd.isAgg0
  z0 := Tryd.sizeOf0
  v0 := Tryd.zeroValue0
  t2 := Tryd.underlying2
  a2 := Tryd.isAgg2
  z2 := Tryd.sizeOf2
  v2 := Tryd.zeroValue2
  t3 := Tryd.underlying3
  a3 := Tryd.isAgg3
  z3 := Tryd.sizeOf3
  v3 := Tryd.zeroValue3
  t4 := Tryd.underlying4
  a4 := Tryd.isAgg4
  z4 := Tryd.sizeOf4
  v4 := Tryd.zeroValue4
  t5 := Tryd.underlying5
  a5 := Tryd.isAgg5
  z5 := Tryd.sizeOf5
  v5 := Tryd.zeroValue5
  t9 := Tryd.underlying9
  a9 := Tryd.isAgg9
  z9 := Tryd.sizeOf9
  v9 := Tryd.zeroValue9
  t20 := Tryd.underlying20
  a20 := Tryd.isAgg20
  z20 := Tryd.sizeOf20
  v20 := Tryd.zeroValue20
  t37 := Tryd.underlying60
  a37 := Tryd.isAgg60
  z37 := Tryd.sizeOf60
  v37 := Tryd.zeroValue60
  t46 := Tryd.underlying73
  a46 := Tryd.isAgg73
  z46 := Tryd.sizeOf73
  v46 := Tryd.zeroValue73
  t51 := Tryd.underlying85
  a51 := Tryd.isAgg85
  z51 := Tryd.sizeOf85
  v51 := Tryd.zeroValue85
  t53 := Tryd.underlying59
  a53 := Tryd.isAgg59
  z53 := Tryd.sizeOf59
  v53 := Tryd.zeroValue59
  t171 := Tryd.underlying77
  a171 := Tryd.isAgg77
  z171 := Tryd.sizeOf77
  v171 := Tryd.zeroValue77
  t173 := Tryd.underlying80
  a173 := Tryd.isAgg80
  z173 := Tryd.sizeOf80
  v173 := Tryd.zeroValue80
  t212 := Tryd.underlying84
  a212 := Tryd.isAgg84
  z212 := Tryd.sizeOf84
  v212 := Tryd.zeroValue84
  t213 := Tryd.underlying86
  a213 := Tryd.isAgg86
  z213 := Tryd.sizeOf86
  t232 := Tryd.underlying91
  a232 := Tryd.isAgg91
  z232 := Tryd.sizeOf91
  v232 := Tryd.zeroValue91
  t233 := Tryd.underlying92
  a233 := Tryd.isAgg92
  z233 := Tryd.sizeOf92
  v233 := Tryd.zeroValue92
  g17 := by kernel_rfl
  g18 := by kernel_rfl
  g19 := by kernel_rfl
  i0 := by kernel_rfl
  i2 := by kernel_rfl
  i3 := by kernel_rfl
  i4 := by kernel_rfl
  i5 := by kernel_rfl
  i9 := by kernel_rfl
  i20 := by kernel_rfl
  i37 := by kernel_rfl
  i46 := by kernel_rfl
  i51 := by kernel_rfl
  i53 := by kernel_rfl
  i171 := by kernel_rfl
  i173 := by kernel_rfl
  i212 := by kernel_rfl
  i232 := by kernel_rfl
  i233 := by kernel_rfl
  m17 := by kernel_rfl
  m18 := by kernel_rfl
  m19 := by kernel_rfl }
open Go.RowKit Go.Sort Go.Lib in
/-- strconv.Itoa: "Itoa is equivalent to FormatInt(int64(i), 10).": i's DECIMAL NUMERAL ('Lib.itoa': a '-' where i is negative, then the digits), FOR EVERY int. The world behind the call: the world before it, new blocks behind the heap (the library's 'var a [24]byte'), draws. (LAID: no walk: one application.) -/
theorem Tryd.strconv_Itoa (n : Int) (h0 : -9223372036854775808 ≤ n) (h1 : n ≤ 9223372036854775807) (w : World) (htab : Lib.TabIs Tryd.prog w "internal/strconv.uint64pow10" .u64 Lib.pow10Tab) :
    Calls Tryd.prog 36 #[.int .i64 n] w fun e w' => e = .returned (.string ⟨(Lib.itoa n).toArray⟩) ∧ ∃ k os, w' = grow (w.drewN k) os := Any.strconv_Itoa Tryd.laysM171 n h0 h1 w htab
def Tryd.lays145_ren : Go.Shelf.Ren := ⟨fun | 145 => 52 | 220 => 55 | 219 => 60 | 217 => 48 | 225 => 66 | 224 => 67 | 267 => 68 | 266 => 53 | 314 => 71 | n => n, fun | 9 => 9 | 4 => 4 | 59 => 74 | 3 => 3 | 5 => 5 | 46 => 73 | 146 => 89 | 51 => 85 | n => n, fun | 1 => 2 | n => n⟩
theorem Tryd.lays145 : Go.Proofs.Lays.n145 Tryd.prog Tryd.lays145_ren := {
  mixed := by kernel_rfl
  f145 := Tryd.func52.trans (congrArg some (by kernel_rfl))
  f217 := Tryd.func48.trans (congrArg some (by kernel_rfl))
  f219 := Tryd.func60.trans (congrArg some (by kernel_rfl))
  f220 := Tryd.func55.trans (congrArg some (by kernel_rfl))
  f224 := Tryd.func67.trans (congrArg some (by kernel_rfl))
  f225 := Tryd.func66.trans (congrArg some (by kernel_rfl))
  f266 := Tryd.func53.trans (congrArg some (by kernel_rfl))
  f267 := Tryd.func68.trans (congrArg some (by kernel_rfl))
  f314 := Tryd.func71.trans (congrArg some (by kernel_rfl))
  t3 := Tryd.underlying3
  a3 := Tryd.isAgg3
  z3 := Tryd.sizeOf3
  v3 := Tryd.zeroValue3
  t4 := Tryd.underlying4
  a4 := Tryd.isAgg4
  z4 := Tryd.sizeOf4
  v4 := Tryd.zeroValue4
  t5 := Tryd.underlying5
  a5 := Tryd.isAgg5
  z5 := Tryd.sizeOf5
  v5 := Tryd.zeroValue5
  t9 := Tryd.underlying9
  a9 := Tryd.isAgg9
  z9 := Tryd.sizeOf9
  v9 := Tryd.zeroValue9
  t46 := Tryd.underlying73
  a46 := Tryd.isAgg73
  z46 := Tryd.sizeOf73
  v46 := Tryd.zeroValue73
  t51 := Tryd.underlying85
  a51 := Tryd.isAgg85
  z51 := Tryd.sizeOf85
  v51 := Tryd.zeroValue85
  t59 := Tryd.underlying74
  a59 := Tryd.isAgg74
  z59 := Tryd.sizeOf74
  v59 := Tryd.zeroValue74
  t146 := Tryd.underlying89
  a146 := Tryd.isAgg89
  z146 := Tryd.sizeOf89
  v146 := Tryd.zeroValue89
  g1 := by kernel_rfl }
open Go.RowKit Go.Lib in
/-- strings.Cut: "Cut slices s around the first instance of sep, returning the text before and after sep. The found result reports whether sep appears in s. If sep does not appear in s, cut returns s, "", false.": IT RETURNS 'Lib.cut s sep'; the world is as it was but for the count of draws. (LAID: no walk: one application.) -/
theorem Tryd.strings_Cut (s sep : ByteArray) (m : Int) (w : World) (hs : s.size < 4294967281) (hm : w.cell? ⟨2, 0, none⟩ = some (.int .i64 m)) :
    Calls Tryd.prog 52 #[.string s, .string sep] w fun e w' => e = .returned (.tuple #[.string ⟨(Lib.cut s.data.toList sep.data.toList).1.toArray⟩, .string ⟨(Lib.cut s.data.toList sep.data.toList).2.1.toArray⟩, .bool (Lib.cut s.data.toList sep.data.toList).2.2]) ∧ ∃ n, w' = w.drewN n := Any.strings_Cut Tryd.lays145 s sep m w hs hm
def Tryd.laysM145_ren : Go.Shelf.Ren := ⟨fun | 145 => 52 | 220 => 55 | 219 => 60 | 217 => 48 | 225 => 66 | 224 => 67 | 267 => 68 | 266 => 53 | 314 => 71 | n => n, fun | 9 => 9 | 4 => 4 | 59 => 74 | 3 => 3 | 5 => 5 | 46 => 73 | 146 => 89 | 51 => 85 | n => n, fun | 1 => 2 | n => n⟩
theorem Tryd.laysM145 : Go.Proofs.LaysM.n145 Tryd.prog Tryd.laysM145_ren := {
  mixed := by kernel_rfl
  f145 := Tryd.func52.trans (congrArg some (by kernel_rfl))
  f217 := Tryd.func48.trans (congrArg some (by kernel_rfl))
  f219 := Tryd.func60.trans (congrArg some (by kernel_rfl))
  f220 := Tryd.func55.trans (congrArg some (by kernel_rfl))
  f224 := Tryd.func67.trans (congrArg some (by kernel_rfl))
  f225 := Tryd.func66.trans (congrArg some (by kernel_rfl))
  f266 := Tryd.func53.trans (congrArg some (by kernel_rfl))
  f267 := Tryd.func68.trans (congrArg some (by kernel_rfl))
  f314 := Tryd.func71.trans (congrArg some (by kernel_rfl))
  t3 := Tryd.underlying3
  a3 := Tryd.isAgg3
  z3 := Tryd.sizeOf3
  v3 := Tryd.zeroValue3
  t4 := Tryd.underlying4
  a4 := Tryd.isAgg4
  z4 := Tryd.sizeOf4
  v4 := Tryd.zeroValue4
  t5 := Tryd.underlying5
  a5 := Tryd.isAgg5
  z5 := Tryd.sizeOf5
  v5 := Tryd.zeroValue5
  t9 := Tryd.underlying9
  a9 := Tryd.isAgg9
  z9 := Tryd.sizeOf9
  v9 := Tryd.zeroValue9
  t46 := Tryd.underlying73
  a46 := Tryd.isAgg73
  z46 := Tryd.sizeOf73
  v46 := Tryd.zeroValue73
  t51 := Tryd.underlying85
  a51 := Tryd.isAgg85
  z51 := Tryd.sizeOf85
  v51 := Tryd.zeroValue85
  t59 := Tryd.underlying74
  a59 := Tryd.isAgg74
  z59 := Tryd.sizeOf74
  v59 := Tryd.zeroValue74
  t146 := Tryd.underlying89
  a146 := Tryd.isAgg89
  z146 := Tryd.sizeOf89
  v146 := Tryd.zeroValue89
  g1 := by kernel_rfl
  i3 := by kernel_rfl
  i4 := by kernel_rfl
  i5 := by kernel_rfl
  i9 := by kernel_rfl
  i46 := by kernel_rfl
  i51 := by kernel_rfl
  i59 := by kernel_rfl
  i146 := by kernel_rfl
  m1 := by kernel_rfl
  s1_3 := fun w h => Go.Proofs.cell_of_shapedOpen_int (zero := #[.int .i64 0]) (t := 3) h (of_decide_eq_true (by kernel_rfl)) (by kernel_rfl) rfl (by kernel_rfl) (by kernel_rfl) Tryd.underlying3 }
def Tryd.lays197_ren : Go.Shelf.Ren := ⟨fun | 197 => 41 | 260 => 51 | n => n, fun | 9 => 9 | 21 => 21 | 3 => 3 | 4 => 4 | 5 => 5 | 105 => 62 | 119 => 69 | 0 => 0 | 46 => 73 | 139 => 72 | 138 => 71 | n => n, fun | 3 => 0 | 4 => 1 | n => n⟩
theorem Tryd.lays197 : Go.Proofs.Lays.n197 Tryd.prog Tryd.lays197_ren := {
  mixed := by kernel_rfl
  f197 := Tryd.func41.trans (congrArg some (by kernel_rfl))
  f260 := Tryd.func51.trans (congrArg some (by kernel_rfl))
  t0 := Tryd.underlying0
  a0 := Tryd.isAgg0
  z0 := Tryd.sizeOf0
  v0 := Tryd.zeroValue0
  t3 := Tryd.underlying3
  a3 := Tryd.isAgg3
  z3 := Tryd.sizeOf3
  v3 := Tryd.zeroValue3
  t4 := Tryd.underlying4
  a4 := Tryd.isAgg4
  z4 := Tryd.sizeOf4
  v4 := Tryd.zeroValue4
  t5 := Tryd.underlying5
  a5 := Tryd.isAgg5
  z5 := Tryd.sizeOf5
  v5 := Tryd.zeroValue5
  t9 := Tryd.underlying9
  a9 := Tryd.isAgg9
  z9 := Tryd.sizeOf9
  v9 := Tryd.zeroValue9
  t21 := Tryd.underlying21
  a21 := Tryd.isAgg21
  z21 := Tryd.sizeOf21
  v21 := Tryd.zeroValue21
  t46 := Tryd.underlying73
  a46 := Tryd.isAgg73
  z46 := Tryd.sizeOf73
  v46 := Tryd.zeroValue73
  t105 := Tryd.underlying62
  a105 := Tryd.isAgg62
  z105 := Tryd.sizeOf62
  v105 := Tryd.zeroValue62
  t119 := Tryd.underlying69
  a119 := Tryd.isAgg69
  z119 := Tryd.sizeOf69
  t138 := Tryd.underlying71
  a138 := Tryd.isAgg71
  z138 := Tryd.sizeOf71
  v138 := Tryd.zeroValue71
  t139 := Tryd.underlying72
  a139 := Tryd.isAgg72
  z139 := Tryd.sizeOf72
  v139 := Tryd.zeroValue72
  g3 := by kernel_rfl
  g4 := by kernel_rfl }
open Go.RowKit Go.Lib in
/-- **unicode/utf8.DecodeRuneInString AT EVERY STRING.** (LAID: no walk: one application.) -/
theorem Tryd.utf8_DecodeRuneInString (s : ByteArray) (w : World) (hT : Lib.Utf8Tabs 0 1 w) :
    Calls Tryd.prog 41 #[.string s] w fun e w' => e = .returned (.tuple #[.int .i32 (Lib.decodeGo s).1, .int .i64 (Lib.decodeGo s).2]) ∧ Below w.heap.size w w' := Any.utf8_DecodeRuneInString Tryd.lays197 s w hT
def Tryd.laysValid_ren : Go.Shelf.Ren := ⟨fun | 196 => 37 | 259 => 50 | n => n, fun | 9 => 9 | 4 => 4 | 3 => 3 | 5 => 5 | 12 => 12 | 119 => 69 | 0 => 0 | 46 => 73 | 139 => 72 | 138 => 71 | 53 => 59 | n => n, fun | 3 => 0 | 4 => 1 | n => n⟩
theorem Tryd.laysValid : Go.Proofs.Lays.n196 Tryd.prog Tryd.laysValid_ren := {
  mixed := by kernel_rfl
  f196 := Tryd.func37.trans (congrArg some (by kernel_rfl))
  f259 := Tryd.func50.trans (congrArg some (by kernel_rfl))
  t0 := Tryd.underlying0
  a0 := Tryd.isAgg0
  z0 := Tryd.sizeOf0
  v0 := Tryd.zeroValue0
  t3 := Tryd.underlying3
  a3 := Tryd.isAgg3
  z3 := Tryd.sizeOf3
  v3 := Tryd.zeroValue3
  t4 := Tryd.underlying4
  a4 := Tryd.isAgg4
  z4 := Tryd.sizeOf4
  v4 := Tryd.zeroValue4
  t5 := Tryd.underlying5
  a5 := Tryd.isAgg5
  z5 := Tryd.sizeOf5
  v5 := Tryd.zeroValue5
  t9 := Tryd.underlying9
  a9 := Tryd.isAgg9
  z9 := Tryd.sizeOf9
  v9 := Tryd.zeroValue9
  t12 := Tryd.underlying12
  a12 := Tryd.isAgg12
  z12 := Tryd.sizeOf12
  v12 := Tryd.zeroValue12
  t46 := Tryd.underlying73
  a46 := Tryd.isAgg73
  z46 := Tryd.sizeOf73
  v46 := Tryd.zeroValue73
  t53 := Tryd.underlying59
  a53 := Tryd.isAgg59
  z53 := Tryd.sizeOf59
  v53 := Tryd.zeroValue59
  t119 := Tryd.underlying69
  a119 := Tryd.isAgg69
  z119 := Tryd.sizeOf69
  t138 := Tryd.underlying71
  a138 := Tryd.isAgg71
  z138 := Tryd.sizeOf71
  v138 := Tryd.zeroValue71
  t139 := Tryd.underlying72
  a139 := Tryd.isAgg72
  z139 := Tryd.sizeOf72
  v139 := Tryd.zeroValue72
  g3 := by kernel_rfl
  g4 := by kernel_rfl }
end Go.Proofs
/-! ### Tabs -/
namespace Go.Proofs.YtlikjknakplamaaDoor
open Go.RowKit Go.Shelf Go.Lib
structure Tabs (w : World) : Prop where
  u8 : Lib.Utf8Tabs (Tryd.laysValid_ren.g 3) (Tryd.laysValid_ren.g 4) w
  ten : Lib.TabIs Tryd.prog w "internal/strconv.uint64pow10" .u64 Lib.pow10Tab
  most : ∃ m, w.cell? ⟨Tryd.laysM145_ren.g 1, 0, none⟩ = some (.int .i64 m)
theorem pow_named : Tryd.prog.globalNamed "internal/strconv.uint64pow10" = some (Tryd.laysM171_ren.g 17) := by kernel_rfl
theorem Tabs.below {w w' : World} (h : Tabs w) (hb : Below w.heap.size w w') : Tabs w' := by
  refine ⟨⟨fun c hc => ?_, fun i hi => ?_⟩, Go.Joins.tab_stays pow_named h.ten hb (Nat.le_refl _), ?_⟩
  · have := h.u8.1 c hc
    exact (hb.cell (World.block_lt_of_cell? w _ this)).trans this
  · have := h.u8.2 i hi
    exact ⟨(hb.cell (World.block_lt_of_cell? w _ this.1)).trans this.1, (hb.cell (World.block_lt_of_cell? w _ this.2)).trans this.2⟩
  · obtain ⟨m, hm⟩ := h.most
    exact ⟨m, (hb.cell (World.block_lt_of_cell? w _ hm)).trans hm⟩
end Go.Proofs.YtlikjknakplamaaDoor
/-! ### Print0 -/
namespace Go.Proofs.YtlikjknakplamaaDoor.Print
open Go.RowKit Go.Proofs.YtlikjknakplamaaDoorW.PrintWords Go.Proofs.YtlikjknakplamaaDoorW.PrintLast Go.Proofs.YtlikjknakplamaaDoorW.PrintMore
set_option linter.unusedVariables false
set_option linter.unusedSimpArgs false
structure S38 where
  f0 : Int
  f1 : ByteArray
  f2 : Int
  f3 : Int
def z38 : S38 := ⟨(0 : Int), (⟨#[]⟩ : ByteArray), (0 : Int), (0 : Int)⟩
def k38 : Kd S38 := Kd.iso (Kd.pair (Kd.int .i64) (Kd.pair Kd.string (Kd.pair (Kd.int .i64) (Kd.int .i64)))) (fun x : S38 => (x.f0, x.f1, x.f2, x.f3))
theorem k38_open {w : World} {x : S38} {cs : List Value} (h : k38.K w x cs) : cs = [.int .i64 x.f0, .string x.f1, .int .i64 x.f2, .int .i64 x.f3] := by
  obtain ⟨_, _, rfl, rfl, ⟨_, _, rfl, rfl, ⟨_, _, rfl, rfl, rfl⟩⟩⟩ := h
  exact rfl
theorem k38_mk (w : World) (x : S38)  : k38.K w x [.int .i64 x.f0, .string x.f1, .int .i64 x.f2, .int .i64 x.f3] := ⟨[.int .i64 x.f0], [.string x.f1, .int .i64 x.f2, .int .i64 x.f3], rfl, rfl, ⟨[.string x.f1], [.int .i64 x.f2, .int .i64 x.f3], rfl, rfl, ⟨[.int .i64 x.f2], [.int .i64 x.f3], rfl, rfl, rfl⟩⟩⟩
theorem k38_mkM (w : World) (base : Nat) (ok : Nat → Prop) (x : S38)  : k38.M w base ok x [.int .i64 x.f0, .string x.f1, .int .i64 x.f2, .int .i64 x.f3] := ⟨[.int .i64 x.f0], [.string x.f1, .int .i64 x.f2, .int .i64 x.f3], rfl, rfl, ⟨[.string x.f1], [.int .i64 x.f2, .int .i64 x.f3], rfl, rfl, ⟨[.int .i64 x.f2], [.int .i64 x.f3], rfl, rfl, rfl⟩⟩⟩
def rd_T38 (xs : List S38) (i : Int) : S38 := xs.getD i.toNat z38
theorem at_T38 {w : World} {A : Option Addr} {n : Nat} {xs : List S38} (h : Kd.C k38 w A n xs) (i : Int) (h0 : 0 ≤ i) (h1 : i < n) : ∃ ad , A = some ad ∧ w.cell? (ad.add (i.toNat * 4)) = some (.int .i64 (rd_T38 xs i).f0) ∧ w.cell? ⟨(ad.add (i.toNat * 4)).block, (ad.add (i.toNat * 4)).off + 1, none⟩ = some (.string (rd_T38 xs i).f1) ∧ w.cell? ⟨(ad.add (i.toNat * 4)).block, (ad.add (i.toNat * 4)).off + 2, none⟩ = some (.int .i64 (rd_T38 xs i).f2) ∧ w.cell? ⟨(ad.add (i.toNat * 4)).block, (ad.add (i.toNat * 4)).off + 3, none⟩ = some (.int .i64 (rd_T38 xs i).f3) := by
  obtain ⟨ad, c, e, _, hK, hc0⟩ := Kd.C_get h z38 i h0 h1
  have hc : ∀ j u, c[j]? = some u → w.cell? (ad.add (i.toNat * 4 + j)) = some u := hc0
  obtain rfl := k38_open hK
  exact ⟨ad, e, hc 0 _ rfl, by rw [← add_field _ _ 1 (by omega)]; exact hc 1 _ rfl, by rw [← add_field _ _ 2 (by omega)]; exact hc 2 _ rfl, by rw [← add_field _ _ 3 (by omega)]; exact hc 3 _ rfl⟩
end Go.Proofs.YtlikjknakplamaaDoor.Print
/-! ### ELib -/
namespace Go.Proofs.YtlikjknakplamaaDoor.Print
open Go.RowKit Go.Proofs.YtlikjknakplamaaDoorW.PrintWords Go.Proofs.YtlikjknakplamaaDoorW.PrintLast Go.Proofs.YtlikjknakplamaaDoorW.PrintMore
def strings_IndexByte.f (a0 : ByteArray) (a1 : Int) : Option Int := some (Lib.indexByte a0.data.toList a1.toNat.toUInt8)
theorem strings_IndexByte.calls (a0 : ByteArray) (a1 : Int) (r : Int) (w : World) (h : strings_IndexByte.f a0 a1 = some r) :
    Calls Tryd.prog 35 #[.string a0, .int .u8 a1] w fun e w' => e = .returned (.int .i64 r) ∧ Drawn0 w w' := by
  obtain rfl := Option.some.inj h
  exact (Tryd.strings_IndexByte a0 a1 w).mono fun _ _ ⟨he, hw⟩ => ⟨he, hw ▸ Drawn0.refl _⟩
def utf8_RuneCountInString.f (a0 : ByteArray) : Option Int := if a0.size < 9223372036854775807 then some (Lib.runeCount a0) else none
theorem utf8_RuneCountInString.calls (a0 : ByteArray) (r : Int) (w : World) (h : utf8_RuneCountInString.f a0 = some r) :
    Calls Tryd.prog 38 #[.string a0] w fun e w' => e = .returned (.int .i64 r) ∧ Below w.heap.size w w' := by
  unfold utf8_RuneCountInString.f at h
  split at h
  · obtain rfl := Option.some.inj h
    exact (Tryd.utf8_RuneCountInString a0 w ‹_›).mono fun _ _ ⟨he, pos, hw⟩ => ⟨he, hw ▸ (Below.refl _ _).alloc (Nat.le_refl _) _⟩
  · cases h
end Go.Proofs.YtlikjknakplamaaDoor.Print
/-! ### K -/
namespace Go.Proofs.YtlikjknakplamaaDoor
open Go.RowKit
/-- Of the blocks that were there only those of S may have changed. -/
structure Only (S : List Nat) (w w' : World) : Prop where
  os : w'.os = w.os
  tape : w'.tape = w.tape
  output : w'.output = w.output
  size : w.heap.size ≤ w'.heap.size
  block : ∀ k, k < w.heap.size → k ∉ S → w'.heap[k]? = w.heap[k]?
theorem Only.refl (S : List Nat) (w : World) : Only S w w := ⟨rfl, rfl, rfl, Nat.le_refl _, fun _ _ _ => rfl⟩
theorem Only.trans {S : List Nat} {a b c : World} (h : Only S a b) (k : Only S b c) : Only S a c :=
  ⟨k.os.trans h.os, k.tape.trans h.tape, k.output.trans h.output, Nat.le_trans h.size k.size,
   fun i hi hn => (k.block i (Nat.lt_of_lt_of_le hi h.size) hn).trans (h.block i hi hn)⟩
/-- What is written newly in between does not count. -/
theorem Only.then {S T : List Nat} {a b c : World} (h : Only S a b) (k : Only T b c) (hT : ∀ i, i ∈ T → i ∈ S ∨ a.heap.size ≤ i) : Only S a c :=
  ⟨k.os.trans h.os, k.tape.trans h.tape, k.output.trans h.output, Nat.le_trans h.size k.size,
   fun i hi hn => (k.block i (Nat.lt_of_lt_of_le hi h.size) (fun ht => (hT i ht).elim hn (by omega))).trans (h.block i hi hn)⟩
theorem Only.mono {S T : List Nat} {a b : World} (h : Only S a b) (hT : ∀ i, i ∈ S → i ∈ T) : Only T a b :=
  ⟨h.os, h.tape, h.output, h.size, fun i hi hn => h.block i hi (fun hs => hn (hT i hs))⟩
theorem Only.drewN {S : List Nat} {a w : World} (h : Only S a w) (n : Nat) : Only S a (w.drewN n) := ⟨h.os, h.tape, h.output, h.size, h.block⟩
theorem Only.alloc {S : List Nat} {a w : World} (h : Only S a w) (o : Obj) : Only S a (w.alloc o) :=
  h.trans ⟨rfl, rfl, rfl, by simp, fun k hk _ => Below.heap_alloc _ _ _ hk⟩
theorem Only.setCell {S : List Nat} {a w : World} (h : Only S a w) {p : Addr} (hp : p.block ∈ S ∨ a.heap.size ≤ p.block) (u : Value) : Only S a (w.setCell p u) :=
  h.then (T := [p.block]) ⟨rfl, rfl, rfl, by simp [World.setCell], fun k _ hn => Below.heap_setCell _ _ _ _ (by simpa using hn)⟩ (by simpa using hp)
theorem Only.setRow {S : List Nat} {a w : World} (h : Only S a w) {g : Nat} (hp : g ∈ S ∨ a.heap.size ≤ g) (cs : Array Value) : Only S a (w.setRow g cs) :=
  h.then (T := [g]) ⟨rfl, rfl, rfl, by simp [World.setRow], fun k _ hn => setRow_other w g k cs (by simpa using hn)⟩ (by simpa using hp)
theorem Only.grown {S : List Nat} {a w w' : World} {row : Option Nat} (h : Only S a w) (hg : w.grownBy w' row) (hr : ∀ k, row = some k → k ∈ S ∨ a.heap.size ≤ k) : Only S a w' :=
  h.then (T := row.toList) ⟨hg.os, hg.tape, hg.output, hg.size, fun k hk hn => hg.block k hk (fun e => hn (by rw [← e]; simp))⟩ (fun i hi => hr i (by simpa using hi))
theorem Only.below {S : List Nat} {a w : World} (h : Only S a w) {B : Nat} (hB : B ≤ a.heap.size) (hS : ∀ i, i ∈ S → B ≤ i) : Below B a w :=
  ⟨h.os, h.tape, h.output, h.size, fun k hk => h.block k (by omega) (fun hs => by have := hS k hs; omega)⟩
theorem Only.nil_below {a w : World} (h : Only [] a w) : Below a.heap.size a w := h.below (Nat.le_refl _) (by simp)
theorem Only.of_below {a w : World} (h : Below a.heap.size a w) : Only [] a w := ⟨h.os, h.tape, h.output, h.size, fun k hk _ => h.block k hk⟩
theorem Only.heap {S : List Nat} {a w : World} (h : Only S a w) {k : Nat} {o : Obj} (ho : a.heap[k]? = some o) (hk : k ∉ S) : w.heap[k]? = some o :=
  (h.block k (Array.getElem?_eq_some_iff.1 ho).1 hk).trans ho
theorem Only.cell {S : List Nat} {a w : World} (h : Only S a w) {p : Addr} {v : Value} (hc : a.cell? p = some v) (hp : p.block ∉ S) : w.cell? p = some v :=
  (World.cell?_of_block (w := a) (h.block p.block (block_lt_of_cell hc) hp)).trans hc
theorem heap_lt {w : World} {g : Nat} {o : Obj} (h : w.heap[g]? = some o) : g < w.heap.size := (Array.getElem?_eq_some_iff.1 h).1
/-- The cells from an address on hold these values. -/
def CellsAt (w : World) (ad : Addr) (cs : List Value) : Prop := ∀ j v, cs[j]? = some v → w.cell? (ad.add j) = some v
section laws
variable {P : Program}
/-- var x [n]T, or any variable in memory: a new block of its zero value; the world behind it by a name. -/
theorem wpList_alloc_new {ops : Array Oper} {rest : List Oper} {o : Oper} {a : Act} {w : World} {Q : Exit → Act → World → Prop} (hgd : o.guard = none) (t : TypeId) (ho : o.op = .alloc t)
    (z : Value) (size bytes : Nat) (hinfo : (P.info? t).map (fun i => (i.zero, i.size, i.bytes)) = some (some z, size, bytes))
    (h : ∀ w', Hid (w'.heap[w.heap.size]? = some (.cells z.cells t (0, 0))) → Hid (w'.heap.size = w.heap.size + 1) → Only [] w w' → wpList P ops Q rest (a.put o.dst (.pointer (some ⟨w.heap.size, 0, none⟩))) w') :
    wpList P ops Q (o :: rest) a w := by
  obtain ⟨i, h2, h3, h4, h5⟩ := info_parts hinfo
  refine wpList_plain hgd fun K hK => ?_
  have hrun : (Instr.alloc t true (.tuple #[])).run P w = .ok (.pointer (some ⟨w.heap.size, 0, none⟩)) (w.alloc (.cells z.cells t)) := by
    simp [Instr.alloc, zeroValue, typeInfo, h2, h3, newVar, newRow]
  unfold Oper.wp
  simp only [execOp, ho, Sem.run_bind, hrun, Result.andThen]
  exact hK _ _ (h _ (heap_alloc_new w _) (show _ = _ by simp) ((Only.refl _ _).alloc _))
/-- A struct or an array is stored over a whole block; the world behind it by a name. -/
theorem wpList_store_new {ops : Array Oper} {rest : List Oper} {o : Oper} {a : Act} {w : World} {Q : Exit → Act → World → Prop} (hgd : o.guard = none) (ty : TypeId) (x y : Operand) (ho : o.op = .store ty x y)
    (g : Nat) (cells : Array Value) (hx : a.eval x = .pointer (some ⟨g, 0, none⟩)) (hy : a.eval y = .agg cells)
    (t : TypeId) (old : Array Value) (hg : w.heap[g]? = some (.cells old t (0, 0))) (hi : (P.info? ty).map (·.size) = some cells.size)
    (hold : old.size = cells.size) (h1 : ∀ v ∈ cells.toList, v.oneCell' = true)
    (h : ∀ w', Hid (w'.heap[g]? = some (.cells cells t (0, 0))) → Only [g] w w' → wpList P ops Q rest (a.put o.dst undef) w') : wpList P ops Q (o :: rest) a w :=
  wpList_store_row hgd ty x y ho g cells hx hy t old hg hi hold (Array.all_eq_true_iff_forall_mem.2 (fun v hv => h1 v (by simpa using hv)))
    (h _ (setRow_heap w g old cells t _ hg) ((Only.refl _ _).setRow (by simp) _))
theorem cellsAt_row {w : World} {g : Nat} {cs : List Value} {t : TypeId} {fr : Nat × Nat} (h : w.heap[g]? = some (.cells cs.toArray t fr)) : CellsAt w ⟨g, 0, none⟩ cs := by
  intro j v hj
  have e : (⟨g, 0, none⟩ : Addr).add j = ⟨g, j, none⟩ := by unfold Addr.add; split <;> simp_all
  rw [e, cell_of_row w g j _ _ _ h, List.getElem?_toArray, hj]
end laws
end Go.Proofs.YtlikjknakplamaaDoor
/-! ### L -/
namespace Go.Proofs.YtlikjknakplamaaDoor
namespace L
open Go.RowKit
section
variable {P : Program} {ops : Array Oper} {Q : Exit → Act → World → Prop} {md : Region.Mode}
/-- Whatever order is picked from here on, each operation that is carried out leaves what was there. -/
def wpGrow (P : Program) (md : Region.Mode) (ops : Array Oper) (Q : Exit → Act → World → Prop) (S : List Nat) (z : Nat) : Nat → Array Bool → Act → World → Prop
  | 0, listed, a, w => Region.ready md ops listed = [] ∧ Q .normal a w
  | fuel + 1, listed, a, w =>
    (Region.ready md ops listed = [] → Q .normal a w) ∧
    ∀ i ∈ Region.ready md ops listed, wpOp P ops Q i (fun a' w' => (i = z ∨ Only S w w') ∧ wpGrow P md ops Q S z fuel (listed.setIfInBounds i true) a' w') a w
theorem wpAny_of_grow {S : List Nat} {z : Nat} : ∀ (fuel : Nat) (listed : Array Bool) (a : Act) (w : World), wpGrow P md ops Q S z fuel listed a w → wpAny P md ops Q fuel listed a w
  | 0, _, _, _, h => h
  | fuel + 1, _, _, _, h => ⟨h.1, fun i hi => wpOp_mono (fun a' w' h' => wpAny_of_grow fuel _ a' w' h'.2) (h.2 i hi)⟩
theorem yields_weaker {S T : World → Prop} {o : Oper} {v : Value} {a : Act} (h : YieldsIf P ops S o v a) (hT : ∀ w, T w → S w) : YieldsIf P ops T o v a :=
  h.imp (fun ⟨hw, hv⟩ => ⟨hw, fun w hw' => hv w (hT w hw')⟩) id
/-- z waits for all others, at most over one in between. -/
def LastOp (md : Region.Mode) (ops : Array Oper) (z : Nat) : Prop := ∀ oz, ops[z]? = some oz → ∀ k, k < ops.size → k ≠ z →
  ∃ e ∈ oz.after, Region.binds md e = true ∧ (e.on = k ∨ ∃ om, ops[e.on]? = some om ∧ ∃ e' ∈ om.after, Region.binds md e' = true ∧ e'.on = k)
/-- What was carried out waited for what was carried out. -/
def Closed (md : Region.Mode) (ops : Array Oper) (listed : Array Bool) : Prop := ∀ j oj, ops[j]? = some oj → listed.getD j false = true → ∀ e ∈ oj.after, Region.binds md e = true → listed.getD e.on false = true
theorem getD_set_mono {l : Array Bool} {j k : Nat} (h : l.getD k false = true) : (l.setIfInBounds j true).getD k false = true := by
  rw [Array.getD_eq_getD_getElem?] at h ⊢
  rw [Array.getElem?_setIfInBounds]
  split
  · split <;> simp_all
  · exact h
theorem Closed.add {listed : Array Bool} {j : Nat} (h : Closed md ops listed) (hj : j ∈ Region.ready md ops listed) : Closed md ops (listed.setIfInBounds j true) := by
  intro k ok hk hl e he hb
  by_cases hkj : j = k
  · subst hkj
    obtain ⟨_, o, ho, hall⟩ := mem_ready.1 hj
    obtain rfl := Option.some.inj (ho.symm.trans hk)
    exact getD_set_mono (hall e he hb)
  · refine getD_set_mono (h k ok hk ?_ e he hb)
    rw [Array.getD_eq_getD_getElem?, Array.getElem?_setIfInBounds, if_neg hkj] at hl
    rw [Array.getD_eq_getD_getElem?]
    exact hl
theorem wpGrow_first {S : List Nat} {z : Nat} {i : Nat} {oi : Oper} {v : Value} (hz : LastOp md ops z) (hiz : i ≠ z) (hi : ops[i]? = some oi) (hsel : ∀ (j : Nat) (o : Oper) cs b, ops[j]? = some o → o.op ≠ .select cs b)
    (hQ : ∀ c a w, Q (.panic c) (a.put oi.dst v) w → Q (.panic c) a w) :
    ∀ (fuel : Nat) (listed : Array Bool) (a : Act) (w : World), Closed md ops listed →
      (∀ j oj, ops[j]? = some oj → j ≠ i → listed.getD j true = false → (∀ e ∈ oj.after, Region.binds md e = true → e.on ≠ i) → oi.apart ops oj = true) →
      i ∈ Region.ready md ops listed → YieldsIf P ops (fun w' => Only S w w') oi v a →
      wpGrow P md ops Q S z fuel (listed.setIfInBounds i true) (a.put oi.dst v) w → wpGrow P md ops Q S z (fuel + 1) listed a w := by
  intro fuel
  induction fuel with
  | zero =>
    intro listed a w _ _ hr hy H
    refine ⟨fun h => (by rw [h] at hr; cases hr), fun j hj => ?_⟩
    by_cases hji : j = i
    · subst hji; exact hy.wpOp hi (Only.refl S w) ⟨.inr (Only.refl S w), H⟩
    · have h1 := ready_mono hj hji
      rw [H.1] at h1
      cases h1
  | succ fuel ih =>
    intro listed a w hcl hfree hr hy H
    refine ⟨fun h => (by rw [h] at hr; cases hr), fun j hj => ?_⟩
    by_cases hji : j = i
    · subst hji; exact hy.wpOp hi (Only.refl S w) ⟨.inr (Only.refl S w), H⟩
    · have h1 := H.2 j (ready_mono hj hji)
      obtain ⟨hjun, oj, hoj, hall⟩ := mem_ready.1 hj
      have hnot : ∀ e ∈ oj.after, Region.binds md e = true → e.on ≠ i := fun e he hb heq => by
        have h1 := hall e he hb
        have h0 := (mem_ready.1 hr).1
        rw [heq] at h1
        rcases Nat.lt_or_ge i listed.size with h' | h'
        · simp [h'] at h0 h1; rw [h0] at h1; cases h1
        · simp [Array.getElem?_eq_none h'] at h1
      have h2 := wpOp_putIf hoj (hfree j oj hoj hji hjun hnot) (fun cs b => hsel i oi cs b hi) (fun cs b => hsel j oj cs b hoj) hQ hy h1
      have hfree' : ∀ k ok, ops[k]? = some ok → k ≠ i → (listed.setIfInBounds j true).getD k true = false →
          (∀ e ∈ ok.after, Region.binds md e = true → e.on ≠ i) → oi.apart ops ok = true := fun k ok hk hki hun hno => by
        refine hfree k ok hk hki ?_ hno
        by_cases hjk : j = k
        · subst hjk; exact hjun
        · rw [getD_set_ne true hjk] at hun; exact hun
      have hjz : j ≠ z := by
        rintro rfl
        obtain ⟨e, he, hb, hk⟩ := hz oj hoj i (Array.getElem?_eq_some_iff.1 hi).1 hiz
        rcases hk with hk | ⟨om, hom, e', he', hb', hk⟩
        · exact hnot e he hb hk
        · have h1 := hcl e.on om hom (hall e he hb) e' he' hb'
          have h0 := (mem_ready.1 hr).1
          rw [hk] at h1
          rcases Nat.lt_or_ge i listed.size with h' | h'
          · simp [h'] at h0 h1; rw [h0] at h1; cases h1
          · simp [Array.getElem?_eq_none h'] at h1
      refine wpOp_mono (fun a' w' h3 => ⟨h3.2.1, ih (listed.setIfInBounds j true) a' w' (hcl.add hj) hfree' (ready_mono hr (Ne.symm hji)) (yields_weaker h3.1 fun w'' h => (h3.2.1.resolve_left hjz).trans h) ?_⟩) h2
      rw [Array.setIfInBounds_comm _ _ hji]
      exact h3.2.2
/-- What matters of an operation for its place: what it waits for, which temporaries it looks at, which it fills. -/
abbrev Row := List Nat × List Nat × Option Nat
def rowOf (md : Region.Mode) (ops : Array Oper) (o : Oper) : Row := ((o.after.toList.filter (Region.binds md)).map (·.on), o.looksAt ops, o.dst)
def tabOf (md : Region.Mode) (ops : Array Oper) : List Row := ops.toList.map (rowOf md ops)
def apartT (x y : Row) : Bool :=
  (match x.2.2 with
   | some d => !y.2.1.contains d && y.2.2 != some d
   | none => true) &&
  (match y.2.2 with
   | some d => !x.2.1.contains d
   | none => true)
theorem apartT_spec {x y : Oper} (h : apartT (rowOf md ops x) (rowOf md ops y) = true) : x.apart ops y = true := h
def readyT (tab : List Row) (l : List Bool) (i : Nat) : Bool :=
  !l.getD i true && (match tab[i]? with
   | some r => r.1.all fun k => l.getD k false
   | none => false)
theorem readyT_spec (l : List Bool) (i : Nat) : readyT (tabOf md ops) l i = true ↔ i ∈ Region.ready md ops l.toArray := by
  rw [mem_ready]
  unfold readyT tabOf
  have e1 : l.toArray.getD i true = l.getD i true := by simp [List.getD_eq_getElem?_getD]
  have e2 : ∀ k, l.toArray.getD k false = l.getD k false := fun k => by simp [List.getD_eq_getElem?_getD]
  rw [e1, List.getElem?_map, Array.getElem?_toList]
  cases ho : ops[i]? with
  | none => simp
  | some o =>
    simp only [Option.map_some, Bool.and_eq_true, Bool.not_eq_true', List.all_eq_true, rowOf, List.mem_map, List.mem_filter]
    constructor
    · rintro ⟨h1, h2⟩
      exact ⟨h1, o, rfl, fun e he hb => by rw [e2]; exact h2 _ ⟨e, ⟨by simpa using he, hb⟩, rfl⟩⟩
    · rintro ⟨h1, o', ho', h2⟩
      cases ho'
      refine ⟨h1, ?_⟩
      rintro k ⟨e, ⟨he, hb⟩, rfl⟩
      have := h2 e (by simpa using he) hb
      rwa [e2] at this
def freeT (tab : List Row) (l : List Bool) (i : Nat) (x : Row) : List Row → Nat → Bool
  | [], _ => true
  | y :: r, j => (j == i || l.getD j true || y.1.contains i || apartT x y) && freeT tab l i x r (j + 1)
theorem freeT_spec (tab : List Row) (l : List Bool) (i : Nat) (x : Row) : ∀ (r : List Row) (j : Nat), freeT tab l i x r j = true → ∀ k y, r[k]? = some y → j + k = i ∨ l.getD (j + k) true = true ∨ y.1.contains i = true ∨ apartT x y = true
  | [], _, _, k, y, hk => by simp at hk
  | z :: r, j, h, k, y, hk => by
    simp only [freeT, Bool.and_eq_true, Bool.or_eq_true, beq_iff_eq] at h
    cases k with
    | zero =>
      simp at hk
      subst hk
      rcases h.1 with ((h1 | h1) | h1) | h1
      · exact .inl (by omega)
      · exact .inr (.inl (by simpa using h1))
      · exact .inr (.inr (.inl h1))
      · exact .inr (.inr (.inr h1))
    | succ k =>
      have := freeT_spec tab l i x r (j + 1) h.2 k y (by simpa using hk)
      rwa [show j + 1 + k = j + (k + 1) by omega] at this
def aloneT (tab : List Row) (l : List Bool) (i n : Nat) : Bool := (List.range n).all fun j => j == i || !readyT tab l j
/-- The numbers in the order in which they are taken; beside each: may it be taken first? does it come up alone? -/
def lastT (tab : List Row) (n z : Nat) : Bool := match tab[z]? with
  | some r => (List.range n).all fun k => k == z || r.1.any fun m => m == k || (match tab[m]? with | some q => q.1.contains k | none => false)
  | none => true
theorem tab_get {z : Nat} {oz : Oper} (hoz : ops[z]? = some oz) : (tabOf md ops)[z]? = some (rowOf md ops oz) := by unfold tabOf; rw [List.getElem?_map, Array.getElem?_toList, hoz]; rfl
theorem row_has {oz : Oper} {k : Nat} (h : k ∈ (rowOf md ops oz).1) : ∃ e ∈ oz.after, Region.binds md e = true ∧ e.on = k := by
  simp only [rowOf, List.mem_map, List.mem_filter] at h
  obtain ⟨e, ⟨he, hb⟩, heq⟩ := h
  exact ⟨e, by simpa using he, hb, heq⟩
theorem lastT_spec {z : Nat} (h : lastT (tabOf md ops) ops.size z = true) : LastOp md ops z := by
  intro oz hoz k hk hkz
  unfold lastT at h
  rw [tab_get hoz] at h
  simp only [List.all_eq_true, List.mem_range, Bool.or_eq_true, beq_iff_eq, List.any_eq_true] at h
  obtain ⟨m, hm, h2⟩ := (h k hk).resolve_left hkz
  obtain ⟨e, he, hb, rfl⟩ := row_has hm
  refine ⟨e, he, hb, ?_⟩
  rcases h2 with h2 | h2
  · exact .inl h2
  · cases ho : ops[e.on]? with
    | none =>
      have : (tabOf md ops)[e.on]? = none := by unfold tabOf; rw [List.getElem?_map, Array.getElem?_toList, ho]; rfl
      rw [this] at h2
      cases h2
    | some om =>
      rw [tab_get ho] at h2
      obtain ⟨e', he', hb', h3⟩ := row_has (List.contains_iff_mem.1 h2)
      exact .inr ⟨om, rfl, e', he', hb', h3⟩
def rowsT (tab : List Row) (n z : Nat) : List (Nat × Bool × Bool) → List Bool → Bool
  | [], l => (List.range n).all fun j => !readyT tab l j
  | (i, f, c) :: r, l =>
    readyT tab l i && (!f || (i != z && (match tab[i]? with | some x => freeT tab l i x tab 0 | none => false))) && (!c || aloneT tab l i n) && rowsT tab n z r (l.set i true)
/-- The walk through a region in one order. -/
def GrowL (P : Program) (ops : Array Oper) (Q : Exit → Act → World → Prop) (S : List Nat) (z : Nat) : List (Nat × Bool × Bool) → Act → World → Prop
  | [], a, w => Q .normal a w
  | (i, f, c) :: r, a, w => ∃ oi, ops[i]? = some oi ∧
      ((f = true ∧ ∃ v, YieldsIf P ops (fun w' => Only S w w') oi v a ∧ GrowL P ops Q S z r (a.put oi.dst v) w) ∨
       (c = true ∧ Region.wanted oi (yielded ops a.tmps) = true ∧ oi.wp P a w (fun a' w' => (i = z ∨ Only S w w') ∧ GrowL P ops Q S z r a' w') Q))
theorem ready_lt {l : Array Bool} {j : Nat} (h : j ∈ Region.ready md ops l) : j < ops.size := by
  obtain ⟨_, o, ho, _⟩ := mem_ready.1 h
  exact (Array.getElem?_eq_some_iff.1 ho).1
theorem grow_of_rows {S : List Nat} {z : Nat} (hz : LastOp md ops z) (hsel : Region.noSelect ops = true) (hQ : ∀ c (a : Act) d v w, Q (.panic c) (a.put d v) w → Q (.panic c) a w) :
    ∀ (T : List (Nat × Bool × Bool)) (l : List Bool), rowsT (tabOf md ops) ops.size z T l = true → Closed md ops l.toArray → ∀ a w, GrowL P ops Q S z T a w → wpGrow P md ops Q S z T.length l.toArray a w
  | [], l, hT, _, a, w, h => by
    refine ⟨?_, h⟩
    rw [List.eq_nil_iff_forall_not_mem]
    intro j hj
    simp only [rowsT, List.all_eq_true, List.mem_range, Bool.not_eq_true'] at hT
    have := hT j (ready_lt hj)
    rw [(readyT_spec l j).2 hj] at this
    cases this
  | (i, f, c) :: r, l, hT, hcl, a, w, h => by
    simp only [rowsT, Bool.and_eq_true, Bool.or_eq_true, Bool.not_eq_true'] at hT
    obtain ⟨⟨⟨hrd, hf⟩, hc⟩, hr⟩ := hT
    obtain ⟨oi, hi, h⟩ := h
    have hcl' : Closed md ops (l.set i true).toArray := by
      have := hcl.add ((readyT_spec l i).1 hrd)
      simpa using this
    have hset : l.toArray.setIfInBounds i true = (l.set i true).toArray := by simp
    rcases h with ⟨hft, v, hy, hg⟩ | ⟨hct, hw, hwp⟩
    · have hfr := hf.resolve_left (by rw [hft]; simp)
      have htab : (tabOf md ops)[i]? = some (rowOf md ops oi) := by unfold tabOf; rw [List.getElem?_map, Array.getElem?_toList, hi]; rfl
      rw [htab] at hfr
      simp only [bne_iff_ne, ne_eq] at hfr
      refine wpGrow_first hz hfr.1 hi (Region.noSelect_spec hsel) (fun c a w => hQ c a _ _ w) r.length _ a w hcl (fun j oj hj hne hun hno => ?_) ((readyT_spec l i).1 hrd) hy ?_
      · have htj : (tabOf md ops)[j]? = some (rowOf md ops oj) := by unfold tabOf; rw [List.getElem?_map, Array.getElem?_toList, hj]; rfl
        have hl : l.getD j true = false := by simpa [List.getD_eq_getElem?_getD] using hun
        rcases freeT_spec _ l i _ _ 0 hfr.2 j _ htj with h1 | h1 | h1 | h1
        · exact absurd (by omega) hne
        · rw [Nat.zero_add, hl] at h1; cases h1
        · exfalso
          simp only [rowOf, List.contains_iff_mem, List.mem_map, List.mem_filter] at h1
          obtain ⟨e, ⟨he, hb⟩, heq⟩ := h1
          exact hno e (by simpa using he) hb heq
        · exact apartT_spec h1
      · rw [hset]
        exact grow_of_rows hz hsel hQ r _ hr hcl' _ _ hg
    · have hal := hc.resolve_left (by rw [hct]; simp)
      refine ⟨fun h0 => ?_, fun j hj => ?_⟩
      · have := (readyT_spec l i).1 hrd
        rw [h0] at this
        cases this
      · have hji : j = i := by
          simp only [aloneT, List.all_eq_true, List.mem_range, Bool.or_eq_true, beq_iff_eq, Bool.not_eq_true'] at hal
          rcases hal j (ready_lt hj) with h1 | h1
          · exact h1
          · rw [(readyT_spec l j).2 hj] at h1; cases h1
        subst hji
        rw [hset]
        unfold wpOp
        simp only [hi, hw, if_true]
        exact .inl (Oper.wp_mono (fun a' w' h => ⟨h.1, grow_of_rows hz hsel hQ r _ hr hcl' _ _ h.2⟩) hwp)
/-- The beginning. -/
theorem grow_start (S : List Nat) (z : Nat) (T : List (Nat × Bool × Bool)) {id : Nat} {a : Act} {w : World} (hm : P.follows .mixedOrders = true)
    (tab : List Row) (htab : tabOf .any ops = tab) (hs : Region.noSelect ops = true) {n : Nat} (hn : ops.size = n) (hT : (lastT tab n z && rowsT tab n z T (List.replicate n false) && T.length == n) = true)
    (hQ : ∀ c (a : Act) t v w, Q (.panic c) (a.put (some t) v) w → Q (.panic c) a w)
    (h : ∀ w1, Only [] w w1 → GrowL P ops Q S z T a w1) : (Code.region id ops true).wp P Q a w := by
  subst htab
  subst hn
  simp only [Bool.and_eq_true, beq_iff_eq] at hT
  obtain ⟨⟨h2, h1⟩, h3⟩ := hT
  have ho : Only [] w { w with drawn := w.drawn + 1 } := ⟨rfl, rfl, rfl, Nat.le_refl _, fun _ _ _ => rfl⟩
  refine wp_region_any hm (wpAny_of_grow (S := S) (z := z) _ _ _ _ ?_)
  have := grow_of_rows (S := S) (z := z) (lastT_spec h2) hs (fun c a d v w h => by cases d with | none => exact h | some t => exact hQ c a t v w h) T _ h1 (fun j oj _ hl => by exfalso; rw [Array.getD_eq_getD_getElem?, List.getElem?_toArray, List.getElem?_replicate] at hl; split at hl <;> simp at hl) a _ (h _ ho)
  rw [h3, List.toArray_replicate] at this
  exact this
section
variable {S : List Nat} {z : Nat} {i : Nat} {f c : Bool} {oi : Oper} {r : List (Nat × Bool × Bool)} {a : Act} {w : World}
theorem growl_off (hi : ops[i]? = some oi) (hw : Region.wanted oi (yielded ops a.tmps) = false) (h : GrowL P ops Q S z r (a.put oi.dst undef) w) : GrowL P ops Q S z ((i, true, c) :: r) a w :=
  ⟨oi, hi, .inl ⟨rfl, _, .inr ⟨hw, rfl⟩, h⟩⟩
theorem growl_on {v : Value} (hi : ops[i]? = some oi) (hw : Region.wanted oi (yielded ops a.tmps) = true) (hy : ∀ w', Only S w w' → (execOp a.eval oi).run P w' = .ok (.value v) w')
    (h : GrowL P ops Q S z r (a.put oi.dst v) w) : GrowL P ops Q S z ((i, true, c) :: r) a w :=
  ⟨oi, hi, .inl ⟨rfl, _, .inl ⟨hw, hy⟩, h⟩⟩
theorem growl_alone (hi : ops[i]? = some oi) (hw : Region.wanted oi (yielded ops a.tmps) = true) (h : oi.wp P a w (fun a' w' => (i = z ∨ Only S w w') ∧ GrowL P ops Q S z r a' w') Q) : GrowL P ops Q S z ((i, f, true) :: r) a w :=
  ⟨oi, hi, .inr ⟨rfl, hw, h⟩⟩
end
def lk : List (Nat × Value) → Nat → Option Value
  | [], _ => none
  | (t, v) :: r, k => if k = t then some v else lk r k
def puts (a : Act) : List (Nat × Value) → Act
  | [] => a
  | (t, v) :: r => (puts a r).put (some t) v
def evE (a : Act) (env : List (Nat × Value)) : Operand → Value
  | .tmp t => match lk env t with
    | some v => v
    | none => a.eval (.tmp t)
  | x => a.eval x
theorem puts_size (a : Act) : ∀ env, (puts a env).tmps.size = a.tmps.size
  | [] => rfl
  | (t, v) :: r => by simp [puts, Act.put, puts_size a r]
theorem puts_get (a : Act) (k : Nat) : ∀ env : List (Nat × Value), (∀ p ∈ env, p.1 < a.tmps.size) → (puts a env).tmps[k]? = (lk env k).or a.tmps[k]?
  | [], _ => by simp [puts, lk]
  | (t, v) :: r, h => by
    have ht : t < a.tmps.size := h (t, v) (by simp)
    have ih := puts_get a k r (fun p hp => h p (by simp [hp]))
    show ((puts a r).tmps.setIfInBounds t v)[k]? = _
    rw [Array.getElem?_setIfInBounds]
    by_cases hk : t = k
    · subst hk
      rw [if_pos rfl, if_pos (by rw [puts_size]; exact ht)]
      simp [lk]
    · rw [if_neg hk, ih]
      simp [lk, Ne.symm hk]
theorem puts_eval (a : Act) (env : List (Nat × Value)) (h : ∀ p ∈ env, p.1 < a.tmps.size) : (puts a env).eval = evE a env := by
  funext x
  cases x with
  | tmp t =>
    show (puts a env).tmps.getD t undef = evE a env (.tmp t)
    rw [Array.getD_eq_getD_getElem?, puts_get a t env h]
    simp only [evE]
    cases hl : lk env t with
    | none => simp [Act.eval]
    | some v => simp
  | _ => rfl
/-- Is the operation carried out? -/
def wantE (ops : Array Oper) (env : List (Nat × Value)) (o : Oper) : Option Bool :=
  match o.guard with
  | none => some true
  | some (j, want) => match (ops[j]?).bind (·.dst) with
    | none => none
    | some d => match lk env d with
      | some (.bool b) => some (b == want)
      | some .nilIface => none
      | some (.tuple _) => some false
      | _ => none
theorem wantE_spec {env : List (Nat × Value)} {o : Oper} {b : Bool} (a : Act) (h : ∀ p ∈ env, p.1 < a.tmps.size) (hw : wantE ops env o = some b) : Region.wanted o (yielded ops (puts a env).tmps) = b := by
  unfold wantE at hw
  unfold Region.wanted
  cases hg : o.guard with
  | none => rw [hg] at hw; simpa using hw
  | some p =>
    obtain ⟨j, want⟩ := p
    rw [hg] at hw
    simp only at hw ⊢
    unfold yielded
    cases hd : (ops[j]?).bind (·.dst) with
    | none => rw [hd] at hw; cases hw
    | some d =>
      rw [hd] at hw
      simp only [Option.bind_some] at hw ⊢
      rw [puts_get a d env h]
      cases hl : lk env d with
      | none => rw [hl] at hw; simp at hw
      | some v =>
        rw [hl] at hw
        cases v <;> simp at hw ⊢ <;> simp [hw]
/-- The walk at a frame of which these temporaries were filled in the region. -/
def GrowE (P : Program) (ops : Array Oper) (Q : Exit → Act → World → Prop) (S : List Nat) (z : Nat) (T : List (Nat × Bool × Bool)) (a : Act) (N : Nat) (env : List (Nat × Value)) (w : World) : Prop :=
  a.tmps.size = N → (∀ p ∈ env, p.1 < N) → GrowL P ops Q S z T (puts a env) w
theorem growe_start {S : List Nat} {z : Nat} {T : List (Nat × Bool × Bool)} {a : Act} {w : World} {N : Nat} (hN : a.tmps.size = N) (h : GrowE P ops Q S z T a N [] w) : GrowL P ops Q S z T a w :=
  h hN (by simp)
theorem more_lt {d N : Nat} {v : Value} {env : List (Nat × Value)} (hd : d < N) (he : ∀ p ∈ env, p.1 < N) : ∀ p ∈ (d, v) :: env, p.1 < N := by
  intro p hp
  rcases List.mem_cons.1 hp with rfl | hp
  · exact hd
  · exact he p hp
section
variable {S : List Nat} {z : Nat} {i : Nat} {f c : Bool} {oi : Oper} {d : Nat} {T : List (Nat × Bool × Bool)} {a : Act} {w : World} {N : Nat} {env : List (Nat × Value)}
theorem ge_off (hi : ops[i]? = some oi) (hdst : oi.dst = some d) (hd : decide (d < N) = true) (hw : wantE ops env oi = some false) (h : GrowE P ops Q S z T a N ((d, undef) :: env) w) : GrowE P ops Q S z ((i, true, c) :: T) a N env w := by
  intro hN he
  subst hN
  refine growl_off hi (wantE_spec a he hw) ?_
  rw [hdst]
  exact h rfl (more_lt (of_decide_eq_true hd) he)
theorem ge_val {v : Value} (hi : ops[i]? = some oi) (hdst : oi.dst = some d) (hd : decide (d < N) = true) (hw : wantE ops env oi = some true) (hy : ∀ w', Only S w w' → (execOp (evE a env) oi).run P w' = .ok (.value v) w')
    (h : GrowE P ops Q S z T a N ((d, v) :: env) w) : GrowE P ops Q S z ((i, true, c) :: T) a N env w := by
  intro hN he
  subst hN
  refine growl_on hi (wantE_spec a he hw) (by rw [puts_eval a env he]; exact hy) ?_
  rw [hdst]
  exact h rfl (more_lt (of_decide_eq_true hd) he)
/-- What an operation copies. -/
def copies : Op → Option Operand
  | .move x | .assign x => some x
  | _ => none
theorem ge_move {v : Value} {x : Operand} (hi : ops[i]? = some oi) (hdst : oi.dst = some d) (hd : decide (d < N) = true) (hw : wantE ops env oi = some true) (hx : copies oi.op = some x) (hv : evE a env x = v)
    (h : GrowE P ops Q S z T a N ((d, v) :: env) w) : GrowE P ops Q S z ((i, true, c) :: T) a N env w := by
  refine ge_val hi hdst hd hw (fun w' _ => ?_) h
  subst hv
  unfold copies at hx
  unfold execOp
  split at hx
  · cases hx; rename_i heq; rw [heq]; rfl
  · cases hx; rename_i heq; rw [heq]; rfl
  · cases hx
theorem ge_pick {b : Bool} {v : Value} {x y y2 : Operand} (hi : ops[i]? = some oi) (hdst : oi.dst = some d) (hd : decide (d < N) = true) (hw : wantE ops env oi = some true) (hx : oi.op = .pick x y y2) (hb : evE a env x = .bool b)
    (hv : (if b = true then evE a env y else evE a env y2) = v) (h : GrowE P ops Q S z T a N ((d, v) :: env) w) : GrowE P ops Q S z ((i, true, c) :: T) a N env w := by
  refine ge_val hi hdst hd hw (fun w' _ => ?_) h
  subst hv
  unfold execOp
  rw [hx]
  simp only [hb, asBool]
  cases b <;> rfl
/-- A call of a Go function, that comes up alone. -/
theorem ge_call {g : FuncId} {xs : Array Operand} {tys : Array TypeId} {vs : Array Value} (hi : ops[i]? = some oi) (hdst : oi.dst = some d) (hd : decide (d < N) = true) (hw : wantE ops env oi = some true)
    (hx : oi.op = .call { callee := .value (.func g), args := xs, argTypes := tys }) (hvs : xs.map (evE a env) = vs) (hcf : (callFunc g vs).run P w = .ok (.enter g vs) w)
    (h : Calls P g vs w fun e w' => ∃ v, e = .returned v ∧ Only S w w' ∧ GrowE P ops Q S z T a N ((d, v) :: env) w') : GrowE P ops Q S z ((i, f, true) :: T) a N env w := by
  intro hN he
  subst hN
  refine growl_alone hi (wantE_spec a he hw) ?_
  unfold Oper.wp execOp
  rw [puts_eval a env he, hx]
  have hr : (do let d ← resolve (evE a env) { callee := .value (.func g), args := xs, argTypes := tys } oi.type; invoke d.target d.args).run P w = .ok (.enter g vs) w := by
    simp only [resolve, Sem.run_bind, hvs]
    have e1 : (evE a env (.func g)) = .func (.func g) #[] #[] := rfl
    rw [e1]
    simp only [Deferred.ofValue]
    simp [invoke, hcf]
  rw [hr]
  simp only [Oper.upon]
  refine Calls.mono h fun e w' ⟨v, he', ho, hg⟩ => ?_
  subst he'
  refine ⟨.inr ho, ?_⟩
  rw [hdst]
  exact hg rfl (more_lt (of_decide_eq_true hd) he)
/-- An operation that makes memory and comes up alone. -/
theorem ge_mem {v : Value} {w' : World} (hi : ops[i]? = some oi) (hdst : oi.dst = some d) (hd : decide (d < N) = true) (hw : wantE ops env oi = some true) (hy : (execOp (evE a env) oi).run P w = .ok (.value v) w')
    (ho : Only S w w') (h : GrowE P ops Q S z T a N ((d, v) :: env) w') : GrowE P ops Q S z ((i, f, true) :: T) a N env w := by
  intro hN he
  subst hN
  refine growl_alone hi (wantE_spec a he hw) ?_
  unfold Oper.wp
  rw [puts_eval a env he, hy]
  simp only [Oper.upon]
  refine ⟨.inr ho, ?_⟩
  rw [hdst]
  exact h rfl (more_lt (of_decide_eq_true hd) he)
/-- The operation that waits for all others. -/
theorem ge_last {w' : World} (hi : ops[z]? = some oi) (hdst : oi.dst = none) (hw : wantE ops env oi = some true) (hy : (execOp (evE a env) oi).run P w = .ok .skip w')
    (h : Q .normal (puts a env) w') : GrowE P ops Q S z ((z, f, true) :: []) a N env w := by
  intro hN he
  subst hN
  refine growl_alone hi (wantE_spec a he hw) ?_
  unfold Oper.wp
  rw [puts_eval a env he, hy]
  simp only [Oper.upon]
  refine ⟨.inl trivial, ?_⟩
  rw [hdst]
  exact h
theorem ge_done (h : Q .normal (puts a env) w) : GrowE P ops Q S z [] a N env w := fun _ _ => h
end
end
end L
/-- A slice of the call's own stays what it is. -/
theorem ownsRow_only {w w' : World} {base : Nat} {e : TypeId} {size : Nat} {v : Value} {n : Nat} {xs : List Value} {S : List Nat} (h : w.ownsRow base e size v n xs) (ho : Only S w w') (hS : ∀ k, v.ownBlock = some k → k ∉ S) : w'.ownsRow base e size v n xs := by
  refine ⟨h.1, ?_⟩
  rcases h.2 with hn | ⟨g, cap, cur, hv, hb, hg, rest⟩
  · exact .inl hn
  · exact .inr ⟨g, cap, cur, hv, hb, ho.heap hg (hS g (by rw [hv]; rfl)), rest⟩
end Go.Proofs.YtlikjknakplamaaDoor
/-! ### A -/
namespace Go.Proofs.YtlikjknakplamaaDoor
open Go.RowKit
section
variable {P : Program}
theorem run_append_row (w : World) (t ty : TypeId) (base : Nat) (e : TypeId) (size bytes : Nat) (z : Value) (ht : P.underlying t = some (.slice e)) (hinfo : (P.info? e).map (fun i => (i.zero, i.size, i.bytes)) = some (some z, size, bytes))
    (hzs : z.cells.size = size) (hsz : 0 < size) (v : Value) (n : Nat) (xs : List Value) (hown : w.ownsRow base e size v n xs)
    (A : Option Addr) (m c : Nat) (news : List Value) (hl : news.length = m * size) (hA : 0 < m → ∃ ad, A = some ad ∧ CellsAt w ad news) (h1 : ∀ u ∈ news, u.oneCell' = true)
    (h63 : n + m ≤ maxLen) (hbytes : (n + m) * bytes ≤ 140737488355328) (hbase : base ≤ w.heap.size) :
    ∃ A' c' w', (Builtin.append_ #[t, t] ty #[v, .slice A m c]).run P w = .ok (.slice A' (n + m) c') w' ∧ w'.ownsRow base e size (.slice A' (n + m) c') (n + m) (xs ++ news) ∧ Only v.ownBlock.toList w w' ∧
      (∀ k, (Value.slice A' (n + m) c').ownBlock = some k → v.ownBlock = some k ∨ w.heap.size ≤ k) := by
  obtain ⟨i, h2, h3, h4, h5⟩ := info_parts hinfo
  rcases Nat.eq_zero_or_pos m with hm | hm
  · subst hm
    obtain rfl : news = [] := List.eq_nil_of_length_eq_zero (by omega)
    rw [List.append_nil, Nat.add_zero]
    rcases hown.2 with ⟨rfl, rfl⟩ | ⟨g, cap, cur, rfl, hb, hg, hnc, _⟩
    · refine ⟨none, 0, w, ?_, hown, Only.refl _ _, fun k hk => .inl hk⟩
      cases A <;> simp [Builtin.append_, run_underlying ht, sizeOf, typeInfo, h2, Builtin.lenOf, Builtin.firstCells, loadCells, loadCellsFrom]
    · refine ⟨_, _, w, ?_, hown, Only.refl _ _, fun k hk => .inl hk⟩
      cases A <;> simp [Builtin.append_, run_underlying ht, sizeOf, typeInfo, h2, Builtin.lenOf, Builtin.firstCells, loadCells, loadCellsFrom, storeCells, hnc]
  · obtain ⟨ad, rfl, hc⟩ := hA hm
    obtain ⟨g, cap, w', hr, h6, h7, h8, h9⟩ := run_append_lies (P := P) w t ty base e i z size bytes ht h2 h3 h4 h5 hzs hsz v n xs hown ad m c news hl hc h1 hm h63 hbytes hbase _ rfl
    refine ⟨_, _, w', hr, h6, (Only.refl _ _).grown h7 (fun k hk => .inl (by rw [hk]; simp)), fun k hk => ?_⟩
    obtain rfl : g = k := by simpa [Value.ownBlock] using hk
    exact h8.imp id (fun h => by omega)
theorem wpList_append_row {ops : Array Oper} {rest : List Oper} {o : Oper} {a : Act} {w : World} {Q : Exit → Act → World → Prop} (hgd : o.guard = none) (s x : Operand) (t : TypeId)
    (ho : o.op = .call { callee := .builtin .append, args := #[s, x], argTypes := #[t, t] })
    (base : Nat) (e : TypeId) (size bytes : Nat) (z : Value) (ht : P.underlying t = some (.slice e)) (hinfo : (P.info? e).map (fun i => (i.zero, i.size, i.bytes)) = some (some z, size, bytes))
    (hzs : z.cells.size = size) (hsz : 0 < size) (v : Value) (n : Nat) (xs : List Value) (hs : a.eval s = v) (hown : w.ownsRow base e size v n xs)
    (A : Option Addr) (m c : Nat) (news : List Value) (hx : a.eval x = .slice A m c) (hl : news.length = m * size) (hA : 0 < m → ∃ ad, A = some ad ∧ CellsAt w ad news) (h1 : ∀ u ∈ news, u.oneCell' = true)
    (h63 : n + m ≤ maxLen) (hbytes : (n + m) * bytes ≤ 140737488355328) (hbase : base ≤ w.heap.size)
    (h : ∀ A' c' w', w'.ownsRow base e size (.slice A' (n + m) c') (n + m) (xs ++ news) → Only v.ownBlock.toList w w' → (∀ k, (Value.slice A' (n + m) c').ownBlock = some k → v.ownBlock = some k ∨ w.heap.size ≤ k) →
      wpList P ops Q rest (a.put o.dst (.slice A' (n + m) c')) w') : wpList P ops Q (o :: rest) a w := by
  refine wpList_plain hgd fun K hK => ?_
  obtain ⟨A', c', w', hr, h2, h3, h4⟩ := run_append_row (P := P) w t o.type base e size bytes z ht hinfo hzs hsz v n xs hown A m c news hl hA h1 h63 hbytes hbase
  unfold Oper.wp execOp
  simp only [ho, resolve, invoke, builtin, Sem.run_bind, Sem.run_pure, Result.andThen_ok, List.map_toArray, List.map_cons, List.map_nil, hs, hx, hr]
  exact hK _ _ (h A' c' w' h2 h3 h4)
/-- The same in a region that draws its order. -/
theorem ge_append_row {ops : Array Oper} {Q : Exit → Act → World → Prop} {S : List Nat} {z9 : Nat} {i : Nat} {f : Bool} {oi : Oper} {d : Nat} {T : List (Nat × Bool × Bool)} {a : Act} {w : World} {N : Nat} {env : List (Nat × Value)}
    (hi : ops[i]? = some oi) (hdst : oi.dst = some d) (hd : decide (d < N) = true) (hw : L.wantE ops env oi = some true) (s x : Operand) (t : TypeId)
    (ho : oi.op = .call { callee := .builtin .append, args := #[s, x], argTypes := #[t, t] })
    (base : Nat) (e : TypeId) (size bytes : Nat) (z : Value) (ht : P.underlying t = some (.slice e)) (hinfo : (P.info? e).map (fun i => (i.zero, i.size, i.bytes)) = some (some z, size, bytes))
    (hzs : z.cells.size = size) (hsz : 0 < size) (v : Value) (n : Nat) (xs : List Value) (hs : L.evE a env s = v) (hown : w.ownsRow base e size v n xs)
    (A : Option Addr) (m c : Nat) (news : List Value) (hx : L.evE a env x = .slice A m c) (hl : news.length = m * size) (hA : 0 < m → ∃ ad, A = some ad ∧ CellsAt w ad news) (h1 : ∀ u ∈ news, u.oneCell' = true)
    (h63 : n + m ≤ maxLen) (hbytes : (n + m) * bytes ≤ 140737488355328) (hbase : base ≤ w.heap.size)
    (h : ∀ A' c' w', w'.ownsRow base e size (.slice A' (n + m) c') (n + m) (xs ++ news) → Only v.ownBlock.toList w w' → (∀ k, (Value.slice A' (n + m) c').ownBlock = some k → v.ownBlock = some k ∨ w.heap.size ≤ k) →
      Only S w w' ∧ L.GrowE P ops Q S z9 T a N ((d, .slice A' (n + m) c') :: env) w') : L.GrowE P ops Q S z9 ((i, f, true) :: T) a N env w := by
  obtain ⟨A', c', w', hr, h2, h3, h4⟩ := run_append_row (P := P) w t oi.type base e size bytes z ht hinfo hzs hsz v n xs hown A m c news hl hA h1 h63 hbytes hbase
  obtain ⟨h5, h6⟩ := h A' c' w' h2 h3 h4
  refine L.ge_mem hi hdst hd hw (w' := w') ?_ h5 h6
  unfold execOp
  simp only [ho, resolve, invoke, builtin, Sem.run_bind, Sem.run_pure, Result.andThen_ok, List.map_toArray, List.map_cons, List.map_nil, hs, hx, hr]
end
end Go.Proofs.YtlikjknakplamaaDoor
/-! ### Own -/
namespace Go.Proofs.YtlikjknakplamaaDoor
open Go.RowKit
set_option linter.unusedSimpArgs false
set_option linter.unusedVariables false
theorem ownsRow_lt {w : World} {base : Nat} {e : TypeId} {size : Nat} {v : Value} {n : Nat} {xs : List Value} (h : w.ownsRow base e size v n xs) {k : Nat} (hk : v.ownBlock = some k) : base ≤ k ∧ k < w.heap.size := by
  rcases h.2 with ⟨rfl, _⟩ | ⟨g, cap, cur, rfl, hb, hg, _⟩
  · cases hk
  · obtain rfl : g = k := by simpa [Value.ownBlock] using hk
    exact ⟨hb, heap_lt hg⟩
theorem ownsRow_nil (w : World) (base : Nat) (e : TypeId) (size : Nat) : w.ownsRow base e size (.slice none 0 0) 0 [] := ⟨by simp, .inl ⟨rfl, rfl⟩⟩
section
variable {P : Program}
section region
variable {ops : Array Oper} {Q : Exit → Act → World → Prop} {S : List Nat} {z9 : Nat} {i : Nat} {f : Bool} {oi : Oper} {d : Nat} {T : List (Nat × Bool × Bool)} {a : Act} {w : World} {N : Nat} {env : List (Nat × Value)}
/-- []T{x} -/
theorem ge_one (hi : ops[i]? = some oi) (hdst : oi.dst = some d) (hd : decide (d < N) = true) (hw : L.wantE ops env oi = some true) (t : TypeId) (x : Operand) (hop : oi.op = .buildSlice t 1 #[(0, x)]) (e : TypeId) (ht : P.underlying t = some (.slice e))
    (z : Value) (size bytes : Nat) (hinfo : (P.info? e).map (fun i => (i.zero, i.size, i.bytes)) = some (some z, size, bytes)) (hs0 : 0 < size) (hs1 : size ≤ 1000) (cells : Array Value)
    (hfill : Instr.fill (fun i => some (i * size, size)) ((Array.range (1 * size)).map (z.cells[· % z.cells.size]!)) [(0, L.evE a env x)] = some cells)
    (h : L.GrowE P ops Q S z9 T a N ((d, .slice (some ⟨w.heap.size, 0, none⟩) 1 1) :: env) (w.alloc (.cells cells e))) : L.GrowE P ops Q S z9 ((i, f, true) :: T) a N env w := by
  obtain ⟨ie, h2, h3, h4, h5⟩ := info_parts hinfo
  subst h4
  refine L.ge_mem hi hdst hd hw (w' := w.alloc (.cells cells e)) ?_ ((Only.refl _ _).alloc _) h
  have := run_buildSlice (P := P) w t e 1 #[(0, L.evE a env x)] cells ie z ht h2 h3 (by omega) (by omega) hfill
  unfold execOp
  simp [hop, this]
end region
end
end Go.Proofs.YtlikjknakplamaaDoor
/-! ### Rd -/
namespace Go.Proofs.YtlikjknakplamaaDoor
open Go.RowKit Go.Deep
theorem CellsAt.below {w w' : World} {ad : Addr} {cs : List Value} (h : CellsAt w ad cs) (hb : Below w.heap.size w w') : CellsAt w' ad cs :=
  fun j v hj => by have := h j v hj; exact (hb.cell (by exact block_lt_of_cell this)).trans this
end Go.Proofs.YtlikjknakplamaaDoor
/-! ### Kd -/
namespace Go.Proofs.YtlikjknakplamaaDoor
open Go.RowKit Go.Proofs.YtlikjknakplamaaDoorW.PrintWords
/-- What was made of the cells of a row of flat values is a row of one's own. -/
theorem Kd.R_of_own {α : Type} {d : Kd α} {e : Nat} {w w' : World} {base : Nat} {xs : List α} {news : List Value} {v : Value} (hM : ∀ x cs, d.K w x cs → d.M w' base (fun k => True ∧ some k ≠ v.ownBlock) x cs) (hr : Reps (d.K w) d.sz xs news)
    (ho : w'.ownsRow base e d.sz v xs.length news) : Kd.R d e w' base (fun _ => True) v xs := ⟨fun _ _ => trivial, news, ho, hr.imp_ hM⟩
end Go.Proofs.YtlikjknakplamaaDoor
/-! ### ELx1 -/
namespace Go.Proofs.YtlikjknakplamaaDoor.Print
open Go.RowKit Go.Proofs.YtlikjknakplamaaDoorW.PrintWords Go.Proofs.YtlikjknakplamaaDoorW.PrintLast Go.Proofs.YtlikjknakplamaaDoorW.PrintMore
set_option linter.unusedSimpArgs false
set_option linter.unusedVariables false
/-- A cutter's block: what is left, how many runes stand ahead, and its tokens. -/
abbrev CutAt (w : World) (g : Nat) (s : ByteArray) (at' : Int) (o : Value) : Prop := w.heap[g]? = some (.cells #[.string s, .int .i64 at', o] 47 (0, 0))
set_option maxHeartbeats 8000000 in
set_option maxRecDepth 100000 in
theorem pass_any (g n : Nat) (s : ByteArray) (at' : Int) (o : Value) (w : World) (hg : CutAt w g s at' o) (hs : s.size ≤ 1000000000) (hn : n ≤ s.size) (h0 : 0 ≤ at') (h1 : at' ≤ 1000000000) :
    Calls Tryd.prog 31 #[.pointer (some ⟨g, 0, none⟩), .int .i64 n] w fun e w' => e = .returned (.tuple #[]) ∧ CutAt w' g (s.extract n s.size) (at' + Lib.runeCount (s.extract 0 n)) o ∧ Only [g] w w' := by
  have HG := Lib.hid hg
  have hn' : (n : Int) ≤ s.size := by omega
  have hn0 : (0 : Int) ≤ n := by omega
  have hu2 := Tryd.underlying47
  have hrc : Lib.runeCount (s.extract 0 n) ≤ 1000000000 := by
    have := Lib.runeCount_le (s.extract 0 n)
    rw [ByteArray.size_extract] at this
    omega
  have HRC := Lib.hid hrc
  clear hg hrc
  go_enter Tryd.func31, Tryd.ntmps31
  go_wp2
  refine L.grow_start [] 14 ((0, true, false) :: (1, true, false) :: (2, true, false) :: (3, true, false) :: (4, true, false) :: (5, true, false) :: (6, true, false) :: (7, true, false) :: (8, true, true) :: (9, true, true) :: (10, false, true) :: (11, true, true) :: (12, true, true) :: (13, true, true) :: (14, false, true) :: []) (by kernel_rfl) (([], [0], some 4) :: ([0], [4], some 5) :: ([1], [5], some 6) :: ([2], [6], some 7) :: ([], [0], some 8) :: ([4], [8], some 9) :: ([5], [9], some 10) :: ([6], [10], some 11) :: ([], [1], some 12) :: ([7, 8], [11, 12], some 13) :: ([9], [13], some 14) :: ([3, 10], [7, 14], some 15) :: ([0, 0, 1, 2, 3, 4, 5, 6, 7, 8, 9, 10, 11], [4], some 16) :: ([12, 0, 1, 2, 3, 4, 5, 6, 7, 8, 9, 10, 11], [16], some 17) :: ([13, 11, 10, 0, 1, 2, 3, 4, 5, 6, 7, 8, 9, 10, 11], [17, 15], none) :: []) (by kernel_rfl) (by kernel_rfl) (n := 15) rfl (by kernel_rfl) (fun _ _ _ _ _ h => h) (fun wg hog => ?_)
  refine L.growe_start (N := 27) (by rfl) ?_
  have e0 : ∀ w', Only [] wg w' → w'.cell? ⟨g, 0, none⟩ = some (.string s) := fun w' q => (cell_of_row w' g 0 _ _ _ ((hog.trans q).heap HG.out (by simp))).trans rfl
  have e1 : ∀ w', Only [] wg w' → w'.cell? ⟨g, 1, none⟩ = some (.int .i64 at') := fun w' q => (cell_of_row w' g 1 _ _ _ ((hog.trans q).heap HG.out (by simp))).trans rfl
  have HOG := Lib.hid hog
  clear hog
  iterate 10 (first | (refine L.ge_off rfl rfl rfl (by rfl) ?_) | (refine L.ge_move rfl rfl rfl (by rfl) rfl (by simp [L.evE, L.lk, Act.eval]; rfl) ?_) | (refine L.ge_pick rfl rfl rfl (by rfl) rfl (by simp [L.evE, L.lk, Act.eval]; rfl) (by simp [L.evE, L.lk, Act.eval]; rfl) ?_) | (refine L.ge_val rfl rfl rfl (by rfl) (by intro w' hw'; simp [execOp, L.evE, L.lk, Act.eval]; go_simp; rfl) ?_))
  refine L.ge_call rfl rfl rfl (by rfl) rfl (by simp [L.evE, L.lk, Act.eval]; rfl) (by go_simp) ?_
  refine (utf8_RuneCountInString.calls _ _ wg (by unfold utf8_RuneCountInString.f; rw [if_pos (by rw [ByteArray.size_extract]; omega)])).mono ?_
  rintro e w1 ⟨rfl, hb1⟩
  refine ⟨_, rfl, Only.of_below hb1, ?_⟩
  have HO1 := Lib.hid (HOG.out.trans (Only.of_below hb1))
  clear hb1 e0 e1 HOG
  iterate 3 (first | (refine L.ge_off rfl rfl rfl (by rfl) ?_) | (refine L.ge_move rfl rfl rfl (by rfl) rfl (by simp [L.evE, L.lk, Act.eval]; rfl) ?_) | (refine L.ge_pick rfl rfl rfl (by rfl) rfl (by simp [L.evE, L.lk, Act.eval]; rfl) (by simp [L.evE, L.lk, Act.eval]; rfl) ?_) | (refine L.ge_val rfl rfl rfl (by rfl) (by intro w' hw'; simp [execOp, L.evE, L.lk, Act.eval]; go_simp; rfl) ?_))
  have HG1 := Lib.hid (HO1.out.heap HG.out (by simp))
  have hz1 : w1.frozen? ⟨g, 1, none⟩ = false := frozen_of_row w1 g 1 _ _ HG1.out
  have hc1 : w1.cell? ⟨g, 1, none⟩ = some (.int .i64 at') := (cell_of_row w1 g 1 _ _ _ HG1.out).trans rfl
  have hwr : IntKind.i64.wrap (at' + (Lib.runeCount (s.extract 0 n) : Int)) = at' + Lib.runeCount (s.extract 0 n) := IntWalk.i64_in _ (by have := HRC.out; omega)
  refine L.ge_last (w' := w1.setCell ⟨g, 1, none⟩ (.int .i64 (at' + Lib.runeCount (s.extract 0 n)))) rfl rfl (by rfl) (by simp [execOp, L.evE, L.lk, Act.eval, hwr]; go_simp) ?_
  simp only [L.puts, Act.put, goInt, List.setIfInBounds_toArray, List.set_cons_zero, List.set_cons_succ]
  have HG2 := Lib.hid (show (w1.setCell ⟨g, 1, none⟩ (.int .i64 (at' + Lib.runeCount (s.extract 0 n)))).heap[g]? = some (.cells #[.string s, .int .i64 (at' + Lib.runeCount (s.extract 0 n)), o] 47 (0, 0)) from heap_setCell_same w1 g 1 _ _ _ HG1.out)
  have HO2 := Lib.hid (show Only [g] w (w1.setCell ⟨g, 1, none⟩ (.int .i64 (at' + Lib.runeCount (s.extract 0 n)))) from (HO1.out.mono (T := [g]) (by simp)).setCell (by simp) _)
  clear hz1 hc1 hwr HG1 HO1
  generalize w1.setCell ⟨g, 1, none⟩ (.int .i64 (at' + Lib.runeCount (s.extract 0 n))) = w2 at *
  have c0 : w2.cell? ⟨g, 0, none⟩ = some (.string s) := (cell_of_row w2 g 0 _ _ _ HG2.out).trans rfl
  have z0 : w2.frozen? ⟨g, 0, none⟩ = false := frozen_of_row w2 g 0 _ _ HG2.out
  go_wp2
  go_end0
  exact ⟨rfl, heap_setCell_same w2 g 0 _ _ _ HG2.out, HO2.out.setCell (by simp) _⟩
end Go.Proofs.YtlikjknakplamaaDoor.Print
/-! ### Print8 -/
namespace Go.Proofs.YtlikjknakplamaaDoor.Print
open Go.RowKit Go.Proofs.YtlikjknakplamaaDoorW.PrintWords Go.Proofs.YtlikjknakplamaaDoorW.PrintLast Go.Proofs.YtlikjknakplamaaDoorW.PrintMore
set_option linter.unusedVariables false
set_option linter.unusedSimpArgs false
mutual
def lex_Class.j0 : Nat → Int → Bool → Option (Int)
  | 0, _, _ => none
  | k + 1, x0, x3 => if x3 = true then (some 1) else (if x0 ≥ 97 then (lex_Class.j1 k x0 (decide (x0 ≤ 122))) else (lex_Class.j1 k x0 false))
def lex_Class.j1 : Nat → Int → Bool → Option (Int)
  | 0, _, _ => none
  | k + 1, x0, x12 => if x12 = true then (lex_Class.j2 k x0 x12) else (if x0 ≥ 65 then (if x0 ≤ 90 then (lex_Class.j2 k x0 (decide (x0 ≤ 90))) else (lex_Class.j2 k x0 (x0 == 95))) else (lex_Class.j2 k x0 (x0 == 95)))
def lex_Class.j2 : Nat → Int → Bool → Option (Int)
  | 0, _, _ => none
  | k + 1, x0, x12 => if x12 = true then (some 2) else (if x0 ≥ 192 then (if x0 ≤ 591 then (if x0 = 215 then (lex_Class.j3 k x0 false) else (lex_Class.j3 k x0 (x0 != 247))) else (lex_Class.j3 k x0 false)) else (lex_Class.j3 k x0 false))
def lex_Class.j3 : Nat → Int → Bool → Option (Int)
  | 0, _, _ => none
  | k + 1, x0, x27 => if x27 = true then (some 2) else (if x0 ≥ 48 then (lex_Class.j4 k x0 (decide (x0 ≤ 57))) else (lex_Class.j4 k x0 false))
def lex_Class.j4 : Nat → Int → Bool → Option (Int)
  | 0, _, _ => none
  | k + 1, x0, x42 => if x42 = true then (some 3) else (if x0 = 34 then (some 5) else (if x0 = 35 then (some 6) else (if x0 > 32 then (if x0 < 127 then ((strings_IndexByte.f (⟨#[40, 41, 123, 125, 44, 59, 58, 61, 43, 45, 42, 47, 37, 60, 62, 33, 38, 124]⟩ : ByteArray) ((x0) % 256)).bind fun t170 => (if t170 ≥ 0 then (some 4) else (some 0))) else (some 0)) else (some 0))))
end
def lex_Class.f (k : Nat) (a0 : Int) : Option (Int) := if a0 = 32 then (lex_Class.j0 k a0 (a0 == 32)) else (if a0 = 9 then (lex_Class.j0 k a0 (a0 == 9)) else (if a0 = 13 then (lex_Class.j0 k a0 (a0 == 13)) else (lex_Class.j0 k a0 (a0 == 10))))
set_option maxHeartbeats 8000000 in
set_option maxRecDepth 100000 in
theorem lex_Class.calls (k : Nat) (a0 : Int) (r : Int) (w : World) (h : lex_Class.f k a0 = some r) :
    Calls Tryd.prog 16 #[.int .i32 a0] w fun e w' => e = .returned (.int .i64 r) ∧ Drawn0 w w' := by
  have H : (if a0 = 32 then (lex_Class.j0 k a0 (a0 == 32)) else (if a0 = 9 then (lex_Class.j0 k a0 (a0 == 9)) else (if a0 = 13 then (lex_Class.j0 k a0 (a0 == 13)) else (lex_Class.j0 k a0 (a0 == 10))))) = some r := h
  clear h
  have HC2 := Aside0.mk H
  clear H
  go_enter Tryd.func16, Tryd.ntmps16
  go_upto_if 3 with (fail)
  go_cut [3] (fun v3 wc => ∃ (kq : Nat) (x3_1 : Bool), v3 = .bool x3_1 ∧ Aside0 (lex_Class.j0 kq a0 x3_1 = some r) ∧ Aside0 (kq ≤ k) ∧ Drawn0 w wc)
  case first =>
    have H := HC2.out
    clear HC2
    by_cases c3 : a0 = 32
    · rw [if_pos c3] at H
      have c3b0 : (a0 == 32) = true := beq_iff_eq.mpr c3
      have c3b1 : (a0 != 32) = false := bne_eq_false_iff_eq.mpr c3
      clear c3
      (first | rw [c3b0] | (simp only [i64_w, i32_w]; rw [c3b0]) | skip)
      have H' := Aside0.mk H
      clear H
      go_wp2
      go_meet
      case rel => exact ⟨_, ((a0 == 32)), (by first | rfl | (simp; done) | (simp [*]; done)), H', ⟨by first | omega | exact Nat.le_refl _⟩, by repeat (first | exact Drawn0.refl _ | apply Drawn0.step)⟩
    · rw [if_neg c3] at H
      have c3b0 : (a0 == 32) = false := beq_eq_false_iff_ne.mpr c3
      have c3b1 : (a0 != 32) = true := bne_iff_ne.mpr c3
      (first | rw [c3b0] | (simp only [i64_w, i32_w]; rw [c3b0]) | skip)
      by_cases c4 : a0 = 9
      · rw [if_pos c4] at H
        have c4b0 : (a0 == 9) = true := beq_iff_eq.mpr c4
        have c4b1 : (a0 != 9) = false := bne_eq_false_iff_eq.mpr c4
        clear c4
        have H' := Aside0.mk H
        clear H
        go_wp2
        go_meet
        case rel => exact ⟨_, ((a0 == 9)), (by first | rfl | (simp; done) | (simp [*]; done)), H', ⟨by first | omega | exact Nat.le_refl _⟩, by repeat (first | exact Drawn0.refl _ | apply Drawn0.step)⟩
      · rw [if_neg c4] at H
        have c4b0 : (a0 == 9) = false := beq_eq_false_iff_ne.mpr c4
        have c4b1 : (a0 != 9) = true := bne_iff_ne.mpr c4
        by_cases c5 : a0 = 13
        · rw [if_pos c5] at H
          have c5b0 : (a0 == 13) = true := beq_iff_eq.mpr c5
          have c5b1 : (a0 != 13) = false := bne_eq_false_iff_eq.mpr c5
          clear c5
          have H' := Aside0.mk H
          clear H
          go_wp2
          go_meet
          case rel => exact ⟨_, ((a0 == 13)), (by first | rfl | (simp; done) | (simp [*]; done)), H', ⟨by first | omega | exact Nat.le_refl _⟩, by repeat (first | exact Drawn0.refl _ | apply Drawn0.step)⟩
        · rw [if_neg c5] at H
          have c5b0 : (a0 == 13) = false := beq_eq_false_iff_ne.mpr c5
          have c5b1 : (a0 != 13) = true := bne_iff_ne.mpr c5
          have H' := Aside0.mk H
          clear H
          go_wp2
          go_meet
          case rel => exact ⟨_, ((a0 == 10)), (by first | rfl | (simp; done) | (simp [*]; done)), H', ⟨by first | omega | exact Nat.le_refl _⟩, by repeat (first | exact Drawn0.refl _ | apply Drawn0.step)⟩
  case rest =>
    clear HC2
    try clear c1
    try clear p2
    try clear c3
    try clear c3b0
    try clear c3b1
    try clear c4
    try clear c4b0
    try clear c4b1
    try clear c5
    try clear c5b0
    try clear c5b1
    obtain ⟨kq, x3_1, rfl, HA, HJ1, ⟨mc1, rfl⟩⟩ := hcut
    cases kq with
    | zero => exact absurd HA.out (by simp [lex_Class.j0])
    | succ kj1 =>
      have H := HA.out
      clear HA
      simp only [lex_Class.j0] at H
      by_cases c6 : x3_1 = true
      · subst c6
        have H1 : (some 1) = some r := by rw [if_pos rfl] at H; exact H
        clear H
        have H := H1
        clear H1
        obtain rfl := Option.some.inj H
        go_wp2
        go_ret
        exact ⟨by first | rfl | (simp; done) | (simp [*]; done), by repeat (first | exact Drawn0.refl _ | apply Drawn0.step)⟩
      · replace c6 := Bool.eq_false_iff.mpr c6
        subst c6
        have H1 : (if a0 ≥ 97 then (lex_Class.j1 kj1 a0 (decide (a0 ≤ 122))) else (lex_Class.j1 kj1 a0 false)) = some r := by rw [if_neg (show ¬ (false = true) by decide)] at H; exact H
        clear H
        have H := H1
        clear H1
        have HC7 := Aside0.mk H
        clear H
        go_upto_region 6 with (fail)
        go_cut [12] (fun v12 wc => ∃ (kq : Nat) (x12_6 : Bool), v12 = .bool x12_6 ∧ Aside0 (lex_Class.j1 kq a0 x12_6 = some r) ∧ Aside0 (kq ≤ kj1) ∧ Drawn0 w wc)
        case first =>
          have H := HC7.out
          clear HC7
          by_cases c8 : a0 ≥ 97
          · rw [if_pos c8] at H
            have c8b0 : decide (97 ≤ a0) = true := decide_eq_true c8
            clear c8
            (first | rw [c8b0] | (simp only [i64_w, i32_w]; rw [c8b0]) | skip)
            have H' := Aside0.mk H
            clear H
            go_wp2
            go_meet
            case rel => exact ⟨_, (decide (a0 ≤ 122)), (by first | rfl | (simp; done) | (simp [*]; done)), H', ⟨by have := HJ1.out; first | omega | exact Nat.le_refl _⟩, by repeat (first | exact Drawn0.refl _ | apply Drawn0.step)⟩
          · rw [if_neg c8] at H
            have c8b0 : decide (97 ≤ a0) = false := decide_eq_false c8
            clear c8
            (first | rw [c8b0] | (simp only [i64_w, i32_w]; rw [c8b0]) | skip)
            have H' := Aside0.mk H
            clear H
            go_wp2
            go_meet
            case rel => exact ⟨_, (false), (by first | rfl | (simp; done) | (simp [*]; done)), H', ⟨by have := HJ1.out; first | omega | exact Nat.le_refl _⟩, by repeat (first | exact Drawn0.refl _ | apply Drawn0.step)⟩
        case rest =>
          clear HC7
          try clear c1
          try clear p2
          try clear c3
          try clear c3b0
          try clear c3b1
          try clear c4
          try clear c4b0
          try clear c4b1
          try clear c5
          try clear c5b0
          try clear c5b1
          try clear c6
          try clear c8
          try clear c8b0
          try clear p2
          obtain ⟨kq, x12_6, rfl, HA, HJ6, ⟨mc6, rfl⟩⟩ := hcut
          cases kq with
          | zero => exact absurd HA.out (by simp [lex_Class.j1])
          | succ kj6 =>
            have H := HA.out
            clear HA
            simp only [lex_Class.j1] at H
            have HC9 := Aside0.mk H
            clear H
            go_upto_if 12 with (fail)
            go_cut [12] (fun v12 wc => ∃ (kq : Nat) (x12_8 : Bool), v12 = .bool x12_8 ∧ Aside0 (lex_Class.j2 kq a0 x12_8 = some r) ∧ Aside0 (kq ≤ kj6) ∧ Drawn0 w wc)
            case first =>
              have H := HC9.out
              clear HC9
              by_cases c10 : x12_6 = true
              · subst c10
                have H1 : (lex_Class.j2 kj6 a0 true) = some r := by rw [if_pos rfl] at H; exact H
                clear H
                have H := H1
                clear H1
                have H' := Aside0.mk H
                clear H
                go_wp2
                go_meet
                case rel => exact ⟨_, (true), (by first | rfl | (simp; done) | (simp [*]; done)), H', ⟨by have := HJ1.out; have := HJ6.out; first | omega | exact Nat.le_refl _⟩, by repeat (first | exact Drawn0.refl _ | apply Drawn0.step)⟩
              · replace c10 := Bool.eq_false_iff.mpr c10
                subst c10
                have H1 : (if a0 ≥ 65 then (if a0 ≤ 90 then (lex_Class.j2 kj6 a0 (decide (a0 ≤ 90))) else (lex_Class.j2 kj6 a0 (a0 == 95))) else (lex_Class.j2 kj6 a0 (a0 == 95))) = some r := by rw [if_neg (show ¬ (false = true) by decide)] at H; exact H
                clear H
                have H := H1
                clear H1
                by_cases c11 : a0 ≥ 65
                · rw [if_pos c11] at H
                  have c11b0 : decide (65 ≤ a0) = true := decide_eq_true c11
                  clear c11
                  (first | rw [c11b0] | (simp only [i64_w, i32_w]; rw [c11b0]) | skip)
                  by_cases c12 : a0 ≤ 90
                  · rw [if_pos c12] at H
                    have c12b0 : decide (a0 ≤ 90) = true := decide_eq_true c12
                    clear c12
                    have H' := Aside0.mk H
                    clear H
                    go_wp2
                    go_meet
                    case rel => exact ⟨_, (decide (a0 ≤ 90)), (by first | rfl | (simp; done) | (simp [*]; done)), H', ⟨by have := HJ1.out; have := HJ6.out; first | omega | exact Nat.le_refl _⟩, by repeat (first | exact Drawn0.refl _ | apply Drawn0.step)⟩
                  · rw [if_neg c12] at H
                    have c12b0 : decide (a0 ≤ 90) = false := decide_eq_false c12
                    clear c12
                    have H' := Aside0.mk H
                    clear H
                    go_wp2
                    go_meet
                    case rel => exact ⟨_, ((a0 == 95)), (by first | rfl | (simp; done) | (simp [*]; done)), H', ⟨by have := HJ1.out; have := HJ6.out; first | omega | exact Nat.le_refl _⟩, by repeat (first | exact Drawn0.refl _ | apply Drawn0.step)⟩
                · rw [if_neg c11] at H
                  have c11b0 : decide (65 ≤ a0) = false := decide_eq_false c11
                  clear c11
                  (first | rw [c11b0] | (simp only [i64_w, i32_w]; rw [c11b0]) | skip)
                  have H' := Aside0.mk H
                  clear H
                  go_wp2
                  go_meet
                  case rel => exact ⟨_, ((a0 == 95)), (by first | rfl | (simp; done) | (simp [*]; done)), H', ⟨by have := HJ1.out; have := HJ6.out; first | omega | exact Nat.le_refl _⟩, by repeat (first | exact Drawn0.refl _ | apply Drawn0.step)⟩
            case rest =>
              clear HC9
              try clear c1
              try clear p2
              try clear c3
              try clear c3b0
              try clear c3b1
              try clear c4
              try clear c4b0
              try clear c4b1
              try clear c5
              try clear c5b0
              try clear c5b1
              try clear c6
              try clear c8
              try clear c8b0
              try clear c10
              try clear c11
              try clear c11b0
              try clear c12
              try clear c12b0
              try clear p2
              obtain ⟨kq, x12_8, rfl, HA, HJ8, ⟨mc8, rfl⟩⟩ := hcut
              cases kq with
              | zero => exact absurd HA.out (by simp [lex_Class.j2])
              | succ kj8 =>
                have H := HA.out
                clear HA
                simp only [lex_Class.j2] at H
                by_cases c13 : x12_8 = true
                · subst c13
                  have H1 : (some 2) = some r := by rw [if_pos rfl] at H; exact H
                  clear H
                  have H := H1
                  clear H1
                  obtain rfl := Option.some.inj H
                  go_wp2
                  go_ret
                  exact ⟨by first | rfl | (simp; done) | (simp [*]; done), by repeat (first | exact Drawn0.refl _ | apply Drawn0.step)⟩
                · replace c13 := Bool.eq_false_iff.mpr c13
                  subst c13
                  have H1 : (if a0 ≥ 192 then (if a0 ≤ 591 then (if a0 = 215 then (lex_Class.j3 kj8 a0 false) else (lex_Class.j3 kj8 a0 (a0 != 247))) else (lex_Class.j3 kj8 a0 false)) else (lex_Class.j3 kj8 a0 false)) = some r := by rw [if_neg (show ¬ (false = true) by decide)] at H; exact H
                  clear H
                  have H := H1
                  clear H1
                  have HC14 := Aside0.mk H
                  clear H
                  go_upto_region 10 with (fail)
                  go_cut [27] (fun v27 wc => ∃ (kq : Nat) (x27_13 : Bool), v27 = .bool x27_13 ∧ Aside0 (lex_Class.j3 kq a0 x27_13 = some r) ∧ Aside0 (kq ≤ kj8) ∧ Drawn0 w wc)
                  case first =>
                    have H := HC14.out
                    clear HC14
                    by_cases c15 : a0 ≥ 192
                    · rw [if_pos c15] at H
                      have c15b0 : decide (192 ≤ a0) = true := decide_eq_true c15
                      clear c15
                      (first | rw [c15b0] | (simp only [i64_w, i32_w]; rw [c15b0]) | skip)
                      by_cases c16 : a0 ≤ 591
                      · rw [if_pos c16] at H
                        have c16b0 : decide (a0 ≤ 591) = true := decide_eq_true c16
                        clear c16
                        by_cases c17 : a0 = 215
                        · rw [if_pos c17] at H
                          have c17b0 : (a0 == 215) = true := beq_iff_eq.mpr c17
                          have c17b1 : (a0 != 215) = false := bne_eq_false_iff_eq.mpr c17
                          clear c17
                          have H' := Aside0.mk H
                          clear H
                          go_wp2
                          go_meet
                          case rel => exact ⟨_, (false), (by first | rfl | (simp; done) | (simp [*]; done)), H', ⟨by have := HJ1.out; have := HJ6.out; have := HJ8.out; first | omega | exact Nat.le_refl _⟩, by repeat (first | exact Drawn0.refl _ | apply Drawn0.step)⟩
                        · rw [if_neg c17] at H
                          have c17b0 : (a0 == 215) = false := beq_eq_false_iff_ne.mpr c17
                          have c17b1 : (a0 != 215) = true := bne_iff_ne.mpr c17
                          have H' := Aside0.mk H
                          clear H
                          go_wp2
                          go_meet
                          case rel => exact ⟨_, ((a0 != 247)), (by first | rfl | (simp; done) | (simp [*]; done)), H', ⟨by have := HJ1.out; have := HJ6.out; have := HJ8.out; first | omega | exact Nat.le_refl _⟩, by repeat (first | exact Drawn0.refl _ | apply Drawn0.step)⟩
                      · rw [if_neg c16] at H
                        have c16b0 : decide (a0 ≤ 591) = false := decide_eq_false c16
                        clear c16
                        have H' := Aside0.mk H
                        clear H
                        go_wp2
                        go_meet
                        case rel => exact ⟨_, (false), (by first | rfl | (simp; done) | (simp [*]; done)), H', ⟨by have := HJ1.out; have := HJ6.out; have := HJ8.out; first | omega | exact Nat.le_refl _⟩, by repeat (first | exact Drawn0.refl _ | apply Drawn0.step)⟩
                    · rw [if_neg c15] at H
                      have c15b0 : decide (192 ≤ a0) = false := decide_eq_false c15
                      clear c15
                      (first | rw [c15b0] | (simp only [i64_w, i32_w]; rw [c15b0]) | skip)
                      have H' := Aside0.mk H
                      clear H
                      go_wp2
                      go_meet
                      case rel => exact ⟨_, (false), (by first | rfl | (simp; done) | (simp [*]; done)), H', ⟨by have := HJ1.out; have := HJ6.out; have := HJ8.out; first | omega | exact Nat.le_refl _⟩, by repeat (first | exact Drawn0.refl _ | apply Drawn0.step)⟩
                  case rest =>
                    clear HC14
                    try clear c1
                    try clear p2
                    try clear c3
                    try clear c3b0
                    try clear c3b1
                    try clear c4
                    try clear c4b0
                    try clear c4b1
                    try clear c5
                    try clear c5b0
                    try clear c5b1
                    try clear c6
                    try clear c8
                    try clear c8b0
                    try clear c10
                    try clear c11
                    try clear c11b0
                    try clear c12
                    try clear c12b0
                    try clear c13
                    try clear c15
                    try clear c15b0
                    try clear c16
                    try clear c16b0
                    try clear c17
                    try clear c17b0
                    try clear c17b1
                    try clear p2
                    obtain ⟨kq, x27_13, rfl, HA, HJ13, ⟨mc13, rfl⟩⟩ := hcut
                    cases kq with
                    | zero => exact absurd HA.out (by simp [lex_Class.j3])
                    | succ kj13 =>
                      have H := HA.out
                      clear HA
                      simp only [lex_Class.j3] at H
                      by_cases c18 : x27_13 = true
                      · subst c18
                        have H1 : (some 2) = some r := by rw [if_pos rfl] at H; exact H
                        clear H
                        have H := H1
                        clear H1
                        obtain rfl := Option.some.inj H
                        go_wp2
                        go_ret
                        exact ⟨by first | rfl | (simp; done) | (simp [*]; done), by repeat (first | exact Drawn0.refl _ | apply Drawn0.step)⟩
                      · replace c18 := Bool.eq_false_iff.mpr c18
                        subst c18
                        have H1 : (if a0 ≥ 48 then (lex_Class.j4 kj13 a0 (decide (a0 ≤ 57))) else (lex_Class.j4 kj13 a0 false)) = some r := by rw [if_neg (show ¬ (false = true) by decide)] at H; exact H
                        clear H
                        have H := H1
                        clear H1
                        have HC19 := Aside0.mk H
                        clear H
                        go_upto_region 12 with (fail)
                        go_cut [42] (fun v42 wc => ∃ (kq : Nat) (x42_18 : Bool), v42 = .bool x42_18 ∧ Aside0 (lex_Class.j4 kq a0 x42_18 = some r) ∧ Aside0 (kq ≤ kj13) ∧ Drawn0 w wc)
                        case first =>
                          have H := HC19.out
                          clear HC19
                          by_cases c20 : a0 ≥ 48
                          · rw [if_pos c20] at H
                            have c20b0 : decide (48 ≤ a0) = true := decide_eq_true c20
                            clear c20
                            (first | rw [c20b0] | (simp only [i64_w, i32_w]; rw [c20b0]) | skip)
                            have H' := Aside0.mk H
                            clear H
                            go_wp2
                            go_meet
                            case rel => exact ⟨_, (decide (a0 ≤ 57)), (by first | rfl | (simp; done) | (simp [*]; done)), H', ⟨by have := HJ1.out; have := HJ6.out; have := HJ8.out; have := HJ13.out; first | omega | exact Nat.le_refl _⟩, by repeat (first | exact Drawn0.refl _ | apply Drawn0.step)⟩
                          · rw [if_neg c20] at H
                            have c20b0 : decide (48 ≤ a0) = false := decide_eq_false c20
                            clear c20
                            (first | rw [c20b0] | (simp only [i64_w, i32_w]; rw [c20b0]) | skip)
                            have H' := Aside0.mk H
                            clear H
                            go_wp2
                            go_meet
                            case rel => exact ⟨_, (false), (by first | rfl | (simp; done) | (simp [*]; done)), H', ⟨by have := HJ1.out; have := HJ6.out; have := HJ8.out; have := HJ13.out; first | omega | exact Nat.le_refl _⟩, by repeat (first | exact Drawn0.refl _ | apply Drawn0.step)⟩
                        case rest =>
                          clear HC19
                          try clear c1
                          try clear c2
                          try clear p2
                          try clear c3
                          try clear c3b0
                          try clear c3b1
                          try clear c4
                          try clear c4b0
                          try clear c4b1
                          try clear c5
                          try clear c5b0
                          try clear c5b1
                          try clear c6
                          try clear c8
                          try clear c8b0
                          try clear c10
                          try clear c11
                          try clear c11b0
                          try clear c12
                          try clear c12b0
                          try clear c13
                          try clear c15
                          try clear c15b0
                          try clear c16
                          try clear c16b0
                          try clear c17
                          try clear c17b0
                          try clear c17b1
                          try clear c18
                          try clear c20
                          try clear c20b0
                          try clear p2
                          obtain ⟨kq, x42_18, rfl, HA, HJ18, ⟨mc18, rfl⟩⟩ := hcut
                          cases kq with
                          | zero => exact absurd HA.out (by simp [lex_Class.j4])
                          | succ kj18 =>
                            have H := HA.out
                            clear HA
                            simp only [lex_Class.j4] at H
                            by_cases c21 : x42_18 = true
                            · subst c21
                              have H1 : (some 3) = some r := by rw [if_pos rfl] at H; exact H
                              clear H
                              have H := H1
                              clear H1
                              obtain rfl := Option.some.inj H
                              go_wp2
                              go_ret
                              exact ⟨by first | rfl | (simp; done) | (simp [*]; done), by repeat (first | exact Drawn0.refl _ | apply Drawn0.step)⟩
                            · replace c21 := Bool.eq_false_iff.mpr c21
                              subst c21
                              have H1 : (if a0 = 34 then (some 5) else (if a0 = 35 then (some 6) else (if a0 > 32 then (if a0 < 127 then ((strings_IndexByte.f (⟨#[40, 41, 123, 125, 44, 59, 58, 61, 43, 45, 42, 47, 37, 60, 62, 33, 38, 124]⟩ : ByteArray) ((a0) % 256)).bind fun t170 => (if t170 ≥ 0 then (some 4) else (some 0))) else (some 0)) else (some 0)))) = some r := by rw [if_neg (show ¬ (false = true) by decide)] at H; exact H
                              clear H
                              have H := H1
                              clear H1
                              by_cases c22 : a0 = 34
                              · rw [if_pos c22] at H
                                have c22b0 : (a0 == 34) = true := beq_iff_eq.mpr c22
                                have c22b1 : (a0 != 34) = false := bne_eq_false_iff_eq.mpr c22
                                clear c22
                                obtain rfl := Option.some.inj H
                                go_wp2
                                go_ret
                                exact ⟨by first | rfl | (simp; done) | (simp [*]; done), by repeat (first | exact Drawn0.refl _ | apply Drawn0.step)⟩
                              · rw [if_neg c22] at H
                                have c22b0 : (a0 == 34) = false := beq_eq_false_iff_ne.mpr c22
                                have c22b1 : (a0 != 34) = true := bne_iff_ne.mpr c22
                                by_cases c23 : a0 = 35
                                · rw [if_pos c23] at H
                                  have c23b0 : (a0 == 35) = true := beq_iff_eq.mpr c23
                                  have c23b1 : (a0 != 35) = false := bne_eq_false_iff_eq.mpr c23
                                  clear c23
                                  obtain rfl := Option.some.inj H
                                  go_wp2
                                  go_ret
                                  exact ⟨by first | rfl | (simp; done) | (simp [*]; done), by repeat (first | exact Drawn0.refl _ | apply Drawn0.step)⟩
                                · rw [if_neg c23] at H
                                  have c23b0 : (a0 == 35) = false := beq_eq_false_iff_ne.mpr c23
                                  have c23b1 : (a0 != 35) = true := bne_iff_ne.mpr c23
                                  by_cases c24 : a0 > 32
                                  · rw [if_pos c24] at H
                                    have c24b0 : decide (32 < a0) = true := decide_eq_true c24
                                    clear c24
                                    by_cases c25 : a0 < 127
                                    · rw [if_pos c25] at H
                                      have c25b0 : decide (a0 < 127) = true := decide_eq_true c25
                                      clear c25
                                      replace H := Option.bind_eq_some_iff.mp H
                                      obtain ⟨t170, A260, H⟩ := H
                                      replace H : (if t170 ≥ 0 then (some 4) else (some 0)) = some r := H
                                      have A26 := Aside0.mk A260
                                      clear A260
                                      by_cases c27 : t170 ≥ 0
                                      · rw [if_pos c27] at H
                                        have c27b0 : decide (0 ≤ t170) = true := decide_eq_true c27
                                        clear c27
                                        obtain rfl := Option.some.inj H
                                        go_wp2_with (first | (go_at_call 35; (with_reducible refine (strings_IndexByte.calls (⟨#[40, 41, 123, 125, 44, 59, 58, 61, 43, 45, 42, 47, 37, 60, 62, 33, 38, 124]⟩ : ByteArray) ((a0) % 256) t170 _ A26.out).mono ?_); rintro e w' ⟨rfl, ⟨nd, rfl⟩⟩))
                                        go_ret
                                        exact ⟨by first | rfl | (simp; done) | (simp [*]; done), by repeat (first | exact Drawn0.refl _ | apply Drawn0.step)⟩
                                      · rw [if_neg c27] at H
                                        have c27b0 : decide (0 ≤ t170) = false := decide_eq_false c27
                                        clear c27
                                        obtain rfl := Option.some.inj H
                                        go_wp2_with (first | (go_at_call 35; (with_reducible refine (strings_IndexByte.calls (⟨#[40, 41, 123, 125, 44, 59, 58, 61, 43, 45, 42, 47, 37, 60, 62, 33, 38, 124]⟩ : ByteArray) ((a0) % 256) t170 _ A26.out).mono ?_); rintro e w' ⟨rfl, ⟨nd, rfl⟩⟩))
                                        go_ret
                                        exact ⟨by first | rfl | (simp; done) | (simp [*]; done), by repeat (first | exact Drawn0.refl _ | apply Drawn0.step)⟩
                                    · rw [if_neg c25] at H
                                      have c25b0 : decide (a0 < 127) = false := decide_eq_false c25
                                      clear c25
                                      obtain rfl := Option.some.inj H
                                      go_wp2
                                      go_ret
                                      exact ⟨by first | rfl | (simp; done) | (simp [*]; done), by repeat (first | exact Drawn0.refl _ | apply Drawn0.step)⟩
                                  · rw [if_neg c24] at H
                                    have c24b0 : decide (32 < a0) = false := decide_eq_false c24
                                    clear c24
                                    obtain rfl := Option.some.inj H
                                    go_wp2
                                    go_ret
                                    exact ⟨by first | rfl | (simp; done) | (simp [*]; done), by repeat (first | exact Drawn0.refl _ | apply Drawn0.step)⟩
end Go.Proofs.YtlikjknakplamaaDoor.Print
/-! ### EWordy -/
namespace Go.Proofs.YtlikjknakplamaaDoor.Print
open Go.RowKit Go.Proofs.YtlikjknakplamaaDoorW.PrintWords Go.Proofs.YtlikjknakplamaaDoorW.PrintLast Go.Proofs.YtlikjknakplamaaDoorW.PrintMore
set_option linter.unusedSimpArgs false
set_option linter.unusedVariables false
/-- A sign's index among the signs: where it is one. -/
theorem sign_index : ∀ r : Fin 127, 32 < r.val → ((0 : Int) ≤ Lib.indexByte (⟨#[40, 41, 123, 125, 44, 59, 58, 61, 43, 45, 42, 47, 37, 60, 62, 33, 38, 124]⟩ : ByteArray).data.toList (r.val).toUInt8 ↔ (r.val : Int) ∈ signs) := by decide +kernel
theorem lex_class_all (r : Int) (h1 : r ≤ 2147483647) (k : Nat) : lex_Class.f (k + 5) r = some (classZ r) := by
  have h4 : ∀ m, ¬ (r = 32 ∨ r = 9 ∨ r = 13 ∨ r = 10) → ¬ ((97 ≤ r ∧ r ≤ 122) ∨ (65 ≤ r ∧ r ≤ 90) ∨ r = 95) → ¬ (192 ≤ r ∧ r ≤ 591 ∧ r ≠ 215 ∧ r ≠ 247) → lex_Class.j4 (m + 1) r (decide (48 ≤ r ∧ r ≤ 57)) = some (classZ r) := by
    intro m c1 c2 c3
    unfold classZ
    rw [if_neg c1, if_neg c2, if_neg c3]
    simp only [lex_Class.j4, decide_eq_true_eq]
    by_cases c4 : 48 ≤ r ∧ r ≤ 57
    · rw [if_pos c4, if_pos c4]
    · rw [if_neg c4, if_neg c4]
      by_cases c5 : r = 34
      · rw [if_pos c5, if_pos c5]
      · rw [if_neg c5, if_neg c5]
        by_cases c6 : r = 35
        · rw [if_pos c6, if_pos c6]
        · rw [if_neg c6, if_neg c6]
          by_cases c7 : r > 32
          · rw [if_pos c7]
            by_cases c8 : r < 127
            · rw [if_pos c8]
              obtain ⟨n, rfl⟩ : ∃ n : Nat, r = n := ⟨r.toNat, by omega⟩
              have hs := sign_index ⟨n, by omega⟩ (by show 32 < n; omega)
              simp only at hs
              have e : ((n : Int) % 256).toNat = n := by omega
              simp only [strings_IndexByte.f, Option.bind_some, e, ge_iff_le]
              by_cases hm : (n : Int) ∈ signs
              · rw [if_pos (hs.2 hm), if_pos hm]
              · rw [if_neg (fun h => hm (hs.1 h)), if_neg hm]
            · rw [if_neg c8, if_neg]
              intro hm
              simp [signs] at hm
              omega
          · rw [if_neg c7, if_neg]
            intro hm
            simp [signs] at hm
            omega
  have h3 : ∀ m, ¬ (r = 32 ∨ r = 9 ∨ r = 13 ∨ r = 10) → ¬ ((97 ≤ r ∧ r ≤ 122) ∨ (65 ≤ r ∧ r ≤ 90) ∨ r = 95) → lex_Class.j3 (m + 2) r (decide (192 ≤ r ∧ r ≤ 591 ∧ r ≠ 215 ∧ r ≠ 247)) = some (classZ r) := by
    intro m c1 c2
    simp only [lex_Class.j3, decide_eq_true_eq]
    by_cases c3 : 192 ≤ r ∧ r ≤ 591 ∧ r ≠ 215 ∧ r ≠ 247
    · rw [if_pos c3]
      unfold classZ
      rw [if_neg c1, if_neg c2, if_pos c3]
    · rw [if_neg c3]
      by_cases c4 : r ≥ 48
      · rw [if_pos c4, ← h4 m c1 c2 c3]
        congr 1
        simp [c4]
      · rw [if_neg c4, ← h4 m c1 c2 c3]
        congr 1
        simp
        omega
  have h2 : ∀ m, ¬ (r = 32 ∨ r = 9 ∨ r = 13 ∨ r = 10) → lex_Class.j2 (m + 3) r (decide ((97 ≤ r ∧ r ≤ 122) ∨ (65 ≤ r ∧ r ≤ 90) ∨ r = 95)) = some (classZ r) := by
    intro m c1
    simp only [lex_Class.j2, decide_eq_true_eq]
    by_cases c2 : (97 ≤ r ∧ r ≤ 122) ∨ (65 ≤ r ∧ r ≤ 90) ∨ r = 95
    · rw [if_pos c2]
      unfold classZ
      rw [if_neg c1, if_pos c2]
    · rw [if_neg c2]
      have h := h3 m c1 c2
      by_cases d1 : r ≥ 192
      · rw [if_pos d1]
        by_cases d2 : r ≤ 591
        · rw [if_pos d2]
          by_cases d3 : r = 215
          · rw [if_pos d3, ← h]
            congr 1
            simp [d3]
          · rw [if_neg d3, ← h]
            congr 1
            by_cases d4 : r = 247
            · simp [d4]
            · have : (r != 247) = true := by simpa using d4
              rw [this]
              simp [d1, d2, d3, d4]
        · rw [if_neg d2, ← h]
          congr 1
          simp
          omega
      · rw [if_neg d1, ← h]
        congr 1
        simp
        omega
  have h1' : ∀ m, ¬ (r = 32 ∨ r = 9 ∨ r = 13 ∨ r = 10) → lex_Class.j1 (m + 4) r (decide (97 ≤ r ∧ r ≤ 122)) = some (classZ r) := by
    intro m c1
    simp only [lex_Class.j1, decide_eq_true_eq]
    have h := h2 m c1
    by_cases c2 : 97 ≤ r ∧ r ≤ 122
    · rw [if_pos c2, ← h]
      congr 1
      simp [c2]
    · rw [if_neg c2]
      by_cases d1 : r ≥ 65
      · rw [if_pos d1]
        by_cases d2 : r ≤ 90
        · rw [if_pos d2, ← h]
          congr 1
          have : decide (r ≤ 90) = true := decide_eq_true d2
          rw [this]
          simp
          omega
        · rw [if_neg d2, ← h]
          congr 1
          by_cases d3 : r = 95
          · simp [d3]
          · have : (r == 95) = false := by simpa using d3
            rw [this]
            simp
            omega
      · rw [if_neg d1, ← h]
        congr 1
        have : (r == 95) = false := by rw [beq_eq_false_iff_ne]; omega
        rw [this]
        simp
        omega
  have h0' : lex_Class.j0 (k + 5) r (decide (r = 32 ∨ r = 9 ∨ r = 13 ∨ r = 10)) = some (classZ r) := by
    simp only [lex_Class.j0, decide_eq_true_eq]
    by_cases c1 : r = 32 ∨ r = 9 ∨ r = 13 ∨ r = 10
    · rw [if_pos c1]
      unfold classZ
      rw [if_pos c1]
    · rw [if_neg c1]
      have h := h1' k c1
      by_cases d1 : r ≥ 97
      · rw [if_pos d1, ← h]
        congr 1
        simp [d1]
      · rw [if_neg d1, ← h]
        congr 1
        simp
        omega
  unfold lex_Class.f
  rw [← h0']
  by_cases e1 : r = 32
  · rw [if_pos e1]; congr 1; simp [e1]
  · rw [if_neg e1]
    by_cases e2 : r = 9
    · rw [if_pos e2]; congr 1; simp [e2]
    · rw [if_neg e2]
      by_cases e3 : r = 13
      · rw [if_pos e3]; congr 1; simp [e3]
      · rw [if_neg e3]; congr 1
        by_cases e4 : r = 10
        · simp [e4]
        · have : (r == 10) = false := by simpa using e4
          rw [this]; simp; omega
theorem lex_class_is (r : Int) (h0 : 0 ≤ r) (h1 : r ≤ 2147483647) (k : Nat) : lex_Class.f (k + 5) r = some (classZ r) := lex_class_all r h1 k
theorem lex_class_any (r : Int) (h0 : 0 ≤ r) (h1 : r ≤ 2147483647) (w : World) : Calls Tryd.prog 16 #[.int .i32 r] w fun e w' => e = .returned (.int .i64 (classZ r)) ∧ Drawn0 w w' :=
  lex_Class.calls 5 r (classZ r) w (lex_class_is r h0 h1 0)
theorem decode_le (s : ByteArray) (p : Nat) : (Utf8.decode s p).1 ≤ 2147483647 := by
  simp only [Utf8.decode, Utf8.runeError]
  repeat' split
  all_goals simp only
  all_goals (try omega)
  all_goals (have h1 := (s.get! (p + 1)).toNat_lt; have h0 := (s.get! (p + 0)).toNat_lt; omega)
theorem iterAt_heap (w : World) (k : Nat) (s : ByteArray) (q : Nat) (o : Obj) (h : w.heap[k]? = some o) : (w.iterAt k s q).heap[k]? = some (.stringIter s q) := by
  have := (Array.getElem?_eq_some_iff.1 h).1
  show (w.heap.setIfInBounds k _)[k]? = _
  simp [this]
theorem iterAt_below {a w : World} (k : Nat) (s : ByteArray) (q : Nat) (hb : Below a.heap.size a w) (hk : a.heap.size ≤ k) : Below a.heap.size a (w.iterAt k s q) := by
  refine ⟨hb.os, hb.tape, hb.output, ?_, fun i hi => ?_⟩
  · show a.heap.size ≤ (w.heap.setIfInBounds k _).size
    simp
    exact hb.size
  · show (w.heap.setIfInBounds k _)[i]? = _
    rw [Array.getElem?_setIfInBounds_ne (by omega)]
    exact hb.block i hi
end Go.Proofs.YtlikjknakplamaaDoor.Print
/-! ### ELx2 -/
namespace Go.Proofs.YtlikjknakplamaaDoor.Print
open Go.RowKit Go.Proofs.YtlikjknakplamaaDoorW.PrintWords Go.Proofs.YtlikjknakplamaaDoorW.PrintLast Go.Proofs.YtlikjknakplamaaDoorW.PrintMore
set_option linter.unusedSimpArgs false
set_option linter.unusedVariables false
theorem bAt_elem (s : ByteArray) (i : Nat) (h : i < s.size) : (s[i]'h).toNat = bAt s i := by
  unfold bAt
  have h1 : i < s.data.size := h
  simp only [ByteArray.get!]
  rw [getElem!_pos s.data i h1]
  rfl
theorem some_left (x : ByteArray) (h : 0 < x.size) : (!x.toList.isEmpty) = true := by
  rw [ByteArray.toList_eq]
  have h2 : 0 < x.data.toList.length := by rw [Array.length_toList]; exact h
  cases h3 : x.data.toList with
  | nil => rw [h3] at h2; simp at h2
  | cons a l => rfl
/-- How much is left in a cutter's block. -/
def leftN (w : World) (g : Nat) : Nat := match w.cell? ⟨g, 0, none⟩ with
  | some (.string s) => s.size
  | _ => 0
theorem leftN_at {w : World} {g : Nat} {s : ByteArray} {a : Int} {o : Value} (h : CutAt w g s a o) : leftN w g = s.size := by
  unfold leftN
  rw [cell_of_row w g 0 _ _ _ h]
  rfl
set_option maxHeartbeats 2000000 in
set_option maxRecDepth 100000 in
theorem blanks_any (g : Nat) (s : ByteArray) (at' : Int) (o : Value) (w : World) (hg : CutAt w g s at' o) (hs : at' + s.size ≤ 1000000000) (h0 : 0 ≤ at') :
    Calls Tryd.prog 29 #[.pointer (some ⟨g, 0, none⟩)] w fun e w' => e = .returned (.tuple #[]) ∧ CutAt w' g (blanks (s, at')).1 (blanks (s, at')).2 o ∧ Only [g] w w' := by
  obtain ⟨B, hB⟩ : ∃ B, B = blanks (s, at') := ⟨_, rfl⟩
  rw [← hB]
  have HB := Lib.hid (show B = blanksZ s.size (s, at') from hB)
  have HG := Lib.hid hg
  have hu2 := Tryd.underlying47
  have HO := Lib.hid (Only.refl [g] w)
  have HS := Lib.hid (And.intro h0 hs)
  clear hg hB hs h0
  go_enter Tryd.func29, Tryd.ntmps29
  go_wp2
  go_loopw [] (fun wr => ∃ (x : ByteArray) (a : Int) (f : Nat), Hid (CutAt wr g x a o) ∧ Hid (B = blanksZ f (x, a)) ∧ Hid (0 ≤ a ∧ a + x.size ≤ 1000000000) ∧ Hid (x.size ≤ f) ∧ Hid (Only [g] w wr)) (fun wr => leftN wr g)
  case atStart => exact ⟨s, at', s.size, HG, HB, HS, Lib.hid (Nat.le_refl _), HO⟩
  case round =>
    obtain ⟨x, a, f, hg, hb, ha, hf, ho⟩ := hrel
    clear HG HB HS HO
    have c0 : wr.cell? ⟨g, 0, none⟩ = some (.string x) := (cell_of_row wr g 0 _ _ _ hg.out).trans rfl
    by_cases hx : x = ⟨#[]⟩
    · have hb' := hb.out
      have hz : x.size = 0 := by subst hx; rfl
      have hB : blanksZ f (x, a) = (x, a) := by cases f with
        | zero => rfl
        | succ f => unfold blanksZ; rw [if_pos hz]
      rw [hB] at hb'
      subst hb'
      go_wp2
      go_end0
      have hgo := hg.out
      subst hx
      exact ⟨rfl, hgo, ho.out⟩
    · have hpos : 0 < x.size := by
        rcases Nat.eq_zero_or_pos x.size with h | h
        · exact absurd (ByteArray.size_eq_zero_iff.1 h) hx
        · exact h
      obtain ⟨f, rfl⟩ : ∃ m, f = m + 1 := ⟨f - 1, by have := hf.out; omega⟩
      have hb' := hb.out
      unfold blanksZ at hb'
      rw [if_neg (by show ¬ x.size = 0; omega)] at hb'
      have HB := Lib.hid hb'
      have h8 := (x[0]'hpos).toNat_lt
      have hcl : ∀ W, Calls Tryd.prog 16 #[.int .i32 ((x[0]'hpos).toNat : Int)] W fun e w' => e = .returned (.int .i64 (classZ (bAt x 0))) ∧ Drawn0 W w' := fun W => by
        rw [← bAt_elem x 0 hpos]
        exact lex_class_any ((x[0]'hpos).toNat : Int) (by omega) (by omega) W
      have HCL := Lib.hid hcl
      have hp' : (0 : Int) < x.size := by omega
      have hie := some_left x hpos
      clear hb hb' hcl
      go_wp2_with (go_at_call 16; refine (HCL.out _).mono ?_; rintro e w1 ⟨rfl, ⟨n1, rfl⟩⟩; refine (fun (h : Hid _) => h.out) ?_)
      refine Lib.hid ?_
      have c1 : (wr.drewN n1).cell? ⟨g, 0, none⟩ = some (.string x) := c0
      have HG1 := Lib.hid (show CutAt (wr.drewN n1) g x a o from hg.out)
      have HO1 := Lib.hid (show Only [g] w (wr.drewN n1) from ho.out.drewN n1)
      have HL := Lib.hid (leftN_at hg.out)
      clear c0 HCL hg ho
      generalize wr.drewN n1 = w1 at *
      by_cases h1 : classZ (bAt x 0) = 1
      · have hb := HB.out
        rw [if_pos h1] at hb
        have HB1 := Lib.hid hb
        clear hb HB
        generalize classZ (bAt x 0) = c at *
        subst h1
        go_wp2_with (go_at_call 31; refine (pass_any g 1 x a o w1 HG1.out (by have := ha.out; omega) (by omega) ha.out.1 (by have := ha.out; omega)).mono ?_; rintro e w2 ⟨rfl, hg2, ho2⟩; have HG2 := Lib.hid hg2; have HO2 := Lib.hid (HO1.out.trans ho2); clear hg2 ho2)
        go_roundw
        case rel => exact ⟨_, _, f, HG2, HB1, Lib.hid (by have := passZ_at (x, a) 1 (by show 1 ≤ x.size; omega); have := ha.out; simp only [passZ] at *; omega), Lib.hid (by rw [ByteArray.size_extract]; have := hf.out; omega), HO2⟩
        case measure => rw [leftN_at HG2.out, HL.out, ByteArray.size_extract]; omega
      · by_cases h6 : classZ (bAt x 0) = 6
        · have hb := HB.out
          rw [if_neg h1, if_pos h6] at hb
          have HB1 := Lib.hid hb
          have HN := Lib.hid (hashN_le x hpos h6)
          clear hb HB
          generalize classZ (bAt x 0) = c at *
          subst h6
          obtain ⟨i, hi⟩ : ∃ i, i = Lib.indexByte x.data.toList 10 := ⟨_, rfl⟩
          have hcx : ∀ W, Calls Tryd.prog 35 #[.string x, .int .u8 10] W fun e w' => e = .returned (.int .i64 i) ∧ Drawn0 W w' := fun W => by
            rw [hi]
            exact strings_IndexByte.calls x 10 _ W rfl
          have HCX := Lib.hid hcx
          have HN2 := Lib.hid (show hashN x = if i < 0 then x.size else i.toNat by rw [hi]; rfl)
          clear hcx hi
          by_cases hi0 : i < 0
          · have hn := HN2.out
            rw [if_pos hi0] at hn
            have HN3 := Lib.hid hn
            clear hn HN2
            go_wp2_with (first
              | (go_at_call 35; refine (HCX.out _).mono ?_; rintro e w2 ⟨rfl, ⟨n2, rfl⟩⟩; have c2 : (w1.drewN n2).cell? ⟨g, 0, none⟩ = some (.string x) := c1)
              | (go_at_call 31; refine (pass_any g x.size x a o _ (show CutAt (w1.drewN n2) g x a o from HG1.out) (by have := ha.out; omega) (Nat.le_refl _) ha.out.1 (by have := ha.out; omega)).mono ?_; rintro e w3 ⟨rfl, hg2, ho2⟩; have HG2 := Lib.hid hg2; have HO2 := Lib.hid ((HO1.out.drewN n2).trans ho2); clear hg2 ho2))
            go_roundw
            case rel => exact ⟨_, _, f, HG2, Lib.hid (by rw [HB1.out, HN3.out]; rfl), Lib.hid (by have := passZ_at (x, a) x.size (Nat.le_refl _); have := ha.out; simp only [passZ] at *; omega), Lib.hid (by rw [ByteArray.size_extract]; have := hf.out; omega), HO2⟩
            case measure => rw [leftN_at HG2.out, HL.out, ByteArray.size_extract]; omega
          · obtain ⟨j, rfl⟩ : ∃ j : Nat, i = j := ⟨i.toNat, by omega⟩
            have hn := HN2.out
            rw [if_neg hi0, Int.toNat_natCast] at hn
            have HN3 := Lib.hid hn
            clear hn HN2
            go_wp2_with (first
              | (go_at_call 35; refine (HCX.out _).mono ?_; rintro e w2 ⟨rfl, ⟨n2, rfl⟩⟩; have c2 : (w1.drewN n2).cell? ⟨g, 0, none⟩ = some (.string x) := c1)
              | (go_at_call 31; refine (pass_any g j x a o _ (show CutAt (w1.drewN n2) g x a o from HG1.out) (by have := ha.out; omega) (by have := HN.out; have := HN3.out; omega) ha.out.1 (by have := ha.out; omega)).mono ?_; rintro e w3 ⟨rfl, hg2, ho2⟩; have HG2 := Lib.hid hg2; have HO2 := Lib.hid ((HO1.out.drewN n2).trans ho2); clear hg2 ho2))
            go_roundw
            case rel => exact ⟨_, _, f, HG2, Lib.hid (by rw [HB1.out, HN3.out]; rfl), Lib.hid (by have := passZ_at (x, a) j (by show j ≤ x.size; have := HN.out; have := HN3.out; omega); have := ha.out; simp only [passZ] at *; omega), Lib.hid (by rw [ByteArray.size_extract]; have := hf.out; have := HN.out; have := HN3.out; omega), HO2⟩
            case measure => rw [leftN_at HG2.out, HL.out, ByteArray.size_extract]; have := HN.out; have := HN3.out; omega
        · have hb := HB.out
          rw [if_neg h1, if_neg h6] at hb
          subst hb
          have b1 : (classZ (bAt x 0) == 1) = false := by simpa using h1
          have b6 : (classZ (bAt x 0) == 6) = false := by simpa using h6
          clear h1 h6 HB
          generalize classZ (bAt x 0) = c at *
          go_wp2
          refine bodyPost_ret (results_none rfl _ _ _) rfl ?_
          exact ⟨rfl, HG1.out, HO1.out⟩
end Go.Proofs.YtlikjknakplamaaDoor.Print
/-! ### ELx3 -/
namespace Go.Proofs.YtlikjknakplamaaDoor.Print
open Go.RowKit Go.Proofs.YtlikjknakplamaaDoorW.PrintWords Go.Proofs.YtlikjknakplamaaDoorW.PrintLast Go.Proofs.YtlikjknakplamaaDoorW.PrintMore
set_option linter.unusedSimpArgs false
set_option linter.unusedVariables false
theorem iterAt_only {S : List Nat} {a w : World} (k : Nat) (s : ByteArray) (q : Nat) (hb : Only S a w) (hk : a.heap.size ≤ k) : Only S a (w.iterAt k s q) := by
  refine ⟨hb.os, hb.tape, hb.output, ?_, fun i hi hS => ?_⟩
  · show a.heap.size ≤ (w.heap.setIfInBounds k _).size
    simp
    exact hb.size
  · show (w.heap.setIfInBounds k _)[i]? = _
    rw [Array.getElem?_setIfInBounds_ne (by omega)]
    exact hb.block i hi hS
set_option maxHeartbeats 2000000 in
set_option maxRecDepth 100000 in
theorem word_any (gc : Nat) (a0 : ByteArray) (at' : Int) (o : Value) (w : World) (hgc : CutAt w gc a0 at' o) :
    Calls Tryd.prog 42 #[.pointer (some ⟨gc, 0, none⟩)] w fun e w' => e = .returned (.int .i64 (wordEnd a0 a0.size 0)) ∧ Only [] w w' := by
  obtain ⟨V, hV⟩ : ∃ V, V = wordEnd a0 a0.size 0 := ⟨_, rfl⟩
  rw [← hV]
  have HV := Lib.hid hV
  have HC := Lib.hid hgc
  have hu2 := Tryd.underlying47
  have c0 : w.cell? ⟨gc, 0, none⟩ = some (.string a0) := (cell_of_row w gc 0 _ _ _ hgc).trans rfl
  clear hV hgc
  go_enter Tryd.func42, Tryd.ntmps42
  go_wp2
  obtain ⟨g, hg⟩ : ∃ g, g = w.heap.size := ⟨_, rfl⟩
  have HI := Lib.hid (show (w.iter a0 0).heap[g]? = some (.stringIter a0 0) by rw [hg]; exact World.iter_heap w a0 0)
  have HB := Lib.hid (show Only [] w (w.iter a0 0) from (Only.refl _ _).alloc _)
  rw [← hg]
  have HG := Lib.hid (show w.heap.size ≤ g by omega)
  clear hg c0
  generalize w.iter a0 0 = w1 at *
  go_loopw [] (fun wr => ∃ (pos b : Nat), Hid (wr.heap[g]? = some (.stringIter a0 pos)) ∧ Hid (Only [] w wr) ∧ Hid (V = wordEnd a0 b pos) ∧ a0.size ≤ pos + b) (fun wr => a0.size - wr.iterPos g)
  case atStart => exact ⟨0, a0.size, HI, HB, HV, by omega⟩
  case round =>
    obtain ⟨pos, b, hi, hb, hw, hle⟩ := hrel
    clear HI HB HV
    by_cases hp : pos < a0.size
    · have hnx : ∀ ty, (Instr.next (.pointer (some ⟨g, 0, none⟩)) true ty).run Tryd.prog wr = _ := fun ty => Lib.run_next_any_at wr g a0 pos ty hi.out hp
      have hwd := Lib.decode_width_pos a0 pos hp
      have hdl := decode_le a0 pos
      obtain ⟨b', rfl⟩ : ∃ b', b = b' + 1 := ⟨b - 1, by omega⟩
      have hw' := hw.out
      unfold wordEnd at hw'
      rw [if_pos hp] at hw'
      have HW := Lib.hid hw'
      have HI2 := Lib.hid (iterAt_heap wr g a0 (pos + (Utf8.decode a0 pos).2) _ hi.out)
      have HB2 := Lib.hid (iterAt_only g a0 (pos + (Utf8.decode a0 pos).2) hb.out HG.out)
      have HP := Lib.hid (show wr.iterPos g = pos by unfold World.iterPos; rw [hi.out])
      clear hw hw'
      generalize wr.iterAt g a0 (pos + (Utf8.decode a0 pos).2) = w2 at *
      generalize (Utf8.decode a0 pos).2 = d2 at *
      generalize (Utf8.decode a0 pos).1 = d1 at *
      by_cases hwz : wordyZ (d1 : Int) = true
      · have hw' := HW.out
        rw [if_pos hwz] at hw'
        have HW2 := Lib.hid hw'
        have hz : (classZ (d1 : Int) = 2 ∨ classZ (d1 : Int) = 3) := by unfold wordyZ at hwz; simpa using hwz
        clear hw' HW hwz
        rcases hz with hz | hz
        all_goals
          have hcl := lex_class_any (d1 : Int) (by omega) (by omega)
          rw [hz] at hcl
          go_wp2_with (go_at_call 16; refine (hcl _).mono ?_; rintro e w3 ⟨rfl, ⟨n3, rfl⟩⟩)
          go_roundw
          case rel => exact ⟨pos + d2, b', HI2, Lib.hid (HB2.out.drewN n3), HW2, by omega⟩
          case measure =>
            have e1 : (w2.drewN n3).iterPos g = pos + d2 := by
              have : (w2.drewN n3).heap[g]? = some (.stringIter a0 (pos + d2)) := HI2.out
              unfold World.iterPos; rw [this]
            rw [e1, HP.out]; omega
      · have hw' := HW.out
        rw [if_neg hwz] at hw'
        have HW2 := Lib.hid hw'
        have hb2 : (classZ (d1 : Int) == 2) = false := by unfold wordyZ at hwz; simp at hwz; simpa using hwz.1
        have hb3 : (classZ (d1 : Int) == 3) = false := by unfold wordyZ at hwz; simp at hwz; simpa using hwz.2
        have p2 : ¬ classZ (d1 : Int) = 2 := by simpa using hb2
        have p3 : ¬ classZ (d1 : Int) = 3 := by simpa using hb3
        have hcl := lex_class_any (d1 : Int) (by omega) (by omega)
        clear hw' HW hwz
        generalize classZ (d1 : Int) = c at *
        have hcc : (c != 2) = true ∧ (c != 3) = true := ⟨by simpa using p2, by simpa using p3⟩
        go_wp2_with (go_at_call 16; refine (hcl _).mono ?_; rintro e w3 ⟨rfl, ⟨n3, rfl⟩⟩)
        go_ret
        exact ⟨by rw [HW2.out]; rfl, HB2.out.drewN n3⟩
    · have hnx : ∀ ty, (Instr.next (.pointer (some ⟨g, 0, none⟩)) true ty).run Tryd.prog wr = _ := fun ty => Lib.run_next_end_at wr g a0 pos ty hi.out hp
      have hwe := hw.out
      rw [wordEnd_end a0 b pos hp] at hwe
      have HW := Lib.hid hwe
      have c1 : wr.cell? ⟨gc, 0, none⟩ = some (.string a0) := (cell_of_row wr gc 0 _ _ _ (hb.out.heap HC.out (by simp))).trans rfl
      clear hw hwe
      go_wp2
      go_ret
      exact ⟨by rw [HW.out]; rfl, hb.out⟩
end Go.Proofs.YtlikjknakplamaaDoor.Print
/-! ### ELx4 -/
namespace Go.Proofs.YtlikjknakplamaaDoor.Print
open Go.RowKit Go.Proofs.YtlikjknakplamaaDoorW.PrintWords Go.Proofs.YtlikjknakplamaaDoorW.PrintLast Go.Proofs.YtlikjknakplamaaDoorW.PrintMore
set_option linter.unusedSimpArgs false
set_option linter.unusedVariables false
abbrev tokV (t : Tok) : Value := .agg #[.int .i64 t.1, .string t.2.1, .int .i64 t.2.2.1, .int .i64 t.2.2.2]
theorem infoTok : (Tryd.prog.info? 38).map (fun i => (i.zero, i.size, i.bytes)) = some (some (.agg #[.int .i64 0, .string ⟨#[]⟩, .int .i64 0, .int .i64 0]), 4, 40) := by kernel_rfl
theorem cut_any (s sep : ByteArray) (w : World) (hs : s.size ≤ 1000000000) (hT : Tabs w) :
    Calls Tryd.prog 52 #[.string s, .string sep] w fun e w' => e = .returned (.tuple #[.string ⟨(Lib.cut s.data.toList sep.data.toList).1.toArray⟩, .string ⟨(Lib.cut s.data.toList sep.data.toList).2.1.toArray⟩, .bool (Lib.cut s.data.toList sep.data.toList).2.2]) ∧ Drawn0 w w' := by
  obtain ⟨m, hm⟩ := hT.most
  exact (Tryd.strings_Cut s sep m w (by omega) hm).mono fun e w' ⟨he, n, hn⟩ => ⟨he, ⟨n, hn⟩⟩
theorem tok_store (w : World) (b : Nat) (v0 v1 v2 v3 u0 u1 u2 u3 : Value) (h : w.heap[b]? = some (.cells #[v0, v1, v2, v3] 38 (0, 0))) :
    ((((w.setCell ⟨b, 0, none⟩ u0).setCell ⟨b, 1, none⟩ u1).setCell ⟨b, 2, none⟩ u2).setCell ⟨b, 3, none⟩ u3).heap[b]? = some (.cells #[u0, u1, u2, u3] 38 (0, 0)) :=
  heap_setCell_same _ b 3 _ _ _ (heap_setCell_same _ b 2 _ _ _ (heap_setCell_same _ b 1 _ _ _ (heap_setCell_same _ b 0 _ _ _ h)))
theorem tok_only {w w' : World} (b : Nat) (u0 u1 u2 u3 : Value) (h : Only [] w w') (hb : w.heap.size ≤ b) :
    Only [] w ((((w'.setCell ⟨b, 0, none⟩ u0).setCell ⟨b, 1, none⟩ u1).setCell ⟨b, 2, none⟩ u2).setCell ⟨b, 3, none⟩ u3) :=
  (((h.setCell (.inr hb) _).setCell (.inr hb) _).setCell (.inr hb) _).setCell (.inr hb) _
theorem iterAt_other (w : World) (k : Nat) (s : ByteArray) (q i : Nat) (h : i ≠ k) : (w.iterAt k s q).heap[i]? = w.heap[i]? := by
  show (w.heap.setIfInBounds k _)[i]? = _
  rw [Array.getElem?_setIfInBounds_ne (by omega)]
set_option maxHeartbeats 2000000 in
set_option maxRecDepth 100000 in
theorem text_any (gc : Nat) (x : ByteArray) (at' : Int) (o : Value) (w : World) (hgc : CutAt w gc x at' o) (hx : 1 ≤ x.size) (hs : x.size ≤ 1000000000) (hT : Tabs w) :
    Calls Tryd.prog 43 #[.pointer (some ⟨gc, 0, none⟩)] w fun e w' => e = .returned (.tuple #[tokV (textZ x).1, .int .i64 (textZ x).2.1, .int .i64 (textZ x).2.2]) ∧ Only [] w w' := by
  obtain ⟨V, hV⟩ : ∃ V, V = textZ x := ⟨_, rfl⟩
  rw [← hV]
  have HV := Lib.hid hV
  have HTB := Lib.hid hT
  have hu2 := Tryd.underlying47
  have hu3 := Tryd.underlying38
  have hli := Lib.hid (lineOf_le x)
  have hii := Lib.hid (insideOf_le x)
  have hx' : (1 : Int) ≤ x.size := by omega
  have HA := Lib.hid (show Only [] w (w.alloc (.cells #[.int .i64 0, .string ⟨#[]⟩, .int .i64 0, .int .i64 0] 38)) from (Only.refl _ _).alloc _)
  have c0 : (w.alloc (.cells #[.int .i64 0, .string ⟨#[]⟩, .int .i64 0, .int .i64 0] 38)).cell? ⟨gc, 0, none⟩ = some (.string x) := (cell_of_row _ gc 0 _ _ _ (HA.out.heap hgc (by simp))).trans rfl
  have HR := Lib.hid (heap_alloc_new w (.cells #[.int .i64 0, .string ⟨#[]⟩, .int .i64 0, .int .i64 0] 38))
  have hlc := lineOf_le x
  obtain ⟨L, hL⟩ : ∃ L, L = lineOf x := ⟨_, rfl⟩
  obtain ⟨L2, hL2⟩ : ∃ L2 : ByteArray, L2 = ⟨(Lib.cut (x.extract 1 x.size).data.toList [10]).2.1.toArray⟩ := ⟨_, rfl⟩
  obtain ⟨bl, hbl⟩ : ∃ bl, bl = (Lib.cut (x.extract 1 x.size).data.toList [10]).2.2 := ⟨_, rfl⟩
  obtain ⟨I, hI⟩ : ∃ I, I = insideOf x := ⟨_, rfl⟩
  obtain ⟨I2, hI2⟩ : ∃ I2 : ByteArray, I2 = ⟨(Lib.cut (lineOf x).data.toList [34]).2.1.toArray⟩ := ⟨_, rfl⟩
  obtain ⟨bc, hbc⟩ : ∃ bc, bc = closed x := ⟨_, rfl⟩
  have HC1 := Lib.hid (show ∀ W, Tabs W → Calls Tryd.prog 52 #[.string (x.extract 1 x.size), .string ⟨#[10]⟩] W fun e w' => e = .returned (.tuple #[.string L, .string L2, .bool bl]) ∧ Drawn0 W w' from fun W hW => by
    rw [hL, hL2, hbl]
    exact cut_any (x.extract 1 x.size) ⟨#[10]⟩ W (by rw [ByteArray.size_extract]; omega) hW)
  have HC2 := Lib.hid (show ∀ W, Tabs W → Calls Tryd.prog 52 #[.string L, .string ⟨#[34]⟩] W fun e w' => e = .returned (.tuple #[.string I, .string I2, .bool bc]) ∧ Drawn0 W w' from fun W hW => by
    rw [hL, hI, hI2, hbc]
    exact cut_any (lineOf x) ⟨#[34]⟩ W (by omega) hW)
  have hv := HV.out
  unfold textZ at hv
  rw [← hbc, ← hI] at hv
  have HV2 := Lib.hid hv
  have HIS := Lib.hid (show I.size ≤ 1000000000 by have := hii.out; rw [hI]; omega)
  clear hV hT hgc hL hL2 hbl hI hI2 hbc hv HV hli hii hlc
  go_enter Tryd.func43, Tryd.ntmps43
  go_wp2_with (go_at_call 52; refine (HC1.out _ (HTB.out.below HA.out.nil_below)).mono ?_; rintro e w1 ⟨rfl, ⟨n1, rfl⟩⟩; refine (fun (h : Hid _) => h.out) ?_)
  refine Lib.hid ?_
  have HA1 := Lib.hid (show Only [] w ((w.alloc (.cells #[.int .i64 0, .string ⟨#[]⟩, .int .i64 0, .int .i64 0] 38)).drewN n1) from HA.out.drewN n1)
  have HR1 := Lib.hid (show ((w.alloc (.cells #[.int .i64 0, .string ⟨#[]⟩, .int .i64 0, .int .i64 0] 38)).drewN n1).heap[w.heap.size]? = some (.cells #[.int .i64 0, .string ⟨#[]⟩, .int .i64 0, .int .i64 0] 38 (0, 0)) from HR.out)
  clear HA HR c0 HC1
  generalize (w.alloc (.cells #[.int .i64 0, .string ⟨#[]⟩, .int .i64 0, .int .i64 0] 38)).drewN n1 = w1 at *
  go_wp2_with (go_at_call 52; refine (HC2.out _ (HTB.out.below HA1.out.nil_below)).mono ?_; rintro e w2 ⟨rfl, ⟨n2, rfl⟩⟩; refine (fun (h : Hid _) => h.out) ?_)
  refine Lib.hid ?_
  have HA2 := Lib.hid (show Only [] w (w1.drewN n2) from HA1.out.drewN n2)
  have HR2 := Lib.hid (show (w1.drewN n2).heap[w.heap.size]? = some (.cells #[.int .i64 0, .string ⟨#[]⟩, .int .i64 0, .int .i64 0] 38 (0, 0)) from HR1.out)
  clear HA1 HR1 HC2
  generalize w1.drewN n2 = w2 at *
  have y0 : w2.cell? ⟨w.heap.size, 0, none⟩ = some (.int .i64 0) := (cell_of_row w2 _ 0 _ _ _ HR2.out).trans rfl
  have y1 : w2.cell? ⟨w.heap.size, 1, none⟩ = some (.string ⟨#[]⟩) := (cell_of_row w2 _ 1 _ _ _ HR2.out).trans rfl
  have y2 : w2.cell? ⟨w.heap.size, 2, none⟩ = some (.int .i64 0) := (cell_of_row w2 _ 2 _ _ _ HR2.out).trans rfl
  have y3 : w2.cell? ⟨w.heap.size, 3, none⟩ = some (.int .i64 0) := (cell_of_row w2 _ 3 _ _ _ HR2.out).trans rfl
  have z0 : w2.frozen? ⟨w.heap.size, 0, none⟩ = false := frozen_of_row w2 _ 0 _ _ HR2.out
  have z1 : w2.frozen? ⟨w.heap.size, 1, none⟩ = false := frozen_of_row w2 _ 1 _ _ HR2.out
  have z2 : w2.frozen? ⟨w.heap.size, 2, none⟩ = false := frozen_of_row w2 _ 2 _ _ HR2.out
  have z3 : w2.frozen? ⟨w.heap.size, 3, none⟩ = false := frozen_of_row w2 _ 3 _ _ HR2.out
  cases bc with
  | false =>
    have hv := HV2.out
    rw [if_pos rfl] at hv
    have HV3 := Lib.hid hv
    clear hv HV2
    go_wp2
    have hr := tok_store w2 w.heap.size _ _ _ _ (.int .i64 0) (.string ⟨#[]⟩) (.int .i64 0) (.int .i64 0) HR2.out
    have k0 := cell_of_row _ _ 0 _ _ _ hr
    have k1 := cell_of_row _ _ 1 _ _ _ hr
    have k2 := cell_of_row _ _ 2 _ _ _ hr
    have k3 := cell_of_row _ _ 3 _ _ _ hr
    simp only [List.getElem?_toArray, List.getElem?_cons_zero, List.getElem?_cons_succ] at k0 k1 k2 k3
    refine bodyPost_ret (v := .tuple #[.agg #[.int .i64 0, .string ⟨#[]⟩, .int .i64 0, .int .i64 0], .int .i64 0, .int .i64 11]) (by simp [results, Tryd.results43, go_sem, k0, k1, k2, k3]) rfl ⟨by rw [HV3.out]; rfl, tok_only _ _ _ _ _ HA2.out (Nat.le_refl _)⟩
  | true =>
    have hv := HV2.out
    rw [if_neg (by simp)] at hv
    have HV3 := Lib.hid hv
    clear hv HV2
    clear y0 y1 y2 y3 z0 z1 z2 z3
    go_wp2
    obtain ⟨g, hg⟩ : ∃ g, g = w2.heap.size := ⟨_, rfl⟩
    have hlt := heap_lt HR2.out
    have HI := Lib.hid (show (w2.iter I 0).heap[g]? = some (.stringIter I 0) by rw [hg]; exact World.iter_heap w2 I 0)
    have HB := Lib.hid (show Only [] w (w2.iter I 0) from HA2.out.alloc _)
    have HRR := Lib.hid (show (w2.iter I 0).heap[w.heap.size]? = _ from ((Only.refl [] w2).alloc (.stringIter I 0)).heap HR2.out (by simp))
    rw [← hg]
    have HG := Lib.hid (show w.heap.size < g by omega)
    clear hg hlt HA2 HR2
    have HL := Lib.hid (rfl : lowFrom I I.size 0 = lowFrom I I.size 0)
    generalize w2.iter I 0 = w3 at *
    go_loopw [] (fun wr => ∃ (pos b : Nat), Hid (wr.heap[g]? = some (.stringIter I pos)) ∧ Hid (Only [] w wr) ∧ Hid (wr.heap[w.heap.size]? = some (.cells #[.int .i64 0, .string ⟨#[]⟩, .int .i64 0, .int .i64 0] 38 (0, 0))) ∧ Hid (lowFrom I I.size 0 = lowFrom I b pos) ∧ I.size ≤ pos + b) (fun wr => I.size - wr.iterPos g)
    case atStart => exact ⟨0, I.size, HI, HB, HRR, HL, by omega⟩
    case round =>
      obtain ⟨pos, b, hi, hb, hrr, hw, hle⟩ := hrel
      clear HI HB HRR HL
      by_cases hp : pos < I.size
      · have hnx : ∀ ty, (Instr.next (.pointer (some ⟨g, 0, none⟩)) true ty).run Tryd.prog wr = _ := fun ty => Lib.run_next_any_at wr g I pos ty hi.out hp
        have hwd := Lib.decode_width_pos I pos hp
        have hdl := decode_le I pos
        obtain ⟨b', rfl⟩ : ∃ b', b = b' + 1 := ⟨b - 1, by omega⟩
        have hw' := hw.out
        rw [show lowFrom I (b' + 1) pos = (decide ((Utf8.decode I pos).1 < 32) || lowFrom I b' (pos + (Utf8.decode I pos).2)) by rw [lowFrom, if_pos hp]] at hw'
        have HW := Lib.hid hw'
        have HI2 := Lib.hid (iterAt_heap wr g I (pos + (Utf8.decode I pos).2) _ hi.out)
        have HB2 := Lib.hid (iterAt_only g I (pos + (Utf8.decode I pos).2) hb.out (by have := HG.out; omega))
        have HR2 := Lib.hid ((iterAt_other wr g I (pos + (Utf8.decode I pos).2) w.heap.size (by have := HG.out; omega)).trans hrr.out)
        have HP := Lib.hid (show wr.iterPos g = pos by unfold World.iterPos; rw [hi.out])
        clear hw hw' hi hb hrr
        generalize wr.iterAt g I (pos + (Utf8.decode I pos).2) = w2 at *
        generalize (Utf8.decode I pos).2 = d2 at *
        generalize (Utf8.decode I pos).1 = d1 at *
        by_cases hd : d1 < 32
        · have hd' : (d1 : Int) < 32 := by omega
          have y0 : w2.cell? ⟨w.heap.size, 0, none⟩ = some (.int .i64 0) := (cell_of_row w2 _ 0 _ _ _ HR2.out).trans rfl
          have y1 : w2.cell? ⟨w.heap.size, 1, none⟩ = some (.string ⟨#[]⟩) := (cell_of_row w2 _ 1 _ _ _ HR2.out).trans rfl
          have y2 : w2.cell? ⟨w.heap.size, 2, none⟩ = some (.int .i64 0) := (cell_of_row w2 _ 2 _ _ _ HR2.out).trans rfl
          have y3 : w2.cell? ⟨w.heap.size, 3, none⟩ = some (.int .i64 0) := (cell_of_row w2 _ 3 _ _ _ HR2.out).trans rfl
          have z0 : w2.frozen? ⟨w.heap.size, 0, none⟩ = false := frozen_of_row w2 _ 0 _ _ HR2.out
          have z1 : w2.frozen? ⟨w.heap.size, 1, none⟩ = false := frozen_of_row w2 _ 1 _ _ HR2.out
          have z2 : w2.frozen? ⟨w.heap.size, 2, none⟩ = false := frozen_of_row w2 _ 2 _ _ HR2.out
          have z3 : w2.frozen? ⟨w.heap.size, 3, none⟩ = false := frozen_of_row w2 _ 3 _ _ HR2.out
          go_wp2
          have hr := tok_store w2 w.heap.size _ _ _ _ (.int .i64 0) (.string ⟨#[]⟩) (.int .i64 0) (.int .i64 0) HR2.out
          have k0 := cell_of_row _ _ 0 _ _ _ hr
          have k1 := cell_of_row _ _ 1 _ _ _ hr
          have k2 := cell_of_row _ _ 2 _ _ _ hr
          have k3 := cell_of_row _ _ 3 _ _ _ hr
          simp only [List.getElem?_toArray, List.getElem?_cons_zero, List.getElem?_cons_succ] at k0 k1 k2 k3
          refine bodyPost_ret (v := .tuple #[.agg #[.int .i64 0, .string ⟨#[]⟩, .int .i64 0, .int .i64 0], .int .i64 0, .int .i64 11]) (by simp [results, Tryd.results43, go_sem, k0, k1, k2, k3]) rfl ⟨?_, tok_only _ _ _ _ _ HB2.out (Nat.le_refl _)⟩
          rw [HV3.out, HW.out, if_pos (by simp [hd])]
          rfl
        · have hd' : (32 : Int) ≤ d1 := by omega
          go_wp2
          go_roundw
          case rel => exact ⟨pos + d2, b', HI2, HB2, HR2, Lib.hid (by rw [HW.out]; simp [hd]), by omega⟩
          case measure =>
            have e1 : w2.iterPos g = pos + d2 := by unfold World.iterPos; rw [HI2.out]
            rw [e1, HP.out]; omega
      · have hnx : ∀ ty, (Instr.next (.pointer (some ⟨g, 0, none⟩)) true ty).run Tryd.prog wr = _ := fun ty => Lib.run_next_end_at wr g I pos ty hi.out hp
        have hwe := hw.out
        rw [lowFrom_end I b pos hp] at hwe
        have hv := HV3.out
        rw [hwe, if_neg (by simp)] at hv
        have HV4 := Lib.hid hv
        have hc2 := Lib.hid (show ∀ W, Calls Tryd.prog 38 #[.string I] W fun e w' => e = .returned (.int .i64 (Lib.runeCount I)) ∧ Below W.heap.size W w' from fun W => utf8_RuneCountInString.calls I _ W (by unfold utf8_RuneCountInString.f; rw [if_pos (by have := HIS.out; omega)]))
        clear hw hwe hv HV3
        go_wp2_with (go_at_call 38; refine (hc2.out _).mono ?_; rintro e w4 ⟨rfl, hb4⟩; have HB4 := Lib.hid hb4; clear hb4; refine (fun (h : Hid _) => h.out) ?_)
        refine Lib.hid ?_
        have HB5 := Lib.hid (hb.out.trans (Only.of_below HB4.out))
        have HR5 := Lib.hid ((Only.of_below HB4.out).heap hrr.out (by simp))
        clear HB4 hb hrr hi hc2
        have y0 : w4.cell? ⟨w.heap.size, 0, none⟩ = some (.int .i64 0) := (cell_of_row w4 _ 0 _ _ _ HR5.out).trans rfl
        have y1 : w4.cell? ⟨w.heap.size, 1, none⟩ = some (.string ⟨#[]⟩) := (cell_of_row w4 _ 1 _ _ _ HR5.out).trans rfl
        have y2 : w4.cell? ⟨w.heap.size, 2, none⟩ = some (.int .i64 0) := (cell_of_row w4 _ 2 _ _ _ HR5.out).trans rfl
        have y3 : w4.cell? ⟨w.heap.size, 3, none⟩ = some (.int .i64 0) := (cell_of_row w4 _ 3 _ _ _ HR5.out).trans rfl
        have z0 : w4.frozen? ⟨w.heap.size, 0, none⟩ = false := frozen_of_row w4 _ 0 _ _ HR5.out
        have z1 : w4.frozen? ⟨w.heap.size, 1, none⟩ = false := frozen_of_row w4 _ 1 _ _ HR5.out
        have z2 : w4.frozen? ⟨w.heap.size, 2, none⟩ = false := frozen_of_row w4 _ 2 _ _ HR5.out
        have z3 : w4.frozen? ⟨w.heap.size, 3, none⟩ = false := frozen_of_row w4 _ 3 _ _ HR5.out
        by_cases hc : 20 < Lib.runeCount I
        · have hc' : (20 : Int) < Lib.runeCount I := by omega
          go_wp2
          have hr := tok_store w4 w.heap.size _ _ _ _ (.int .i64 0) (.string ⟨#[]⟩) (.int .i64 0) (.int .i64 0) HR5.out
          have k0 := cell_of_row _ _ 0 _ _ _ hr
          have k1 := cell_of_row _ _ 1 _ _ _ hr
          have k2 := cell_of_row _ _ 2 _ _ _ hr
          have k3 := cell_of_row _ _ 3 _ _ _ hr
          simp only [List.getElem?_toArray, List.getElem?_cons_zero, List.getElem?_cons_succ] at k0 k1 k2 k3
          refine bodyPost_ret (v := .tuple #[.agg #[.int .i64 0, .string ⟨#[]⟩, .int .i64 0, .int .i64 0], .int .i64 0, .int .i64 2]) (by simp [results, Tryd.results43, go_sem, k0, k1, k2, k3]) rfl ⟨?_, tok_only _ _ _ _ _ HB5.out (Nat.le_refl _)⟩
          rw [HV4.out, if_pos hc]
          rfl
        · have hc' : (Lib.runeCount I : Int) ≤ 20 := by omega
          have hwr : IntKind.i64.wrap ((I.size : Int) + 2) = I.size + 2 := IntWalk.i64_in _ (by have := HIS.out; omega)
          go_wp2
          have hr := tok_store w4 w.heap.size _ _ _ _ (.int .i64 3) (.string I) (.int .i64 0) (.int .i64 0) HR5.out
          have k0 := cell_of_row _ _ 0 _ _ _ hr
          have k1 := cell_of_row _ _ 1 _ _ _ hr
          have k2 := cell_of_row _ _ 2 _ _ _ hr
          have k3 := cell_of_row _ _ 3 _ _ _ hr
          simp only [List.getElem?_toArray, List.getElem?_cons_zero, List.getElem?_cons_succ] at k0 k1 k2 k3
          refine bodyPost_ret (v := .tuple #[.agg #[.int .i64 3, .string I, .int .i64 0, .int .i64 0], .int .i64 ((I.size : Int) + 2), .int .i64 0]) (by simp [results, Tryd.results43, go_sem, k0, k1, k2, k3]) rfl ⟨?_, tok_only _ _ _ _ _ HB5.out (Nat.le_refl _)⟩
          rw [HV4.out, if_neg hc]
end Go.Proofs.YtlikjknakplamaaDoor.Print
/-! ### ENumber -/
namespace Go.Proofs.YtlikjknakplamaaDoor.Print
open Go.RowKit Go.Proofs.YtlikjknakplamaaDoorW.PrintWords Go.Proofs.YtlikjknakplamaaDoorW.PrintLast Go.Proofs.YtlikjknakplamaaDoorW.PrintMore
set_option linter.unusedSimpArgs false
set_option linter.unusedVariables false
theorem pow_le18 (m p : Nat) (h : m < 10 ^ p) (hp : p < 19) : m < 1000000000000000000 := by
  have : 10 ^ p ≤ 10 ^ 18 := Nat.pow_le_pow_right (by omega) (by omega)
  have e : (10 : Nat) ^ 18 = 1000000000000000000 := by decide
  omega
set_option maxHeartbeats 2000000 in
set_option maxRecDepth 100000 in
theorem number_any (a0 : ByteArray) (w : World) :
    Calls Tryd.prog 18 #[.string a0] w fun e w' => e = .returned (.tuple #[.int .i64 (numZ a0).1, .bool (numZ a0).2]) ∧ Below w.heap.size w w' := by
  obtain ⟨V, hV⟩ : ∃ V, V = numZ a0 := ⟨_, rfl⟩
  rw [← hV]
  have HV := Lib.hid hV
  clear hV
  by_cases h0 : a0.size = 0
  · have hv := HV.out
    unfold numZ at hv
    rw [if_pos (.inl h0)] at hv
    have HV2 := Lib.hid hv
    have e0 : a0.toList.isEmpty = true := by
      rw [ByteArray.toList_eq]
      have : a0.data.toList.length = 0 := by rw [Array.length_toList]; exact h0
      rw [List.eq_nil_of_length_eq_zero this]
      rfl
    clear hv HV h0
    go_enter Tryd.func18, Tryd.ntmps18
    go_wp2
    go_ret2
    exact ⟨by rw [HV2.out]; rfl, Below.refl _ _⟩
  · have hp : 0 < a0.size := by omega
    have e0 : a0.toList.isEmpty = false := by have := some_left a0 hp; simpa using this
    by_cases h1 : 19 < a0.size
    · have hv := HV.out
      unfold numZ at hv
      rw [if_pos (.inr (.inl h1))] at hv
      have HV2 := Lib.hid hv
      have h1' : (19 : Int) < a0.size := by omega
      clear hv HV h0
      go_enter Tryd.func18, Tryd.ntmps18
      go_wp2
      go_ret2
      exact ⟨by rw [HV2.out]; rfl, Below.refl _ _⟩
    · have h1' : (a0.size : Int) ≤ 19 := by omega
      by_cases h2 : 1 < a0.size ∧ bAt a0 0 = 48
      · have hv := HV.out
        unfold numZ at hv
        rw [if_pos (.inr (.inr h2))] at hv
        have HV2 := Lib.hid hv
        have h2' : (1 : Int) < a0.size := by omega
        have h0' : (0 : Int) < a0.size := by omega
        have h3 := h2.2
        rw [← bAt_elem a0 0 hp] at h3
        clear hv HV h0 h2
        generalize hx : (a0[0]'hp).toNat = x at *
        subst h3
        go_enter Tryd.func18, Tryd.ntmps18
        go_wp2
        go_ret2
        exact ⟨by rw [HV2.out]; rfl, Below.refl _ _⟩
      · have hv := HV.out
        unfold numZ at hv
        rw [if_neg (by rintro (h | h | h); exact h0 h; exact h1 h; exact h2 h)] at hv
        have HV2 := Lib.hid hv
        have h0' : (0 : Int) < a0.size := by omega
        have hcond : (1 : Int) < a0.size ∧ (((a0[0]'hp).toNat : Int) == 48) = false ∨ (a0.size : Int) ≤ 1 := by
          rw [← bAt_elem a0 0 hp] at h2
          by_cases h3 : 1 < a0.size
          · have : ¬ (a0[0]'hp).toNat = 48 := fun e => h2 ⟨h3, e⟩
            exact .inl ⟨by omega, by rw [beq_eq_false_iff_ne]; omega⟩
          · exact .inr (by omega)
        clear hv HV h0 h2
        rcases hcond with ⟨hc1, hc2⟩ | hc
        all_goals
          go_enter Tryd.func18, Tryd.ntmps18
          go_wp2
          obtain ⟨g, hg⟩ : ∃ g, g = w.heap.size := ⟨_, rfl⟩
          have HI := Lib.hid (show (w.iter a0 0).heap[g]? = some (.stringIter a0 0) by rw [hg]; exact World.iter_heap w a0 0)
          have HB := Lib.hid (show Below w.heap.size w (w.iter a0 0) from (Below.refl _ _).alloc (Nat.le_refl _) _)
          rw [← hg]
          have HG := Lib.hid (show w.heap.size ≤ g by omega)
          clear hg
          generalize w.iter a0 0 = w1 at *
          go_loopw [4, 6] (fun n r wr => ∃ (pos b m : Nat), n = .int .u64 m ∧ Hid (m < 10 ^ pos) ∧ Hid (wr.heap[g]? = some (.stringIter a0 pos)) ∧ Hid (Below w.heap.size w wr) ∧ Hid (V = told (numFrom a0 b pos m)) ∧ a0.size ≤ pos + b) (fun _ _ wr => a0.size - wr.iterPos g)
          case atStart => exact ⟨0, a0.size, 0, rfl, Lib.hid (by decide), HI, HB, HV2, by omega⟩
          case round =>
            obtain ⟨pos, b, m, rfl, hm, hi, hb, hw, hle⟩ := hrel
            clear HI HB HV2
            by_cases hp : pos < a0.size
            · have hnx : ∀ ty, (Instr.next (.pointer (some ⟨g, 0, none⟩)) true ty).run Tryd.prog wr = _ := fun ty => Lib.run_next_any_at wr g a0 pos ty hi.out hp
              have hwd := Lib.decode_width_pos a0 pos hp
              have hdl := decode_le a0 pos
              obtain ⟨b', rfl⟩ : ∃ b', b = b' + 1 := ⟨b - 1, by omega⟩
              have hw' := hw.out
              rw [numFrom, if_pos hp] at hw'
              have hm18 := pow_le18 m pos hm.out (by omega)
              have HI2 := Lib.hid (iterAt_heap wr g a0 (pos + (Utf8.decode a0 pos).2) _ hi.out)
              have HB2 := Lib.hid (iterAt_below g a0 (pos + (Utf8.decode a0 pos).2) hb.out HG.out)
              have HP := Lib.hid (show wr.iterPos g = pos by unfold World.iterPos; rw [hi.out])
              clear hw hi hb
              generalize wr.iterAt g a0 (pos + (Utf8.decode a0 pos).2) = w2 at *
              generalize (Utf8.decode a0 pos).2 = d2 at *
              generalize (Utf8.decode a0 pos).1 = d1 at *
              have hcl := lex_class_any (d1 : Int) (by omega) (by omega)
              by_cases hz : classZ (d1 : Int) = 3
              · have hdr : 48 ≤ d1 ∧ d1 ≤ 57 := by
                  unfold classZ at hz
                  repeat' split at hz
                  all_goals first | omega | (exfalso; omega)
                rw [if_pos hz] at hw'
                have HW := Lib.hid hw'
                rw [hz] at hcl
                clear hw' hz
                have q1 : IntKind.u64.wrap (10 * (m : Int)) = 10 * m := by rw [show ∀ x, IntKind.u64.wrap x = x % 18446744073709551616 from fun _ => rfl]; omega
                have q2 : IntKind.i32.wrap ((d1 : Int) - 48) = d1 - 48 := by rw [IntKind.wrap_i32]; omega
                go_wp2_with (go_at_call 16; refine (hcl _).mono ?_; rintro e w3 ⟨rfl, ⟨n3, rfl⟩⟩)
                go_roundw
                case rel =>
                  refine ⟨pos + d2, b', 10 * m + (d1 - 48), by congr 1; omega, Lib.hid ?_, HI2, Lib.hid (pw_below_drewN HB2.out n3), HW, by omega⟩
                  have h10 : 10 ^ (pos + 1) ≤ 10 ^ (pos + d2) := Nat.pow_le_pow_right (by omega) (by omega)
                  have hmm := hm.out
                  rw [Nat.pow_succ] at h10
                  omega
                case measure =>
                  have e1 : (w2.drewN n3).iterPos g = pos + d2 := by
                    have : (w2.drewN n3).heap[g]? = some (.stringIter a0 (pos + d2)) := HI2.out
                    unfold World.iterPos; rw [this]
                  rw [e1, HP.out]; omega
              · rw [if_neg hz] at hw'
                have HW := Lib.hid hw'
                have hzz : (classZ (d1 : Int) == 3) = false := by simpa using hz
                clear hw' hm hm18
                generalize classZ (d1 : Int) = c at *
                have hcc : (c != 3) = true := by simpa using hz
                go_wp2_with (go_at_call 16; refine (hcl _).mono ?_; rintro e w3 ⟨rfl, ⟨n3, rfl⟩⟩)
                go_ret2
                exact ⟨by rw [HW.out]; rfl, pw_below_drewN HB2.out n3⟩
            · have hnx : ∀ ty, (Instr.next (.pointer (some ⟨g, 0, none⟩)) true ty).run Tryd.prog wr = _ := fun ty => Lib.run_next_end_at wr g a0 pos ty hi.out hp
              have hwe := hw.out
              rw [numFrom_end a0 b pos m hp] at hwe
              unfold told at hwe
              have hm2 : m < 10000000000000000000 ∨ 19 < pos := by
                by_cases h19 : pos ≤ 19
                · have : 10 ^ pos ≤ 10 ^ 19 := Nat.pow_le_pow_right (by omega) h19
                  have := hm.out
                  exact .inl (by omega)
                · exact .inr (by omega)
              by_cases hbig : 9223372036854775807 < m
              · simp only [if_pos hbig] at hwe
                have HW := Lib.hid hwe
                have hbig' : (9223372036854775807 : Int) < m := by omega
                clear hw hwe hm hm2
                go_wp2
                go_ret2
                exact ⟨by rw [HW.out]; rfl, hb.out⟩
              · simp only [if_neg hbig] at hwe
                have HW := Lib.hid hwe
                have hbig' : (m : Int) ≤ 9223372036854775807 := by omega
                clear hw hwe hm hm2
                go_wp2
                go_ret2
                exact ⟨by rw [HW.out]; rfl, hb.out⟩
end Go.Proofs.YtlikjknakplamaaDoor.Print
/-! ### ELx5 -/
namespace Go.Proofs.YtlikjknakplamaaDoor.Print
open Go.RowKit Go.Proofs.YtlikjknakplamaaDoorW.PrintWords Go.Proofs.YtlikjknakplamaaDoorW.PrintLast Go.Proofs.YtlikjknakplamaaDoorW.PrintMore
set_option linter.unusedSimpArgs false
set_option linter.unusedVariables false
theorem decode_end (s : ByteArray) (p : Nat) (h : p < s.size) : p + (Utf8.decode s p).2 ≤ s.size := by
  rw [Lib.decode_at]
  unfold Lib.decodeN
  repeat' split
  all_goals (simp only; omega)
theorem decode_cut (s : ByteArray) (p : Nat) (h : p < s.size) : Lib.decodeGo (s.extract p s.size) = Utf8.decode s p := by
  have h1 : (s.extract p s.size).size ≠ 0 := by rw [ByteArray.size_extract]; omega
  unfold Lib.decodeGo
  rw [if_neg h1, ← Lib.decodeL_drop s p]
  unfold Lib.decodeL
  congr 1
  have e : (s.extract p s.size).data.toList = s.data.toList.drop p := by
    rw [ByteArray.data_extract, Array.toList_extract, List.extract_eq_take_drop, List.take_of_length_le]
    rw [List.length_drop, Array.length_toList]
    exact Nat.le_refl _
  cases hx : s.extract p s.size with | mk d =>
  rw [hx] at e
  rw [← e]
theorem dec_any (s : ByteArray) (w : World) (hT : Tabs w) (h : 0 < s.size) :
    Calls Tryd.prog 41 #[.string s] w fun e w' => e = .returned (.tuple #[.int .i32 (Utf8.decode s 0).1, .int .i64 (Utf8.decode s 0).2]) ∧ Below w.heap.size w w' := by
  have e : Lib.decodeGo s = Utf8.decode s 0 := by unfold Lib.decodeGo; rw [if_neg (by omega)]
  have := Tryd.utf8_DecodeRuneInString s w hT.u8
  rw [e] at this
  exact this
theorem dec_cut_any (s : ByteArray) (p : Nat) (w : World) (hT : Tabs w) (h : p < s.size) :
    Calls Tryd.prog 41 #[.string (s.extract p s.size)] w fun e w' => e = .returned (.tuple #[.int .i32 (Utf8.decode s p).1, .int .i64 (Utf8.decode s p).2]) ∧ Below w.heap.size w w' := by
  have := Tryd.utf8_DecodeRuneInString (s.extract p s.size) w hT.u8
  rw [decode_cut s p h] at this
  exact this
set_option maxHeartbeats 2000000 in
set_option maxRecDepth 100000 in
theorem bad_any (a0 : ByteArray) (w : World) (hs : a0.size ≤ 1000000000) (hT : Tabs w) :
    Calls Tryd.prog 28 #[.string a0] w fun e w' => e = .returned (.int .i64 (badZ a0)) ∧ Below w.heap.size w w' := by
  obtain ⟨V, hV⟩ : ∃ V, V = badZ a0 := ⟨_, rfl⟩
  rw [← hV]
  have HV := Lib.hid (show V = badFrom a0 a0.size 0 0 from hV)
  have HT := Lib.hid hT
  clear hV hT
  go_enter Tryd.func28, Tryd.ntmps28
  go_wp2
  obtain ⟨g, hg⟩ : ∃ g, g = w.heap.size := ⟨_, rfl⟩
  have HI := Lib.hid (show (w.iter a0 0).heap[g]? = some (.stringIter a0 0) by rw [hg]; exact World.iter_heap w a0 0)
  have HB := Lib.hid (show Below w.heap.size w (w.iter a0 0) from (Below.refl _ _).alloc (Nat.le_refl _) _)
  rw [← hg]
  have HG := Lib.hid (show w.heap.size ≤ g by omega)
  clear hg
  generalize w.iter a0 0 = w1 at *
  go_loopw [3, 4, 5, 6, 7] (fun n _ _ _ _ wr => ∃ (pos b m : Nat), n = .int .i64 m ∧ Hid (m ≤ pos) ∧ Hid (pos ≤ a0.size) ∧ Hid (wr.heap[g]? = some (.stringIter a0 pos)) ∧ Hid (Below w.heap.size w wr) ∧ Hid (V = badFrom a0 b pos m) ∧ a0.size ≤ pos + b) (fun _ _ _ _ _ wr => a0.size - wr.iterPos g)
  case atStart => exact ⟨0, a0.size, 0, rfl, Lib.hid (by omega), Lib.hid (by omega), HI, HB, HV, by omega⟩
  case round =>
    obtain ⟨pos, b, m, rfl, hm, hpa, hi, hb, hw, hle⟩ := hrel
    clear HI HB HV
    by_cases hp : pos < a0.size
    · have hnx : ∀ ty, (Instr.next (.pointer (some ⟨g, 0, none⟩)) true ty).run Tryd.prog wr = _ := fun ty => Lib.run_next_any_at wr g a0 pos ty hi.out hp
      have hwd := Lib.decode_width_pos a0 pos hp
      have hwm := Lib.hid (decode_end a0 pos hp)
      have hdl := decode_le a0 pos
      obtain ⟨b', rfl⟩ : ∃ b', b = b' + 1 := ⟨b - 1, by omega⟩
      have hw' := hw.out
      rw [badFrom, if_pos hp] at hw'
      have hmb : (m : Int) ≤ 1000000000 := by have := hm.out; omega
      have hps : (pos : Int) ≤ a0.size := by omega
      have hps0 : (0 : Int) ≤ pos := by omega
      have HI2 := Lib.hid (iterAt_heap wr g a0 (pos + (Utf8.decode a0 pos).2) _ hi.out)
      have HB2 := Lib.hid (iterAt_below g a0 (pos + (Utf8.decode a0 pos).2) hb.out HG.out)
      have HP := Lib.hid (show wr.iterPos g = pos by unfold World.iterPos; rw [hi.out])
      have HD := Lib.hid (fun W (hW : Tabs W) => dec_cut_any a0 pos W hW hp)
      clear hw hi hb
      generalize wr.iterAt g a0 (pos + (Utf8.decode a0 pos).2) = w2 at *
      generalize (Utf8.decode a0 pos).2 = d2 at *
      generalize (Utf8.decode a0 pos).1 = d1 at *
      by_cases h1 : d1 = 65533
      · subst h1
        by_cases h2 : d2 = 1
        · subst h2
          rw [if_pos ⟨rfl, rfl⟩] at hw'
          have HW := Lib.hid hw'
          clear hw'
          go_wp2_with (go_at_call 41; refine (HD.out _ (HT.out.below HB2.out)).mono ?_; rintro e w3 ⟨rfl, hb3⟩; have HB3 := Lib.hid (below_then HB2.out HB2.out.size hb3); clear hb3)
          go_ret
          exact ⟨by rw [HW.out]; rfl, HB3.out⟩
        · have h2' : ((d2 : Int) == 1) = false := by rw [beq_eq_false_iff_ne]; omega
          rw [if_neg (fun h => h2 h.2)] at hw'
          have HW := Lib.hid hw'
          clear hw'
          go_wp2_with (go_at_call 41; refine (HD.out _ (HT.out.below HB2.out)).mono ?_; rintro e w3 ⟨rfl, hb3⟩; have HB3 := Lib.hid (below_then HB2.out HB2.out.size hb3); have HI3 := Lib.hid hb3; clear hb3)
          go_roundw
          case rel => exact ⟨pos + d2, b', m + 1, by congr 1, Lib.hid (by have := hm.out; omega), Lib.hid (by have := hwm.out; omega), Lib.hid ((HI3.out.block g (heap_lt HI2.out)).trans HI2.out), HB3, HW, by omega⟩
          case measure =>
            have e1 : w3.iterPos g = pos + d2 := by unfold World.iterPos; rw [(HI3.out.block g (heap_lt HI2.out)).trans HI2.out]
            rw [e1, HP.out]; omega
      · have h1' : ((d1 : Int) == 65533) = false := by rw [beq_eq_false_iff_ne]; omega
        rw [if_neg (fun h => h1 h.1)] at hw'
        have HW := Lib.hid hw'
        clear hw'
        go_wp2
        go_roundw
        case rel => exact ⟨pos + d2, b', m + 1, by congr 1, Lib.hid (by have := hm.out; omega), Lib.hid (by have := hwm.out; omega), HI2, HB2, HW, by omega⟩
        case measure =>
          have e1 : w2.iterPos g = pos + d2 := by unfold World.iterPos; rw [HI2.out]
          rw [e1, HP.out]; omega
    · have hnx : ∀ ty, (Instr.next (.pointer (some ⟨g, 0, none⟩)) true ty).run Tryd.prog wr = _ := fun ty => Lib.run_next_end_at wr g a0 pos ty hi.out hp
      have hwe := hw.out
      rw [badFrom_end a0 b pos m hp] at hwe
      have HW := Lib.hid hwe
      clear hw hwe
      go_wp2
      go_ret
      exact ⟨by rw [HW.out]; rfl, hb.out⟩
end Go.Proofs.YtlikjknakplamaaDoor.Print
/-! ### ELx6 -/
namespace Go.Proofs.YtlikjknakplamaaDoor.Print
open Go.RowKit Go.Proofs.YtlikjknakplamaaDoorW.PrintWords Go.Proofs.YtlikjknakplamaaDoorW.PrintLast Go.Proofs.YtlikjknakplamaaDoorW.PrintMore
set_option linter.unusedSimpArgs false
set_option linter.unusedVariables false
theorem get0_val (s : ByteArray) (h : 0 < s.size) : (s[0]'h) = s.get! 0 := by
  have := get_at s 0 h
  rw [Nat.add_zero] at this
  exact this.symm
set_option maxHeartbeats 4000000 in
set_option maxRecDepth 100000 in
theorem token_any (gc : Nat) (x : ByteArray) (at' : Int) (o : Value) (w : World) (hgc : CutAt w gc x at' o) (hx : 1 ≤ x.size) (hs : x.size ≤ 1000000000) (hT : Tabs w) :
    Calls Tryd.prog 30 #[.pointer (some ⟨gc, 0, none⟩)] w fun e w' => e = .returned (.tuple #[tokV (tokenZ x).1, .int .i64 (tokenZ x).2.1, .int .i64 (tokenZ x).2.2]) ∧ Only [] w w' := by
  obtain ⟨V, hV⟩ : ∃ V, V = tokenZ x := ⟨_, rfl⟩
  rw [← hV]
  unfold tokenZ at hV
  have HSG := Lib.hid (show signN x = if 1 < x.size ∧ bAt x 1 = 61 ∧ 0 ≤ Lib.indexByte twoSigns (x.get! 0) then 2 else (Utf8.decode x 0).2 from rfl)
  have hD := fun W (hW : Tabs W) => dec_any x W hW (by omega)
  have hC := fun W => lex_class_any ((Utf8.decode x 0).1 : Int) (by omega) (by have := decode_le x 0; omega) W
  have hWd := fun W (hW : CutAt W gc x at' o) => word_any gc x at' o W hW
  have hle := wordEnd_le x x.size 0
  have hd1 := Lib.decode_width_pos x 0 (by omega)
  have hd2 := decode_end x 0 (by omega)
  rw [Nat.zero_add] at hd2
  have HTX := Lib.hid (fun W (hW : CutAt W gc x at' o) (hT : Tabs W) => text_any gc x at' o W hW hx hs hT)
  generalize (Utf8.decode x 0).1 = r at *
  generalize (Utf8.decode x 0).2 = d at *
  generalize wordEnd x x.size 0 = n at *
  generalize textZ x = tz at *
  have HCT := Lib.hid (fun W => utf8_RuneCountInString.calls (x.extract 0 n) (Lib.runeCount (x.extract 0 n)) W (by unfold utf8_RuneCountInString.f; rw [if_pos (by rw [ByteArray.size_extract]; omega)]))
  have HNU := Lib.hid (fun W => number_any (x.extract 0 n) W)
  generalize Lib.runeCount (x.extract 0 n) = rc at *
  generalize numZ (x.extract 0 n) = nz at *
  generalize signN x = sn at *
  generalize classZ (r : Int) = c at *
  have HV := Lib.hid hV
  have HD := Lib.hid hD
  have HC := Lib.hid hC
  have HWD := Lib.hid hWd
  have HTB := Lib.hid hT
  have hu2 := Tryd.underlying47
  have hu3 := Tryd.underlying38
  have hx' : (1 : Int) ≤ x.size := by omega
  have hn0 : (0 : Int) ≤ n := by omega
  have hn1 : (n : Int) ≤ x.size := by omega
  have hdn0 : (0 : Int) ≤ d := by omega
  have hdn1 : (d : Int) ≤ x.size := by omega
  have HA := Lib.hid (show Only [] w (w.alloc (.cells #[.int .i64 0, .string ⟨#[]⟩, .int .i64 0, .int .i64 0] 38)) from (Only.refl _ _).alloc _)
  have HR := Lib.hid (heap_alloc_new w (.cells #[.int .i64 0, .string ⟨#[]⟩, .int .i64 0, .int .i64 0] 38))
  have c0 : (w.alloc (.cells #[.int .i64 0, .string ⟨#[]⟩, .int .i64 0, .int .i64 0] 38)).cell? ⟨gc, 0, none⟩ = some (.string x) := (cell_of_row _ gc 0 _ _ _ (HA.out.heap hgc (by simp))).trans rfl
  have HGC := Lib.hid hgc
  clear hV hD hC hWd hT hgc hle hd1 hd2
  go_enter Tryd.func30, Tryd.ntmps30
  go_wp2_with (first
    | (go_at_call 41; refine (HD.out _ (HTB.out.below HA.out.nil_below)).mono ?_; rintro e w1 ⟨rfl, hb1⟩; have HB1 := Lib.hid (HA.out.trans (Only.of_below hb1)); have HR1 := Lib.hid ((Only.of_below hb1).heap HR.out (by simp)); clear hb1)
    | (go_at_call 16; refine (HC.out _).mono ?_; rintro e w2 ⟨rfl, ⟨n2, rfl⟩⟩; refine (fun (h : Hid _) => h.out) ?_))
  refine Lib.hid ?_
  have HB := Lib.hid (show Only [] w (w1.drewN n2) from HB1.out.drewN n2)
  have HRW := Lib.hid (show (w1.drewN n2).heap[w.heap.size]? = some (.cells #[.int .i64 0, .string ⟨#[]⟩, .int .i64 0, .int .i64 0] 38 (0, 0)) from HR1.out)
  clear HB1 HR1 HA HR c0 HD HC
  generalize w1.drewN n2 = w2 at *
  have c0 : w2.cell? ⟨gc, 0, none⟩ = some (.string x) := (cell_of_row _ gc 0 _ _ _ (HB.out.heap HGC.out (by simp))).trans rfl
  by_cases h2 : c = 2
  · have hv := HV.out
    rw [if_pos h2] at hv
    have HV2 := Lib.hid hv
    subst h2
    clear hv HV
    go_wp2_with (first
      | (go_at_call 42; refine (HWD.out _ (HB.out.heap HGC.out (by simp))).mono ?_; rintro e w3 ⟨rfl, ho3⟩; have HB3 := Lib.hid (HB.out.trans ho3); have HR3 := Lib.hid (ho3.heap HRW.out (by simp)); have c3 : w3.cell? ⟨gc, 0, none⟩ = some (.string x) := (cell_of_row _ gc 0 _ _ _ (HB3.out.heap HGC.out (by simp))).trans rfl; clear ho3)
      | (go_at_call 38; refine (HCT.out _).mono ?_; rintro e w4 ⟨rfl, hb4⟩; have HB4 := Lib.hid (HB3.out.trans (Only.of_below hb4)); have HR4 := Lib.hid ((Only.of_below hb4).heap HR3.out (by simp)); have c4 : w4.cell? ⟨gc, 0, none⟩ = some (.string x) := (cell_of_row _ gc 0 _ _ _ (HB4.out.heap HGC.out (by simp))).trans rfl; clear hb4; refine (fun (h : Hid _) => h.out) ?_))
    refine Lib.hid ?_
    have y0 : w4.cell? ⟨w.heap.size, 0, none⟩ = some (.int .i64 0) := (cell_of_row w4 _ 0 _ _ _ HR4.out).trans rfl
    have y1 : w4.cell? ⟨w.heap.size, 1, none⟩ = some (.string ⟨#[]⟩) := (cell_of_row w4 _ 1 _ _ _ HR4.out).trans rfl
    have y2 : w4.cell? ⟨w.heap.size, 2, none⟩ = some (.int .i64 0) := (cell_of_row w4 _ 2 _ _ _ HR4.out).trans rfl
    have y3 : w4.cell? ⟨w.heap.size, 3, none⟩ = some (.int .i64 0) := (cell_of_row w4 _ 3 _ _ _ HR4.out).trans rfl
    have z0 : w4.frozen? ⟨w.heap.size, 0, none⟩ = false := frozen_of_row w4 _ 0 _ _ HR4.out
    have z1 : w4.frozen? ⟨w.heap.size, 1, none⟩ = false := frozen_of_row w4 _ 1 _ _ HR4.out
    have z2 : w4.frozen? ⟨w.heap.size, 2, none⟩ = false := frozen_of_row w4 _ 2 _ _ HR4.out
    have z3 : w4.frozen? ⟨w.heap.size, 3, none⟩ = false := frozen_of_row w4 _ 3 _ _ HR4.out
    by_cases h12 : 12 < rc
    · have h12' : (12 : Int) < rc := by omega
      go_wp2
      have hr := tok_store w4 w.heap.size _ _ _ _ (.int .i64 0) (.string ⟨#[]⟩) (.int .i64 0) (.int .i64 0) HR4.out
      have k0 := cell_of_row _ _ 0 _ _ _ hr
      have k1 := cell_of_row _ _ 1 _ _ _ hr
      have k2 := cell_of_row _ _ 2 _ _ _ hr
      have k3 := cell_of_row _ _ 3 _ _ _ hr
      simp only [List.getElem?_toArray, List.getElem?_cons_zero, List.getElem?_cons_succ] at k0 k1 k2 k3
      refine bodyPost_ret (v := .tuple #[.agg #[.int .i64 0, .string ⟨#[]⟩, .int .i64 0, .int .i64 0], .int .i64 0, .int .i64 2]) (by simp [results, Tryd.results30, go_sem, k0, k1, k2, k3]) rfl ⟨?_, tok_only _ _ _ _ _ HB4.out (Nat.le_refl _)⟩
      rw [HV2.out, if_pos h12]; rfl
    · have h12' : (rc : Int) ≤ 12 := by omega
      go_wp2
      have hr := tok_store w4 w.heap.size _ _ _ _ (.int .i64 1) (.string (x.extract 0 n)) (.int .i64 0) (.int .i64 0) HR4.out
      have k0 := cell_of_row _ _ 0 _ _ _ hr
      have k1 := cell_of_row _ _ 1 _ _ _ hr
      have k2 := cell_of_row _ _ 2 _ _ _ hr
      have k3 := cell_of_row _ _ 3 _ _ _ hr
      simp only [List.getElem?_toArray, List.getElem?_cons_zero, List.getElem?_cons_succ] at k0 k1 k2 k3
      refine bodyPost_ret (v := .tuple #[.agg #[.int .i64 1, .string (x.extract 0 n), .int .i64 0, .int .i64 0], .int .i64 n, .int .i64 0]) (by simp [results, Tryd.results30, go_sem, k0, k1, k2, k3]) rfl ⟨?_, tok_only _ _ _ _ _ HB4.out (Nat.le_refl _)⟩
      rw [HV2.out, if_neg h12]
  · have h2b : (c == 2) = false := by simpa using h2
    have hv := HV.out
    rw [if_neg h2] at hv
    by_cases h3 : c = 3
    · rw [if_pos h3] at hv
      have HV2 := Lib.hid hv
      subst h3
      clear hv HV
      obtain ⟨nv, nb⟩ := nz
      go_wp2_with (first
        | (go_at_call 42; refine (HWD.out _ (HB.out.heap HGC.out (by simp))).mono ?_; rintro e w3 ⟨rfl, ho3⟩; have HB3 := Lib.hid (HB.out.trans ho3); have HR3 := Lib.hid (ho3.heap HRW.out (by simp)); have c3 : w3.cell? ⟨gc, 0, none⟩ = some (.string x) := (cell_of_row _ gc 0 _ _ _ (HB3.out.heap HGC.out (by simp))).trans rfl; clear ho3)
        | (go_at_call 18; refine (HNU.out _).mono ?_; rintro e w4 ⟨rfl, hb4⟩; have HB4 := Lib.hid (HB3.out.trans (Only.of_below hb4)); have HR4 := Lib.hid ((Only.of_below hb4).heap HR3.out (by simp)); have c4 : w4.cell? ⟨gc, 0, none⟩ = some (.string x) := (cell_of_row _ gc 0 _ _ _ (HB4.out.heap HGC.out (by simp))).trans rfl; clear hb4; refine (fun (h : Hid _) => h.out) ?_))
      refine Lib.hid ?_
      have y0 : w4.cell? ⟨w.heap.size, 0, none⟩ = some (.int .i64 0) := (cell_of_row w4 _ 0 _ _ _ HR4.out).trans rfl
      have y1 : w4.cell? ⟨w.heap.size, 1, none⟩ = some (.string ⟨#[]⟩) := (cell_of_row w4 _ 1 _ _ _ HR4.out).trans rfl
      have y2 : w4.cell? ⟨w.heap.size, 2, none⟩ = some (.int .i64 0) := (cell_of_row w4 _ 2 _ _ _ HR4.out).trans rfl
      have y3 : w4.cell? ⟨w.heap.size, 3, none⟩ = some (.int .i64 0) := (cell_of_row w4 _ 3 _ _ _ HR4.out).trans rfl
      have z0 : w4.frozen? ⟨w.heap.size, 0, none⟩ = false := frozen_of_row w4 _ 0 _ _ HR4.out
      have z1 : w4.frozen? ⟨w.heap.size, 1, none⟩ = false := frozen_of_row w4 _ 1 _ _ HR4.out
      have z2 : w4.frozen? ⟨w.heap.size, 2, none⟩ = false := frozen_of_row w4 _ 2 _ _ HR4.out
      have z3 : w4.frozen? ⟨w.heap.size, 3, none⟩ = false := frozen_of_row w4 _ 3 _ _ HR4.out
      cases nb with
      | false =>
        go_wp2
        have hr := tok_store w4 w.heap.size _ _ _ _ (.int .i64 0) (.string ⟨#[]⟩) (.int .i64 0) (.int .i64 0) HR4.out
        have k0 := cell_of_row _ _ 0 _ _ _ hr
        have k1 := cell_of_row _ _ 1 _ _ _ hr
        have k2 := cell_of_row _ _ 2 _ _ _ hr
        have k3 := cell_of_row _ _ 3 _ _ _ hr
        simp only [List.getElem?_toArray, List.getElem?_cons_zero, List.getElem?_cons_succ] at k0 k1 k2 k3
        refine bodyPost_ret (v := .tuple #[.agg #[.int .i64 0, .string ⟨#[]⟩, .int .i64 0, .int .i64 0], .int .i64 0, .int .i64 11]) (by simp [results, Tryd.results30, go_sem, k0, k1, k2, k3]) rfl ⟨?_, tok_only _ _ _ _ _ HB4.out (Nat.le_refl _)⟩
        rw [HV2.out, if_neg (by simp)]; rfl
      | true =>
        go_wp2
        have hr := tok_store w4 w.heap.size _ _ _ _ (.int .i64 2) (.string (x.extract 0 n)) (.int .i64 nv) (.int .i64 0) HR4.out
        have k0 := cell_of_row _ _ 0 _ _ _ hr
        have k1 := cell_of_row _ _ 1 _ _ _ hr
        have k2 := cell_of_row _ _ 2 _ _ _ hr
        have k3 := cell_of_row _ _ 3 _ _ _ hr
        simp only [List.getElem?_toArray, List.getElem?_cons_zero, List.getElem?_cons_succ] at k0 k1 k2 k3
        refine bodyPost_ret (v := .tuple #[.agg #[.int .i64 2, .string (x.extract 0 n), .int .i64 nv, .int .i64 0], .int .i64 n, .int .i64 0]) (by simp [results, Tryd.results30, go_sem, k0, k1, k2, k3]) rfl ⟨?_, tok_only _ _ _ _ _ HB4.out (Nat.le_refl _)⟩
        rw [HV2.out, if_pos trivial]
    · have h3b : (c == 3) = false := by simpa using h3
      rw [if_neg h3] at hv
      by_cases h5 : c = 5
      · rw [if_pos h5] at hv
        have HV2 := Lib.hid hv
        subst h5
        clear hv HV
        obtain ⟨⟨tk, ts, tn, ta⟩, tl, te⟩ := tz
        go_wp2_with (go_at_call 43; refine (HTX.out _ (HB.out.heap HGC.out (by simp)) (HTB.out.below HB.out.nil_below)).mono ?_; rintro e w3 ⟨rfl, ho3⟩; have HB3 := Lib.hid (HB.out.trans ho3); have HR3 := Lib.hid (ho3.heap HRW.out (by simp)); clear ho3; refine (fun (h : Hid _) => h.out) ?_)
        refine Lib.hid ?_
        have y0 : w3.cell? ⟨w.heap.size, 0, none⟩ = some (.int .i64 0) := (cell_of_row w3 _ 0 _ _ _ HR3.out).trans rfl
        have y1 : w3.cell? ⟨w.heap.size, 1, none⟩ = some (.string ⟨#[]⟩) := (cell_of_row w3 _ 1 _ _ _ HR3.out).trans rfl
        have y2 : w3.cell? ⟨w.heap.size, 2, none⟩ = some (.int .i64 0) := (cell_of_row w3 _ 2 _ _ _ HR3.out).trans rfl
        have y3 : w3.cell? ⟨w.heap.size, 3, none⟩ = some (.int .i64 0) := (cell_of_row w3 _ 3 _ _ _ HR3.out).trans rfl
        have z0 : w3.frozen? ⟨w.heap.size, 0, none⟩ = false := frozen_of_row w3 _ 0 _ _ HR3.out
        have z1 : w3.frozen? ⟨w.heap.size, 1, none⟩ = false := frozen_of_row w3 _ 1 _ _ HR3.out
        have z2 : w3.frozen? ⟨w.heap.size, 2, none⟩ = false := frozen_of_row w3 _ 2 _ _ HR3.out
        have z3 : w3.frozen? ⟨w.heap.size, 3, none⟩ = false := frozen_of_row w3 _ 3 _ _ HR3.out
        go_wp2
        have hr := tok_store w3 w.heap.size _ _ _ _ (.int .i64 tk) (.string ts) (.int .i64 tn) (.int .i64 ta) HR3.out
        have k0 := cell_of_row _ _ 0 _ _ _ hr
        have k1 := cell_of_row _ _ 1 _ _ _ hr
        have k2 := cell_of_row _ _ 2 _ _ _ hr
        have k3 := cell_of_row _ _ 3 _ _ _ hr
        simp only [List.getElem?_toArray, List.getElem?_cons_zero, List.getElem?_cons_succ] at k0 k1 k2 k3
        refine bodyPost_ret (v := .tuple #[.agg #[.int .i64 tk, .string ts, .int .i64 tn, .int .i64 ta], .int .i64 tl, .int .i64 te]) (by simp [results, Tryd.results30, go_sem, k0, k1, k2, k3]) rfl ⟨?_, tok_only _ _ _ _ _ HB3.out (Nat.le_refl _)⟩
        rw [HV2.out]
      · have h5b : (c == 5) = false := by simpa using h5
        rw [if_neg h5] at hv
        by_cases h4 : c = 4
        · rw [if_pos h4] at hv
          have HV2 := Lib.hid hv
          subst h4
          clear hv HV
          have hsg := HSG.out
          by_cases s1 : 1 < x.size
          · have s1' : (1 : Int) < x.size := by omega
            by_cases s2 : bAt x 1 = 61
            · have s2b : (((x[1]'s1).toNat : Int) == 61) = true := by rw [← bAt_elem x 1 s1] at s2; simp [s2]
              obtain ⟨ib, hib⟩ : ∃ ib, ib = Lib.indexByte twoSigns (x.get! 0) := ⟨_, rfl⟩
              rw [← hib] at hsg
              have hIB : ∀ W, Calls Tryd.prog 35 #[.string ⟨#[60, 62, 61, 33, 58]⟩, .int .u8 ((x[0]'(by omega)).toNat : Int)] W fun e w' => e = .returned (.int .i64 ib) ∧ Drawn0 W w' := fun W =>
                strings_IndexByte.calls _ _ _ W (by unfold strings_IndexByte.f; rw [hib, get0_val x (by omega)]; simp [twoSigns])
              have HIB := Lib.hid hIB
              clear hIB hib
              go_wp2_with (go_at_call 35; refine (HIB.out _).mono ?_; rintro e w3 ⟨rfl, ⟨n3, rfl⟩⟩; refine (fun (h : Hid _) => h.out) ?_)
              refine Lib.hid ?_
              have HB3 := Lib.hid (show Only [] w (w2.drewN n3) from HB.out.drewN n3)
              have HR3 := Lib.hid (show (w2.drewN n3).heap[w.heap.size]? = some (.cells #[.int .i64 0, .string ⟨#[]⟩, .int .i64 0, .int .i64 0] 38 (0, 0)) from HRW.out)
              clear c0 HB HRW
              generalize w2.drewN n3 = w3 at *
              have c3 : w3.cell? ⟨gc, 0, none⟩ = some (.string x) := (cell_of_row _ gc 0 _ _ _ (HB3.out.heap HGC.out (by simp))).trans rfl
              have y0 : w3.cell? ⟨w.heap.size, 0, none⟩ = some (.int .i64 0) := (cell_of_row w3 _ 0 _ _ _ HR3.out).trans rfl
              have y1 : w3.cell? ⟨w.heap.size, 1, none⟩ = some (.string ⟨#[]⟩) := (cell_of_row w3 _ 1 _ _ _ HR3.out).trans rfl
              have y2 : w3.cell? ⟨w.heap.size, 2, none⟩ = some (.int .i64 0) := (cell_of_row w3 _ 2 _ _ _ HR3.out).trans rfl
              have y3 : w3.cell? ⟨w.heap.size, 3, none⟩ = some (.int .i64 0) := (cell_of_row w3 _ 3 _ _ _ HR3.out).trans rfl
              have z0 : w3.frozen? ⟨w.heap.size, 0, none⟩ = false := frozen_of_row w3 _ 0 _ _ HR3.out
              have z1 : w3.frozen? ⟨w.heap.size, 1, none⟩ = false := frozen_of_row w3 _ 1 _ _ HR3.out
              have z2 : w3.frozen? ⟨w.heap.size, 2, none⟩ = false := frozen_of_row w3 _ 2 _ _ HR3.out
              have z3 : w3.frozen? ⟨w.heap.size, 3, none⟩ = false := frozen_of_row w3 _ 3 _ _ HR3.out
              by_cases s3 : 0 ≤ ib
              · rw [if_pos ⟨s1, s2, s3⟩] at hsg
                subst hsg
                go_wp2
                have hr := tok_store w3 w.heap.size _ _ _ _ (.int .i64 4) (.string (x.extract 0 2)) (.int .i64 0) (.int .i64 0) HR3.out
                have k0 := cell_of_row _ _ 0 _ _ _ hr
                have k1 := cell_of_row _ _ 1 _ _ _ hr
                have k2 := cell_of_row _ _ 2 _ _ _ hr
                have k3 := cell_of_row _ _ 3 _ _ _ hr
                simp only [List.getElem?_toArray, List.getElem?_cons_zero, List.getElem?_cons_succ] at k0 k1 k2 k3
                refine bodyPost_ret (v := .tuple #[.agg #[.int .i64 4, .string (x.extract 0 2), .int .i64 0, .int .i64 0], .int .i64 2, .int .i64 0]) (by simp [results, Tryd.results30, go_sem, k0, k1, k2, k3]) rfl ⟨?_, tok_only _ _ _ _ _ HB3.out (Nat.le_refl _)⟩
                rw [HV2.out]; rfl
              · have s3' : ib < 0 := by omega
                rw [if_neg (fun h => s3 h.2.2)] at hsg
                subst hsg
                go_wp2
                have hr := tok_store w3 w.heap.size _ _ _ _ (.int .i64 4) (.string (x.extract 0 sn)) (.int .i64 0) (.int .i64 0) HR3.out
                have k0 := cell_of_row _ _ 0 _ _ _ hr
                have k1 := cell_of_row _ _ 1 _ _ _ hr
                have k2 := cell_of_row _ _ 2 _ _ _ hr
                have k3 := cell_of_row _ _ 3 _ _ _ hr
                simp only [List.getElem?_toArray, List.getElem?_cons_zero, List.getElem?_cons_succ] at k0 k1 k2 k3
                refine bodyPost_ret (v := .tuple #[.agg #[.int .i64 4, .string (x.extract 0 sn), .int .i64 0, .int .i64 0], .int .i64 sn, .int .i64 0]) (by simp [results, Tryd.results30, go_sem, k0, k1, k2, k3]) rfl ⟨?_, tok_only _ _ _ _ _ HB3.out (Nat.le_refl _)⟩
                rw [HV2.out]
            · have s2b : (((x[1]'s1).toNat : Int) == 61) = false := by rw [← bAt_elem x 1 s1] at s2; rw [beq_eq_false_iff_ne]; omega
              rw [if_neg (fun h => s2 h.2.1)] at hsg
              subst hsg
              have y0 : w2.cell? ⟨w.heap.size, 0, none⟩ = some (.int .i64 0) := (cell_of_row w2 _ 0 _ _ _ HRW.out).trans rfl
              have y1 : w2.cell? ⟨w.heap.size, 1, none⟩ = some (.string ⟨#[]⟩) := (cell_of_row w2 _ 1 _ _ _ HRW.out).trans rfl
              have y2 : w2.cell? ⟨w.heap.size, 2, none⟩ = some (.int .i64 0) := (cell_of_row w2 _ 2 _ _ _ HRW.out).trans rfl
              have y3 : w2.cell? ⟨w.heap.size, 3, none⟩ = some (.int .i64 0) := (cell_of_row w2 _ 3 _ _ _ HRW.out).trans rfl
              have z0 : w2.frozen? ⟨w.heap.size, 0, none⟩ = false := frozen_of_row w2 _ 0 _ _ HRW.out
              have z1 : w2.frozen? ⟨w.heap.size, 1, none⟩ = false := frozen_of_row w2 _ 1 _ _ HRW.out
              have z2 : w2.frozen? ⟨w.heap.size, 2, none⟩ = false := frozen_of_row w2 _ 2 _ _ HRW.out
              have z3 : w2.frozen? ⟨w.heap.size, 3, none⟩ = false := frozen_of_row w2 _ 3 _ _ HRW.out
              go_wp2
              have hr := tok_store w2 w.heap.size _ _ _ _ (.int .i64 4) (.string (x.extract 0 sn)) (.int .i64 0) (.int .i64 0) HRW.out
              have k0 := cell_of_row _ _ 0 _ _ _ hr
              have k1 := cell_of_row _ _ 1 _ _ _ hr
              have k2 := cell_of_row _ _ 2 _ _ _ hr
              have k3 := cell_of_row _ _ 3 _ _ _ hr
              simp only [List.getElem?_toArray, List.getElem?_cons_zero, List.getElem?_cons_succ] at k0 k1 k2 k3
              refine bodyPost_ret (v := .tuple #[.agg #[.int .i64 4, .string (x.extract 0 sn), .int .i64 0, .int .i64 0], .int .i64 sn, .int .i64 0]) (by simp [results, Tryd.results30, go_sem, k0, k1, k2, k3]) rfl ⟨?_, tok_only _ _ _ _ _ HB.out (Nat.le_refl _)⟩
              rw [HV2.out]
          · have s1' : (x.size : Int) ≤ 1 := by omega
            rw [if_neg (fun h => s1 h.1)] at hsg
            subst hsg
            have y0 : w2.cell? ⟨w.heap.size, 0, none⟩ = some (.int .i64 0) := (cell_of_row w2 _ 0 _ _ _ HRW.out).trans rfl
            have y1 : w2.cell? ⟨w.heap.size, 1, none⟩ = some (.string ⟨#[]⟩) := (cell_of_row w2 _ 1 _ _ _ HRW.out).trans rfl
            have y2 : w2.cell? ⟨w.heap.size, 2, none⟩ = some (.int .i64 0) := (cell_of_row w2 _ 2 _ _ _ HRW.out).trans rfl
            have y3 : w2.cell? ⟨w.heap.size, 3, none⟩ = some (.int .i64 0) := (cell_of_row w2 _ 3 _ _ _ HRW.out).trans rfl
            have z0 : w2.frozen? ⟨w.heap.size, 0, none⟩ = false := frozen_of_row w2 _ 0 _ _ HRW.out
            have z1 : w2.frozen? ⟨w.heap.size, 1, none⟩ = false := frozen_of_row w2 _ 1 _ _ HRW.out
            have z2 : w2.frozen? ⟨w.heap.size, 2, none⟩ = false := frozen_of_row w2 _ 2 _ _ HRW.out
            have z3 : w2.frozen? ⟨w.heap.size, 3, none⟩ = false := frozen_of_row w2 _ 3 _ _ HRW.out
            go_wp2
            have hr := tok_store w2 w.heap.size _ _ _ _ (.int .i64 4) (.string (x.extract 0 sn)) (.int .i64 0) (.int .i64 0) HRW.out
            have k0 := cell_of_row _ _ 0 _ _ _ hr
            have k1 := cell_of_row _ _ 1 _ _ _ hr
            have k2 := cell_of_row _ _ 2 _ _ _ hr
            have k3 := cell_of_row _ _ 3 _ _ _ hr
            simp only [List.getElem?_toArray, List.getElem?_cons_zero, List.getElem?_cons_succ] at k0 k1 k2 k3
            refine bodyPost_ret (v := .tuple #[.agg #[.int .i64 4, .string (x.extract 0 sn), .int .i64 0, .int .i64 0], .int .i64 sn, .int .i64 0]) (by simp [results, Tryd.results30, go_sem, k0, k1, k2, k3]) rfl ⟨?_, tok_only _ _ _ _ _ HB.out (Nat.le_refl _)⟩
            rw [HV2.out]
        · have h4b : (c == 4) = false := by simpa using h4
          rw [if_neg h4] at hv
          have HV2 := Lib.hid hv
          clear hv HV
          have y0 : w2.cell? ⟨w.heap.size, 0, none⟩ = some (.int .i64 0) := (cell_of_row w2 _ 0 _ _ _ HRW.out).trans rfl
          have y1 : w2.cell? ⟨w.heap.size, 1, none⟩ = some (.string ⟨#[]⟩) := (cell_of_row w2 _ 1 _ _ _ HRW.out).trans rfl
          have y2 : w2.cell? ⟨w.heap.size, 2, none⟩ = some (.int .i64 0) := (cell_of_row w2 _ 2 _ _ _ HRW.out).trans rfl
          have y3 : w2.cell? ⟨w.heap.size, 3, none⟩ = some (.int .i64 0) := (cell_of_row w2 _ 3 _ _ _ HRW.out).trans rfl
          have z0 : w2.frozen? ⟨w.heap.size, 0, none⟩ = false := frozen_of_row w2 _ 0 _ _ HRW.out
          have z1 : w2.frozen? ⟨w.heap.size, 1, none⟩ = false := frozen_of_row w2 _ 1 _ _ HRW.out
          have z2 : w2.frozen? ⟨w.heap.size, 2, none⟩ = false := frozen_of_row w2 _ 2 _ _ HRW.out
          have z3 : w2.frozen? ⟨w.heap.size, 3, none⟩ = false := frozen_of_row w2 _ 3 _ _ HRW.out
          go_wp2
          have hr := tok_store w2 w.heap.size _ _ _ _ (.int .i64 0) (.string ⟨#[]⟩) (.int .i64 0) (.int .i64 0) HRW.out
          have k0 := cell_of_row _ _ 0 _ _ _ hr
          have k1 := cell_of_row _ _ 1 _ _ _ hr
          have k2 := cell_of_row _ _ 2 _ _ _ hr
          have k3 := cell_of_row _ _ 3 _ _ _ hr
          simp only [List.getElem?_toArray, List.getElem?_cons_zero, List.getElem?_cons_succ] at k0 k1 k2 k3
          refine bodyPost_ret (v := .tuple #[.agg #[.int .i64 0, .string ⟨#[]⟩, .int .i64 0, .int .i64 0], .int .i64 0, .int .i64 11]) (by simp [results, Tryd.results30, go_sem, k0, k1, k2, k3]) rfl ⟨?_, tok_only _ _ _ _ _ HB.out (Nat.le_refl _)⟩
          rw [HV2.out]; rfl
end Go.Proofs.YtlikjknakplamaaDoor.Print
