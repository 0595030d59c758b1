/-
  The document's page as plain data: records, slots, bytes. No program in sight.
-/
import Derived.Test.YthkgpnkbbdpldaaOwn
import Derived.Sort.Walk0
namespace Go.Proofs.Ythkgpnkbbdpldaa
open Go.RowKit
/-- A record: its key, its bytes. -/
abbrev Rec := ByteArray × List UInt8
/-- How many slots a record of such a key's size and so many bytes needs; 0: it is none. -/
def slotsN (k n : Nat) : Nat := if k < 1 ∨ 20 < k ∨ 126 < n + k then 0 else (2 + k + n + 31) / 32
theorem slotsN_le (k n : Nat) : slotsN k n ≤ 4 := by unfold slotsN; split <;> omega
def slots (x : Rec) : Nat := slotsN x.1.size x.2.length
theorem slots_le (x : Rec) : slots x ≤ 4 := slotsN_le _ _
/-- Is one of them none? -/
def bad (l : List Rec) : Bool := l.any fun x => slots x == 0
def tot (l : List Rec) : Nat := (l.map slots).sum
theorem tot_append (a b : List Rec) : tot (a ++ b) = tot a + tot b := by simp [tot]
theorem tot_one (x : Rec) : tot [x] = slots x := by simp [tot]
theorem bad_append (a b : List Rec) : bad (a ++ b) = (bad a || bad b) := by simp [bad]
theorem bad_one (x : Rec) : bad [x] = (slots x == 0) := by simp [bad]
theorem tot_take (l : List Rec) (k : Nat) (h : k < l.length) : tot (l.take (k + 1)) = tot (l.take k) + slots l[k] := by
  rw [List.take_succ_eq_append_getElem h, tot_append, tot_one]
theorem bad_take (l : List Rec) (k : Nat) (h : k < l.length) : bad (l.take (k + 1)) = (bad (l.take k) || slots l[k] == 0) := by
  rw [List.take_succ_eq_append_getElem h, bad_append, bad_one]
theorem bad_of_take {l : List Rec} {k : Nat} (h : bad (l.take k) = true) : bad l = true := by
  have := bad_append (l.take k) (l.drop k)
  rw [List.take_append_drop, h] at this
  simpa using this
theorem tot_of_take (l : List Rec) (k : Nat) : tot (l.take k) ≤ tot l := by
  have := tot_append (l.take k) (l.drop k)
  rw [List.take_append_drop] at this
  omega
theorem tot_ge (l : List Rec) (h : bad l = false) : l.length ≤ tot l := by
  induction l with
  | nil => simp [tot]
  | cons x l ih =>
    have h1 : tot (x :: l) = slots x + tot l := by simp [tot]
    have h2 : bad (x :: l) = (slots x == 0 || bad l) := by simp [bad]
    rw [h2, Bool.or_eq_false_iff] at h
    have h3 : slots x ≠ 0 := by simpa using h.1
    have := ih h.2
    rw [h1, List.length_cons]
    omega
/-- How many slots are free. -/
def free (l : List Rec) : Nat := if bad l = true ∨ 7 < tot l then 0 else 7 - tot l
/-- Does a key come before another? -/
def before (a b : ByteArray) : Bool := Op.bytesLess a.toList b.toList
theorem before_not (a b : ByteArray) : (!before a b) = (before b a || b.toList == a.toList) := by
  unfold before
  rw [bytesLess_eq, bytesLess_eq]
  by_cases h : a.toList < b.toList
  · have h1 : ¬ b.toList < a.toList := fun h2 => List.lt_asymm h h2
    have h2 : ¬ b.toList = a.toList := fun e => by rw [e] at h; exact List.lt_irrefl _ h
    simp [h, h1, h2]
  · have h1 : b.toList ≤ a.toList := List.not_lt.1 h
    rcases List.le_iff_lt_or_eq.1 h1 with h2 | h2
    · simp [h, h2]
    · simp [h2]
/-- Do the keys rise? -/
def rises : List Rec → Bool
  | a :: b :: l => before a.1 b.1 && rises (b :: l)
  | _ => true
theorem rises_take (l : List Rec) (k : Nat) (h : k + 1 < l.length) : rises (l.take (k + 2)) = (rises (l.take (k + 1)) && before l[k].1 l[k + 1].1) := by
  induction l generalizing k with
  | nil => simp at h
  | cons a l ih =>
    match l, k, h with
    | b :: l, 0, _ => simp [rises]
    | b :: l, k + 1, h =>
      have := ih k (by simpa using h)
      simp only [List.take_succ_cons, rises, List.getElem_cons_succ] at this ⊢
      rw [this, Bool.and_assoc]
theorem rises_of_take {l : List Rec} (k : Nat) (h : rises (l.take k) = false) : rises l = false := by
  induction l generalizing k with
  | nil => simp at h; exact absurd h (by simp [rises])
  | cons a l ih =>
    match l, k, h with
    | [], 0, h => simp [rises] at h
    | [], k + 1, h => simp [rises] at h
    | b :: l, 0, h => simp [rises] at h
    | b :: l, 1, h => simp [rises] at h
    | b :: l, k + 2, h =>
      simp only [List.take_succ_cons, rises, Bool.and_eq_false_iff] at h ⊢
      rcases h with h | h
      · exact .inl h
      · exact .inr (ih (k + 1) (by simpa using h))
/-- A record's bytes in a page. -/
def recBytes (x : Rec) : List UInt8 := UInt8.ofNat x.1.size :: UInt8.ofNat x.2.length :: (x.1.data.toList ++ x.2)
def allBytes (l : List Rec) : List UInt8 := l.flatMap recBytes
theorem recBytes_length (x : Rec) : (recBytes x).length = 2 + x.1.size + x.2.length := by
  have : x.1.data.toList.length = x.1.size := Array.length_toList
  simp only [recBytes, List.length_cons, List.length_append, this]
  omega
theorem recBytes_le (x : Rec) (h : slots x ≠ 0) : (recBytes x).length ≤ 32 * slots x := by
  rw [recBytes_length]
  unfold slots slotsN at h ⊢
  split at h
  · omega
  · rename_i hn
    rw [if_neg hn]
    omega
theorem allBytes_append (a b : List Rec) : allBytes (a ++ b) = allBytes a ++ allBytes b := by simp [allBytes]
theorem allBytes_take (l : List Rec) (k : Nat) (h : k < l.length) : allBytes (l.take (k + 1)) = allBytes (l.take k) ++ recBytes l[k] := by
  rw [List.take_succ_eq_append_getElem h, allBytes_append]
  simp [allBytes]
theorem allBytes_le (l : List Rec) (h : bad l = false) : (allBytes l).length ≤ 32 * tot l := by
  induction l with
  | nil => simp [allBytes, tot]
  | cons x l ih =>
    have h1 : tot (x :: l) = slots x + tot l := by simp [tot]
    have h2 : bad (x :: l) = (slots x == 0 || bad l) := by simp [bad]
    have h4 : allBytes (x :: l) = recBytes x ++ allBytes l := by simp [allBytes]
    rw [h2, Bool.or_eq_false_iff] at h
    have h3 : slots x ≠ 0 := by simpa using h.1
    have := ih h.2
    have := recBytes_le x h3
    rw [h1, h4, List.length_append]
    omega
/-- The front of a page's bytes. -/
def front (n : Nat) (l : List Rec) : List UInt8 := UInt8.ofNat n :: allBytes l
def pad (l : List UInt8) : List UInt8 := l ++ List.replicate (256 - l.length) 0
theorem bufRow_pad (l : List UInt8) : bufRow 256 l = (bcells (pad l)).toArray := rfl
theorem pad_length (l : List UInt8) (h : l.length ≤ 256) : (pad l).length = 256 := by
  unfold pad
  rw [List.length_append, List.length_replicate]
  omega
/-- What is answered when records are laid: which error, which bytes. -/
def layE (l : List Rec) : Nat := if bad l = true ∨ rises l = false then 1 else if 7 < tot l then 3 else 0
def layB (l : List Rec) : List UInt8 := if layE l = 0 then pad (front l.length l) else []
theorem layE_zero {l : List Rec} (h : layE l = 0) : bad l = false ∧ rises l = true ∧ tot l ≤ 7 := by
  unfold layE at h
  split at h
  · omega
  · split at h
    · omega
    · rename_i h1 h2
      rw [not_or] at h1
      exact ⟨by simpa using h1.1, by simpa using h1.2, by omega⟩
theorem front_le {l : List Rec} (h : layE l = 0) : (front l.length l).length ≤ 256 := by
  obtain ⟨h1, _, h3⟩ := layE_zero h
  have := allBytes_le l h1
  unfold front
  rw [List.length_cons]
  omega
theorem layB_length {l : List Rec} (h : layE l = 0) : (layB l).length = 256 := by
  unfold layB
  rw [if_pos h]
  exact pad_length _ (front_le h)
end Go.Proofs.Ythkgpnkbbdpldaa
