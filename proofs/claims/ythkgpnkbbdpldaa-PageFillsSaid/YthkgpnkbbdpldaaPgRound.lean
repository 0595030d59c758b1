/-
  What was laid is read; lists of records of one's own that are written over. No program in sight.
-/
import Derived.Test.YthkgpnkbbdpldaaOwn8
namespace Go.Proofs.Ythkgpnkbbdpldaa
open Go.RowKit
set_option linter.unusedSimpArgs false
set_option linter.unusedVariables false
theorem getD_append_right (a b : List UInt8) (i : Nat) : (a ++ b).getD (a.length + i) 0 = b.getD i 0 := by
  rw [List.getD_eq_getElem?_getD, List.getElem?_append_right (by omega), Nat.add_sub_cancel_left, ← List.getD_eq_getElem?_getD]
theorem cutB_append (a m c : List UInt8) : cutB (a ++ (m ++ c)) a.length m.length = m := by
  unfold cutB
  rw [List.drop_left, List.take_left]
theorem readFrom_all (xs : List Rec) (pre post : List UInt8) (h : ∀ x ∈ xs, x.1.size < 256 ∧ x.2.length < 256) : readFrom (pre ++ (allBytes xs ++ post)) xs.length pre.length = some xs := by
  induction xs generalizing pre with
  | nil => rfl
  | cons x xs ih =>
    obtain ⟨h1, h2⟩ := h x (by simp)
    have hk : x.1.data.toList.length = x.1.size := Array.length_toList
    have e : allBytes (x :: xs) = recBytes x ++ allBytes xs := by simp [allBytes]
    have er : recBytes x = UInt8.ofNat x.1.size :: UInt8.ofNat x.2.length :: (x.1.data.toList ++ x.2) := rfl
    have g0 : (pre ++ (allBytes (x :: xs) ++ post)).getD pre.length 0 = UInt8.ofNat x.1.size := by
      have := getD_append_right pre (allBytes (x :: xs) ++ post) 0
      rw [Nat.add_zero] at this
      rw [this, e, er]
      rfl
    have g1 : (pre ++ (allBytes (x :: xs) ++ post)).getD (pre.length + 1) 0 = UInt8.ofNat x.2.length := by
      rw [getD_append_right, e, er]
      rfl
    have n0 : (UInt8.ofNat x.1.size).toNat = x.1.size := by rw [UInt8.toNat_ofNat']; omega
    have n1 : (UInt8.ofNat x.2.length).toNat = x.2.length := by rw [UInt8.toNat_ofNat']; omega
    have hlen : (pre ++ (allBytes (x :: xs) ++ post)).length = pre.length + (2 + x.1.size + x.2.length) + (allBytes xs).length + post.length := by
      rw [List.length_append, List.length_append, e, List.length_append, recBytes_length]
      omega
    rw [List.length_cons]
    unfold readFrom
    rw [g0, g1, n0, n1, if_neg (by omega), if_neg (by omega)]
    have c1 : cutB (pre ++ (allBytes (x :: xs) ++ post)) (pre.length + 2) x.1.size = x.1.data.toList := by
      have := cutB_append (pre ++ [UInt8.ofNat x.1.size, UInt8.ofNat x.2.length]) x.1.data.toList (x.2 ++ (allBytes xs ++ post))
      rw [hk] at this
      simp only [List.length_append, List.length_cons, List.length_nil] at this
      refine Eq.trans ?_ this
      congr 1
      rw [e, er]
      simp
    have c2 : cutB (pre ++ (allBytes (x :: xs) ++ post)) (pre.length + 2 + x.1.size) x.2.length = x.2 := by
      have := cutB_append (pre ++ [UInt8.ofNat x.1.size, UInt8.ofNat x.2.length] ++ x.1.data.toList) x.2 (allBytes xs ++ post)
      simp only [List.length_append, List.length_cons, List.length_nil, hk] at this
      refine Eq.trans ?_ this
      congr 1
      rw [e, er]
      simp
    have c3 : readFrom (pre ++ (allBytes (x :: xs) ++ post)) xs.length (pre.length + 2 + x.1.size + x.2.length) = some xs := by
      have := ih (pre ++ recBytes x) (fun y hy => h y (by simp [hy]))
      rw [List.length_append, recBytes_length] at this
      rw [show pre.length + 2 + x.1.size + x.2.length = pre.length + (2 + x.1.size + x.2.length) by omega, ← this]
      congr 1
      rw [e]
      simp
    rw [c1, c2, c3]
    simp
theorem slots_pos' {xs : List Rec} (h : bad xs = false) (k : Nat) (hk : k < xs.length) : slots xs[k] ≠ 0 := by
  unfold bad at h
  rw [List.any_eq_false] at h
  simpa using h _ (List.getElem_mem hk)
theorem readL_lay {xs : List Rec} (h : layE xs = 0) : readL (layB xs) = some xs := by
  obtain ⟨h1, h2, h3⟩ := layE_zero h
  have hl := tot_ge xs h1
  have hb : layB xs = [UInt8.ofNat xs.length] ++ (allBytes xs ++ List.replicate (256 - (front xs.length xs).length) 0) := by
    unfold layB
    rw [if_pos h]
    simp [pad, front]
  have hall : ∀ x ∈ xs, x.1.size < 256 ∧ x.2.length < 256 := by
    intro x hx
    obtain ⟨k, hk, rfl⟩ := List.getElem_of_mem hx
    have hs := slots_pos' h1 k hk
    unfold slots slotsN at hs
    split at hs
    · exact absurd rfl hs
    · omega
  have hr := readFrom_all xs [UInt8.ofNat xs.length] (List.replicate (256 - (front xs.length xs).length) 0) hall
  rw [← hb] at hr
  have h0 : ((layB xs).getD 0 0).toNat = xs.length := by
    rw [hb]
    simp
    omega
  rw [readL_some (layB_length h) (by rw [h0]; exact hr), if_pos ⟨h, rfl⟩]
end Go.Proofs.Ythkgpnkbbdpldaa
