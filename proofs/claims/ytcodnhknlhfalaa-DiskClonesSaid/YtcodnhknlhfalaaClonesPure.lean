/-
  A disk and its clone in plain data: for DiskClones.
-/
import Derived.Test.YtcodnhknlhfalaaDkPure
namespace Go.Proofs.Ytcodnhknlhfalaa
namespace Cls
/-- What the clone's sectors have behind so many writes. -/
def has (at_ i : Nat) (x y : UInt8) (j : Nat) : UInt8 := if j < i then y else if j = at_ then x else 0
def cl (at_ i : Nat) (x y : UInt8) : List (List UInt8) := (List.range 8).map fun j => sec (has at_ i x y j)
theorem cl_length (at_ i : Nat) (x y : UInt8) : (cl at_ i x y).length = 8 := by simp [cl]
theorem cl_get (at_ i : Nat) (x y : UInt8) (j : Nat) (h : j < 8) : (cl at_ i x y)[j]? = some (sec (has at_ i x y j)) := by
  unfold cl
  rw [List.getElem?_map, List.getElem?_range h]
  rfl
theorem cl_secs (at_ i : Nat) (x y : UInt8) : ∀ b ∈ cl at_ i x y, b.length = 256 := by
  intro b hb
  obtain ⟨j, _, rfl⟩ := List.mem_map.1 hb
  exact sec_length _
theorem cl_ok (at_ i : Nat) (x y : UInt8) (off : Bool) (l n : Int) (h0 : -1 ≤ l) (h1 : l ≤ 9223372036854775807) (hn : 0 ≤ n) : (⟨cl at_ i x y, off, l, n⟩ : Dk).Ok :=
  ⟨cl_secs _ _ _ _, by rw [cl_length]; omega, h0, h1, hn⟩
theorem cl_start (a : Nat) (x y : UInt8) (h : a < 8) : (Dk.new 8).write a (sec x) = (0, ⟨cl a 0 x y, false, -1, 1⟩) := by
  have e : (List.replicate 8 (sec 0)).set a (sec x) = cl a 0 x y := by
    apply List.ext_getElem?
    intro j
    by_cases hj : j < 8
    · rw [cl_get _ _ _ _ _ hj, List.getElem?_set]
      unfold has
      by_cases hja : a = j
      · subst hja
        rw [if_pos rfl, if_pos (by rw [List.length_replicate]; exact hj), if_neg (by omega), if_pos rfl]
      · rw [if_neg hja, List.getElem?_replicate, if_pos hj, if_neg (by omega), if_neg (fun h => hja h.symm)]
    · rw [List.getElem?_eq_none (by rw [List.length_set, List.length_replicate]; omega), List.getElem?_eq_none (by rw [cl_length]; omega)]
  unfold Dk.write Dk.new
  simp only [List.length_replicate, sec_length]
  rw [if_neg (by simp), if_neg (by omega), if_neg (by omega), if_neg (by omega)]
  simp only [Int.toNat_natCast, e]
  rfl
theorem cl_set (a i : Nat) (x y : UInt8) : (cl a i x y).set (i % 8) (sec y) = cl a (i + 1) x y := by
  apply List.ext_getElem?
  intro j
  by_cases hj : j < 8
  · rw [cl_get _ _ _ _ _ hj, List.getElem?_set]
    unfold has
    by_cases hji : i % 8 = j
    · rw [if_pos hji, if_pos (by rw [cl_length]; omega), if_pos (by omega)]
    · rw [if_neg hji, cl_get _ _ _ _ _ hj]
      unfold has
      by_cases h1 : j < i
      · rw [if_pos h1, if_pos (by omega)]
      · have h2 : ¬ j < i + 1 := by omega
        simp only [if_neg h1, if_neg h2]
  · rw [List.getElem?_eq_none (by rw [List.length_set, cl_length]; omega), List.getElem?_eq_none (by rw [cl_length]; omega)]
theorem cl_step (a i n : Nat) (x y : UInt8) (h : i < n) (k : Int) (hk : k = (i % 8 : Nat)) :
    (⟨cl a i x y, false, (n : Int) - i, 1 + i⟩ : Dk).write k (sec y) = (0, ⟨cl a (i + 1) x y, false, (n : Int) - (i + 1 : Nat), 1 + (i + 1 : Nat)⟩) := by
  subst hk
  unfold Dk.write
  simp only [cl_length, sec_length]
  rw [if_neg (by simp), if_neg (by omega), if_neg (by omega), if_neg (by omega)]
  simp only [Int.toNat_natCast, cl_set]
  rw [if_pos (by omega)]
  simp only [Prod.mk.injEq, Dk.mk.injEq, true_and]
  omega
/-- A disk of which the sectors do not matter. -/
theorem any_step (L : List (List UInt8)) (hL : L.length = 8) (i n : Nat) (b : List UInt8) (hb : b.length = 256) (h : i < n) (k : Int) (h0 : 0 ≤ k) (h1 : k < 8) :
    (⟨L, false, (n : Int) - i, 1 + i⟩ : Dk).write k b = (0, ⟨L.set k.toNat b, false, (n : Int) - (i + 1 : Nat), 1 + (i + 1 : Nat)⟩) := by
  unfold Dk.write
  simp only [hL, hb]
  rw [if_neg (by simp), if_neg (by omega), if_neg (by omega), if_neg (by omega), if_pos (by omega)]
  simp only [Prod.mk.injEq, Dk.mk.injEq, true_and]
  omega
theorem dead (L : List (List UInt8)) (hL : L.length = 8) (n : Int) (b : List UInt8) (hb : b.length = 256) (k : Int) (h0 : 0 ≤ k) (h1 : k < 8) :
    (⟨L, false, 0, n⟩ : Dk).write k b = (6, ⟨L, true, 0, n⟩) := by
  unfold Dk.write
  simp only [hL, hb]
  rw [if_neg (by simp), if_neg (by omega), if_neg (by omega), if_pos trivial]
end Cls
end Go.Proofs.Ytcodnhknlhfalaa
