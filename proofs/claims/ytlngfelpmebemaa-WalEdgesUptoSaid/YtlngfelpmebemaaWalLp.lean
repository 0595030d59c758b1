/-
  What laying a group writes, as plain data. No program in sight.
-/
import Derived.Test.YtlngfelpmebemaaWalRt
import Derived.Test.YtlngfelpmebemaaSt
namespace Go.Proofs.Ytlngfelpmebemaa
open Go Go.RowKit
set_option linter.unusedSimpArgs false
set_option linter.unusedVariables false
/-- The byte at t of the sectors that name the first k targets. -/
def nameAt (ts : List Nat) (k t : Nat) : UInt8 :=
  if t % 256 < 128 ∧ 64 * (t / 256) + t % 256 / 2 < k then
    (if t % 256 % 2 = 0 then UInt8.ofNat (ts.getD (64 * (t / 256) + t % 256 / 2) 0 / 256) else UInt8.ofNat (ts.getD (64 * (t / 256) + t % 256 / 2) 0 % 256)) else 0
def namesTo (ts : List Nat) (L k : Nat) : List UInt8 := (List.range (L * 256)).map (nameAt ts k)
theorem namesTo_length (ts : List Nat) (L k : Nat) : (namesTo ts L k).length = L * 256 := by simp [namesTo]
theorem namesTo_zero (ts : List Nat) (L : Nat) : namesTo ts L 0 = List.replicate (L * 256) 0 := by
  unfold namesTo
  refine List.eq_replicate_iff.2 ⟨by rw [List.length_map, List.length_range], fun b hb => ?_⟩
  obtain ⟨t, _, rfl⟩ := List.mem_map.1 hb
  unfold nameAt
  rw [if_neg (by omega)]
theorem namesTo_next (ts : List Nat) (L k : Nat) (hk : 64 * (k / 64) + k % 64 = k) (hL : k / 64 * 256 + 2 * (k % 64) + 1 < L * 256) :
    ((namesTo ts L k).set (k / 64 * 256 + 2 * (k % 64)) (UInt8.ofNat (ts.getD k 0 / 256))).set (k / 64 * 256 + 2 * (k % 64) + 1) (UInt8.ofNat (ts.getD k 0 % 256)) = namesTo ts L (k + 1) := by
  have hb1 : k / 64 * 256 + 2 * (k % 64) < L * 256 := Nat.lt_of_succ_lt hL
  refine List.ext_getElem? (fun t => ?_)
  unfold namesTo
  rw [List.getElem?_set, List.getElem?_set]
  by_cases ht : t < L * 256
  · have hr : ∀ j, ((List.range (L * 256)).map (nameAt ts j))[t]? = some (nameAt ts j t) := fun j => by rw [List.getElem?_map, List.getElem?_range ht]; rfl
    rw [hr, hr]
    by_cases h1 : k / 64 * 256 + 2 * (k % 64) + 1 = t
    · rw [if_pos h1, if_pos (by rw [List.length_set, List.length_map, List.length_range]; exact hL)]
      unfold nameAt
      have e1 : t / 256 = k / 64 := by omega
      have e2 : t % 256 = 2 * (k % 64) + 1 := by omega
      rw [e1, e2, show (2 * (k % 64) + 1) / 2 = k % 64 by omega, hk, if_pos (by omega), if_neg (by omega)]
    · rw [if_neg h1]
      by_cases h2 : k / 64 * 256 + 2 * (k % 64) = t
      · rw [if_pos h2, if_pos (by rw [List.length_map, List.length_range]; exact hb1)]
        unfold nameAt
        have e1 : t / 256 = k / 64 := by omega
        have e2 : t % 256 = 2 * (k % 64) := by omega
        rw [e1, e2, show 2 * (k % 64) / 2 = k % 64 by omega, hk, if_pos (by omega), if_pos (by omega)]
      · rw [if_neg h2]
        congr 1
        unfold nameAt
        by_cases h3 : t % 256 < 128 ∧ 64 * (t / 256) + t % 256 / 2 < k
        · have h4 : t % 256 < 128 ∧ 64 * (t / 256) + t % 256 / 2 < k + 1 := by omega
          rw [if_pos h3, if_pos h4]
        · have h4 : ¬ (t % 256 < 128 ∧ 64 * (t / 256) + t % 256 / 2 < k + 1) := by omega
          rw [if_neg h3, if_neg h4]
  · have hr : ∀ j, ((List.range (L * 256)).map (nameAt ts j))[t]? = none := fun j => List.getElem?_eq_none (by rw [List.length_map, List.length_range]; omega)
    rw [hr, hr, if_neg (by omega), if_neg (by omega)]
def nameSec (ts : List Nat) (j : Nat) : List UInt8 := ((namesTo ts (listsN ts.length) ts.length).drop (j * 256)).take 256
def headOf (n : Nat) : List UInt8 := 165 :: UInt8.ofNat (n / 256) :: UInt8.ofNat (n % 256) :: List.replicate 253 0
/-- The images, from the i-th on; then those behind. -/
def imagesP (nm : Nat) : Nat → List Wr → Dk → Int × Dk
  | _, [], D => (0, D)
  | i, x :: r, D => if (D.write ((1 + nm + i : Nat) : Int) x.2).1 ≠ 0 then D.write ((1 + nm + i : Nat) : Int) x.2 else imagesP nm (i + 1) r (D.write ((1 + nm + i : Nat) : Int) x.2).2
def secsP : Nat → List (List UInt8) → Dk → Int × Dk
  | _, [], D => (0, D)
  | i, b :: r, D => if (D.write ((1 + i : Nat) : Int) b).1 ≠ 0 then D.write ((1 + i : Nat) : Int) b else secsP (i + 1) r (D.write ((1 + i : Nat) : Int) b).2
def targetsOf (xs : List Wr) : List Nat := xs.map (·.1.toNat)
/-- One act behind another, unless it failed. -/
def andP (a : Int × Dk) (f : Dk → Int × Dk) : Int × Dk := if a.1 ≠ 0 then a else f a.2
def layP (nm p : Nat) (xs : List Wr) (D : Dk) : Int × Dk :=
  andP (imagesP nm 0 xs D) fun D1 => andP (secsP 0 ((List.range (listsN xs.length)).map (nameSec (targetsOf xs))) D1) fun D2 =>
    andP (D2.write 0 (headOf xs.length)) fun D3 => applyP nm p 0 (targetsOf xs) D3
end Go.Proofs.Ytlngfelpmebemaa
