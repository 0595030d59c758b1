/-
  The log over a disk, as plain data: how much room there is. No program in sight.
-/
import Derived.Test.YtlngfelpmebemaaDkPure
namespace Go.Proofs.Ytlngfelpmebemaa
set_option linter.unusedSimpArgs false
set_option linter.unusedVariables false
def listsN (n : Nat) : Nat := (n + 63) / 64
/-- Have so many data sectors room on a disk of S? -/
def fits (S p : Nat) : Prop := 1 + listsN p + 2 * p ≤ S
instance (S p : Nat) : Decidable (fits S p) := by unfold fits; exact inferInstance
theorem fits_less {S p q : Nat} (h : fits S q) (hp : p ≤ q) : fits S p := by
  unfold fits listsN at *
  have : (p + 63) / 64 ≤ (q + 63) / 64 := Nat.div_le_div_right (by omega)
  omega
def down (S : Nat) : Nat → Nat
  | 0 => 0
  | p + 1 => if fits S (p + 1) then p + 1 else down S p
def roomN (S : Nat) : Nat := if S < 4 then 0 else down S ((S - 1) / 2)
theorem down_le (S p : Nat) : down S p ≤ p := by
  induction p with
  | zero => exact Nat.le_refl _
  | succ p ih => unfold down; split <;> omega
theorem down_fits (S p : Nat) : down S p = 0 ∨ fits S (down S p) := by
  induction p with
  | zero => exact .inl rfl
  | succ p ih =>
    unfold down
    split
    · exact .inr ‹_›
    · exact ih
theorem down_over (S p q : Nat) (h1 : down S p < q) (h2 : q ≤ p) : ¬ fits S q := by
  induction p with
  | zero => unfold down at h1; omega
  | succ p ih =>
    unfold down at h1
    split at h1
    · omega
    · rename_i hf
      by_cases hq : q = p + 1
      · subst hq; exact hf
      · exact ih h1 (by omega)
theorem room_fits {S : Nat} (h : 4 ≤ S) : fits S (roomN S) ∧ 1 ≤ roomN S := by
  unfold roomN
  rw [if_neg (by omega)]
  have h1 : fits S 1 := by unfold fits listsN; omega
  have hp : 1 ≤ down S ((S - 1) / 2) := by
    rcases Nat.eq_zero_or_pos (down S ((S - 1) / 2)) with h0 | h0
    · exact absurd h1 (down_over S ((S - 1) / 2) 1 (by omega) (by omega))
    · exact h0
  refine ⟨?_, hp⟩
  rcases down_fits S ((S - 1) / 2) with h0 | h0
  · omega
  · exact h0
theorem room_over {S q : Nat} (h : roomN S < q) : ¬ fits S q := by
  intro hf
  unfold roomN at h
  split at h
  · unfold fits listsN at hf; omega
  · refine down_over S ((S - 1) / 2) q h ?_ hf
    unfold fits at hf
    omega
theorem room_zero {S : Nat} (h : S < 4) : roomN S = 0 := by unfold roomN; rw [if_pos h]
/-- What tells it. -/
theorem room_eq {S r : Nat} (h1 : r = 0 ∨ fits S r) (h2 : ¬ fits S (r + 1)) : roomN S = r := by
  rcases Nat.lt_trichotomy (roomN S) r with h | h | h
  · rcases h1 with h1 | h1
    · omega
    · exact absurd h1 (room_over h)
  · exact h
  · exfalso
    by_cases hS : S < 4
    · rw [room_zero hS] at h; omega
    · exact h2 (fits_less (room_fits (by omega)).1 h)
end Go.Proofs.Ytlngfelpmebemaa
