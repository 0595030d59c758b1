/-
  What the disk's writes come to behind Cut, in plain data: for DiskCuts.
-/
import Derived.Test.YtcodnhknlhfalaaDkPure
namespace Go.Proofs.Ytcodnhknlhfalaa
namespace Cuts
/-- Behind Cut(after), so many writes done. -/
structure Inv (after : Int) (D : Dk) : Prop where
  ok : D.Ok
  len : D.L.length = 16
  neg : after < 0 → D.off = false ∧ D.left = -1
  pos : 0 ≤ after → D.writes ≤ after ∧ (D.off = false → D.left = after - D.writes) ∧ (D.off = true → D.writes = after)
theorem start (after : Int) (h : after ≤ 9223372036854775807) : Inv after ((Dk.new 16).cut after) := by
  refine ⟨Dk.cut_ok (Dk.new_ok 16 (by omega)) after h, by simp [Dk.cut, Dk.new], fun h => ⟨rfl, ?_⟩, fun h => ⟨h, fun _ => ?_, (fun h => by cases h)⟩⟩
  · show (if after < -1 then -1 else after) = -1
    split <;> omega
  · show (if after < -1 then -1 else after) = after - 0
    split <;> omega
/-- One write of a whole sector. -/
theorem step {after : Int} {D : Dk} (h : Inv after D) (i : Int) (b : List UInt8) (hb : b.length = 256) :
    Inv after (D.write i b).2 ∧
    (((D.write i b).1 = 0 ∧ 0 ≤ i ∧ i < 16 ∧ (D.write i b).2.writes = D.writes + 1 ∧ (after < 0 ∨ D.writes + 1 ≤ after) ∧ (D.write i b).2.off = false) ∨
     ((D.write i b).1 = 1 ∧ (i < 0 ∨ 16 ≤ i) ∧ (D.write i b).2 = D ∧ D.off = false) ∨
     ((D.write i b).1 = 6 ∧ 0 ≤ after ∧ (D.write i b).2.writes = D.writes ∧ D.writes = after ∧ (D.write i b).2.off = true)) := by
  have hok := Dk.write_ok h.ok i b
  have hlen := h.len
  revert hok
  unfold Dk.write
  split
  · rename_i h1
    intro hok
    refine ⟨h, .inr (.inr ⟨rfl, ?_⟩)⟩
    have hpos : 0 ≤ after := by
      rcases Int.lt_or_le after 0 with ha | ha
      · rw [(h.neg ha).1] at h1; cases h1
      · exact ha
    exact ⟨hpos, rfl, (h.pos hpos).2.2 h1, h1⟩
  rename_i h1
  have h1' : D.off = false := by simpa using h1
  split
  · rename_i h2
    intro hok
    exact ⟨h, .inr (.inl ⟨rfl, by rw [hlen] at h2; omega, rfl, h1'⟩)⟩
  rename_i h2
  rw [hlen] at h2
  rw [if_neg (by omega)]
  split
  · rename_i h4
    intro hok
    have hpos : 0 ≤ after := by
      rcases Int.lt_or_le after 0 with ha | ha
      · have := (h.neg ha).2; omega
      · exact ha
    have hp := h.pos hpos
    have hw : D.writes = after := by have := hp.2.1 h1'; omega
    exact ⟨⟨hok, hlen, fun ha => absurd ha (by omega), fun _ => ⟨hp.1, (fun h => by cases h), fun _ => hw⟩⟩, .inr (.inr ⟨rfl, hpos, rfl, hw, rfl⟩)⟩
  · rename_i h4
    intro hok
    refine ⟨⟨hok, by simpa using hlen, fun ha => ⟨h1', ?_⟩, fun ha => ?_⟩, .inl ⟨rfl, by omega, by omega, rfl, ?_, h1'⟩⟩
    · have := (h.neg ha).2
      simp only []
      split <;> omega
    · have hp := h.pos ha
      have hl := hp.2.1 h1'
      have hlo := h.ok.left
      simp only []
      refine ⟨by omega, fun _ => ?_, fun h9 => ?_⟩
      · split <;> omega
      · rw [h1'] at h9; cases h9
    · rcases Int.lt_or_le after 0 with ha | ha
      · exact .inl ha
      · have hp := h.pos ha
        have hl := hp.2.1 h1'
        have hlo := h.ok.left
        exact .inr (by omega)
/-- Behind Up the next write is done. -/
theorem last {after : Int} {D : Dk} (h : Inv after D) (b : List UInt8) (hb : b.length = 256) :
    (D.up.write 3 b).1 = 0 ∧ (D.up.write 3 b).2.writes = D.writes + 1 ∧ (D.up.write 3 b).2.off = false := by
  have hlen := h.len
  unfold Dk.write Dk.up
  simp [hlen, hb]
end Cuts
end Go.Proofs.Ytcodnhknlhfalaa
