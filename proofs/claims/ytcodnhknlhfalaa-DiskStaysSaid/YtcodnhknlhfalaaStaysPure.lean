/-
  What was written last stays: for DiskStays, in plain data.
-/
import Derived.Test.YtcodnhknlhfalaaDkPure
namespace Go.Proofs.Ytcodnhknlhfalaa
namespace Stays
structure Inv (D : Dk) (last : List UInt8) : Prop where
  ok : D.Ok
  len : last.length = 8
  has : D.L = last.map sec
theorem start : Inv (Dk.new 8) (List.replicate 8 0) := ⟨Dk.new_ok 8 (by omega), List.length_replicate, by simp [Dk.new]⟩
theorem cut {D : Dk} {last : List UInt8} (h : Inv D last) (n : Int) (hn : n ≤ 9223372036854775807) : Inv (D.cut n) last := ⟨Dk.cut_ok h.ok n hn, h.len, h.has⟩
theorem up {D : Dk} {last : List UInt8} (h : Inv D last) : Inv D.up last := ⟨Dk.up_ok h.ok, h.len, h.has⟩
theorem step {D : Dk} {last : List UInt8} (h : Inv D last) (i : Int) (x : UInt8) :
    ((D.write i (sec x)).1 = 0 ∧ 0 ≤ i ∧ i < 8 ∧ Inv (D.write i (sec x)).2 (last.set i.toNat x) ∧ (D.write i (sec x)).2.writes = D.writes + 1) ∨
    ((D.write i (sec x)).1 = 1 ∧ Inv (D.write i (sec x)).2 last ∧ (D.write i (sec x)).2.writes = D.writes) ∨
    ((D.write i (sec x)).1 = 6 ∧ Inv (D.write i (sec x)).2 last ∧ (D.write i (sec x)).2.writes = D.writes) := by
  have hok := Dk.write_ok h.ok i (sec x)
  have hl : D.L.length = 8 := by rw [h.has, List.length_map, h.len]
  revert hok
  unfold Dk.write
  split
  · exact fun _ => .inr (.inr ⟨rfl, h, rfl⟩)
  split
  · exact fun _ => .inr (.inl ⟨rfl, h, rfl⟩)
  rename_i h2
  rw [hl] at h2
  rw [if_neg (by rw [sec_length]; omega)]
  split
  · exact fun hok => .inr (.inr ⟨rfl, ⟨hok, h.len, h.has⟩, rfl⟩)
  · exact fun hok => .inl ⟨rfl, by omega, by omega, ⟨hok, by rw [List.length_set]; exact h.len, by simp only []; rw [h.has, List.map_set]⟩, rfl⟩
theorem get {D : Dk} {last : List UInt8} (h : Inv D last) (j : Nat) (x : UInt8) (hj : last[j]? = some x) : D.up.L[j]? = some (sec x) := by
  show D.L[j]? = _
  rw [h.has, List.getElem?_map, hj]
  rfl
end Stays
end Go.Proofs.Ytcodnhknlhfalaa
