/-
  The disk as plain data: its sectors, whether it is off, how many writes are left, how many were done. No program in sight.
-/
import Derived.Test.YtlngfelpmebemaaK
namespace Go.Proofs.Ytlngfelpmebemaa
open Go.RowKit

structure Dk where
  L : List (List UInt8)
  off : Bool
  left : Int
  writes : Int

/-- The cells of all sectors, one behind the other. -/
def flat (L : List (List UInt8)) : List Value := L.flatMap bcells

theorem flat_nil : flat [] = [] := rfl
theorem flat_cons (b : List UInt8) (L : List (List UInt8)) : flat (b :: L) = bcells b ++ flat L := by simp [flat]
theorem flat_length (L : List (List UInt8)) (h : ∀ b ∈ L, b.length = 256) : (flat L).length = 256 * L.length := by
  induction L with
  | nil => rfl
  | cons b L ih =>
    rw [flat_cons, List.length_append, bcells_length, h b (by simp), ih (fun x hx => h x (by simp [hx])), List.length_cons]
    omega
theorem flat_one (L : List (List UInt8)) : ∀ v ∈ flat L, v.oneCell' = true := by
  intro v hv
  obtain ⟨b, _, hb⟩ := List.mem_flatMap.1 hv
  exact bcells_one b v hb
theorem flat_get (L : List (List UInt8)) (h : ∀ b ∈ L, b.length = 256) (i j : Nat) (hi : i < L.length) (hj : j < 256) :
    (flat L)[i * 256 + j]? = (bcells L[i])[j]? := by
  induction L generalizing i with
  | nil => simp at hi
  | cons b L ih =>
    have hb : (bcells b).length = 256 := by rw [bcells_length, h b (by simp)]
    rw [flat_cons]
    cases i with
    | zero => simp only [List.getElem_cons_zero]; rw [List.getElem?_append_left (by omega)]; simp
    | succ i =>
      rw [List.getElem?_append_right (by omega), show (i + 1) * 256 + j - (bcells b).length = i * 256 + j by omega]
      simpa using ih (fun x hx => h x (by simp [hx])) i (by simpa using hi)
theorem flat_splice (L : List (List UInt8)) (h : ∀ b ∈ L, b.length = 256) (i : Nat) (hi : i < L.length) (b : List UInt8) (hb : b.length = 256) :
    splice (flat L) (i * 256) (bcells b) = flat (L.set i b) := by
  induction L generalizing i with
  | nil => simp at hi
  | cons c L ih =>
    have hc : (bcells c).length = 256 := by rw [bcells_length, h c (by simp)]
    have hb' : (bcells b).length = 256 := by rw [bcells_length, hb]
    unfold splice at ih ⊢
    rw [flat_cons]
    cases i with
    | zero =>
      simp only [Nat.zero_mul, List.take_zero, List.nil_append, Nat.zero_add, List.set_cons_zero, flat_cons]
      rw [List.drop_append, List.drop_of_length_le (by omega)]
      simp [hb', hc]
    | succ i =>
      have := ih (fun x hx => h x (by simp [hx])) i (by simpa using hi)
      simp only [List.set_cons_succ, flat_cons]
      rw [← this, List.take_append, List.drop_append, List.take_of_length_le (by omega), List.drop_of_length_le (by omega)]
      simp [hc, show (i + 1) * 256 - 256 = i * 256 by omega, show (i + 1) * 256 + (bcells b).length - 256 = i * 256 + (bcells b).length by omega]

theorem flat_splice_rest (L : List (List UInt8)) (h : ∀ b ∈ L, b.length = 256) (i : Nat) (hi : i < L.length) (b : List UInt8) (hb : b.length = 256) (r : List Value) :
    splice (flat L ++ r) (i * 256) (bcells b) = flat (L.set i b) ++ r := by
  have hl := flat_length L h
  have hb' : (bcells b).length = 256 := by rw [bcells_length, hb]
  rw [← flat_splice L h i hi b hb]
  unfold splice
  rw [List.take_append_of_le_length (by omega), List.drop_append_of_le_length (by omega)]
  simp only [List.append_assoc]
/-- A sector of one byte. -/
def sec (x : UInt8) : List UInt8 := List.replicate 256 x
theorem sec_length (x : UInt8) : (sec x).length = 256 := List.length_replicate
theorem sec_get (x : UInt8) (j : Nat) (h : j < 256) : (sec x)[j]? = some x := by unfold sec; rw [List.getElem?_replicate, if_pos h]
theorem sec_inj {x y : UInt8} (h : sec x = sec y) : x = y := by
  have := congrArg (fun l : List UInt8 => l[0]?) h
  simp only [sec_get _ 0 (by omega), Option.some.injEq] at this
  exact this

namespace Dk
def new (n : Nat) : Dk := ⟨List.replicate n (sec 0), false, -1, 0⟩
/-- Why nothing can be done with a sector. -/
def wrong (D : Dk) (i : Int) : Int := if D.off = true then 6 else if i < 0 ∨ (D.L.length : Int) ≤ i then 1 else 0
def cut (D : Dk) (n : Int) : Dk := { D with left := if n < -1 then -1 else n }
def up (D : Dk) : Dk := { D with off := false, left := -1 }
/-- What a write answers, and what becomes of the disk. -/
def write (D : Dk) (i : Int) (b : List UInt8) : Int × Dk :=
  if D.off = true then (6, D)
  else if i < 0 ∨ (D.L.length : Int) ≤ i then (1, D)
  else if b.length ≠ 256 then (1, D)
  else if D.left = 0 then (6, { D with off := true })
  else (0, { D with L := D.L.set i.toNat b, left := if 0 < D.left then D.left - 1 else D.left, writes := D.writes + 1 })
structure Ok (D : Dk) : Prop where
  secs : ∀ b ∈ D.L, b.length = 256
  len : D.L.length ≤ 2048
  left : -1 ≤ D.left
  leftHi : D.left ≤ 9223372036854775807
  wr : 0 ≤ D.writes
theorem new_ok (n : Nat) (h : n ≤ 2048) : (new n).Ok :=
  ⟨fun b hb => by rw [List.eq_of_mem_replicate hb]; exact sec_length 0, by simpa [new] using h, by simp [new], by simp [new], by simp [new]⟩
theorem up_ok {D : Dk} (h : D.Ok) : D.up.Ok := ⟨h.secs, h.len, by simp [up], by simp [up], h.wr⟩
theorem cut_ok {D : Dk} (h : D.Ok) (n : Int) (hn : n ≤ 9223372036854775807) : (D.cut n).Ok :=
  ⟨h.secs, h.len, by simp only [cut]; split <;> omega, by simp only [cut]; split <;> omega, h.wr⟩
theorem write_ok {D : Dk} (h : D.Ok) (i : Int) (b : List UInt8) : (D.write i b).2.Ok := by
  unfold write
  split
  · exact h
  split
  · exact h
  split
  · exact h
  rename_i hb
  have hb : b.length = 256 := by omega
  split
  · exact ⟨h.secs, h.len, h.left, h.leftHi, h.wr⟩
  · refine ⟨fun c hc => ?_, by simpa using h.len, ?_, ?_, ?_⟩
    · rcases List.mem_or_eq_of_mem_set hc with hc | rfl
      · exact h.secs c hc
      · exact hb
    · have := h.left; simp only []; split <;> omega
    · have := h.leftHi; simp only []; split <;> omega
    · have := h.wr; simp only []; omega
end Dk
end Go.Proofs.Ytlngfelpmebemaa
