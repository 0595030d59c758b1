/-
  Writes whose row is of one's own, and what they lead to. No program in sight.
-/
import Derived.Test.YtlngfelpmebemaaOwn
namespace Go.Proofs.Ytlngfelpmebemaa
open Go Go.RowKit
set_option linter.unusedSimpArgs false
set_option linter.unusedVariables false
/-- The cells of writes, each with the slice of its bytes. -/
def wrCells (xs : List (Int × List UInt8)) (us : List Value) : List Value := (xs.zip us).flatMap fun p => [.int .i64 p.1.1, p.2]
theorem wrCells_snoc (xs : List (Int × List UInt8)) (us : List Value) (x : Int × List UInt8) (u : Value) (h : us.length = xs.length) : wrCells (xs ++ [x]) (us ++ [u]) = wrCells xs us ++ [.int .i64 x.1, u] := by
  unfold wrCells
  rw [List.zip_append h.symm, List.flatMap_append]
  rfl
theorem wrCells_append (xs ys : List (Int × List UInt8)) (us vs : List Value) (h : us.length = xs.length) : wrCells (xs ++ ys) (us ++ vs) = wrCells xs us ++ wrCells ys vs := by
  unfold wrCells
  rw [List.zip_append h.symm, List.flatMap_append]
theorem wrCells_get {xs : List (Int × List UInt8)} {us : List Value} {i : Nat} {x : Int × List UInt8} {u : Value} (hx : xs[i]? = some x) (hu : us[i]? = some u) : (wrCells xs us)[i * 2]? = some (.int .i64 x.1) ∧ (wrCells xs us)[i * 2 + 1]? = some u := by
  induction xs generalizing us i with
  | nil => simp at hx
  | cons y xs ih =>
    match us with
    | [] => simp at hu
    | v :: us =>
      match i with
      | 0 =>
        simp at hx hu
        subst hx hu
        exact ⟨rfl, rfl⟩
      | i + 1 =>
        simp at hx hu
        have := ih hx hu
        unfold wrCells at this ⊢
        rw [List.zip_cons_cons, List.flatMap_cons]
        rw [show (i + 1) * 2 = (i * 2) + 1 + 1 by omega, show i * 2 + 1 + 1 + 1 = (i * 2 + 1) + 1 + 1 by omega]
        simpa using this
theorem wrCells_length : ∀ (xs : List (Int × List UInt8)) (us : List Value), us.length = xs.length → (wrCells xs us).length = xs.length * 2
  | [], us, h => by unfold wrCells; simp
  | x :: xs, [], h => by simp at h
  | x :: xs, u :: us, h => by
    have := wrCells_length xs us (by simpa using h)
    unfold wrCells at this ⊢
    rw [List.zip_cons_cons, List.flatMap_cons, List.length_append, this]
    simp
    omega
/-- Of a row of two cells each. -/
theorem wrCells_at {w : World} {ad : Addr} {xs : List (Int × List UInt8)} {us : List Value} (h : CellsAt w ad (wrCells xs us)) {i : Nat} {x : Int × List UInt8} {u : Value} (hx : xs[i]? = some x) (hu : us[i]? = some u) : CellsAt w (ad.add (i * 2)) [.int .i64 x.1, u] := by
  obtain ⟨h0, h1⟩ := wrCells_get hx hu
  intro j v hj
  rw [Go.Deep.add_add]
  match j with
  | 0 => obtain rfl := Option.some.inj hj; exact h _ _ h0
  | 1 => obtain rfl := Option.some.inj hj; exact h _ _ h1
  | j + 2 => simp at hj
theorem wrCells_of {w : World} {ad : Addr} : ∀ (xs : List (Int × List UInt8)) (us : List Value), us.length = xs.length → (∀ (i : Nat) (x : Int × List UInt8) (u : Value), xs[i]? = some x → us[i]? = some u → CellsAt w (ad.add (i * 2)) [.int .i64 x.1, u]) → CellsAt w ad (wrCells xs us) := by
  intro xs us hl h j v hj
  have hlen := wrCells_length xs us hl
  have hj2 : j < (wrCells xs us).length := (List.getElem?_eq_some_iff.1 hj).1
  have hi : j / 2 < xs.length := by omega
  have hi' : j / 2 < us.length := by omega
  obtain ⟨h0, h1⟩ := wrCells_get (List.getElem?_eq_getElem hi) (List.getElem?_eq_getElem hi')
  have hc := h (j / 2) _ _ (List.getElem?_eq_getElem hi) (List.getElem?_eq_getElem hi')
  rcases Nat.mod_two_eq_zero_or_one j with hm | hm
  · have e : j = j / 2 * 2 := by omega
    have := hc 0 _ rfl
    rw [Go.Deep.add_add, Nat.add_zero, ← e] at this
    rw [← e] at h0
    rw [this, ← hj, h0]
  · have e : j = j / 2 * 2 + 1 := by omega
    have := hc 1 _ rfl
    rw [Go.Deep.add_add, ← e] at this
    rw [← e] at h1
    rw [this, ← hj, h1]
/-- Writes whose row is of one's own, each with a block of bytes of its own. -/
structure WrOwn (base T : Nat) (w : World) (v : Value) (xs : List (Int × List UInt8)) (us : List Value) : Prop where
  len : us.length = xs.length
  row : w.ownsRow base T 2 v xs.length (wrCells xs us)
  each : ∀ (i : Nat) (x : Int × List UInt8) (u : Value), xs[i]? = some x → us[i]? = some u → ∃ b : Nat, u = .slice (some ⟨b, 0, none⟩) 256 256 ∧ x.2.length = 256 ∧ base ≤ b ∧ b < w.heap.size ∧ v.ownBlock ≠ some b ∧ CellsAt w ⟨b, 0, none⟩ (bcells x.2)
theorem WrOwn.nil (base T : Nat) (w : World) : WrOwn base T w (.slice none 0 0) [] [] := ⟨rfl, ownsRow_nil _ _ _ _, by simp⟩
theorem WrOwn.only {base T : Nat} {w w' : World} {v : Value} {xs : List (Int × List UInt8)} {us : List Value} (h : WrOwn base T w v xs us) (ho : Only [] w w') : WrOwn base T w' v xs us :=
  ⟨h.len, ownsRow_only h.row ho (by simp), fun i x u hx hu => by
    obtain ⟨b, h1, h2, h3, h4, h5, h6⟩ := h.each i x u hx hu
    exact ⟨b, h1, h2, h3, Nat.lt_of_lt_of_le h4 ho.size, h5, h6.only ho (by simp)⟩⟩
/-- One write more. -/
theorem WrOwn.snoc {base T : Nat} {w w1 w2 : World} {v v' : Value} {xs : List (Int × List UInt8)} {us : List Value} (h : WrOwn base T w v xs us) {a : Int} {y : List UInt8} {b : Nat} (ho1 : Only [] w w1) (hy : y.length = 256)
    (hb : w.heap.size ≤ b) (hbb : base ≤ b) (hb1 : b < w1.heap.size) (hc : CellsAt w1 ⟨b, 0, none⟩ (bcells y)) (ho2 : Only v.ownBlock.toList w1 w2)
    (hv : w2.ownsRow base T 2 v' (xs.length + 1) (wrCells xs us ++ [.int .i64 a, .slice (some ⟨b, 0, none⟩) 256 256])) (hvk : ∀ k, v'.ownBlock = some k → v.ownBlock = some k ∨ w1.heap.size ≤ k) :
    WrOwn base T w2 v' (xs ++ [(a, y)]) (us ++ [.slice (some ⟨b, 0, none⟩) 256 256]) := by
  have hvlt : ∀ k, v.ownBlock = some k → k < w.heap.size := fun k hk => (ownsRow_lt h.row hk).2
  refine ⟨by simp [h.len], ?_, ?_⟩
  · rw [wrCells_snoc _ _ _ _ h.len, List.length_append]
    exact hv
  · intro i x u hx hu
    rw [List.getElem?_append] at hx hu
    rw [h.len] at hu
    split at hx
    · rename_i hi
      rw [if_pos hi] at hu
      obtain ⟨b', h1, h2, h3, h4, h5, h6⟩ := h.each i x u hx hu
      have := ho1.size
      have := ho2.size
      refine ⟨b', h1, h2, h3, by omega, fun hk => ?_, (h6.only ho1 (by simp)).only ho2 (by simpa using h5)⟩
      rcases hvk b' hk with h7 | h7
      · exact h5 h7
      · omega
    · rename_i hi
      rw [if_neg hi] at hu
      have h0 : i - xs.length = 0 := by
        have := (List.getElem?_eq_some_iff.1 hx).1
        simp at this
        omega
      rw [h0] at hx hu
      simp at hx hu
      subst hx hu
      have := ho2.size
      refine ⟨b, rfl, hy, hbb, by omega, fun hk => ?_, hc.only ho2 (fun hm => ?_)⟩
      · rcases hvk b hk with h7 | h7
        · have := hvlt b h7; omega
        · omega
      · have := hvlt b (by simpa using hm)
        omega
end Go.Proofs.Ytlngfelpmebemaa
