/-
  The records that bytes hold, by definition; lists of records whose rows are all the call's own. No program in sight.
-/
import Derived.Test.YthkgpnkbbdpldaaPgPure
namespace Go.Proofs.Ythkgpnkbbdpldaa
open Go.RowKit
set_option linter.unusedSimpArgs false
set_option linter.unusedVariables false
def cutB (b : List UInt8) (i n : Nat) : List UInt8 := (b.drop i).take n
/-- So many records from a place on. -/
def readFrom (b : List UInt8) : Nat → Nat → Option (List Rec)
  | 0, _ => some []
  | n + 1, i => if b.length < i + 2 then none else
      if b.length < i + 2 + (b.getD i 0).toNat + (b.getD (i + 1) 0).toNat then none else
      (readFrom b n (i + 2 + (b.getD i 0).toNat + (b.getD (i + 1) 0).toNat)).map
        (fun l => ((⟨(cutB b (i + 2) (b.getD i 0).toNat).toArray⟩, cutB b (i + 2 + (b.getD i 0).toNat) (b.getD (i + 1) 0).toNat) : Rec) :: l)
def readL (b : List UInt8) : Option (List Rec) :=
  if b.length = 256 then (readFrom b (b.getD 0 0).toNat 1).filter (fun l => layE l = 0 ∧ layB l = b) else none
def readE (b : List UInt8) : Nat := if (readL b).isSome then 0 else 30
def readR (b : List UInt8) : List Rec := (readL b).getD []
theorem readFrom_length {b : List UInt8} {n i : Nat} {l : List Rec} (h : readFrom b n i = some l) : l.length = n := by
  induction n generalizing i l with
  | zero => simp [readFrom] at h; subst h; rfl
  | succ n ih =>
    unfold readFrom at h
    split at h
    · cases h
    split at h
    · cases h
    obtain ⟨l', h1, rfl⟩ := Option.map_eq_some_iff.1 h
    rw [List.length_cons, ih h1]
/-- What is read, step by step. -/
theorem readFrom_step {b : List UInt8} {n i : Nat} (acc : List Rec) (h1 : i + 2 ≤ b.length) (h2 : i + 2 + (b.getD i 0).toNat + (b.getD (i + 1) 0).toNat ≤ b.length) :
    (readFrom b (n + 1) i).map (acc ++ ·) = (readFrom b n (i + 2 + (b.getD i 0).toNat + (b.getD (i + 1) 0).toNat)).map ((acc ++ [((⟨(cutB b (i + 2) (b.getD i 0).toNat).toArray⟩, cutB b (i + 2 + (b.getD i 0).toNat) (b.getD (i + 1) 0).toNat) : Rec)]) ++ ·) := by
  conv => lhs; unfold readFrom
  rw [if_neg (by omega), if_neg (by omega), Option.map_map]
  congr 1
  funext l
  simp
theorem readFrom_short {b : List UInt8} {n i : Nat} (h : b.length < i + 2 ∨ b.length < i + 2 + (b.getD i 0).toNat + (b.getD (i + 1) 0).toNat) : readFrom b (n + 1) i = none := by
  unfold readFrom
  split
  · rfl
  · rw [if_pos (by omega)]
theorem cutB_length (b : List UInt8) (i n : Nat) (h : i + n ≤ b.length) : (cutB b i n).length = n := by
  unfold cutB
  rw [List.length_take, List.length_drop]
  omega
theorem readL_long {b : List UInt8} (h : b.length ≠ 256) : readL b = none := by unfold readL; rw [if_neg h]
theorem readL_many {b : List UInt8} (h : 7 < (b.getD 0 0).toNat) : readL b = none := by
  unfold readL
  split
  · rw [Option.filter_eq_none_iff]
    intro l hl
    have h1 := readFrom_length hl
    simp only [decide_eq_true_eq, not_and]
    intro h2 _
    obtain ⟨h3, _, h4⟩ := layE_zero h2
    have := tot_ge l h3
    omega
  · rfl
theorem readL_none {b : List UInt8} (h : readFrom b (b.getD 0 0).toNat 1 = none) : readL b = none := by
  unfold readL
  rw [h]
  split <;> rfl
theorem readL_some {b : List UInt8} {l : List Rec} (hb : b.length = 256) (h : readFrom b (b.getD 0 0).toNat 1 = some l) : readL b = if layE l = 0 ∧ layB l = b then some l else none := by
  unfold readL
  rw [if_pos hb, h]
  simp [Option.filter]
theorem readE_none {b : List UInt8} (h : readL b = none) : readE b = 30 := by unfold readE; rw [h]; rfl
theorem readR_none {b : List UInt8} (h : readL b = none) : readR b = [] := by unfold readR; rw [h]; rfl
theorem readE_some {b : List UInt8} {l : List Rec} (h : readL b = some l) : readE b = 0 := by unfold readE; rw [h]; rfl
theorem readR_some {b : List UInt8} {l : List Rec} (h : readL b = some l) : readR b = l := by unfold readR; rw [h]; rfl
/-- The cells of records, each with the slice of its bytes. -/
def pairCells (xs : List Rec) (us : List Value) : List Value := (xs.zip us).flatMap fun p => [.string p.1.1, p.2]
theorem pairCells_snoc (xs : List Rec) (us : List Value) (x : Rec) (u : Value) (h : us.length = xs.length) : pairCells (xs ++ [x]) (us ++ [u]) = pairCells xs us ++ [.string x.1, u] := by
  unfold pairCells
  rw [List.zip_append h.symm, List.flatMap_append]
  rfl
theorem pairCells_get {xs : List Rec} {us : List Value} {i : Nat} {x : Rec} {u : Value} (hx : xs[i]? = some x) (hu : us[i]? = some u) : (pairCells xs us)[i * 2]? = some (.string x.1) ∧ (pairCells xs us)[i * 2 + 1]? = some u := by
  induction xs generalizing us i with
  | nil => simp at hx
  | cons y xs ih =>
    match us with
    | [] => simp at hu
    | v :: us =>
      match i with
      | 0 =>
        simp at hx hu
        subst hx hu
        exact ⟨rfl, rfl⟩
      | i + 1 =>
        simp at hx hu
        have := ih hx hu
        unfold pairCells at this ⊢
        rw [List.zip_cons_cons, List.flatMap_cons]
        rw [show (i + 1) * 2 = (i * 2) + 1 + 1 by omega, show i * 2 + 1 + 1 + 1 = (i * 2 + 1) + 1 + 1 by omega]
        simpa using this
/-- A list of records whose row, and whose bytes' rows, are of one's own and apart. -/
structure RecsOwn (base : Nat) (tP tB : TypeId) (w : World) (v : Value) (xs : List Rec) (us : List Value) : Prop where
  len : us.length = xs.length
  row : w.ownsRow base tP 2 v xs.length (pairCells xs us)
  each : ∀ (i : Nat) (x : Rec) (u : Value), xs[i]? = some x → us[i]? = some u → w.ownsRow base tB 1 u x.2.length (bcells x.2)
  far : ∀ (i : Nat) (u : Value) (k : Nat), us[i]? = some u → u.ownBlock = some k → v.ownBlock ≠ some k
  apart : ∀ (i j : Nat) (u u' : Value) (k : Nat), us[i]? = some u → us[j]? = some u' → u.ownBlock = some k → u'.ownBlock = some k → i = j
theorem RecsOwn.nil (base : Nat) (tP tB : TypeId) (w : World) : RecsOwn base tP tB w (.slice none 0 0) [] [] :=
  ⟨rfl, ownsRow_nil _ _ _ _, by simp, by simp, by simp⟩
theorem RecsOwn.mono {base base' : Nat} {tP tB : TypeId} {w : World} {v : Value} {xs : List Rec} {us : List Value} (h : RecsOwn base tP tB w v xs us) (hb : base' ≤ base) : RecsOwn base' tP tB w v xs us :=
  ⟨h.len, ownsRow_mono h.row hb, fun i x u hx hu => ownsRow_mono (h.each i x u hx hu) hb, h.far, h.apart⟩
theorem RecsOwn.only {base : Nat} {tP tB : TypeId} {w w' : World} {v : Value} {xs : List Rec} {us : List Value} (h : RecsOwn base tP tB w v xs us) (ho : Only [] w w') : RecsOwn base tP tB w' v xs us :=
  ⟨h.len, ownsRow_only h.row ho (by simp), fun i x u hx hu => ownsRow_only (h.each i x u hx hu) ho (by simp), h.far, h.apart⟩
theorem RecsOwn.elt {base : Nat} {tP tB : TypeId} {w : World} {v : Value} {xs : List Rec} {us : List Value} (h : RecsOwn base tP tB w v xs us) {i : Nat} {u : Value} (hu : us[i]? = some u) : ∃ x, xs[i]? = some x ∧ w.ownsRow base tB 1 u x.2.length (bcells x.2) := by
  have hi : i < xs.length := by have := (List.getElem?_eq_some_iff.1 hu).1; rw [h.len] at this; exact this
  exact ⟨_, List.getElem?_eq_getElem hi, h.each i _ u (List.getElem?_eq_getElem hi) hu⟩
/-- One record more. -/
theorem RecsOwn.snoc {base : Nat} {tP tB : TypeId} {w w1 w2 : World} {v v' : Value} {xs : List Rec} {us : List Value} (h : RecsOwn base tP tB w v xs us) {x : Rec} {u : Value} (ho1 : Only [] w w1)
    (hu : w1.ownsRow base tB 1 u x.2.length (bcells x.2)) (huk : ∀ k, u.ownBlock = some k → w.heap.size ≤ k) (ho2 : Only v.ownBlock.toList w1 w2)
    (hv : w2.ownsRow base tP 2 v' (xs.length + 1) (pairCells xs us ++ [.string x.1, u])) (hvk : ∀ k, v'.ownBlock = some k → v.ownBlock = some k ∨ w1.heap.size ≤ k) : RecsOwn base tP tB w2 v' (xs ++ [x]) (us ++ [u]) := by
  have hlt : ∀ (i : Nat) (u' : Value) (k : Nat), us[i]? = some u' → u'.ownBlock = some k → k < w.heap.size := fun i u' k h1 h2 => by
    obtain ⟨y, _, hy⟩ := h.elt h1
    exact (ownsRow_lt hy h2).2
  have hvlt : ∀ k, v.ownBlock = some k → k < w.heap.size := fun k hk => (ownsRow_lt h.row hk).2
  have hult : ∀ k, u.ownBlock = some k → k < w1.heap.size := fun k hk => (ownsRow_lt hu hk).2
  have hsz := ho1.size
  have hget : ∀ (i : Nat) (u' : Value), (us ++ [u])[i]? = some u' → (i < us.length ∧ us[i]? = some u') ∨ (i = us.length ∧ u' = u) := by
    intro i u' hi
    rw [List.getElem?_append] at hi
    split at hi
    · exact .inl ⟨‹_›, hi⟩
    · have := (List.getElem?_eq_some_iff.1 hi).1
      simp at this
      have h0 : i = us.length := by omega
      subst h0
      simp at hi
      exact .inr ⟨rfl, hi.symm⟩
  refine ⟨by simp [h.len], ?_, ?_, ?_, ?_⟩
  · rw [pairCells_snoc _ _ _ _ h.len, List.length_append]
    exact hv
  · intro i y u' hy hu'
    rcases hget i u' hu' with ⟨hi, h2⟩ | ⟨rfl, rfl⟩
    · rw [List.getElem?_append, if_pos (by rw [← h.len]; exact hi)] at hy
      refine ownsRow_only (ownsRow_only (h.each i y u' hy h2) ho1 (by simp)) ho2 (fun k hk hm => ?_)
      exact h.far i u' k h2 hk (by simpa using hm)
    · rw [h.len, List.getElem?_append, if_neg (by omega)] at hy
      simp at hy
      subst hy
      refine ownsRow_only hu ho2 (fun k hk hm => ?_)
      have := huk k hk
      have := hvlt k (by simpa using hm)
      omega
  · intro i u' k hu' hk hk'
    rcases hget i u' hu' with ⟨_, h2⟩ | ⟨_, rfl⟩
    · rcases hvk k hk' with h3 | h3
      · exact h.far i u' k h2 hk h3
      · have := hlt i u' k h2 hk; omega
    · rcases hvk k hk' with h3 | h3
      · have := huk k hk; have := hvlt k h3; omega
      · have := hult k hk; omega
  · intro i j u1 u2 k h1 h2 k1 k2
    rcases hget i u1 h1 with ⟨_, h3⟩ | ⟨h3, h5⟩ <;> rcases hget j u2 h2 with ⟨_, h4⟩ | ⟨h4, h6⟩
    · exact h.apart i j u1 u2 k h3 h4 k1 k2
    · subst h6; have := hlt i u1 k h3 k1; have := huk k k2; omega
    · subst h5; have := hlt j u2 k h4 k2; have := huk k k1; omega
    · omega
end Go.Proofs.Ythkgpnkbbdpldaa
