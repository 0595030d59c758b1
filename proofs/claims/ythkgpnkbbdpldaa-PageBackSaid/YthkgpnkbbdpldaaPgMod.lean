/-
  Lists of records of one's own: one's bytes grow, a byte is written over. No program in sight.
-/
import Derived.Test.YthkgpnkbbdpldaaPgRound
namespace Go.Proofs.Ythkgpnkbbdpldaa
open Go.RowKit
set_option linter.unusedSimpArgs false
set_option linter.unusedVariables false
theorem pairCells_cons (x : Rec) (xs : List Rec) (u : Value) (us : List Value) : pairCells (x :: xs) (u :: us) = .string x.1 :: u :: pairCells xs us := rfl
theorem pairCells_set (xs : List Rec) (us : List Value) (h : us.length = xs.length) (i : Nat) (x : Rec) (hx : xs[i]? = some x) (m : List UInt8) (u' : Value) :
    pairCells (xs.set i (x.1, m)) (us.set i u') = (pairCells xs us).set (i * 2 + 1) u' := by
  induction xs generalizing us i with
  | nil => simp at hx
  | cons y xs ih =>
    match us, h with
    | u :: us, h =>
      match i with
      | 0 => simp at hx; subst hx; rfl
      | i + 1 =>
        simp at hx h
        rw [List.set_cons_succ, List.set_cons_succ, pairCells_cons, pairCells_cons, ih us h i hx]
        rw [show (i + 1) * 2 + 1 = (i * 2 + 1) + 1 + 1 by omega, List.set_cons_succ, List.set_cons_succ]
theorem pairCells_keys (xs : List Rec) (us : List Value) (i : Nat) (x : Rec) (hx : xs[i]? = some x) (m : List UInt8) : pairCells (xs.set i (x.1, m)) us = pairCells xs us := by
  induction xs generalizing us i with
  | nil => simp at hx
  | cons y xs ih =>
    match us with
    | [] => simp [pairCells]
    | u :: us =>
      match i with
      | 0 => simp at hx; subst hx; rfl
      | i + 1 =>
        simp at hx
        rw [List.set_cons_succ, pairCells_cons, pairCells_cons, ih us i hx]
theorem get_set_ne {α : Type} {l : List α} {i j : Nat} {a b : α} (h : (l.set i a)[j]? = some b) (hne : j ≠ i) : l[j]? = some b := by
  rw [List.getElem?_set] at h
  rw [if_neg (fun e => hne e.symm)] at h
  exact h
theorem get_set_eq {α : Type} {l : List α} {i : Nat} {a b : α} (h : (l.set i a)[i]? = some b) : b = a := by
  rw [List.getElem?_set] at h
  simp at h
  exact h.2.symm
theorem ownsRow_set {w : World} {base : Nat} {e : TypeId} {size n c g j : Nat} {cs : List Value} (h : w.ownsRow base e size (.slice (some ⟨g, 0, none⟩) n c) n cs) (u : Value) (hj : j < n * size) :
    (w.setCell ⟨g, j, none⟩ u).ownsRow base e size (.slice (some ⟨g, 0, none⟩) n c) n (cs.set j u) := by
  refine ⟨by rw [List.length_set]; exact h.1, .inr ?_⟩
  rcases h.2 with ⟨h1, _⟩ | ⟨g', cap, cur, hv, hb, hg, hn, hm, hs, ht⟩
  · cases h1
  · obtain ⟨rfl, rfl⟩ : g = g' ∧ c = cap := by simpa using hv
    refine ⟨g, c, cur.setIfInBounds j u, rfl, hb, heap_setCell_same w g j _ _ _ hg, hn, hm, by simpa using hs, ?_⟩
    rw [Array.toList_setIfInBounds, List.take_set, ht]
theorem RecsOwn.grow {base : Nat} {tP tB : TypeId} {w w1 : World} {g n c i : Nat} {ys : List Rec} {us : List Value} {y : Rec} {u u' : Value} {m : List UInt8} (h : RecsOwn base tP tB w (.slice (some ⟨g, 0, none⟩) n c) ys us)
    (hi : ys[i]? = some y) (hu : us[i]? = some u) (ho1 : Only u.ownBlock.toList w w1) (hu' : w1.ownsRow base tB 1 u' m.length (bcells m)) (huk : ∀ k, u'.ownBlock = some k → u.ownBlock = some k ∨ w.heap.size ≤ k) (hn : n = ys.length) :
    RecsOwn base tP tB (w1.setCell ⟨g, i * 2 + 1, none⟩ u') (.slice (some ⟨g, 0, none⟩) n c) (ys.set i (y.1, m)) (us.set i u') := by
  subst hn
  have hilt : i < ys.length := (List.getElem?_eq_some_iff.1 hi).1
  have hgw : g < w.heap.size := (ownsRow_lt h.row rfl).2
  have hgu : ∀ (j : Nat) (v : Value), us[j]? = some v → v.ownBlock ≠ some g := fun j v hj hk => h.far j v g hj hk rfl
  have hgu' : u'.ownBlock ≠ some g := fun hk => by
    rcases huk g hk with h1 | h1
    · exact hgu i u hu h1
    · omega
  have hblk : ∀ (j : Nat) (v : Value) (k : Nat), us[j]? = some v → v.ownBlock = some k → k < w.heap.size := fun j v k hj hk => by
    obtain ⟨x, _, hx⟩ := h.elt hj
    exact (ownsRow_lt hx hk).2
  have hset := (Only.refl [g] w1).setCell (p := ⟨g, i * 2 + 1, none⟩) (by simp) u'
  have hrow1 := ownsRow_only h.row ho1 (fun k hk hm => by
    have : g = k := by simpa [Value.ownBlock] using hk
    subst this
    exact hgu i u hu (by simpa using hm))
  refine ⟨by simp [h.len], ?_, ?_, ?_, ?_⟩
  · rw [List.length_set, pairCells_set ys us h.len i y hi m u']
    exact ownsRow_set hrow1 u' (by omega)
  · intro j x v hx hv
    by_cases hji : j = i
    · subst hji
      obtain rfl := get_set_eq hx
      obtain rfl := get_set_eq hv
      exact ownsRow_only hu' hset (fun k hk hm => hgu' (by rw [hk]; simp at hm; rw [hm]))
    · have hx := get_set_ne hx hji
      have hv := get_set_ne hv hji
      refine ownsRow_only (ownsRow_only (h.each j x v hx hv) ho1 (fun k hk hm => ?_)) hset (fun k hk hm => hgu j v hv (by rw [hk]; simp at hm; rw [hm]))
      exact hji (h.apart j i v u k hv hu hk (by simpa using hm))
  · intro j v k hv hk hvk
    have : g = k := by simpa [Value.ownBlock] using hvk
    subst this
    by_cases hji : j = i
    · subst hji
      obtain rfl := get_set_eq hv
      exact hgu' hk
    · exact hgu j v (get_set_ne hv hji) hk
  · intro a b v v' k ha hb hka hkb
    by_cases hai : a = i
    · by_cases hbi : b = i
      · omega
      · subst hai
        obtain rfl := get_set_eq ha
        have hb := get_set_ne hb hbi
        rcases huk k hka with h1 | h1
        · exact h.apart a b u v' k hu hb h1 hkb
        · have := hblk b v' k hb hkb; omega
    · have ha' := get_set_ne ha hai
      by_cases hbi : b = i
      · subst hbi
        obtain rfl := get_set_eq hb
        rcases huk k hkb with h1 | h1
        · exact h.apart a b v u k ha' hu hka h1
        · have := hblk a v k ha' hka; omega
      · exact h.apart a b v v' k ha' (get_set_ne hb hbi) hka hkb
theorem RecsOwn.poke {base : Nat} {tP tB : TypeId} {w : World} {v : Value} {q l c i k : Nat} {ys : List Rec} {us : List Value} {y : Rec} (h : RecsOwn base tP tB w v ys us) (hi : ys[i]? = some y)
    (hu : us[i]? = some (.slice (some ⟨q, 0, none⟩) l c)) (hl : l = y.2.length) (hk : k < y.2.length) (z : UInt8) : RecsOwn base tP tB (w.setCell ⟨q, k, none⟩ (bcell z)) v (ys.set i (y.1, y.2.set k z)) us := by
  subst hl
  have hset := (Only.refl [q] w).setCell (p := ⟨q, k, none⟩) (by simp) (bcell z)
  refine ⟨by rw [List.length_set]; exact h.len, ?_, ?_, h.far, h.apart⟩
  · rw [List.length_set, pairCells_keys ys us i y hi]
    refine ownsRow_only h.row hset (fun k' hk' hm => ?_)
    have : k' = q := by simpa using hm
    subst this
    exact h.far i _ k' hu rfl hk'
  · intro j x v' hx hv'
    by_cases hji : j = i
    · subst hji
      obtain rfl := get_set_eq hx
      rw [hu] at hv'
      obtain rfl := Option.some.inj hv'
      have := ownsRow_set (j := k) (h.each j y _ hi hu) (bcell z) (by omega)
      rw [show bcells (y.2.set k z) = (bcells y.2).set k (bcell z) by unfold bcells; rw [List.map_set], List.length_set]
      exact this
    · have hx := get_set_ne hx hji
      refine ownsRow_only (h.each j x v' hx hv') hset (fun k' hk' hm => ?_)
      have : k' = q := by simpa using hm
      subst this
      exact hji (h.apart j i v' _ k' hv' hu hk' rfl)
theorem ownsRow_cell {w : World} {base : Nat} {e : TypeId} {size n c g j : Nat} {cs : List Value} {v : Value} (h : w.ownsRow base e size (.slice (some ⟨g, 0, none⟩) n c) n cs) (hj : cs[j]? = some v) : w.cell? ⟨g, j, none⟩ = some v ∧ w.frozen? ⟨g, j, none⟩ = false := by
  rcases h.2 with ⟨h1, _⟩ | ⟨g', cap, cur, hv, hb, hg, hn, hm, hs, ht⟩
  · cases h1
  · obtain ⟨rfl, rfl⟩ : g = g' ∧ c = cap := by simpa using hv
    refine ⟨?_, frozen_of_row w g j _ _ hg⟩
    rw [cell_of_row w g j _ _ _ hg]
    rw [← ht, List.getElem?_take] at hj
    split at hj
    · rw [← Array.getElem?_toList]; exact hj
    · cases hj
theorem ownsRow_some {w : World} {base : Nat} {e : TypeId} {size n : Nat} {v : Value} {cs : List Value} (h : w.ownsRow base e size v n cs) (hn : 0 < n) : ∃ g c, v = .slice (some ⟨g, 0, none⟩) n c := by
  rcases h.2 with ⟨_, h1⟩ | ⟨g', cap, cur, hv, _⟩
  · omega
  · exact ⟨g', cap, hv⟩
/-- The first so many have one byte more, that is 2; the others are as they were. -/
def Mod (xs ys : List Rec) (i : Nat) : Prop := ys.length = xs.length ∧ ∀ (j : Nat) (x y : Rec), xs[j]? = some x → ys[j]? = some y → y.1 = x.1 ∧ (j < i → y.2.length = x.2.length + 1 ∧ y.2[x.2.length]? = some 2) ∧ (i ≤ j → y = x)
theorem Mod.zero (xs : List Rec) : Mod xs xs 0 := ⟨rfl, fun j x y hx hy => by rw [hx] at hy; obtain rfl := Option.some.inj hy; exact ⟨rfl, fun h => by omega, fun _ => rfl⟩⟩
theorem Mod.next {xs ys : List Rec} {i : Nat} (h : Mod xs ys i) {x : Rec} (hx : xs[i]? = some x) {bs : List UInt8} (h1 : bs.length = x.2.length + 1) (h2 : bs[x.2.length]? = some 2) : Mod xs (ys.set i (x.1, bs)) (i + 1) := by
  refine ⟨by rw [List.length_set]; exact h.1, fun j x' y' hx' hy' => ?_⟩
  by_cases hji : j = i
  · subst hji
    rw [hx] at hx'
    obtain rfl := Option.some.inj hx'
    obtain rfl := get_set_eq hy'
    exact ⟨rfl, fun _ => ⟨h1, h2⟩, fun h => by omega⟩
  · obtain ⟨a, b, c⟩ := h.2 j x' y' hx' (get_set_ne hy' hji)
    exact ⟨a, fun h => b (by omega), fun h => c (by omega)⟩
theorem bcell_succ' (x : UInt8) : Value.int .u8 (((x.toNat : Int) + 1) % 256) = bcell (x + 1) := by
  unfold bcell
  rw [UInt8.toNat_add]
  congr 1
theorem bcell_succ (x : UInt8) : Value.int .u8 (IntKind.u8.wrap ((x.toNat : Int) + 1)) = bcell (x + 1) := by
  unfold bcell
  rw [show IntKind.u8.wrap ((x.toNat : Int) + 1) = ((x.toNat : Int) + 1) % 256 from rfl, UInt8.toNat_add]
  congr 1
end Go.Proofs.Ythkgpnkbbdpldaa
