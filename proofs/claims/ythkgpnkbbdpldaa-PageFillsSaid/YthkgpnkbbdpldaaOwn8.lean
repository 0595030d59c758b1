/-
  Bytes of one's own that are written over. No program in sight.
-/
import Derived.Test.YthkgpnkbbdpldaaPgOwn
namespace Go.Proofs.Ythkgpnkbbdpldaa
open Go.RowKit
set_option linter.unusedSimpArgs false
set_option linter.unusedVariables false
/-- So many bytes in a block of their own, not among the elder ones. -/
def Own8 (w : World) (A : Option Addr) (n B0 : Nat) : Prop := 0 < n → ∃ q t cur, A = some ⟨q, 0, none⟩ ∧ B0 ≤ q ∧ w.heap[q]? = some (.cells cur t (0, 0)) ∧ ∀ j, j < n → ∃ u : Int, cur[j]? = some (.int .u8 u)
theorem Own8.set {w : World} {q n B0 k : Nat} (h : Own8 w (some ⟨q, 0, none⟩) n B0) (u : Int) : Own8 (w.setCell ⟨q, k, none⟩ (.int .u8 u)) (some ⟨q, 0, none⟩) n B0 := by
  intro h0
  obtain ⟨q', t, cur, hq, hb, hh, hj⟩ := h h0
  obtain rfl : q = q' := by simpa using hq
  refine ⟨q, t, cur.setIfInBounds k (.int .u8 u), rfl, hb, heap_setCell_same w q k _ _ _ hh, fun j hlt => ?_⟩
  obtain ⟨x, hx⟩ := hj j hlt
  rw [Array.getElem?_setIfInBounds]
  by_cases hkj : k = j
  · subst hkj
    exact ⟨u, by rw [if_pos rfl, if_pos (Array.getElem?_eq_some_iff.1 hx).1]⟩
  · exact ⟨x, by rw [if_neg hkj]; exact hx⟩
theorem Own8.only {S : List Nat} {w w' : World} {A : Option Addr} {n B0 : Nat} (h : Own8 w A n B0) (ho : Only S w w') (hS : ∀ q, B0 ≤ q → q ∉ S) : Own8 w' A n B0 := by
  intro h0
  obtain ⟨q, t, cur, hq, hb, hh, hj⟩ := h h0
  exact ⟨q, t, cur, hq, hb, ho.heap hh (hS q hb), hj⟩
theorem Own8.cell {w : World} {A : Option Addr} {n B0 : Nat} (h : Own8 w A n B0) (k : Nat) (hk : k < n) : ∃ q, ∃ u : Int, A = some ⟨q, 0, none⟩ ∧ B0 ≤ q ∧ w.cell? ⟨q, k, none⟩ = some (.int .u8 u) ∧ w.frozen? ⟨q, k, none⟩ = false := by
  obtain ⟨q, t, cur, hq, hb, hh, hj⟩ := h (by omega)
  obtain ⟨u, hu⟩ := hj k hk
  exact ⟨q, u, hq, hb, by rw [cell_of_row w q k _ _ _ hh]; exact hu, frozen_of_row w q k _ _ hh⟩
theorem Own8.row {w : World} {q B0 : Nat} {l : List UInt8} {t : TypeId} (hb : B0 ≤ q) (h : w.heap[q]? = some (.cells (bcells l).toArray t (0, 0))) (n : Nat) (hn : l.length = n) : Own8 w (some ⟨q, 0, none⟩) n B0 := by
  subst hn
  exact fun _ => ⟨q, t, _, rfl, hb, h, fun j hj => ⟨(l[j].toNat : Int), by rw [List.getElem?_toArray, bcells_get, List.getElem?_eq_getElem hj]; rfl⟩⟩
theorem Own8.owns {w : World} {tB : TypeId} {base B0 n : Nat} {A : Option Addr} {c : Nat} {l : List UInt8} (h : w.ownsRow base tB 1 (.slice A n c) n (bcells l)) (hb : B0 ≤ base) : Own8 w A n B0 := by
  intro h0
  rcases h.2 with ⟨_, h1⟩ | ⟨g, cap, cur, hv, hg, hh, _, _, _, ht⟩
  · omega
  · obtain ⟨rfl, _⟩ : A = some ⟨g, 0, none⟩ ∧ True := by simp at hv; exact ⟨hv.1, trivial⟩
    refine ⟨g, _, cur, rfl, by omega, hh, fun j hj => ?_⟩
    have hl : l.length = n := by have := h.1; rw [bcells_length] at this; omega
    have e : (cur.toList.take (n * 1))[j]? = (bcells l)[j]? := by rw [ht]
    rw [List.getElem?_take, if_pos (by omega), bcells_get, List.getElem?_eq_getElem (l := l) (by omega)] at e
    exact ⟨(l[j].toNat : Int), by simpa [bcell] using e⟩
theorem RecsOwn.onlyS {base : Nat} {tP tB : TypeId} {w w' : World} {S : List Nat} {v : Value} {xs : List Rec} {us : List Value} (h : RecsOwn base tP tB w v xs us) (ho : Only S w w') (hS : ∀ k ∈ S, k < base) : RecsOwn base tP tB w' v xs us :=
  ⟨h.len, ownsRow_only h.row ho (fun k hk hm => by have := (ownsRow_lt h.row hk).1; have := hS k hm; omega),
   fun i x u hx hu => ownsRow_only (h.each i x u hx hu) ho (fun k hk hm => by have := (ownsRow_lt (h.each i x u hx hu) hk).1; have := hS k hm; omega), h.far, h.apart⟩
theorem readR_le (b : List UInt8) : (readR b).length ≤ 7 := by
  cases h : readL b with
  | none => rw [readR_none h]; simp
  | some l =>
    rw [readR_some h]
    unfold readL at h
    split at h
    · have h2 := (Option.filter_eq_some_iff.1 h).2
      simp only [decide_eq_true_eq] at h2
      obtain ⟨h3, _, h4⟩ := layE_zero h2.1
      have := tot_ge l h3
      omega
    · cases h
end Go.Proofs.Ythkgpnkbbdpldaa
