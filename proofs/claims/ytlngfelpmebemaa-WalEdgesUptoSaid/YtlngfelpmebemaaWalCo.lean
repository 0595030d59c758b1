/-
  What Open makes of a disk. No program in sight.
-/
import Derived.Test.YtlngfelpmebemaaWalCs
namespace Go.Proofs.Ytlngfelpmebemaa
open Go Go.RowKit
set_option linter.unusedSimpArgs false
set_option linter.unusedVariables false
theorem open_st0 {nm p : Nat} {D : Dk} {M : List (List UInt8)} (hs : St0 nm p D.L M) (hp : roomN D.L.length = p) (h1 : 1 ≤ p) (ho : D.off = false) : openP D = (0, D) := by
  have h0 : head0 D = 0 := by unfold head0; rw [hs.head]; rfl
  have hN : headN D = 0 := by unfold headN; rw [hs.head]; rfl
  unfold openP
  rw [hp, if_neg (by omega), if_neg (by rw [ho]; simp), h0, hN, if_neg (by omega), if_pos rfl]
theorem toNat_of (n : Nat) : (UInt8.ofNat n).toNat = n % 256 := by simp
theorem nameSec_at (ts : List Nat) (j t : Nat) (ht : t < 256) (hj : j < listsN ts.length) : (nameSec ts j).getD t 0 = nameAt ts ts.length (j * 256 + t) := by
  unfold nameSec
  rw [List.getD_eq_getElem?_getD, List.getElem?_take, if_pos ht, List.getElem?_drop]
  unfold namesTo
  rw [List.getElem?_map, List.getElem?_range (by omega)]
  rfl
theorem tgt_at (ts : List Nat) (i : Nat) (hi : i < ts.length) (hb : ts.getD i 0 < 65536) : tgt (nameSec ts (i / 64)) (i % 64) = ts.getD i 0 := by
  have hj : i / 64 < listsN ts.length := by unfold listsN; omega
  unfold tgt
  rw [nameSec_at ts _ _ (by omega) hj, nameSec_at ts _ _ (by omega) hj]
  have e1 : (i / 64 * 256 + 2 * (i % 64)) % 256 = 2 * (i % 64) := by omega
  have e2 : (i / 64 * 256 + 2 * (i % 64)) / 256 = i / 64 := by omega
  have e3 : (i / 64 * 256 + (2 * (i % 64) + 1)) % 256 = 2 * (i % 64) + 1 := by omega
  have e4 : (i / 64 * 256 + (2 * (i % 64) + 1)) / 256 = i / 64 := by omega
  have f1 : 64 * (i / 64) + 2 * (i % 64) / 2 = i := by omega
  have f2 : 64 * (i / 64) + (2 * (i % 64) + 1) / 2 = i := by omega
  unfold nameAt
  rw [e1, e2, e3, e4, f1, f2, if_pos ⟨by omega, hi⟩, if_pos (by omega), if_pos ⟨by omega, hi⟩, if_neg (by omega), toNat_of, toNat_of]
  omega
theorem open_st1 {nm p n : Nat} (g : Geo nm p n) {D : Dk} {M : List (List UInt8)} {xs : List Wr} (h : RightP p xs) (hs : St1 nm p D.L M xs) (hp : roomN D.L.length = p) (h1 : 1 ≤ p) (ho : D.off = false) : openP D = applyP nm p 0 (targetsOf xs) D := by
  have hl := right_length h
  have hsm := g.small
  have ht := (right_targets h).2
  have h0 : head0 D = 165 := by unfold head0; rw [hs.head]; rfl
  have hN : headN D = xs.length := by
    have e : headN D = (UInt8.ofNat (xs.length / 256)).toNat * 256 + (UInt8.ofNat (xs.length % 256)).toNat := by unfold headN; rw [hs.head]; rfl
    rw [e, toNat_of, toNat_of]
    omega
  have hT : ∀ i, i < xs.length → target D i = (targetsOf xs).getD i 0 := by
    intro i hi
    have hi' : i < (targetsOf xs).length := by rw [targetsOf_length]; exact hi
    have hb : (targetsOf xs).getD i 0 < p := by
      rw [List.getD_eq_getElem?_getD, List.getElem?_eq_getElem hi']
      exact ht _ (List.getElem_mem hi')
    unfold target
    rw [hs.names (i / 64) (by unfold listsN; omega)]
    exact tgt_at _ i hi' (by omega)
  have hE : targetsE D p xs.length = 0 := by
    unfold targetsE
    split
    · rfl
    · have hno : ¬ ∃ j, j < xs.length ∧ p ≤ target D j := by
        rintro ⟨j, hj, hpj⟩
        rw [hT j hj] at hpj
        have hj' : j < (targetsOf xs).length := by rw [targetsOf_length]; exact hj
        rw [List.getD_eq_getElem?_getD, List.getElem?_eq_getElem hj'] at hpj
        have := ht _ (List.getElem_mem hj')
        simp at hpj
        omega
      rw [if_neg (by rw [ho]; simp), if_neg hno]
  have hM : (List.range xs.length).map (target D) = targetsOf xs := by
    refine List.ext_getElem? (fun i => ?_)
    rw [List.getElem?_map]
    by_cases hi : i < xs.length
    · have hi' : i < (targetsOf xs).length := by rw [targetsOf_length]; exact hi
      rw [List.getElem?_range hi, Option.map_some, hT i hi, List.getD_eq_getElem?_getD, List.getElem?_eq_getElem hi']
      rfl
    · rw [List.getElem?_eq_none (by simpa using hi), List.getElem?_eq_none (by rw [targetsOf_length]; omega)]
      rfl
  unfold openP
  rw [hp, if_neg (by omega), if_neg (by rw [ho]; simp), h0, hN, if_neg (by omega), if_neg (by omega), hE, if_neg (by simp), hM, ← g.lists]
/-- What is on a disk behind a loss of power: what was there, or a group that is to be. -/
def Lies (nm p : Nat) (L M : List (List UInt8)) (xs : List Wr) : Prop := St0 nm p L M ∨ (RightP p xs ∧ St1 nm p L M xs)
/-- What Open leaves: a log between two groups; or a disk without power, on which lies what lay there. -/
theorem open_spec {nm p n : Nat} (g : Geo nm p n) {D : Dk} {M : List (List UInt8)} {xs : List Wr} (hs : Lies nm p D.L M xs) (hn : D.L.length = n) (hp : roomN n = p) (h1 : 1 ≤ p) (ho : D.off = false) (hl : -1 ≤ D.left) :
    (∃ D' M', openP D = (0, D') ∧ St0 nm p D'.L M' ∧ D'.L.length = n ∧ D'.off = false ∧ D.writes ≤ D'.writes ∧ D'.writes ≤ D.writes + (p + 1 : Nat) ∧ ((M' = M ∧ D' = D ∧ St0 nm p D.L M) ∨ (M' = behind M xs ∧ RightP p xs ∧ St1 nm p D.L M xs)) ∧ (D.left = -1 → D'.left = -1) ∧ -1 ≤ D'.left ∧ D'.left ≤ D.left) ∨
    (∃ D', openP D = (6, D') ∧ D.left ≠ -1 ∧ RightP p xs ∧ St1 nm p D.L M xs ∧ St1 nm p D'.L M xs ∧ D'.L.length = n ∧ D'.off = true ∧ D.writes ≤ D'.writes ∧ D'.writes ≤ D.writes + (p + 1 : Nat) ∧ D'.left = 0) := by
  rcases hs with hs | ⟨hr, hs⟩
  · exact .inl ⟨D, M, open_st0 hs (by rw [hn]; exact hp) h1 ho, hs, hn, ho, by omega, by omega, .inl ⟨rfl, rfl, hs⟩, fun h => h, hl, by omega⟩
  · have hlen := right_length hr
    rw [open_st1 g hr hs (by rw [hn]; exact hp) h1 ho]
    rcases last_spec g hr hs hn ho hl with ⟨D', e1, e2, e3, e4, e5, e6⟩ | ⟨D', k, e1, e2, e3, e4, e5, e6, e7, e8⟩
    · exact .inl ⟨D', behind M xs, e1, e2, e3, e4, by omega, by omega, .inr ⟨rfl, hr, hs⟩, by omega, by omega, by omega⟩
    · exact .inr ⟨D', e1, by omega, hr, hs, e4, e5, e6, by omega, by omega, e8⟩
theorem St1.lies {nm p : Nat} {L M : List (List UInt8)} {xs : List Wr} (h : St1 nm p L M xs) (hr : RightP p xs) : Lies nm p L M xs := .inr ⟨hr, h⟩
theorem new_st0 (n nm p : Nat) (h : 1 ≤ n) (hf : 1 + nm + 2 * p ≤ n) : St0 nm p (Dk.new n).L (List.replicate p (sec 0)) := by
  have e : ∀ i, i < n → (Dk.new n).L.getD i [] = sec 0 := by
    intro i hi
    unfold Dk.new
    rw [List.getD_eq_getElem?_getD, List.getElem?_replicate, if_pos hi]
    rfl
  refine ⟨e 0 (by omega), by simp, fun i hi => ?_⟩
  rw [e _ (by omega), List.getD_eq_getElem?_getD, List.getElem?_replicate, if_pos hi]
  rfl
end Go.Proofs.Ytlngfelpmebemaa
