/-
  The log over a disk when the power goes: writes one behind the other, as plain data. No program in sight.
-/
import Derived.Test.YtlngfelpmebemaaWalAk
namespace Go.Proofs.Ytlngfelpmebemaa
open Go Go.RowKit
set_option linter.unusedSimpArgs false
set_option linter.unusedVariables false
abbrev Ws := List (Nat × List UInt8)
def putAll (ws : Ws) (L : List (List UInt8)) : List (List UInt8) := ws.foldl (fun L x => L.set x.1 x.2) L
theorem putAll_append (a b : Ws) (L : List (List UInt8)) : putAll (a ++ b) L = putAll b (putAll a L) := by unfold putAll; rw [List.foldl_append]
theorem putAll_length : ∀ (ws : Ws) (L : List (List UInt8)), (putAll ws L).length = L.length
  | [], L => rfl
  | x :: ws, L => by
    show (putAll ws (L.set x.1 x.2)).length = _
    rw [putAll_length ws, List.length_set]
theorem putAll_other : ∀ (ws : Ws) (L : List (List UInt8)) (j : Nat), (∀ x ∈ ws, x.1 ≠ j) → (putAll ws L).getD j [] = L.getD j []
  | [], L, j, h => rfl
  | x :: ws, L, j, h => by
    show (putAll ws (L.set x.1 x.2)).getD j [] = _
    rw [putAll_other ws _ j (fun y hy => h y (List.mem_cons_of_mem _ hy)), List.getD_eq_getElem?_getD, List.getElem?_set_ne (h x (List.mem_cons_self ..)), ← List.getD_eq_getElem?_getD]
theorem putAll_mem : ∀ (ws : Ws) (L : List (List UInt8)) (j : Nat) (b : List UInt8), (ws.map (·.1)).Nodup → (j, b) ∈ ws → j < L.length → (putAll ws L).getD j [] = b
  | [], L, j, b, hn, hm, hj => by simp at hm
  | x :: ws, L, j, b, hn, hm, hj => by
    show (putAll ws (L.set x.1 x.2)).getD j [] = _
    rw [List.map_cons, List.nodup_cons] at hn
    rcases List.mem_cons.1 hm with rfl | hm
    · rw [putAll_other ws _ j (fun y hy e => hn.1 (by rw [List.mem_map]; exact ⟨y, hy, e⟩)), List.getD_eq_getElem?_getD, List.getElem?_set_self hj]
      rfl
    · exact putAll_mem ws _ j b hn.2 hm (by rw [List.length_set]; exact hj)
def runW : Ws → Dk → Int × Dk
  | [], D => (0, D)
  | x :: r, D => if (D.write (x.1 : Int) x.2).1 ≠ 0 then D.write (x.1 : Int) x.2 else runW r (D.write (x.1 : Int) x.2).2
def OkW (n : Nat) (ws : Ws) : Prop := ∀ x ∈ ws, x.1 < n ∧ x.2.length = 256
theorem OkW.append {n : Nat} {a b : Ws} (ha : OkW n a) (hb : OkW n b) : OkW n (a ++ b) := fun x hx => (List.mem_append.1 hx).elim (ha x) (hb x)
theorem andP_run (a b : Ws) (D : Dk) : andP (runW a D) (runW b) = runW (a ++ b) D := by
  induction a generalizing D with
  | nil => rfl
  | cons x a ih =>
    rw [List.cons_append, runW, runW]
    by_cases h : (D.write (x.1 : Int) x.2).1 ≠ 0
    · rw [if_pos h, if_pos h]
      unfold andP
      rw [if_pos h]
    · rw [if_neg h, if_neg h, ih]
theorem write_goes (D : Dk) (i : Nat) (b : List UInt8) (ho : D.off = false) (hi : i < D.L.length) (hb : b.length = 256) (hl : D.left ≠ 0) :
    D.write (i : Int) b = (0, { D with L := D.L.set i b, left := if 0 < D.left then D.left - 1 else D.left, writes := D.writes + 1 }) := by
  unfold Dk.write
  rw [if_neg (by rw [ho]; simp), if_neg (by omega), if_neg (by omega), if_neg hl]
  rfl
theorem write_stops (D : Dk) (i : Nat) (b : List UInt8) (ho : D.off = false) (hi : i < D.L.length) (hb : b.length = 256) (hl : D.left = 0) : D.write (i : Int) b = (6, { D with off := true }) := by
  unfold Dk.write
  rw [if_neg (by rw [ho]; simp), if_neg (by omega), if_neg (by omega), if_pos hl]
/-- What many writes leave: all are done, or so many as were left. -/
theorem run_spec : ∀ (ws : Ws) (D : Dk), D.off = false → OkW D.L.length ws → -1 ≤ D.left →
    (∃ D', runW ws D = (0, D') ∧ D'.L = putAll ws D.L ∧ D'.off = false ∧ D'.writes = D.writes + ws.length ∧ ((D.left = -1 ∧ D'.left = -1) ∨ ((ws.length : Int) ≤ D.left ∧ D'.left = D.left - ws.length))) ∨
    (∃ D' k, runW ws D = (6, D') ∧ k < ws.length ∧ D.left = (k : Int) ∧ D'.L = putAll (ws.take k) D.L ∧ D'.off = true ∧ D'.writes = D.writes + k ∧ D'.left = 0) := by
  intro ws
  induction ws with
  | nil =>
    intro D ho hw hl
    refine .inl ⟨D, rfl, rfl, ho, by simp, ?_⟩
    rcases Int.lt_or_le D.left 0 with h | h
    · exact .inl ⟨by omega, by omega⟩
    · exact .inr ⟨by simpa using h, by simp⟩
  | cons x ws ih =>
    intro D ho hw hl
    obtain ⟨hx1, hx2⟩ := hw x (List.mem_cons_self ..)
    by_cases h0 : D.left = 0
    · refine .inr ⟨{ D with off := true }, 0, ?_, by simp, by simpa using h0, rfl, rfl, by simp, h0⟩
      rw [runW, write_stops D x.1 x.2 ho hx1 hx2 h0, if_pos (by simp)]
    · have hr : runW (x :: ws) D = runW ws { D with L := D.L.set x.1 x.2, left := if 0 < D.left then D.left - 1 else D.left, writes := D.writes + 1 } := by
        rw [runW, write_goes D x.1 x.2 ho hx1 hx2 h0, if_neg (by simp)]
      rw [hr]
      have hw' : OkW ({ D with L := D.L.set x.1 x.2, left := if 0 < D.left then D.left - 1 else D.left, writes := D.writes + 1 } : Dk).L.length ws := fun y hy => by
        have := hw y (List.mem_cons_of_mem _ hy)
        simpa using this
      rcases ih { D with L := D.L.set x.1 x.2, left := if 0 < D.left then D.left - 1 else D.left, writes := D.writes + 1 } ho hw' (by simp only []; split <;> omega) with ⟨D', e1, e2, e3, e4, e5⟩ | ⟨D', k, e1, e2, e3, e4, e5, e6, e7⟩
      · refine .inl ⟨D', e1, e2, e3, by simp only [] at e4; rw [e4, List.length_cons]; omega, ?_⟩
        simp only [] at e5
        rw [List.length_cons]
        split at e5 <;> omega
      · refine .inr ⟨D', k + 1, e1, by simpa using e2, ?_, e4, e5, by simp only [] at e6; rw [e6]; omega, e7⟩
        simp only [] at e3
        split at e3 <;> omega
/-! The writes of a group. -/
def imgW (nm : Nat) : Nat → List Wr → Ws
  | _, [] => []
  | i, x :: r => (1 + nm + i, x.2) :: imgW nm (i + 1) r
def secW : Nat → List (List UInt8) → Ws
  | _, [] => []
  | i, b :: r => (1 + i, b) :: secW (i + 1) r
def appW (nm p : Nat) : Nat → List Nat → List (List UInt8) → Ws
  | _, [], _ => []
  | i, t :: r, L => (1 + nm + p + t, L.getD (1 + nm + i) []) :: appW nm p (i + 1) r L
theorem images_run (nm : Nat) : ∀ (xs : List Wr) (i : Nat) (D : Dk), imagesP nm i xs D = runW (imgW nm i xs) D
  | [], i, D => rfl
  | x :: xs, i, D => by
    rw [imagesP, imgW, runW]
    simp only []
    rw [images_run nm xs]
theorem secs_run : ∀ (bs : List (List UInt8)) (i : Nat) (D : Dk), secsP i bs D = runW (secW i bs) D
  | [], i, D => rfl
  | b :: bs, i, D => by
    rw [secsP, secW, runW]
    simp only []
    rw [secs_run bs]
theorem appW_same (nm p : Nat) : ∀ (ts : List Nat) (i : Nat) (L L' : List (List UInt8)), (∀ k, i ≤ k → k < i + ts.length → L.getD (1 + nm + k) [] = L'.getD (1 + nm + k) []) → appW nm p i ts L = appW nm p i ts L'
  | [], i, L, L', h => rfl
  | t :: ts, i, L, L', h => by
    rw [appW, appW, h i (Nat.le_refl _) (by simp), appW_same nm p ts (i + 1) L L' (fun k h1 h2 => h k (by omega) (by simp; omega))]
theorem apply_run (nm p : Nat) : ∀ (ts : List Nat) (i : Nat) (D : Dk), i + ts.length ≤ p → applyP nm p i ts D = runW (appW nm p i ts D.L ++ [(0, sec 0)]) D
  | [], i, D, h => by
    rw [applyP, appW, List.nil_append, runW]
    simp only [runW]
    split
    · rfl
    · rename_i h0
      exact Prod.ext (by simpa using h0) rfl
  | t :: ts, i, D, h => by
    rw [applyP, appW, List.cons_append, runW]
    simp only []
    by_cases ho : D.off = true
    · have hw : D.write ((1 + nm + p + t : Nat) : Int) (D.L.getD (1 + nm + i) []) = (6, D) := by unfold Dk.write; rw [if_pos ho]
      rw [if_pos ho, hw, if_pos (by simp)]
    · rw [if_neg ho]
      by_cases hw : (D.write ((1 + nm + p + t : Nat) : Int) (D.L.getD (1 + nm + i) [])).1 ≠ 0
      · rw [if_pos hw, if_pos hw]
      · rw [if_neg hw, if_neg hw, apply_run nm p ts (i + 1) _ (by simp at h; omega)]
        have hL : (D.write ((1 + nm + p + t : Nat) : Int) (D.L.getD (1 + nm + i) [])).2.L = D.L.set (1 + nm + p + t) (D.L.getD (1 + nm + i) []) := by
          unfold Dk.write at hw ⊢
          rw [if_neg ho] at hw ⊢
          split at hw
          · simp at hw
          · rename_i h1
            rw [if_neg h1]
            split at hw
            · simp at hw
            · rename_i h2
              rw [if_neg h2]
              split at hw
              · simp at hw
              · rename_i h3
                rw [if_neg h3]
                simp only [Int.toNat_natCast]
        rw [hL, appW_same nm p ts (i + 1) (D.L.set (1 + nm + p + t) (D.L.getD (1 + nm + i) [])) D.L (fun k h1 h2 => by
          rw [List.getD_eq_getElem?_getD, List.getElem?_set_ne (by simp at h; omega), ← List.getD_eq_getElem?_getD])]
end Go.Proofs.Ytlngfelpmebemaa
