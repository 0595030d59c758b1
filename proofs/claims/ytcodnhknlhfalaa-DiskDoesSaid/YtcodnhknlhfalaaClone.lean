/-
  A disk's clone: a contract.
-/
import Derived.Test.YtcodnhknlhfalaaDisk
import Derived.Deep.AppendLies
import Derived.WalkSpells
namespace Go.Proofs.Ytcodnhknlhfalaa
open Go.RowKit
set_option linter.unusedSimpArgs false
set_option linter.unusedVariables false
theorem own_only {w w' : World} {v : Value} {S : List Nat} (h : w.grownBy w' v.ownBlock) (hS : ∀ k, v.ownBlock = some k → k ∈ S ∨ w.heap.size ≤ k) : Only S w w' := (Only.refl S w).grown h hS
theorem sectorInfo : ∃ z, (Try.prog.info? 59).map (fun i => (i.zero, i.size, i.bytes)) = some (some z, 256, 256) ∧ z.cells.size = 256 := by
  obtain ⟨z, h1, h2⟩ := sectorZero
  exact ⟨z, h1, by rw [h2, List.size_toArray, bcells_length, sec_length]⟩
set_option maxRecDepth 100000 in
theorem cloneSectors (s n cp : Nat) (L : List (List UInt8)) (r : List Value) (w : World) (hL : ∀ b ∈ L, b.length = 256) (hn : L.length = n) (h0 : 0 < n) (h1 : n ≤ 2048) (hs : w.heap[s]? = some (.cells (flat L ++ r).toArray 59 (0, 0))) :
    Calls Try.prog 26 #[.slice (some ⟨s, 0, none⟩) n cp] w fun e w' => ∃ s' cp' r', e = .returned (.slice (some ⟨s', 0, none⟩) n cp') ∧ w'.heap[s']? = some (.cells (flat L ++ r').toArray 59 (0, 0)) ∧ w.heap.size ≤ s' ∧ Only [] w w' := by
  obtain ⟨z, hz, hzs⟩ := sectorInfo
  obtain ⟨i, hi, hi1, hi2, hi3⟩ := info_parts hz
  have hfl := flat_length L hL
  have hsl := heap_lt hs
  have hca : ∀ (j : Nat) (u : Value), (flat L)[j]? = some u → (w.alloc (.cells #[] 59)).cell? ((⟨s, 0, none⟩ : Addr).add j) = some u := by
    intro j u hj
    have e : (⟨s, 0, none⟩ : Addr).add j = ⟨s, j, none⟩ := by unfold Addr.add; split <;> simp_all
    have hjl := (List.getElem?_eq_some_iff.1 hj).1
    rw [e, cell_of_row _ s j _ _ _ ((Below.heap_alloc _ _ _ hsl).trans hs), List.getElem?_toArray, List.getElem?_append_left hjl, hj]
  have hown : (w.alloc (.cells #[] 59)).ownsRow w.heap.size 59 256 (.slice (some ⟨w.heap.size, 0, none⟩) 0 0) 0 [] := World.ownsRow_made w #[] 0 (Nat.le_refl _) (by omega) (by simp)
  have HF := Lib.hid hfl
  have HC := Lib.hid hca
  have HZ := Lib.hid hi
  have HZ1 := Lib.hid hi1
  have HZ2 := Lib.hid hi2
  have HZ3 := Lib.hid hi3
  have HZ4 := Lib.hid hzs
  have HS := Lib.hid hs
  have HN := Lib.hid hn
  have HO := Lib.hid hown
  clear hfl hca hi hi1 hi2 hi3 hzs hz hs hn hown
  have hE := fun (w : World) (A : Option Addr) (n c : Nat) => Lib.run_eql_slice_nil (P := Try.prog) w 54 59 A n c 0 0 Try.underlying54
  go_enter Try.func26, Try.ntmps26
  go_wp2_with (at_builtin; go_loud (refine wpList_append_lies _ rfl (.tmp 5) (.tmp 6) 54 rfl w.heap.size 59 i z 256 256 Try.underlying54 HZ.out HZ1.out HZ2.out HZ3.out HZ4.out (by omega) (.slice (some ⟨w.heap.size, 0, none⟩) 0 0) 0 [] rfl HO.out ⟨s, 0, none⟩ n cp (flat L) rfl (by rw [HF.out, HN.out]; omega) HC.out (flat_one L) h0 (by unfold maxLen; omega) (by omega) (by simp) (w.heap.size + 1) (by simp) ?_); intro g cap w1 hown1 hgrow hat hlt)
  go_ret
  have hg : g ≠ s ∧ w.heap.size ≤ g := by
    rcases hat with h | h
    · simp only [Value.ownBlock, Option.some.injEq] at h; omega
    · omega
  have ho : Only [] w w1 := ((Only.refl [] w).alloc _).grown hgrow (fun k hk => .inr (by simp only [Value.ownBlock, Option.some.injEq] at hk; omega))
  obtain ⟨hlx, h9⟩ := hown1
  rcases h9 with ⟨h9, _⟩ | ⟨g', cap', cur, h9, _, hh, hnc, _, hsz, htk⟩
  · cases h9
  · simp only [Value.slice.injEq, Option.some.injEq, Addr.mk.injEq] at h9
    obtain ⟨⟨rfl, _, _⟩, _, rfl⟩ := h9
    refine ⟨g, cap, cur.toList.drop (n * 256), by simp, ?_, hg.2, ho⟩
    rw [hh]
    have e : cur.toList.take (n * 256) = flat L := by simpa using htk
    rw [← e, List.take_append_drop]
set_option maxRecDepth 100000 in
theorem clone_any (g s cp : Nat) (r : List Value) (D : Dk) (w : World) (h : IsDk w g s cp r D) (hD : D.Ok) (h0 : 0 < D.L.length) :
    Calls Try.prog 18 #[.pointer (some ⟨g, 0, none⟩)] w fun e w' => ∃ g' s' cp' r', e = .returned (.pointer (some ⟨g', 0, none⟩)) ∧ IsDk w' g' s' cp' r' D ∧ w.heap.size ≤ g' ∧ w.heap.size ≤ s' ∧ Only [] w w' := by
  have c0 := h.c0
  have c1 := h.c1
  have c2 := h.c2
  have c3 := h.c3
  have hgl := heap_lt h.hd
  have H := Lib.hid h
  have HD := Lib.hid hD
  clear h hD
  go_enter Try.func18, Try.ntmps18
  have hsl : s < w.heap.size := heap_lt H.out.sec
  go_wp2_with fail
  refine (cloneSectors s _ cp D.L r _ HD.out.secs rfl h0 HD.out.len (by rw [Below.heap_alloc _ _ _ hsl]; exact H.out.sec)).mono ?_
  rintro e w1 ⟨s', cp', r', rfl, hs', hsl', ho⟩
  have hb1 := ho.heap (heap_alloc_new w _) (by simp)
  have hcN : ∃ v, w1.cell? ⟨w.heap.size, 0, none⟩ = some v := ⟨_, (cell_of_row w1 _ 0 _ _ _ hb1).trans rfl⟩
  obtain ⟨vN, hcN⟩ := hcN
  have hfN := frozen_of_row w1 _ 0 _ _ hb1
  have HB1 := Lib.hid hb1
  have HO := Lib.hid ho
  have HS := Lib.hid hs'
  have hsl2 : w.heap.size < s' := by simp at hsl'; omega
  clear hb1 ho hs' hsl'
  go_wp2
  go_ret
  refine ⟨w.heap.size, s', cp', r', rfl, ⟨?_, ?_⟩, Nat.le_refl _, by omega, ?_⟩
  · rw [heap_setCell_same _ _ 0 _ _ _ HB1.out]; rfl
  · rw [heap_setCell_other _ _ _ _ (by simp; omega)]; exact HS.out
  · exact Only.setCell (((Only.refl [] w).alloc _).trans HO.out) (by simp) _
end Go.Proofs.Ytcodnhknlhfalaa
