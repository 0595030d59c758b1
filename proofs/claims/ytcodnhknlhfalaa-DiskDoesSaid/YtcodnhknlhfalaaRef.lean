/-
  The document's disk: a contract a function, over the same plain disk.
-/
import Derived.Test.YtcodnhknlhfalaaL
import Derived.Test.YtcodnhknlhfalaaDisk
import Derived.Deep.AppendLies
import Derived.WalkSpells
namespace Go.Proofs.Ytcodnhknlhfalaa
open Go.RowKit
set_option linter.unusedSimpArgs false
set_option linter.unusedVariables false
/-- A sector as a text. -/
def txt (b : List UInt8) : Value := .string ⟨b.toArray⟩
def txts (L : List (List UInt8)) : List Value := L.map txt
theorem txts_get (L : List (List UInt8)) (i : Nat) : (txts L)[i]? = L[i]?.map txt := by simp [txts]
theorem txts_one (L : List (List UInt8)) : ∀ v ∈ txts L, v.oneCell' = true := by
  intro v hv
  obtain ⟨b, _, rfl⟩ := List.mem_map.1 hv
  rfl
/-- The document's disk in memory: its own block g, its texts' block s. -/
structure IsRf (w : World) (g s cp : Nat) (r : List Value) (D : Dk) : Prop where
  hd : w.heap[g]? = some (.cells #[.slice (some ⟨s, 0, none⟩) D.L.length cp, .bool D.off, .int .i64 D.left, .int .i64 D.writes] 50 (0, 0))
  sec : w.heap[s]? = some (.cells (txts D.L ++ r).toArray 9 (0, 0))
theorem IsRf.ne {w : World} {g s cp : Nat} {r : List Value} {D : Dk} (h : IsRf w g s cp r D) : g ≠ s := by
  rintro rfl
  have := h.hd.symm.trans h.sec
  simp at this
theorem IsRf.only {S : List Nat} {w w' : World} {g s cp : Nat} {r : List Value} {D : Dk} (h : IsRf w g s cp r D) (ho : Only S w w') (hg : g ∉ S) (hs : s ∉ S) : IsRf w' g s cp r D :=
  ⟨ho.heap h.hd hg, ho.heap h.sec hs⟩
theorem IsRf.c0 {w : World} {g s cp : Nat} {r : List Value} {D : Dk} (h : IsRf w g s cp r D) : w.cell? ⟨g, 0, none⟩ = some (.slice (some ⟨s, 0, none⟩) D.L.length cp) := (cell_of_row w g 0 _ _ _ h.hd).trans rfl
theorem IsRf.c1 {w : World} {g s cp : Nat} {r : List Value} {D : Dk} (h : IsRf w g s cp r D) : w.cell? ⟨g, 1, none⟩ = some (.bool D.off) := (cell_of_row w g 1 _ _ _ h.hd).trans rfl
theorem IsRf.c2 {w : World} {g s cp : Nat} {r : List Value} {D : Dk} (h : IsRf w g s cp r D) : w.cell? ⟨g, 2, none⟩ = some (.int .i64 D.left) := (cell_of_row w g 2 _ _ _ h.hd).trans rfl
theorem IsRf.c3 {w : World} {g s cp : Nat} {r : List Value} {D : Dk} (h : IsRf w g s cp r D) : w.cell? ⟨g, 3, none⟩ = some (.int .i64 D.writes) := (cell_of_row w g 3 _ _ _ h.hd).trans rfl
theorem IsRf.fz {w : World} {g s cp : Nat} {r : List Value} {D : Dk} (h : IsRf w g s cp r D) (i : Nat) : w.frozen? ⟨g, i, none⟩ = false := frozen_of_row w g i _ _ h.hd
theorem IsRf.get {w : World} {g s cp : Nat} {r : List Value} {D : Dk} (h : IsRf w g s cp r D) (i : Nat) (hi : i < D.L.length) : w.cell? ⟨s, i, none⟩ = some (txt D.L[i]) := by
  rw [cell_of_row w s i _ _ _ h.sec, List.getElem?_toArray, List.getElem?_append_left (by simpa [txts] using hi), txts_get, List.getElem?_eq_getElem hi]
  rfl
theorem rup_any (g s cp : Nat) (r : List Value) (D : Dk) (w : World) (h : IsRf w g s cp r D) :
    Calls Try.prog 22 #[.pointer (some ⟨g, 0, none⟩)] w fun e w' => e = .returned (.tuple #[]) ∧ IsRf w' g s cp r D.up ∧ Only [g] w w' := by
  have h1 := h.c1
  have h2 := h.c2
  have f1 := h.fz 1
  have f2 := h.fz 2
  have H := Lib.hid h
  clear h
  go_enter Try.func22, Try.ntmps22
  go_wp2
  go_end0
  have h := H.out
  refine ⟨rfl, ⟨?_, ?_⟩, ((Only.refl _ _).setCell (by simp) _).setCell (by simp) _⟩
  · rw [heap_setCell_same _ g 2 _ _ _ (heap_setCell_same w g 1 _ _ _ h.hd)]; rfl
  · rw [heap_setCell_other _ _ _ _ (Ne.symm h.ne), heap_setCell_other _ _ _ _ (Ne.symm h.ne)]; exact h.sec
theorem rcut_any (g s cp : Nat) (r : List Value) (D : Dk) (n : Int) (w : World) (h : IsRf w g s cp r D) :
    Calls Try.prog 29 #[.pointer (some ⟨g, 0, none⟩), .int .i64 n] w fun e w' => e = .returned (.tuple #[]) ∧ IsRf w' g s cp r (D.cut n) ∧ Only [g] w w' := by
  have h2 := h.c2
  have f2 := h.fz 2
  have H := Lib.hid h
  clear h
  by_cases hn : n < 0
  · go_enter Try.func29, Try.ntmps29
    go_wp2
    go_end0
    have h := H.out
    refine ⟨rfl, ⟨?_, ?_⟩, ((Only.refl _ _).setCell (by simp) _).setCell (by simp) _⟩
    · rw [heap_setCell_same _ g 2 _ _ _ (heap_setCell_same w g 2 _ _ _ h.hd)]
      have e : (D.cut n).left = -1 := by simp only [Dk.cut]; split <;> omega
      rw [e]; rfl
    · rw [heap_setCell_other _ _ _ _ (Ne.symm h.ne), heap_setCell_other _ _ _ _ (Ne.symm h.ne)]; exact h.sec
  · go_enter Try.func29, Try.ntmps29
    go_wp2
    go_end0
    have h := H.out
    refine ⟨rfl, ⟨?_, ?_⟩, (Only.refl _ _).setCell (by simp) _⟩
    · rw [heap_setCell_same _ g 2 _ _ _ h.hd]
      have e : (D.cut n).left = n := by simp only [Dk.cut]; split <;> omega
      rw [e]; rfl
    · rw [heap_setCell_other _ _ _ _ (Ne.symm h.ne)]; exact h.sec
/-- What a read answers. -/
def Dk.rd (D : Dk) (i : Int) : List UInt8 := if D.wrong i = 0 then D.L.getD i.toNat [] else []
theorem rread_any (g s cp : Nat) (r : List Value) (D : Dk) (i : Int) (w : World) (h : IsRf w g s cp r D) :
    Calls Try.prog 28 #[.pointer (some ⟨g, 0, none⟩), .int .i64 i] w fun e w' => e = .returned (.tuple #[txt (D.rd i), .int .i64 (D.wrong i)]) ∧ w = w' := by
  have h0 := h.c0
  have h1 := h.c1
  have hg := Lib.hid h.get
  clear h
  obtain ⟨v, hv⟩ : ∃ v, v = txt (D.rd i) := ⟨_, rfl⟩
  obtain ⟨n, hn⟩ : ∃ n, n = D.wrong i := ⟨_, rfl⟩
  rw [← hv, ← hn]
  have HV := Lib.hid hv
  have HN := Lib.hid hn
  clear hv hn
  obtain ⟨L, off, left, writes⟩ := D
  simp only at h0 h1
  cases off
  · by_cases h : i < 0
    · go_enter Try.func28, Try.ntmps28
      go_wp2
      go_ret2
      have e : n = 1 := by rw [HN.out]; simp [Dk.wrong, h]
      refine ⟨?_, rfl⟩
      rw [HV.out, e, Dk.rd, ← HN.out, e]; rfl
    · by_cases h' : (L.length : Int) ≤ i
      · go_enter Try.func28, Try.ntmps28
        go_wp2
        go_ret2
        have e : n = 1 := by rw [HN.out]; simp [Dk.wrong, h']
        refine ⟨?_, rfl⟩
        rw [HV.out, e, Dk.rd, ← HN.out, e]; rfl
      · obtain ⟨k, rfl⟩ : ∃ k : Nat, i = k := ⟨i.toNat, by omega⟩
        have hk : k < L.length := by omega
        have hc := hg.out k hk
        simp only at hc
        obtain ⟨u, hu⟩ : ∃ u, u = txt L[k] := ⟨_, rfl⟩
        rw [← hu] at hc
        have HU := Lib.hid hu
        have hk' : (k : Int) < L.length := by omega
        clear hu
        go_enter Try.func28, Try.ntmps28
        go_wp2
        go_ret2
        have e : n = 0 := by rw [HN.out]; simp only [Dk.wrong]; rw [if_neg (by simp), if_neg (by omega)]
        refine ⟨?_, rfl⟩
        rw [HV.out, e, Dk.rd, ← HN.out, e, if_pos rfl, HU.out, Int.toNat_natCast, List.getD_eq_getElem?_getD, List.getElem?_eq_getElem hk]; rfl
  · go_enter Try.func28, Try.ntmps28
    go_wp2
    go_ret2
    have e : n = 6 := by rw [HN.out]; simp [Dk.wrong]
    refine ⟨?_, rfl⟩
    rw [HV.out, e, Dk.rd, ← HN.out, e]; rfl
theorem noughts_text (w : World) (b : Nat) (h : Hid (w.heap[b]? = some (.cells (madeCells (Value.cells (.int .u8 0)) (256 * 1)) 5 (0, 0)))) :
    (convert 30 9 (.slice (some ⟨b, 0, none⟩) 256 256)).run Try.prog w = .ok (.string ⟨(sec 0).toArray⟩) w := by
  have hz : madeCells (Value.cells (.int .u8 0)) (256 * 1) = (bcells (sec 0)).toArray := by
    show madeCells #[_] (256 * 1) = _
    rw [madeCells_one]
    unfold sec bcells
    rw [List.map_replicate]
    rfl
  exact run_string_row w 30 9 5 Try.underlying30 Try.underlying5 Try.underlying9 b 256 256 (sec 0) _ _ (sec_length _) (by rw [← hz]; exact h.out)
theorem nought_any (w : World) :
    Calls Try.prog 25 #[] w fun e w' => e = .returned (txt (sec 0)) ∧ Only [] w w' := by
  show Calls Try.prog 25 #[] w fun e w' => e = .returned (.string ⟨(sec 0).toArray⟩) ∧ Only [] w w'
  go_enter Try.func25, Try.ntmps25
  go_wp2_with (at_make; refine wpList_make_new rfl _ _ 30 rfl 5 (.int .u8 0) 1 1 Try.underlying30 infoU8 _ _ _ _ 256 rfl rfl (by rfl) (by rfl) (by omega) (by omega) ?_; intro w1 hh hs ho; have hcp := noughts_text w1 _ hh; clear hh hs; generalize w.heap.size = b at *)
  go_ret
  exact ⟨rfl, ho⟩
section
variable (g s cp : Nat) (r : List Value) (D : Dk) (i : Int) (A : Option Addr) (c : Nat) (b : List UInt8) (w : World) (h : IsRf w g s cp r D)
include h
theorem rwrite_off (ho : D.off = true) :
    Calls Try.prog 27 #[.pointer (some ⟨g, 0, none⟩), .int .i64 i, .slice A b.length c] w fun e w' => e = .returned (.int .i64 6) ∧ w = w' := by
  have h1 := h.c1
  rw [ho] at h1
  clear h
  go_enter Try.func27, Try.ntmps27
  go_wp2
  go_ret
  exact ⟨rfl, rfl⟩
theorem rwrite_arg (ho : D.off = false) (hw : (i < 0 ∨ (D.L.length : Int) ≤ i) ∨ b.length ≠ 256) :
    Calls Try.prog 27 #[.pointer (some ⟨g, 0, none⟩), .int .i64 i, .slice A b.length c] w fun e w' => e = .returned (.int .i64 1) ∧ w = w' := by
  have h0 := h.c0
  have h1 := h.c1
  rw [ho] at h1
  clear h
  by_cases ha : i < 0
  · clear hw
    go_enter Try.func27, Try.ntmps27
    go_wp2
    go_ret
    exact ⟨rfl, rfl⟩
  · by_cases hb : (D.L.length : Int) ≤ i
    · clear hw
      go_enter Try.func27, Try.ntmps27
      go_wp2
      go_ret
      exact ⟨rfl, rfl⟩
    · have hl : ((b.length : Int) != 256) = true := by rw [bne_iff_ne]; omega
      clear hw
      go_enter Try.func27, Try.ntmps27
      go_wp2
      go_ret
      exact ⟨rfl, rfl⟩
theorem rwrite_cut (ho : D.off = false) (h2 : 0 ≤ i) (h3 : i < D.L.length) (hb : b.length = 256) (hl : D.left = 0) :
    Calls Try.prog 27 #[.pointer (some ⟨g, 0, none⟩), .int .i64 i, .slice A b.length c] w fun e w' => e = .returned (.int .i64 6) ∧ IsRf w' g s cp r { D with off := true } ∧ Only [g] w w' := by
  have c0 := h.c0
  have c1 := h.c1
  have c2 := h.c2
  have f1 := h.fz 1
  rw [ho] at c1
  rw [hl] at c2
  have H := Lib.hid h
  clear h
  rw [hb]
  clear hb
  go_enter Try.func27, Try.ntmps27
  go_wp2
  go_ret
  have h := H.out
  refine ⟨rfl, ⟨?_, ?_⟩, (Only.refl _ _).setCell (by simp) _⟩
  · rw [heap_setCell_same _ g 1 _ _ _ h.hd]; rfl
  · rw [heap_setCell_other _ _ _ _ (Ne.symm h.ne)]; exact h.sec
theorem rwrite_go (ho : D.off = false) (h2 : 0 ≤ i) (h3 : i < D.L.length) (hb : b.length = 256) (hl : 0 < D.left) (hl9 : D.left ≤ 9223372036854775807) (hw0 : 0 ≤ D.writes) (hwr : D.writes < 1000000000) (ad : Addr) (hA : A = some ad) (hc : CellsAt w ad (bcells b)) (hag : ad.block ≠ g) :
    Calls Try.prog 27 #[.pointer (some ⟨g, 0, none⟩), .int .i64 i, .slice A b.length c] w fun e w' => e = .returned (.int .i64 0) ∧ IsRf w' g s cp r { D with L := D.L.set i.toNat b, left := D.left - 1, writes := D.writes + 1 } ∧ Only [g, s] w w' := by
  obtain ⟨k, rfl⟩ : ∃ k : Nat, i = k := ⟨i.toNat, by omega⟩
  have hk : k < D.L.length := by omega
  have c0 := h.c0
  have c1 := h.c1
  have c2 := h.c2
  have c3 := h.c3
  have f2 := h.fz 2
  have f3 := h.fz 3
  have hgs := h.ne
  have hsg := Ne.symm h.ne
  rw [ho] at c1
  have hpre : Only [g] w (w.setCell ⟨g, 2, none⟩ (.int .i64 (D.left - 1))) := (Only.refl [g] w).setCell (by simp) _
  have HPre := Lib.hid hpre
  have HC0 := Lib.hid (show (w.setCell ⟨g, 2, none⟩ (.int .i64 (D.left - 1))).cell? ⟨g, 0, none⟩ = _ from (World.cell?_setCell_other _ _ _ _ (by simp)).trans c0)
  have HHD := Lib.hid (heap_setCell_same w g 2 _ _ _ h.hd : (w.setCell ⟨g, 2, none⟩ (.int .i64 (D.left - 1))).heap[g]? = _)
  clear hpre
  have HB := Lib.hid hb
  have HC := Lib.hid hc
  have HAG := Lib.hid hag
  have HK := Lib.hid hk
  have H := Lib.hid h
  clear h hc hag
  subst hA
  rw [hb]
  clear hb
  go_enter Try.func27, Try.ntmps27
  go_wp2_with fail
  refine L.grow_start [] 8 ((0, true, false) :: (1, true, false) :: (2, true, false) :: (3, true, false) :: (4, true, false) :: (5, true, true) :: (6, true, true) :: (7, true, true) :: (8, false, true) :: []) (by kernel_rfl) (([], [0], some 48) :: ([0], [48], some 49) :: ([1], [49], some 50) :: ([2], [50], some 51) :: ([], [1], some 52) :: ([], [2], some 53) :: ([5], [53], some 54) :: ([3, 4, 0, 1, 2, 3, 4, 5, 6], [51, 52], some 55) :: ([7, 6, 0, 1, 2, 3, 4, 5, 6], [55, 54], none) :: []) (by kernel_rfl) (by kernel_rfl) (n := 9) rfl (by kernel_rfl) (fun _ _ _ _ _ h => h) (fun wg hog => ?_)
  refine L.growe_start (N := 64) (by rfl) ?_
  have hogg := HPre.out.trans (hog.mono (T := [g]) (by simp))
  have e0 : ∀ w', Only [] wg w' → w'.cell? ⟨g, 0, none⟩ = some (.slice (some ⟨s, 0, none⟩) D.L.length cp) := fun w' h => h.cell (hog.cell HC0.out (by simp)) (by simp)
  have hcp : ∀ w', Only [] wg w' → (convert 30 9 (.slice (some ad) 256 c)).run Try.prog w' = .ok (.string ⟨b.toArray⟩) w' := fun w' h =>
    run_string_at w' 30 9 5 Try.underlying30 Try.underlying5 Try.underlying9 ad 256 c b HB.out (HC.out.only (hogg.trans (h.mono (by simp))) (by simpa using HAG.out))
  have hwx : Only [] wg wg := Only.refl _ _
  have hsx := hogg.heap H.out.sec (by simpa using Ne.symm hgs)
  have hcx : wg.cell? ⟨s, k, none⟩ = some (txt D.L[k]) := by
    rw [cell_of_row wg s k _ _ _ hsx, List.getElem?_toArray, List.getElem?_append_left (by simpa [txts] using HK.out), txts_get, List.getElem?_eq_getElem HK.out]
    rfl
  have hfx : wg.frozen? ⟨s, k, none⟩ = false := frozen_of_row wg s k _ _ hsx
  have HSX := Lib.hid hsx
  have HOG := Lib.hid hogg
  have H3 := Lib.hid (hogg.heap (k := g) H.out.hd)
  have HG := Lib.hid (hog.heap HHD.out (by simp))
  clear hsx hogg
  iterate 8 (first | (refine L.ge_off rfl rfl rfl (by rfl) ?_) | (refine L.ge_move rfl rfl rfl (by rfl) rfl (by simp [L.evE, L.lk, Act.eval]; rfl) ?_) | (refine L.ge_pick rfl rfl rfl (by rfl) rfl (by simp [L.evE, L.lk, Act.eval]; rfl) (by simp [L.evE, L.lk, Act.eval]; rfl) ?_) | (refine L.ge_val rfl rfl rfl (by rfl) (by intro w' hw'; simp [execOp, L.evE, L.lk, Act.eval]; go_simp; rfl) ?_))
  -- operation 8: Op.store 9 (Operand.tmp 55) (Operand.tmp 54)
  refine L.ge_last (w' := wg.setCell ⟨s, k, none⟩ (.string ⟨b.toArray⟩)) rfl rfl (by rfl) (by simp [execOp, L.evE, L.lk, Act.eval]; go_simp) ?_
  simp only [L.puts, Act.put, List.setIfInBounds_toArray, List.set_cons_zero, List.set_cons_succ]
  have c3' : (wg.setCell ⟨s, k, none⟩ (.string ⟨b.toArray⟩)).cell? ⟨g, 3, none⟩ = some (.int .i64 D.writes) := by
    rw [World.cell?_setCell_other _ _ _ _ (by simp [hgs]), cell_of_row wg g 3 _ _ _ HG.out]; rfl
  have f3' : (wg.setCell ⟨s, k, none⟩ (.string ⟨b.toArray⟩)).frozen? ⟨g, 3, none⟩ = false := by
    exact frozen_of_row _ g 3 _ _ (by rw [heap_setCell_other _ _ _ _ (by simpa using hgs)]; exact HG.out)
  clear e0 hcp hwx hcx hfx hog
  go_wp2
  go_ret
  refine ⟨rfl, ⟨?_, ?_⟩, ?_⟩
  · rw [heap_setCell_same _ g 3 _ _ _ (by rw [heap_setCell_other _ _ _ _ (by simpa using hgs)]; exact HG.out)]
    simp
  · rw [heap_setCell_other _ _ _ _ (by simp; omega), heap_setCell_same _ s k _ _ _ HSX.out]
    simp only [txts, List.setIfInBounds_toArray, Int.toNat_natCast]
    rw [List.set_append_left _ _ (by simpa using HK.out), List.map_set]
    rfl
  · refine Only.setCell (Only.setCell ?_ (by simp) _) (by simp) _
    exact HOG.out.mono (by simp)
theorem rwrite_free (ho : D.off = false) (h2 : 0 ≤ i) (h3 : i < D.L.length) (hb : b.length = 256) (hl : D.left < 0) (hw0 : 0 ≤ D.writes) (hwr : D.writes < 1000000000) (ad : Addr) (hA : A = some ad) (hc : CellsAt w ad (bcells b)) (hag : ad.block ≠ g) :
    Calls Try.prog 27 #[.pointer (some ⟨g, 0, none⟩), .int .i64 i, .slice A b.length c] w fun e w' => e = .returned (.int .i64 0) ∧ IsRf w' g s cp r { D with L := D.L.set i.toNat b, left := D.left, writes := D.writes + 1 } ∧ Only [g, s] w w' := by
  obtain ⟨k, rfl⟩ : ∃ k : Nat, i = k := ⟨i.toNat, by omega⟩
  have hk : k < D.L.length := by omega
  have c0 := h.c0
  have c1 := h.c1
  have c2 := h.c2
  have c3 := h.c3
  have f2 := h.fz 2
  have f3 := h.fz 3
  have hgs := h.ne
  have hsg := Ne.symm h.ne
  rw [ho] at c1
  have HPre := Lib.hid (Only.refl [g] w)
  have HC0 := Lib.hid c0
  have HHD := Lib.hid h.hd
  have HB := Lib.hid hb
  have HC := Lib.hid hc
  have HAG := Lib.hid hag
  have HK := Lib.hid hk
  have H := Lib.hid h
  clear h hc hag
  subst hA
  rw [hb]
  clear hb
  go_enter Try.func27, Try.ntmps27
  go_wp2_with fail
  refine L.grow_start [] 8 ((0, true, false) :: (1, true, false) :: (2, true, false) :: (3, true, false) :: (4, true, false) :: (5, true, true) :: (6, true, true) :: (7, true, true) :: (8, false, true) :: []) (by kernel_rfl) (([], [0], some 48) :: ([0], [48], some 49) :: ([1], [49], some 50) :: ([2], [50], some 51) :: ([], [1], some 52) :: ([], [2], some 53) :: ([5], [53], some 54) :: ([3, 4, 0, 1, 2, 3, 4, 5, 6], [51, 52], some 55) :: ([7, 6, 0, 1, 2, 3, 4, 5, 6], [55, 54], none) :: []) (by kernel_rfl) (by kernel_rfl) (n := 9) rfl (by kernel_rfl) (fun _ _ _ _ _ h => h) (fun wg hog => ?_)
  refine L.growe_start (N := 64) (by rfl) ?_
  have hogg := HPre.out.trans (hog.mono (T := [g]) (by simp))
  have e0 : ∀ w', Only [] wg w' → w'.cell? ⟨g, 0, none⟩ = some (.slice (some ⟨s, 0, none⟩) D.L.length cp) := fun w' h => h.cell (hog.cell HC0.out (by simp)) (by simp)
  have hcp : ∀ w', Only [] wg w' → (convert 30 9 (.slice (some ad) 256 c)).run Try.prog w' = .ok (.string ⟨b.toArray⟩) w' := fun w' h =>
    run_string_at w' 30 9 5 Try.underlying30 Try.underlying5 Try.underlying9 ad 256 c b HB.out (HC.out.only (hogg.trans (h.mono (by simp))) (by simpa using HAG.out))
  have hwx : Only [] wg wg := Only.refl _ _
  have hsx := hogg.heap H.out.sec (by simpa using Ne.symm hgs)
  have hcx : wg.cell? ⟨s, k, none⟩ = some (txt D.L[k]) := by
    rw [cell_of_row wg s k _ _ _ hsx, List.getElem?_toArray, List.getElem?_append_left (by simpa [txts] using HK.out), txts_get, List.getElem?_eq_getElem HK.out]
    rfl
  have hfx : wg.frozen? ⟨s, k, none⟩ = false := frozen_of_row wg s k _ _ hsx
  have HSX := Lib.hid hsx
  have HOG := Lib.hid hogg
  have H3 := Lib.hid (hogg.heap (k := g) H.out.hd)
  have HG := Lib.hid (hog.heap HHD.out (by simp))
  clear hsx hogg
  iterate 8 (first | (refine L.ge_off rfl rfl rfl (by rfl) ?_) | (refine L.ge_move rfl rfl rfl (by rfl) rfl (by simp [L.evE, L.lk, Act.eval]; rfl) ?_) | (refine L.ge_pick rfl rfl rfl (by rfl) rfl (by simp [L.evE, L.lk, Act.eval]; rfl) (by simp [L.evE, L.lk, Act.eval]; rfl) ?_) | (refine L.ge_val rfl rfl rfl (by rfl) (by intro w' hw'; simp [execOp, L.evE, L.lk, Act.eval]; go_simp; rfl) ?_))
  -- operation 8: Op.store 9 (Operand.tmp 55) (Operand.tmp 54)
  refine L.ge_last (w' := wg.setCell ⟨s, k, none⟩ (.string ⟨b.toArray⟩)) rfl rfl (by rfl) (by simp [execOp, L.evE, L.lk, Act.eval]; go_simp) ?_
  simp only [L.puts, Act.put, List.setIfInBounds_toArray, List.set_cons_zero, List.set_cons_succ]
  have c3' : (wg.setCell ⟨s, k, none⟩ (.string ⟨b.toArray⟩)).cell? ⟨g, 3, none⟩ = some (.int .i64 D.writes) := by
    rw [World.cell?_setCell_other _ _ _ _ (by simp [hgs]), cell_of_row wg g 3 _ _ _ HG.out]; rfl
  have f3' : (wg.setCell ⟨s, k, none⟩ (.string ⟨b.toArray⟩)).frozen? ⟨g, 3, none⟩ = false := by
    exact frozen_of_row _ g 3 _ _ (by rw [heap_setCell_other _ _ _ _ (by simpa using hgs)]; exact HG.out)
  clear e0 hcp hwx hcx hfx hog
  go_wp2
  go_ret
  refine ⟨rfl, ⟨?_, ?_⟩, ?_⟩
  · rw [heap_setCell_same _ g 3 _ _ _ (by rw [heap_setCell_other _ _ _ _ (by simpa using hgs)]; exact HG.out)]
    simp
  · rw [heap_setCell_other _ _ _ _ (by simp; omega), heap_setCell_same _ s k _ _ _ HSX.out]
    simp only [txts, List.setIfInBounds_toArray, Int.toNat_natCast]
    rw [List.set_append_left _ _ (by simpa using HK.out), List.map_set]
    rfl
  · refine Only.setCell (Only.setCell ?_ (by simp) _) (by simp) _
    exact HOG.out.mono (by simp)
end
end Go.Proofs.Ytcodnhknlhfalaa
