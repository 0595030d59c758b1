/-
  What each call of package disk does: a contract a function.
-/
import Derived.Test.YtlngfelpmebemaaProg
import Derived.Test.YtlngfelpmebemaaDkPure
namespace Go.Proofs.Ytlngfelpmebemaa
open Go.RowKit

/-- A disk in memory: its own block g, its sectors' block s. -/
structure IsDk (w : World) (g s cp : Nat) (r : List Value) (D : Dk) : Prop where
  hd : w.heap[g]? = some (.cells #[.slice (some ⟨s, 0, none⟩) D.L.length cp, .bool D.off, .int .i64 D.left, .int .i64 D.writes] 66 (0, 0))
  sec : w.heap[s]? = some (.cells (flat D.L ++ r).toArray 75 (0, 0))
theorem IsDk.ne {w : World} {g s cp : Nat} {r : List Value} {D : Dk} (h : IsDk w g s cp r D) : g ≠ s := by
  rintro rfl
  have := h.hd.symm.trans h.sec
  simp at this
theorem IsDk.only {S : List Nat} {w w' : World} {g s cp : Nat} {r : List Value} {D : Dk} (h : IsDk w g s cp r D) (ho : Only S w w') (hg : g ∉ S) (hs : s ∉ S) : IsDk w' g s cp r D :=
  ⟨ho.heap h.hd hg, ho.heap h.sec hs⟩
theorem IsDk.c0 {w : World} {g s cp : Nat} {r : List Value} {D : Dk} (h : IsDk w g s cp r D) : w.cell? ⟨g, 0, none⟩ = some (.slice (some ⟨s, 0, none⟩) D.L.length cp) := (cell_of_row w g 0 _ _ _ h.hd).trans rfl
theorem IsDk.c1 {w : World} {g s cp : Nat} {r : List Value} {D : Dk} (h : IsDk w g s cp r D) : w.cell? ⟨g, 1, none⟩ = some (.bool D.off) := (cell_of_row w g 1 _ _ _ h.hd).trans rfl
theorem IsDk.c2 {w : World} {g s cp : Nat} {r : List Value} {D : Dk} (h : IsDk w g s cp r D) : w.cell? ⟨g, 2, none⟩ = some (.int .i64 D.left) := (cell_of_row w g 2 _ _ _ h.hd).trans rfl
theorem IsDk.c3 {w : World} {g s cp : Nat} {r : List Value} {D : Dk} (h : IsDk w g s cp r D) : w.cell? ⟨g, 3, none⟩ = some (.int .i64 D.writes) := (cell_of_row w g 3 _ _ _ h.hd).trans rfl
theorem IsDk.fz {w : World} {g s cp : Nat} {r : List Value} {D : Dk} (h : IsDk w g s cp r D) (i : Nat) : w.frozen? ⟨g, i, none⟩ = false := frozen_of_row w g i _ _ h.hd

theorem on_any (g s cp : Nat) (r : List Value) (D : Dk) (w : World) (h : IsDk w g s cp r D) :
    Calls Try.prog 32 #[.pointer (some ⟨g, 0, none⟩)] w fun e w' => e = .returned (.bool (!D.off)) ∧ w = w' := by
  have hc := h.c1
  clear h
  go_enter Try.func32, Try.ntmps32
  go_wp2
  go_ret
  exact ⟨rfl, rfl⟩
theorem writes_any (g s cp : Nat) (r : List Value) (D : Dk) (w : World) (h : IsDk w g s cp r D) :
    Calls Try.prog 27 #[.pointer (some ⟨g, 0, none⟩)] w fun e w' => e = .returned (.int .i64 D.writes) ∧ w = w' := by
  have hc := h.c3
  clear h
  go_enter Try.func27, Try.ntmps27
  go_wp2
  go_ret
  exact ⟨rfl, rfl⟩
theorem sectors_any (g s cp : Nat) (r : List Value) (D : Dk) (w : World) (h : IsDk w g s cp r D) :
    Calls Try.prog 37 #[.pointer (some ⟨g, 0, none⟩)] w fun e w' => e = .returned (.int .i64 D.L.length) ∧ w = w' := by
  have hc := h.c0
  clear h
  go_enter Try.func37, Try.ntmps37
  go_wp2
  go_ret
  exact ⟨rfl, rfl⟩
theorem wrong_any (g s cp : Nat) (r : List Value) (D : Dk) (i : Int) (w : World) (h : IsDk w g s cp r D) :
    Calls Try.prog 40 #[.pointer (some ⟨g, 0, none⟩), .int .i64 i] w fun e w' => e = .returned (.int .i64 (D.wrong i)) ∧ w = w' := by
  have h0 := h.c0
  have h1 := h.c1
  clear h
  obtain ⟨L, off, left, writes⟩ := D
  simp only at h0 h1
  unfold Dk.wrong
  cases off
  · by_cases h : i < 0
    · go_enter Try.func40, Try.ntmps40
      go_wp2
      go_ret
      exact ⟨by simp, rfl⟩
    · by_cases h' : (L.length : Int) ≤ i
      · go_enter Try.func40, Try.ntmps40
        go_wp2
        go_ret
        exact ⟨by simp, rfl⟩
      · go_enter Try.func40, Try.ntmps40
        go_wp2
        go_ret
        exact ⟨by simp, rfl⟩
  · go_enter Try.func40, Try.ntmps40
    go_wp2
    go_ret
    exact ⟨by simp, rfl⟩
theorem up_any (g s cp : Nat) (r : List Value) (D : Dk) (w : World) (h : IsDk w g s cp r D) :
    Calls Try.prog 20 #[.pointer (some ⟨g, 0, none⟩)] w fun e w' => e = .returned (.tuple #[]) ∧ IsDk w' g s cp r D.up ∧ Only [g] w w' := by
  have h1 := h.c1
  have h2 := h.c2
  have f1 := h.fz 1
  have f2 := h.fz 2
  have H := Lib.hid h
  clear h
  go_enter Try.func20, Try.ntmps20
  go_wp2
  go_end0
  have h := H.out
  refine ⟨rfl, ⟨?_, ?_⟩, ((Only.refl _ _).setCell (by simp) _).setCell (by simp) _⟩
  · rw [heap_setCell_same _ g 2 _ _ _ (heap_setCell_same w g 1 _ _ _ h.hd)]; rfl
  · rw [heap_setCell_other _ _ _ _ (Ne.symm h.ne), heap_setCell_other _ _ _ _ (Ne.symm h.ne)]; exact h.sec
theorem cut_any (g s cp : Nat) (r : List Value) (D : Dk) (n : Int) (w : World) (h : IsDk w g s cp r D) :
    Calls Try.prog 16 #[.pointer (some ⟨g, 0, none⟩), .int .i64 n] w fun e w' => e = .returned (.tuple #[]) ∧ IsDk w' g s cp r (D.cut n) ∧ Only [g] w w' := by
  have h2 := h.c2
  have f2 := h.fz 2
  have H := Lib.hid h
  clear h
  go_enter Try.func16, Try.ntmps16
  go_wp2
  all_goals
    go_end0
    have h := H.out
    refine ⟨rfl, ⟨?_, ?_⟩, (Only.refl _ _).setCell (by simp) _⟩
    · rw [heap_setCell_same _ g 2 _ _ _ h.hd]
      have hn : (D.cut n).left = if n < -1 then -1 else n := rfl
      first
        | (rw [if_pos (by assumption)] at hn; rw [hn]; rfl)
        | (rw [if_neg (by omega)] at hn; rw [hn]; rfl)
    · rw [heap_setCell_other _ _ _ _ (Ne.symm h.ne)]; exact h.sec
theorem infoU8 : (Try.prog.info? 5).map (fun i => (i.zero, i.size, i.bytes)) = some (some (.int .u8 0), 1, 1) := by kernel_rfl
/-- So many bytes x, then noughts. -/
def fullTo (x : UInt8) (k : Nat) : List UInt8 := List.replicate k x ++ List.replicate (256 - k) 0
theorem fullTo_zero (x : UInt8) : fullTo x 0 = sec 0 := by unfold fullTo sec; rw [List.replicate_zero, List.nil_append]
theorem fullTo_all (x : UInt8) : fullTo x 256 = sec x := by unfold fullTo sec; rw [Nat.sub_self, List.replicate_zero, List.append_nil]
theorem fullTo_length (x : UInt8) (k : Nat) (h : k ≤ 256) : (fullTo x k).length = 256 := by unfold fullTo; rw [List.length_append, List.length_replicate, List.length_replicate]; omega
theorem fullTo_set (x : UInt8) (k : Nat) (h : k < 256) : (fullTo x k).set k x = fullTo x (k + 1) := by
  unfold fullTo
  rw [List.set_append_right _ _ (by rw [List.length_replicate]; omega), List.length_replicate, Nat.sub_self]
  obtain ⟨m, hm⟩ : ∃ m, 256 - k = m + 1 := ⟨256 - k - 1, by omega⟩
  rw [hm, List.replicate_succ, List.set_cons_zero, show 256 - (k + 1) = m by omega, List.replicate_succ', List.append_assoc]
  rfl
set_option maxRecDepth 100000 in
theorem full_any (x : UInt8) (w : World) :
    Calls Try.prog 29 #[.int .u8 x.toNat] w fun e w' => e = .returned (.slice (some ⟨w.heap.size, 0, none⟩) 256 256) ∧ w'.heap[w.heap.size]? = some (.cells (bcells (sec x)).toArray 5 (0, 0)) ∧ Only [] w w' := by
  go_enter Try.func29, Try.ntmps29
  go_wp2_with (at_make; refine wpList_make_new rfl _ _ 43 rfl 5 (.int .u8 0) 1 1 Try.underlying43 infoU8 _ _ _ _ 256 rfl rfl (by rfl) (by rfl) (by omega) (by omega) ?_; intro w1 hh hs ho)
  have hz : madeCells (Value.cells (.int .u8 0)) (256 * 1) = (bcells (fullTo x 0)).toArray := by
    show madeCells #[_] (256 * 1) = _
    rw [madeCells_one, fullTo_zero]
    unfold sec bcells
    rw [List.map_replicate]
    rfl
  have hh2 : Hid (w1.heap[w.heap.size]? = some (.cells (bcells (fullTo x 0)).toArray 5 (0, 0))) := by rw [← hz]; exact hh
  clear hz hh hs
  generalize hb : w.heap.size = b at *
  have HB := Lib.hid hb
  clear hb
  go_loopw [4] (fun i wr => ∃ k : Nat, k ≤ 256 ∧ i = .int .i64 k ∧ Hid (wr.heap[b]? = some (.cells (bcells (fullTo x k)).toArray 5 (0, 0))) ∧ Only [] w wr) (fun i _ => 256 - (intOf i).toNat)
  case atStart => exact ⟨0, by omega, rfl, hh2, ho⟩
  case round =>
    obtain ⟨k, hk, rfl, hrow, hon⟩ := hrel
    by_cases hlt : k < 256
    · obtain ⟨v, hc⟩ : ∃ v, wr.cell? ⟨b, k, none⟩ = some v := by
        rw [cell_of_row wr b k _ _ _ hrow.out]
        simp only [List.getElem?_toArray]
        rw [bcells_get, List.getElem?_eq_getElem (by rw [fullTo_length x k hk]; exact hlt)]
        exact ⟨_, rfl⟩
      have hf : wr.frozen? ⟨b, k, none⟩ = false := frozen_of_row wr b k _ _ hrow.out
      go_wp2
      go_roundw
      case rel =>
        refine ⟨k + 1, by omega, by go_num, ?_, hon.setCell (.inr (by have := HB.out; simp only []; omega)) _⟩
        show _ = _
        rw [heap_setCell_same _ b k _ _ _ hrow.out, ← fullTo_set x k hlt]
        simp only [bcells, List.map_set, List.setIfInBounds_toArray]
        rfl
      case measure => simp [intOf]; omega
    · obtain rfl : k = 256 := by omega
      go_wp2
      go_ret
      obtain rfl := HB.out
      refine ⟨rfl, ?_, hon⟩
      rw [fullTo_all] at hrow
      exact hrow
theorem wrong_is (g s cp : Nat) (r : List Value) (D : Dk) (i : Int) (v : Int) (w : World) (h : IsDk w g s cp r D) (hv : D.wrong i = v) :
    Calls Try.prog 40 #[.pointer (some ⟨g, 0, none⟩), .int .i64 i] w fun e w' => e = .returned (.int .i64 v) ∧ w = w' := by
  rw [← hv]; exact wrong_any g s cp r D i w h
section
variable (g s cp : Nat) (r : List Value) (D : Dk) (i : Int) (A : Option Addr) (c : Nat) (b : List UInt8) (w : World) (h : IsDk w g s cp r D)
include h
theorem write_off (v : Int) (hv : v ≠ 0) (hw : D.wrong i = v) :
    Calls Try.prog 25 #[.pointer (some ⟨g, 0, none⟩), .int .i64 i, .slice A b.length c] w fun e w' => e = .returned (.int .i64 v) ∧ w = w' := by
  have hvb : (v != 0) = true := by simpa using hv
  have HW := Lib.hid hw
  have H := Lib.hid h
  clear h hw hv
  go_enter Try.func25, Try.ntmps25
  go_wp2_with (go_at_call 40; refine (wrong_is g s cp r D i v w H.out HW.out).mono ?_; rintro e w' ⟨rfl, rfl⟩)
  go_ret
  exact ⟨rfl, rfl⟩
theorem write_len (hw : D.wrong i = 0) (hb : b.length ≠ 256) :
    Calls Try.prog 25 #[.pointer (some ⟨g, 0, none⟩), .int .i64 i, .slice A b.length c] w fun e w' => e = .returned (.int .i64 1) ∧ w = w' := by
  have hvb : ((b.length : Int) != 256) = true := by rw [bne_iff_ne]; omega
  have HW := Lib.hid hw
  have H := Lib.hid h
  clear h hw hb
  go_enter Try.func25, Try.ntmps25
  go_wp2_with (go_at_call 40; refine (wrong_is g s cp r D i 0 w H.out HW.out).mono ?_; rintro e w' ⟨rfl, rfl⟩)
  go_ret
  exact ⟨rfl, rfl⟩
theorem write_cut (hw : D.wrong i = 0) (hb : b.length = 256) (h0 : D.left = 0) :
    Calls Try.prog 25 #[.pointer (some ⟨g, 0, none⟩), .int .i64 i, .slice A b.length c] w fun e w' => e = .returned (.int .i64 6) ∧ IsDk w' g s cp r { D with off := true } ∧ Only [g] w w' := by
  have h1 := h.c1
  have h2 := h.c2
  have f1 := h.fz 1
  rw [h0] at h2
  have HW := Lib.hid hw
  have H := Lib.hid h
  clear h hw
  rw [hb]
  go_enter Try.func25, Try.ntmps25
  go_wp2_with (go_at_call 40; refine (wrong_is g s cp r D i 0 w H.out HW.out).mono ?_; rintro e w' ⟨rfl, rfl⟩)
  go_ret
  have h := H.out
  refine ⟨rfl, ⟨?_, ?_⟩, (Only.refl _ _).setCell (by simp) _⟩
  · rw [heap_setCell_same _ g 1 _ _ _ h.hd]; rfl
  · rw [heap_setCell_other _ _ _ _ (Ne.symm h.ne)]; exact h.sec
set_option maxRecDepth 100000 in
theorem write_go (hw : D.wrong i = 0) (hb : b.length = 256) (h0 : 0 < D.left) (h9 : D.left ≤ 9223372036854775807) (hsec : ∀ x ∈ D.L, x.length = 256) (k : Nat) (hk : i = k) (hkl : k < D.L.length) (hw0 : 0 ≤ D.writes) (hwr : D.writes < 1000000000) (ad : Addr) (hA : A = some ad) (hc : CellsAt w ad (bcells b)) :
    Calls Try.prog 25 #[.pointer (some ⟨g, 0, none⟩), .int .i64 i, .slice A b.length c] w fun e w' => e = .returned (.int .i64 0) ∧ IsDk w' g s cp r { D with L := D.L.set k b, left := D.left - 1, writes := D.writes + 1 } ∧ Only [g, s] w w' := by
  have c0 := h.c0
  have h2 := h.c2
  have h3 := h.c3
  have f2 := h.fz 2
  have f3 := h.fz 3
  have hne := h.ne
  have hag : ad.block ≠ g := by
    intro e
    have hj : (bcells b)[255]? = some (bcell (b[255]'(by omega))) := by rw [bcells_get, List.getElem?_eq_getElem (by omega)]; rfl
    have := hc 255 _ hj
    have e2 : ad.add 255 = ⟨g, ad.off + 255, none⟩ := by unfold Addr.add; rw [if_neg (by omega), ← e]
    rw [e2, cell_of_row w g _ _ _ _ h.hd] at this
    have e3 := (Array.getElem?_eq_some_iff.1 this).1
    simp at e3
    omega
  have hlb : (bcells b).length = 256 := by rw [bcells_length, hb]
  have hgs : (w.setCell ⟨g, 2, none⟩ (.int .i64 (D.left - 1))).heap[s]? = some (.cells (flat D.L ++ r).toArray 75 (0, 0)) := by
    rw [heap_setCell_other _ _ _ _ (Ne.symm hne)]; exact h.sec
  have hca : CellsAt (w.setCell ⟨g, 2, none⟩ (.int .i64 (D.left - 1))) ad (bcells b) := hc.only ((Only.refl [g] w).setCell (by simp) _) (by simpa using hag)
  have Hgs := Lib.hid hgs
  have Hca := Lib.hid hca
  have Hne := Lib.hid hne
  have Hlb := Lib.hid hlb
  have Hs := Lib.hid hsec
  have HW := Lib.hid hw
  have H := Lib.hid h
  have HB := Lib.hid hb
  clear h hw hc hgs hca hne hlb hag hsec
  subst hk
  subst hA
  rw [HB.out]
  clear hb
  go_enter Try.func25, Try.ntmps25
  go_wp2_with (first
    | (go_at_call 40; refine (wrong_is g s cp r D k 0 w H.out HW.out).mono ?_; rintro e w' ⟨rfl, rfl⟩)
    | (with_reducible refine wpList_copy_row rfl (.tmp 43) (.tmp 44) 43 43 rfl 5 Try.underlying43 (by kernel_rfl) _ _ _ _ _ _ rfl rfl s (k * 256) (flat D.L ++ r) 75 Hgs.out (bcells b) ?_ ?_ ?_ (bcells_one b) ?_))
  · rw [Hlb.out]; rfl
  · intro _; first | exact Hca.out | exact ⟨rfl, _, rfl, Hca.out⟩
  · rw [Hlb.out, List.length_append, flat_length _ Hs.out]; omega
  intro w2 hrow ho
  have c3' : w2.cell? ⟨g, 3, none⟩ = some (.int .i64 D.writes) := ho.cell (by rw [World.cell?_setCell_other _ _ _ _ (by simp)]; exact h3) (by simpa using Hne.out)
  have f3' : w2.frozen? ⟨g, 3, none⟩ = false := by
    have e := ho.heap (k := g) (by exact heap_setCell_same _ g 2 _ _ _ H.out.hd) (by simpa using Hne.out)
    exact frozen_of_row w2 g 3 _ _ e
  have HO := Lib.hid ho
  clear ho c0 h2 h3 f2 f3
  go_wp2
  go_ret
  have h := H.out
  have hne := Hne.out
  refine ⟨rfl, ⟨?_, ?_⟩, ?_⟩
  · have e := HO.out.heap (k := g) (by exact heap_setCell_same _ g 2 _ _ _ h.hd) (by simpa using hne)
    rw [heap_setCell_same _ g 3 _ _ _ e]; simp
  · rw [heap_setCell_other _ _ _ _ (Ne.symm hne), hrow.out, flat_splice_rest _ Hs.out _ hkl _ HB.out]
  · refine Only.setCell (Only.then (T := [s]) ?_ HO.out (by simp)) (by simp) _
    exact (Only.refl _ _).setCell (by simp) _
set_option maxRecDepth 100000 in
theorem write_free (hw : D.wrong i = 0) (hb : b.length = 256) (h0 : D.left < 0) (hsec : ∀ x ∈ D.L, x.length = 256) (k : Nat) (hk : i = k) (hkl : k < D.L.length) (hw0 : 0 ≤ D.writes) (hwr : D.writes < 1000000000) (ad : Addr) (hA : A = some ad) (hc : CellsAt w ad (bcells b)) :
    Calls Try.prog 25 #[.pointer (some ⟨g, 0, none⟩), .int .i64 i, .slice A b.length c] w fun e w' => e = .returned (.int .i64 0) ∧ IsDk w' g s cp r { D with L := D.L.set k b, left := D.left, writes := D.writes + 1 } ∧ Only [g, s] w w' := by
  have c0 := h.c0
  have h2 := h.c2
  have h3 := h.c3
  have f2 := h.fz 2
  have f3 := h.fz 3
  have hne := h.ne
  have hag : ad.block ≠ g := by
    intro e
    have hj : (bcells b)[255]? = some (bcell (b[255]'(by omega))) := by rw [bcells_get, List.getElem?_eq_getElem (by omega)]; rfl
    have := hc 255 _ hj
    have e2 : ad.add 255 = ⟨g, ad.off + 255, none⟩ := by unfold Addr.add; rw [if_neg (by omega), ← e]
    rw [e2, cell_of_row w g _ _ _ _ h.hd] at this
    have e3 := (Array.getElem?_eq_some_iff.1 this).1
    simp at e3
    omega
  have hlb : (bcells b).length = 256 := by rw [bcells_length, hb]
  have hgs := h.sec
  have hca := hc
  have Hgs := Lib.hid hgs
  have Hca := Lib.hid hca
  have Hne := Lib.hid hne
  have Hlb := Lib.hid hlb
  have Hs := Lib.hid hsec
  have HW := Lib.hid hw
  have H := Lib.hid h
  have HB := Lib.hid hb
  clear h hw hc hgs hca hne hlb hag hsec
  subst hk
  subst hA
  rw [HB.out]
  clear hb
  go_enter Try.func25, Try.ntmps25
  go_wp2_with (first
    | (go_at_call 40; refine (wrong_is g s cp r D k 0 w H.out HW.out).mono ?_; rintro e w' ⟨rfl, rfl⟩)
    | (with_reducible refine wpList_copy_row rfl (.tmp 43) (.tmp 44) 43 43 rfl 5 Try.underlying43 (by kernel_rfl) _ _ _ _ _ _ rfl rfl s (k * 256) (flat D.L ++ r) 75 Hgs.out (bcells b) ?_ ?_ ?_ (bcells_one b) ?_))
  · rw [Hlb.out]; rfl
  · intro _; first | exact Hca.out | exact ⟨rfl, _, rfl, Hca.out⟩
  · rw [Hlb.out, List.length_append, flat_length _ Hs.out]; omega
  intro w2 hrow ho
  have c3' : w2.cell? ⟨g, 3, none⟩ = some (.int .i64 D.writes) := ho.cell (by exact h3) (by simpa using Hne.out)
  have f3' : w2.frozen? ⟨g, 3, none⟩ = false := by
    have e := ho.heap (k := g) (by exact H.out.hd) (by simpa using Hne.out)
    exact frozen_of_row w2 g 3 _ _ e
  have HO := Lib.hid ho
  clear ho c0 h2 h3 f2 f3
  go_wp2
  go_ret
  have h := H.out
  have hne := Hne.out
  refine ⟨rfl, ⟨?_, ?_⟩, ?_⟩
  · have e := HO.out.heap (k := g) (by exact h.hd) (by simpa using hne)
    rw [heap_setCell_same _ g 3 _ _ _ e]; simp
  · rw [heap_setCell_other _ _ _ _ (Ne.symm hne), hrow.out, flat_splice_rest _ Hs.out _ hkl _ HB.out]
  · refine Only.setCell (Only.then (T := [s]) ?_ HO.out (by simp)) (by simp) _
    exact Only.refl _ _
end
theorem write_any (g s cp : Nat) (r : List Value) (D : Dk) (i : Int) (A : Option Addr) (c : Nat) (b : List UInt8) (w : World) (h : IsDk w g s cp r D) (hD : D.Ok) (hwr : D.writes < 1000000000)
    (hA : b ≠ [] → ∃ ad, A = some ad ∧ CellsAt w ad (bcells b)) :
    Calls Try.prog 25 #[.pointer (some ⟨g, 0, none⟩), .int .i64 i, .slice A b.length c] w fun e w' => e = .returned (.int .i64 (D.write i b).1) ∧ IsDk w' g s cp r (D.write i b).2 ∧ Only [g, s] w w' := by
  by_cases h1 : D.off = true
  · have e : D.write i b = (6, D) := by unfold Dk.write; rw [if_pos h1]
    rw [e]
    exact (write_off g s cp r D i A c b w h 6 (by omega) (by unfold Dk.wrong; rw [if_pos h1])).mono fun e w' ⟨he, hw⟩ => ⟨he, hw ▸ h, hw ▸ Only.refl _ _⟩
  by_cases h2 : i < 0 ∨ (D.L.length : Int) ≤ i
  · have e : D.write i b = (1, D) := by unfold Dk.write; rw [if_neg h1, if_pos h2]
    rw [e]
    exact (write_off g s cp r D i A c b w h 1 (by omega) (by unfold Dk.wrong; rw [if_neg h1, if_pos h2])).mono fun e w' ⟨he, hw⟩ => ⟨he, hw ▸ h, hw ▸ Only.refl _ _⟩
  have hw : D.wrong i = 0 := by unfold Dk.wrong; rw [if_neg h1, if_neg h2]
  by_cases h3 : b.length = 256
  · obtain ⟨ad, hAd, hc⟩ := hA (by intro e; subst e; simp at h3)
    by_cases h4 : D.left = 0
    · have e : D.write i b = (6, { D with off := true }) := by unfold Dk.write; rw [if_neg h1, if_neg h2, if_neg (by omega), if_pos h4]
      rw [e]
      exact (write_cut g s cp r D i A c b w h hw h3 h4).mono fun e w' ⟨he, hi, ho⟩ => ⟨he, hi, ho.mono (by simp)⟩
    · have e : D.write i b = (0, { D with L := D.L.set i.toNat b, left := if 0 < D.left then D.left - 1 else D.left, writes := D.writes + 1 }) := by
        unfold Dk.write; rw [if_neg h1, if_neg h2, if_neg (by omega), if_neg h4]
      rw [e]
      by_cases h5 : 0 < D.left
      · simp only [if_pos h5]
        exact write_go g s cp r D i A c b w h hw h3 h5 hD.leftHi hD.secs i.toNat (by omega) (by omega) hD.wr hwr ad hAd hc
      · simp only [if_neg h5]
        exact write_free g s cp r D i A c b w h hw h3 (by omega) hD.secs i.toNat (by omega) (by omega) hD.wr hwr ad hAd hc
  · have e : D.write i b = (1, D) := by unfold Dk.write; rw [if_neg h1, if_neg h2, if_pos h3]
    rw [e]
    exact (write_len g s cp r D i A c b w h hw h3).mono fun e w' ⟨he, hw⟩ => ⟨he, hw ▸ h, hw ▸ Only.refl _ _⟩
theorem new_no (n : Int) (hn : n < 1 ∨ 2048 < n) (w : World) :
    Calls Try.prog 24 #[.int .i64 n] w fun e w' => e = .returned (.tuple #[.pointer none, .int .i64 1]) ∧ w = w' := by
  by_cases h : n < 1
  · clear hn
    go_enter Try.func24, Try.ntmps24
    go_wp2
    go_ret2
    exact ⟨rfl, rfl⟩
  · have h2 : 2048 < n := by omega
    clear hn
    go_enter Try.func24, Try.ntmps24
    go_wp2
    go_ret2
    exact ⟨rfl, rfl⟩
theorem sectorSize : (Try.prog.info? 75).map (·.size) = some 256 := by kernel_rfl
theorem sectorZero : ∃ z, (Try.prog.info? 75).map (fun i => (i.zero, i.size, i.bytes)) = some (some z, 256, 256) ∧ z.cells = (bcells (sec 0)).toArray := by
  refine ⟨.agg (bcells (sec 0)).toArray, ?_, rfl⟩
  kernel_rfl
theorem made_sectors (z : Value) (hz : z.cells = (bcells (sec 0)).toArray) (n : Nat) : madeCells z.cells (n * 256) = (flat (List.replicate n (sec 0))).toArray := by
  have hl : (flat (List.replicate n (sec 0))).length = 256 * n := by
    rw [flat_length _ (fun b hb => by rw [List.eq_of_mem_replicate hb]; exact sec_length 0), List.length_replicate]
  rw [hz]
  apply Array.ext
  · rw [size_madeCells, List.size_toArray, hl]; omega
  · intro i h1 h2
    rw [size_madeCells] at h1
    have hsz : (bcells (sec 0)).toArray.size = 256 := by rw [List.size_toArray, bcells_length, sec_length]
    have e1 : (flat (List.replicate n (sec 0)))[i]? = some (bcell 0) := by
      have := flat_get (List.replicate n (sec 0)) (fun b hb => by rw [List.eq_of_mem_replicate hb]; exact sec_length 0) (i / 256) (i % 256) (by rw [List.length_replicate]; omega) (Nat.mod_lt _ (by omega))
      rw [show i / 256 * 256 + i % 256 = i by omega, List.getElem_replicate, bcells_get, sec_get _ _ (Nat.mod_lt _ (by omega))] at this
      exact this
    have e2 : (bcells (sec 0)).toArray[i % 256]? = some (bcell 0) := by
      rw [List.getElem?_toArray, bcells_get, sec_get _ _ (Nat.mod_lt _ (by omega))]
      rfl
    have e3 : (madeCells (bcells (sec 0)).toArray (n * 256))[i]? = some (bcell 0) := by
      unfold madeCells
      rw [Array.getElem?_map, Array.getElem?_range, if_pos h1, Option.map_some, hsz, getElem!_def, e2]
    have e4 : (flat (List.replicate n (sec 0))).toArray[i]? = some (bcell 0) := by rw [List.getElem?_toArray]; exact e1
    exact Option.some.inj ((Array.getElem?_eq_getElem _).symm.trans (e3.trans (e4.symm.trans (Array.getElem?_eq_getElem _))))
theorem new_yes (n : Nat) (h1 : 1 ≤ n) (h2 : n ≤ 2048) (w : World) :
    Calls Try.prog 24 #[.int .i64 n] w fun e w' => ∃ g s, e = .returned (.tuple #[.pointer (some ⟨g, 0, none⟩), .int .i64 0]) ∧ IsDk w' g s n [] (Dk.new n) ∧ w.heap.size ≤ g ∧ w.heap.size ≤ s ∧ Only [] w w' := by
  obtain ⟨z, hz, hzc⟩ := sectorZero
  have HZ := Lib.hid hzc
  have HI := Lib.hid hz
  clear hz hzc
  have h1' : (1 : Int) ≤ n := by omega
  have h2' : (n : Int) ≤ 2048 := by omega
  go_enter Try.func24, Try.ntmps24
  go_wp2_with (at_make; refine wpList_make_new rfl _ _ 64 rfl 75 z 256 256 Try.underlying64 HI.out _ _ _ _ n rfl rfl rfl rfl (by omega) (by omega) ?_; intro w1 hh hs ho)
  go_ret2
  have e := hs.out
  refine ⟨w1.heap.size, w.heap.size, by simp [e], ⟨?_, ?_⟩, by omega, by omega, ho.alloc _⟩
  · rw [heap_alloc_new]
    simp [Dk.new]
  · rw [Below.heap_alloc _ _ _ (by omega), hh.out, made_sectors z HZ.out n, List.append_nil]
    rfl
section
variable (g s cp : Nat) (r : List Value) (D : Dk) (i : Int) (w : World) (h : IsDk w g s cp r D)
include h
theorem read_no (v : Int) (hv : v ≠ 0) (hw : D.wrong i = v) :
    Calls Try.prog 35 #[.pointer (some ⟨g, 0, none⟩), .int .i64 i] w fun e w' => e = .returned (.tuple #[.slice none 0 0, .int .i64 v]) ∧ w = w' := by
  have hvb : (v != 0) = true := by simpa using hv
  have HW := Lib.hid hw
  have H := Lib.hid h
  clear h hw hv
  go_enter Try.func35, Try.ntmps35
  go_wp2_with (go_at_call 40; refine (wrong_is g s cp r D i v w H.out HW.out).mono ?_; rintro e w' ⟨rfl, rfl⟩)
  go_ret2
  exact ⟨rfl, rfl⟩
set_option maxRecDepth 100000 in
theorem read_yes (hw : D.wrong i = 0) (hsec : ∀ x ∈ D.L, x.length = 256) (k : Nat) (hk : i = k) (hkl : k < D.L.length) :
    Calls Try.prog 35 #[.pointer (some ⟨g, 0, none⟩), .int .i64 i] w fun e w' => ∃ p, e = .returned (.tuple #[.slice (some ⟨p, 0, none⟩) 256 256, .int .i64 0]) ∧ w'.heap[p]? = some (.cells (bcells D.L[k]).toArray 75 (0, 0)) ∧ w.heap.size ≤ p ∧ Only [] w w' := by
  obtain ⟨z, hz, hzc⟩ := sectorZero
  have c0 := h.c0
  have hlb : (bcells D.L[k]).length = 256 := by rw [bcells_length, hsec _ (List.getElem_mem hkl)]
  have hca : CellsAt w ⟨s, k * 256, none⟩ (bcells D.L[k]) := by
    intro j v hj
    have hj' : j < 256 := by have := (List.getElem?_eq_some_iff.1 hj).1; omega
    have e : (⟨s, k * 256, none⟩ : Addr).add j = ⟨s, k * 256 + j, none⟩ := by unfold Addr.add; split <;> simp_all
    rw [e, cell_of_row w s _ _ _ _ h.sec, List.getElem?_toArray, List.getElem?_append_left (by rw [flat_length _ hsec]; omega), flat_get _ hsec k j hkl hj', hj]
  generalize D.L[k] = b at *
  have Hca := Lib.hid hca
  have Hlb := Lib.hid hlb
  have HZ := Lib.hid hzc
  have HI := Lib.hid hz
  have HW := Lib.hid hw
  have H := Lib.hid h
  clear h hw hca hlb hsec hz hzc
  subst hk
  go_enter Try.func35, Try.ntmps35
  go_wp2_with (first
    | (go_at_call 40; refine (wrong_is g s cp r D k 0 w H.out HW.out).mono ?_; rintro e w' ⟨rfl, rfl⟩)
    | (with_reducible refine wpList_load_at rfl 75 (.tmp 19) rfl ⟨s, k * 256, none⟩ rfl (bcells b) _ Hca.out Try.underlying75 rfl (by rw [Hlb.out]; exact sectorSize) ?_)
    | (with_reducible refine wpList_alloc_new rfl 75 rfl z 256 256 HI.out ?_; intro w1 hh hs ho)
    | (with_reducible refine wpList_store_new rfl 75 (.tmp 7) (.tmp 20) rfl w.heap.size (bcells b).toArray rfl rfl 75 z.cells hh.out (by rw [List.size_toArray, Hlb.out]; exact sectorSize) (by rw [HZ.out, List.size_toArray, List.size_toArray, Hlb.out, bcells_length, sec_length]) (bcells_one b) ?_; intro w2 hh2 ho2))
  go_ret2
  exact ⟨w.heap.size, rfl, hh2.out, Nat.le_refl _, (ho.then ho2 (by simp))⟩
end
/-- A write of bytes that lie in a block of their own. -/
theorem write_row (g s cp : Nat) (r : List Value) (D : Dk) (i : Int) (p c : Nat) (b : List UInt8) (t : TypeId) (w : World) (h : IsDk w g s cp r D) (hD : D.Ok) (hwr : D.writes < 1000000000)
    (hb : w.heap[p]? = some (.cells (bcells b).toArray t (0, 0))) (n : Nat) (hn : b.length = n) :
    Calls Try.prog 25 #[.pointer (some ⟨g, 0, none⟩), .int .i64 i, .slice (some ⟨p, 0, none⟩) n c] w fun e w' => e = .returned (.int .i64 (D.write i b).1) ∧ IsDk w' g s cp r (D.write i b).2 ∧ Only [g, s] w w' := by
  subst hn
  exact write_any g s cp r D i (some ⟨p, 0, none⟩) c b w h hD hwr (fun _ => ⟨_, rfl, cellsAt_row hb⟩)
/-- A write whose answer is known. The bytes lie in a block of their own. -/
theorem write_is (g s cp : Nat) (r : List Value) (D D' : Dk) (v : Int) (i : Int) (p c : Nat) (b : List UInt8) (t : TypeId) (w : World) (h : IsDk w g s cp r D) (hD : D.Ok) (hwr : D.writes < 1000000000)
    (hb : w.heap[p]? = some (.cells (bcells b).toArray t (0, 0))) (n : Nat) (hn : b.length = n) (hv : D.write i b = (v, D')) :
    Calls Try.prog 25 #[.pointer (some ⟨g, 0, none⟩), .int .i64 i, .slice (some ⟨p, 0, none⟩) n c] w fun e w' => e = .returned (.int .i64 v) ∧ IsDk w' g s cp r D' ∧ Only [g, s] w w' := by
  subst hn
  have := write_any g s cp r D i (some ⟨p, 0, none⟩) c b w h hD hwr (fun _ => ⟨_, rfl, cellsAt_row hb⟩)
  rw [hv] at this
  exact this
/-- A read whose answer is known. -/
theorem read_is (g s cp : Nat) (r : List Value) (D : Dk) (i : Int) (k : Nat) (b : List UInt8) (w : World) (h : IsDk w g s cp r D) (hD : D.Ok) (hoff : D.off = false) (hk : i = k) (hb : D.L[k]? = some b) :
    Calls Try.prog 35 #[.pointer (some ⟨g, 0, none⟩), .int .i64 i] w fun e w' => ∃ p, e = .returned (.tuple #[.slice (some ⟨p, 0, none⟩) 256 256, .int .i64 0]) ∧ w'.heap[p]? = some (.cells (bcells b).toArray 75 (0, 0)) ∧ w.heap.size ≤ p ∧ Only [] w w' := by
  obtain ⟨hkl, rfl⟩ := List.getElem?_eq_some_iff.1 hb
  exact read_yes g s cp r D i w h (by unfold Dk.wrong; rw [if_neg (by rw [hoff]; simp), if_neg (by omega)]) hD.secs k hk hkl
theorem full_int (n : Int) (h0 : 0 ≤ n) (h1 : n < 256) (w : World) :
    Calls Try.prog 29 #[.int .u8 n] w fun e w' => ∃ b, e = .returned (.slice (some ⟨b, 0, none⟩) 256 256) ∧ w'.heap[b]? = some (.cells (bcells (sec (UInt8.ofNat n.toNat))).toArray 5 (0, 0)) ∧ w.heap.size ≤ b ∧ Only [] w w' := by
  have e : n = ((UInt8.ofNat n.toNat).toNat : Int) := by simp; omega
  have := full_any (UInt8.ofNat n.toNat) w
  rw [← e] at this
  exact this.mono fun _ _ ⟨h1, h2, h3⟩ => ⟨_, h1, h2, Nat.le_refl _, h3⟩
end Go.Proofs.Ytlngfelpmebemaa
