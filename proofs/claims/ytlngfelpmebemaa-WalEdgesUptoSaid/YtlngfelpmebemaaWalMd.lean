/-
  A group as it is handed in.
-/
import Derived.Test.YtlngfelpmebemaaWalMo
import Derived.Test.YtlngfelpmebemaaWalWo
namespace Go.Proofs.Ytlngfelpmebemaa
open Go Go.RowKit
set_option linter.unusedSimpArgs false
set_option linter.unusedVariables false
def mkZ (x : Int) (i : Nat) : Int := IntKind.u8.wrap (x + IntKind.u8.wrap (i : Int))
def mkB (x : Int) (i : Nat) : UInt8 := UInt8.ofNat (mkZ x i).toNat
/-- The first k sectors of a group. -/
def madeTo (x : Int) (at_ : List Int) (k : Nat) : List Wr := (List.range k).map fun i => (at_.getD i 0, sec (mkB x i))
theorem madeTo_length (x : Int) (at_ : List Int) (k : Nat) : (madeTo x at_ k).length = k := by simp [madeTo]
theorem madeTo_next (x : Int) (at_ : List Int) (k : Nat) : madeTo x at_ (k + 1) = madeTo x at_ k ++ [(at_.getD k 0, sec (mkB x k))] := by
  unfold madeTo
  rw [List.range_succ, List.map_append]
  rfl
def madeP (x : Int) (at_ : List Int) (odd : List Wr) : List Wr := madeTo x at_ at_.length ++ odd
/-- Integers that a slice shows. -/
def ZAt (w : World) (A : Option Addr) (xs : List Int) : Prop := ∀ (i : Nat) (x : Int), xs[i]? = some x → ∃ ad, A = some ad ∧ w.cell? (ad.add i) = some (.int .i64 x)
theorem ZAt.only {w w' : World} {A : Option Addr} {xs : List Int} (h : ZAt w A xs) (ho : Only [] w w') : ZAt w' A xs := fun i x hx => by
  obtain ⟨ad, h1, h2⟩ := h i x hx
  exact ⟨ad, h1, ho.cell h2 (by simp)⟩
/-- Writes that a slice shows: its row from lo on, their bytes from lo on or below B. -/
def WritesM (lo B : Nat) (w : World) (A : Option Addr) (xs : List Wr) : Prop :=
  ∀ (i : Nat) (x : Wr), xs[i]? = some x → ∃ ad Bb cap, A = some ad ∧ lo ≤ ad.block ∧ CellsAt w (ad.add (i * 2)) [.int .i64 x.1, .slice Bb x.2.length cap] ∧ x.2.length ≤ cap ∧ (x.2 ≠ [] → ∃ bd, Bb = some bd ∧ (lo ≤ bd.block ∨ bd.block < B) ∧ CellsAt w bd (bcells x.2))
/-- Writes that came in: all they lead to lies below B. -/
def WritesI (B : Nat) (w : World) (A : Option Addr) (xs : List Wr) : Prop :=
  ∀ (i : Nat) (x : Wr), xs[i]? = some x → ∃ ad Bb cap, A = some ad ∧ CellsAt w (ad.add (i * 2)) [.int .i64 x.1, .slice Bb x.2.length cap] ∧ x.2.length ≤ cap ∧ (x.2 ≠ [] → ∃ bd, Bb = some bd ∧ bd.block < B ∧ CellsAt w bd (bcells x.2))
theorem WritesI.only {B : Nat} {w w' : World} {A : Option Addr} {xs : List Wr} (h : WritesI B w A xs) (ho : Only [] w w') : WritesI B w' A xs := fun i x hx => by
  obtain ⟨ad, Bb, cap, h1, h3, h4, h5⟩ := h i x hx
  exact ⟨ad, Bb, cap, h1, h3.only ho (by simp), h4, fun h6 => by obtain ⟨bd, k1, k2, k3⟩ := h5 h6; exact ⟨bd, k1, k2, k3.only ho (by simp)⟩⟩
theorem WritesI.nil (B : Nat) (w : World) (A : Option Addr) : WritesI B w A [] := fun i x hx => by simp at hx
theorem WritesI.flat {B : Nat} {w : World} {A : Option Addr} {xs : List Wr} (h : WritesI B w A xs) : ∃ us : List Value, us.length = xs.length ∧ (0 < xs.length → ∃ ad, A = some ad ∧ CellsAt w ad (wrCells xs us)) ∧
    (∀ (i : Nat) (x : Wr) (u : Value), xs[i]? = some x → us[i]? = some u → ∃ Bb cap, u = .slice Bb x.2.length cap ∧ x.2.length ≤ cap ∧ (x.2 ≠ [] → ∃ bd, Bb = some bd ∧ bd.block < B ∧ CellsAt w bd (bcells x.2))) := by
  have hex : ∀ i, i < xs.length → ∃ u : Value, ∀ x, xs[i]? = some x → (∃ ad, A = some ad ∧ CellsAt w (ad.add (i * 2)) [.int .i64 x.1, u]) ∧ ∃ Bb cap, u = .slice Bb x.2.length cap ∧ x.2.length ≤ cap ∧ (x.2 ≠ [] → ∃ bd, Bb = some bd ∧ bd.block < B ∧ CellsAt w bd (bcells x.2)) := by
    intro i hi
    obtain ⟨ad, Bb, cap, h1, h2, h3, h4⟩ := h i _ (List.getElem?_eq_getElem hi)
    refine ⟨.slice Bb xs[i].2.length cap, fun x hx => ?_⟩
    rw [List.getElem?_eq_getElem hi] at hx
    obtain rfl := Option.some.inj hx
    exact ⟨⟨ad, h1, h2⟩, Bb, cap, rfl, h3, h4⟩
  haveI : Inhabited Value := ⟨.bool true⟩
  obtain ⟨f, hf⟩ := Go.Deep.choose_lt hex
  have hus : ∀ (i : Nat) (u : Value), ((List.range xs.length).map f)[i]? = some u → i < xs.length ∧ u = f i := by
    intro i u hu
    have hi : i < xs.length := by have := (List.getElem?_eq_some_iff.1 hu).1; simpa using this
    rw [List.getElem?_map, List.getElem?_range hi] at hu
    exact ⟨hi, (Option.some.inj hu).symm⟩
  refine ⟨(List.range xs.length).map f, by simp, fun h0 => ?_, fun i x u hx hu => ?_⟩
  · obtain ⟨⟨ad, hA, _⟩, _⟩ := hf 0 h0 _ (List.getElem?_eq_getElem h0)
    refine ⟨ad, hA, wrCells_of _ _ (by simp) (fun i x u hx hu => ?_)⟩
    obtain ⟨hi, rfl⟩ := hus i u hu
    obtain ⟨⟨ad', hA', hc⟩, _⟩ := hf i hi x hx
    obtain rfl := Option.some.inj (hA.symm.trans hA')
    exact hc
  · obtain ⟨hi, rfl⟩ := hus i u hu
    exact (hf i hi x hx).2
theorem wrCells_one {xs : List Wr} {us : List Value} (h : ∀ u ∈ us, u.oneCell' = true) : ∀ u ∈ wrCells xs us, u.oneCell' = true := by
  intro u hu
  unfold wrCells at hu
  obtain ⟨p, hp, hq⟩ := List.mem_flatMap.1 hu
  simp at hq
  rcases hq with rfl | rfl
  · rfl
  · exact h _ (List.of_mem_zip hp).2
theorem infoWrite : (Try.prog.info? 63).map (fun i => (i.zero, i.size, i.bytes)) = some (some (.agg #[.int .i64 0, .slice none 0 0]), 2, 32) := by kernel_rfl
theorem fill_two (z a b : Value) :
    z.cells.size = 2 → Instr.fill (fun i => some (i * 2, 2)) ((Array.range (1 * 2)).map (z.cells[· % z.cells.size]!)) [(0, .agg #[a, b])] = some #[a, b] := by
  intro _
  generalize hA : ((Array.range (1 * 2)).map (z.cells[· % z.cells.size]!)) = arr
  have h2 : arr.size = 2 := by rw [← hA]; simp
  match arr, h2 with
  | ⟨[x, y]⟩, _ => simp [Instr.fill, Value.cells]
set_option maxHeartbeats 8000000 in
set_option maxRecDepth 100000 in
theorem made_any (AA : Option Addr) (ca : Nat) (at_ : List Int) (x : Int) (AO : Option Addr) (co : Nat) (odd : List Wr) (B : Nat) (w : World) (hal : at_.length ≤ 2000000) (hol : odd.length ≤ 2000000) (hA : ZAt w AA at_) (hO : WritesI B w AO odd) (hB : B ≤ w.heap.size) :
    Calls Try.prog 14 #[.agg #[.slice AA at_.length ca, .int .u8 x, .slice AO odd.length co]] w fun e w' => ∃ A c, e = .returned (.slice A (madeP x at_ odd).length c) ∧ Hid (WritesM w.heap.size B w' A (madeP x at_ odd)) ∧ Only [] w w' := by
  have HA := Lib.hid hA
  have HO := Lib.hid hO
  have HX := Lib.hid (heap_alloc_new w (.cells #[.slice AA at_.length ca, .int .u8 x, .slice AO odd.length co] 37))
  have HB := Lib.hid hB
  clear hA hO hB
  have hu := Try.underlying37
  generalize hm : at_.length = m at *
  have HM := Lib.hid hm
  clear hm
  go_enter Try.func14, Try.ntmps14
  go_wp2
  have HO1 := Lib.hid (show Only [] w (w.alloc (.cells #[.slice AA m ca, .int .u8 x, .slice AO odd.length co] 37)) from (Only.refl _ _).alloc _)
  generalize w.alloc (.cells #[.slice AA m ca, .int .u8 x, .slice AO odd.length co] 37) = w1 at *
  go_loopw [3, 4] (fun l i wr => ∃ (k : Nat) (A : Option Addr) (c : Nat) (us : List Value), k ≤ m ∧ l = .slice A k c ∧ i = .int .i64 k ∧ Hid (WrOwn w.heap.size 63 wr (.slice A k c) (madeTo x at_ k) us) ∧ Hid (Only [] w wr) ∧ Hid (wr.heap[w.heap.size]? = some (.cells #[.slice AA m ca, .int .u8 x, .slice AO odd.length co] 37 (0, 0)))) (fun _ i _ => m - (Go.RowKit.intOf i).toNat)
  case atStart => exact ⟨0, none, 0, [], by omega, rfl, rfl, Lib.hid (WrOwn.nil _ _ _), HO1, HX⟩
  case round =>
    obtain ⟨k, A, c, us, hk, rfl, rfl, HW, HOR, HXR⟩ := hrel
    have x0 : wr.cell? ⟨w.heap.size, 0, none⟩ = some (.slice AA m ca) := (cell_of_row wr _ 0 _ _ _ HXR.out).trans rfl
    by_cases hlt : k < m
    · have hlt' : (k : Int) < m := by omega
      have hk0 : (0 : Int) ≤ k := by omega
      obtain ⟨aa, rfl, hca⟩ := HA.out k (at_.getD k 0) (by rw [List.getD_eq_getElem?_getD, List.getElem?_eq_getElem (by rw [HM.out]; exact hlt)]; rfl)
      have HCA := Lib.hid hca
      have HCB := Lib.hid (show (aa.add k).block < w.heap.size from block_lt_of_cell hca)
      obtain ⟨av, hav⟩ : ∃ v, v = at_.getD k 0 := ⟨_, rfl⟩
      rw [← hav] at HCA
      have HAV := Lib.hid hav
      have HWL := Lib.hid (madeTo_length x at_ k)
      clear hca hav
      go_wp2
      refine L.grow_start (Value.slice A k c).ownBlock.toList 16 ((0, true, false) :: (1, true, false) :: (2, true, false) :: (3, true, false) :: (4, true, false) :: (5, true, false) :: (6, true, false) :: (7, true, false) :: (8, true, true) :: (9, true, true) :: (10, true, true) :: (11, false, true) :: (12, true, true) :: (13, false, true) :: (14, false, true) :: (15, true, true) :: []) (by kernel_rfl) (([], [3], some 12) :: ([], [1], some 13) :: ([1], [13], some 14) :: ([], [4], some 15) :: ([2, 3], [14, 15], some 16) :: ([4], [16], some 17) :: ([], [1], some 18) :: ([6], [18], some 19) :: ([], [4], some 20) :: ([8], [20], some 21) :: ([7, 9], [19, 21], some 22) :: ([10], [22], some 23) :: ([5, 11], [17, 23], some 24) :: ([12], [24], some 25) :: ([0, 13, 11], [12, 25], some 26) :: ([14, 14, 0, 1, 2, 3, 4, 5, 6, 7, 8, 9, 10, 11, 12, 13, 14], [26], some 3) :: []) (by kernel_rfl) (by kernel_rfl) (n := 16) rfl (by kernel_rfl) (fun _ _ _ _ _ h => h) (fun wk hok => ?_)
      refine L.growe_start (N := 31) (by rfl) ?_
      have HOK := Lib.hid (show Only [] wr wk from hok)
      have HWK := Lib.hid (HW.out.only hok)
      have HBS := Lib.hid (show ∀ q ∈ (Value.slice A k c).ownBlock.toList, w.heap.size + 1 ≤ q from fun q hq => by
        have h1 := ownsRow_lt HWK.out.row (show (Value.slice A k c).ownBlock = some q by simpa using hq)
        rcases Nat.eq_or_lt_of_le h1.1 with h2 | h2
        · exfalso
          rcases HW.out.row.2 with ⟨h3, _⟩ | ⟨g, cap, cur, e1, _, hh, _⟩
          · rw [h3] at hq; simp [Value.ownBlock] at hq
          · rw [e1] at hq
            have : q = g := by simpa [Value.ownBlock] using hq
            subst this
            rw [← h2] at hh
            have := hh.symm.trans HXR.out
            simp at this
        · exact h2)
      have e0 : ∀ w', Only (Value.slice A k c).ownBlock.toList wk w' → w'.cell? ⟨w.heap.size, 0, none⟩ = some (.slice (some aa) m ca) := fun w' q => (cell_of_row w' _ 0 _ _ _ (q.heap (HOK.out.heap HXR.out (by simp)) (fun h => by have := HBS.out _ h; omega))).trans rfl
      have e1 : ∀ w', Only (Value.slice A k c).ownBlock.toList wk w' → w'.cell? ⟨w.heap.size, 1, none⟩ = some (.int .u8 x) := fun w' q => (cell_of_row w' _ 1 _ _ _ (q.heap (HOK.out.heap HXR.out (by simp)) (fun h => by have := HBS.out _ h; omega))).trans rfl
      have e2 : ∀ w', Only (Value.slice A k c).ownBlock.toList wk w' → w'.cell? (aa.add k) = some (.int .i64 av) := fun w' q => q.cell ((HOR.out.trans HOK.out).cell HCA.out (by simp)) (fun h => by have := HBS.out _ h; have := HCB.out; omega)
      clear hok
      iterate 11 (first | (refine L.ge_off rfl rfl rfl (by rfl) ?_) | (refine L.ge_move rfl rfl rfl (by rfl) rfl (by simp [L.evE, L.lk, Act.eval]; rfl) ?_) | (refine L.ge_pick rfl rfl rfl (by rfl) rfl (by simp [L.evE, L.lk, Act.eval]; rfl) (by simp [L.evE, L.lk, Act.eval]; rfl) ?_) | (refine L.ge_val rfl rfl rfl (by rfl) (by intro w' hw'; simp [execOp, L.evE, L.lk, Act.eval]; go_simp; rfl) ?_))
      refine L.ge_call rfl rfl rfl (by rfl) rfl (by simp [L.evE, L.lk, Act.eval]; rfl) (by go_simp) ?_
      refine (show Calls _ _ #[.int .u8 (mkZ x k)] wk _ from (full_int (mkZ x k) (u8_lo _) (u8_hi _) wk)).mono ?_
      rintro e w3 ⟨b, rfl, hb3, hbb, ho3⟩
      refine ⟨_, rfl, ho3.mono (by simp), ?_⟩
      have HB3 := Lib.hid hb3
      have HBB := Lib.hid hbb
      have HO3 := Lib.hid ho3
      clear hb3 hbb ho3 e0 e1 e2
      iterate 1 (first | (refine L.ge_off rfl rfl rfl (by rfl) ?_) | (refine L.ge_move rfl rfl rfl (by rfl) rfl (by simp [L.evE, L.lk, Act.eval]; rfl) ?_) | (refine L.ge_pick rfl rfl rfl (by rfl) rfl (by simp [L.evE, L.lk, Act.eval]; rfl) (by simp [L.evE, L.lk, Act.eval]; rfl) ?_) | (refine L.ge_val rfl rfl rfl (by rfl) (by intro w' hw'; simp [execOp, L.evE, L.lk, Act.eval]; go_simp; rfl) ?_))
      refine ge_one rfl rfl rfl (by rfl) _ (.tmp 24) rfl 63 Try.underlying34 (.agg #[.int .i64 0, .slice none 0 0]) 2 32 infoWrite (by omega) (by omega) #[.int .i64 av, .slice (some ⟨b, 0, none⟩) 256 256] (by have h := fill_two (.agg #[.int .i64 0, .slice none 0 0]) (.int .i64 av) (.slice (some ⟨b, 0, none⟩) 256 256) rfl; simpa [L.evE, L.lk, Act.eval] using h) ?_
      have HPN := Lib.hid (heap_alloc_new w3 (.cells #[.int .i64 av, .slice (some ⟨b, 0, none⟩) 256 256] 63))
      have hrow := ((HWK.out.only HO3.out).only ((Only.refl [] w3).alloc (.cells #[.int .i64 av, .slice (some ⟨b, 0, none⟩) 256 256] 63))).row
      rw [HWL.out] at hrow
      have hz : w.heap.size ≤ w3.heap.size := Nat.le_trans (HOR.out.trans HOK.out).size HO3.out.size
      refine ge_append_row rfl rfl rfl (by rfl) (.tmp 12) (.tmp 25) 34 rfl w.heap.size 63 2 32 (.agg #[.int .i64 0, .slice none 0 0]) Try.underlying34 infoWrite rfl (by omega) (.slice A k c) k (wrCells (madeTo x at_ k) us) (by simp [L.evE, L.lk, Act.eval]) hrow (some ⟨w3.heap.size, 0, none⟩) 1 1 [.int .i64 av, .slice (some ⟨b, 0, none⟩) 256 256] (by simp [L.evE, L.lk, Act.eval]) rfl (fun _ => ⟨_, rfl, cellsAt_row HPN.out⟩) (by simp [Value.oneCell']) (by unfold maxLen; omega) (by omega) (by simp; omega) ?_
      intro A8 c8 w8 hb8 ho8 hk8
      refine ⟨ho8, ?_⟩
      have HN : Hid (WrOwn w.heap.size 63 w8 (.slice A8 (k + 1) c8) (madeTo x at_ (k + 1)) (us ++ [.slice (some ⟨b, 0, none⟩) 256 256])) := by
        refine Lib.hid ?_
        rw [madeTo_next, ← HAV.out]
        refine WrOwn.snoc HWK.out (HO3.out.alloc (.cells #[.int .i64 av, .slice (some ⟨b, 0, none⟩) 256 256] 63)) (sec_length _) HBB.out (Nat.le_trans (HOR.out.trans HOK.out).size HBB.out) ?_ ?_ ho8 (by rw [HWL.out]; exact hb8) (fun q hq => hk8 q hq)
        · have := heap_lt HB3.out
          simp
          omega
        · exact (cellsAt_row HB3.out).only ((Only.refl [] _).alloc _) (by simp)
      have HO8 := Lib.hid (show Only [] w w8 from (HOR.out.trans (HOK.out.trans (HO3.out.alloc (.cells #[.int .i64 av, .slice (some ⟨b, 0, none⟩) 256 256] 63)))).then ho8 (fun i hi => .inr (by have := HBS.out i hi; omega)))
      have HX8 := Lib.hid (ho8.heap ((HOK.out.trans (HO3.out.alloc (.cells #[.int .i64 av, .slice (some ⟨b, 0, none⟩) 256 256] 63))).heap HXR.out (by simp)) (fun h => by have := HBS.out _ h; omega))
      clear hb8 ho8 hk8 hrow HPN
      iterate 1 (first | (refine L.ge_off rfl rfl rfl (by rfl) ?_) | (refine L.ge_move rfl rfl rfl (by rfl) rfl (by simp [L.evE, L.lk, Act.eval]; rfl) ?_) | (refine L.ge_pick rfl rfl rfl (by rfl) rfl (by simp [L.evE, L.lk, Act.eval]; rfl) (by simp [L.evE, L.lk, Act.eval]; rfl) ?_) | (refine L.ge_val rfl rfl rfl (by rfl) (by intro w' hw'; simp [execOp, L.evE, L.lk, Act.eval]; go_simp; rfl) ?_))
      refine L.ge_done ?_
      simp only [L.puts, Act.put, goInt, List.setIfInBounds_toArray, List.set_cons_zero, List.set_cons_succ]
      go_wp2
      go_roundw
      case rel => exact ⟨k + 1, A8, c8, _, by omega, rfl, by go_num, HN, HO8, HX8⟩
      case measure => simp [Go.RowKit.intOf]; omega
    · obtain rfl : k = m := by omega
      have x2 : wr.cell? ⟨w.heap.size, 2, none⟩ = some (.slice AO odd.length co) := (cell_of_row wr _ 2 _ _ _ HXR.out).trans rfl
      obtain ⟨vs, hvl, hvc, hve⟩ := (HO.out.only HOR.out).flat
      have HVL := Lib.hid hvl
      have HVC := Lib.hid hvc
      have HVE := Lib.hid hve
      have HWL := Lib.hid (madeTo_length x at_ k)
      have hone : ∀ u ∈ vs, u.oneCell' = true := by
        intro u hu
        obtain ⟨i, hi⟩ := List.getElem?_of_mem hu
        have hil : i < odd.length := by have := (List.getElem?_eq_some_iff.1 hi).1; rw [hvl] at this; exact this
        obtain ⟨Bb, cap, rfl, _⟩ := hve i _ u (List.getElem?_eq_getElem hil) hi
        rfl
      have HONE := Lib.hid hone
      have hrow := HW.out.row
      rw [HWL.out] at hrow
      have HROW := Lib.hid hrow
      have hz := HOR.out.size
      clear hvl hvc hve hone hrow
      go_wp2_with (at_builtin; refine wpList_append_row rfl _ _ 34 rfl w.heap.size 63 2 32 (.agg #[.int .i64 0, .slice none 0 0]) Try.underlying34 infoWrite rfl (by omega) (.slice A k c) k (wrCells (madeTo x at_ k) us) rfl HROW.out AO odd.length co (wrCells odd vs) rfl (wrCells_length _ _ HVL.out) HVC.out (wrCells_one HONE.out) (by unfold maxLen; omega) (by omega) hz ?_; intro A8 c8 w8 hb8 ho8 hk8; have HB8 := Lib.hid hb8; have HO8 := Lib.hid ho8; have HK8 := Lib.hid hk8; clear hb8 ho8 hk8)
      have hlen : (madeP x at_ odd).length = k + odd.length := by unfold madeP; rw [List.length_append, HM.out, HWL.out]
      refine bodyPost_ret (v := .slice A8 (k + odd.length) c8) (by simp [results, Try.results14, go_sem]) rfl ⟨A8, c8, by rw [hlen], ?_, HOR.out.then HO8.out (fun i hi => .inr (ownsRow_lt HROW.out (by simpa using hi)).1)⟩
      refine Lib.hid fun i y hy => ?_
      have hown := HB8.out
      have hb0 : 0 < k + odd.length := by
        have := (List.getElem?_eq_some_iff.1 hy).1
        omega
      obtain ⟨g, cap, e1, hg, hcells⟩ : ∃ g cap, A8 = some ⟨g, 0, none⟩ ∧ w.heap.size ≤ g ∧ CellsAt w8 ⟨g, 0, none⟩ (wrCells (madeTo x at_ k) us ++ wrCells odd vs) := by
        obtain ⟨A9, c9, e9, _, h9⟩ := ownsRow_slice hown
        injection e9 with e9 _ _
        subst e9
        obtain ⟨ad, e8, h8⟩ := h9 hb0
        rcases hown.2 with ⟨h3, _⟩ | ⟨g, cap, cur, e7, hge, _⟩
        · injection h3 with h3 h4 _
          omega
        · injection e7 with e7 _ _
          subst e7
          obtain rfl := Option.some.inj e8
          exact ⟨g, 0, rfl, hge, h8⟩
      subst e1
      have hwl : (madeTo x at_ k).length = k := HWL.out
      rw [← wrCells_append _ _ _ _ HW.out.len] at hcells
      have hme : madeP x at_ odd = madeTo x at_ k ++ odd := by unfold madeP; rw [HM.out]
      rw [hme] at hy
      have hul : us.length = k := by rw [HW.out.len, hwl]
      by_cases hi : i < k
      · have hu : us[i]? = some (us[i]'(by omega)) := List.getElem?_eq_getElem (by omega)
        have hy' := hy
        rw [List.getElem?_append, if_pos (by rw [hwl]; exact hi)] at hy'
        obtain ⟨b, h1, h2, h3, h4, h5, h6⟩ := HW.out.each i y _ hy' hu
        refine ⟨_, some ⟨b, 0, none⟩, 256, rfl, hg, ?_, by rw [h2]; exact Nat.le_refl _, fun _ => ⟨_, rfl, .inl h3, h6.only HO8.out (by simpa using h5)⟩⟩
        rw [h2, ← h1]
        exact wrCells_at hcells hy (by rw [List.getElem?_append, if_pos (by omega)]; exact hu)
      · have hil : i - k < odd.length := by
          have := (List.getElem?_eq_some_iff.1 hy).1
          rw [List.length_append, hwl] at this
          omega
        have hy' := hy
        rw [List.getElem?_append, if_neg (by rw [hwl]; exact hi), hwl] at hy'
        have hu : vs[i - k]? = some (vs[i - k]'(by rw [HVL.out]; exact hil)) := List.getElem?_eq_getElem (by rw [HVL.out]; exact hil)
        obtain ⟨Bb, cp, h1, h2, h3⟩ := HVE.out _ y _ hy' hu
        refine ⟨_, Bb, cp, rfl, hg, ?_, h2, fun hne => ?_⟩
        · rw [← h1]
          exact wrCells_at hcells hy (by rw [List.getElem?_append, if_neg (by omega), hul]; exact hu)
        · obtain ⟨bd, k1, k2, k3⟩ := h3 hne
          refine ⟨bd, k1, .inr k2, k3.only HO8.out (fun hm => ?_)⟩
          have := (ownsRow_lt HROW.out (show (Value.slice A k c).ownBlock = some bd.block by simpa using hm)).1
          have := HB.out
          omega
end Go.Proofs.Ytlngfelpmebemaa
