/-
  The page's Read.
-/
import Derived.Test.YthkgpnkbbdpldaaPgRLay
import Derived.Test.YthkgpnkbbdpldaaPgOwn
import Derived.Test.YthkgpnkbbdpldaaCut
namespace Go.Proofs.Ythkgpnkbbdpldaa
open Go.RowKit
set_option linter.unusedSimpArgs false
set_option linter.unusedVariables false
theorem infoPairW : (Try.prog.info? 37).map (fun i => (i.zero, i.size, i.bytes)) = some (some (.agg #[.string ⟨#[]⟩, .slice none 0 0]), 2, 40) := infoPair
theorem sizeU8 : (Try.prog.info? 5).map (·.size) = some 1 := by kernel_rfl
theorem RecsOwn.pairs {base : Nat} {tP tB : TypeId} {w : World} {A : Option Addr} {n c : Nat} {xs : List Rec} {us : List Value} (h : RecsOwn base tP tB w (.slice A n c) xs us) : PairsAt w A xs := by
  intro i x hx
  have hi : i < xs.length := (List.getElem?_eq_some_iff.1 hx).1
  have hiu : i < us.length := by rw [h.len]; exact hi
  have hu : us[i]? = some us[i] := List.getElem?_eq_getElem hiu
  obtain ⟨A', c', h1, _, h3⟩ := ownsRow_slice h.row
  obtain ⟨rfl, rfl, rfl⟩ : A = A' ∧ n = xs.length ∧ c = c' := by simpa using h1
  obtain ⟨ad, rfl, hc⟩ := h3 (by omega)
  obtain ⟨B, cb, hb1, hb2, hb3⟩ := ownsRow_slice (h.each i x _ hx hu)
  obtain ⟨p0, p1⟩ := pairCells_get hx hu
  refine ⟨ad, B, cb, rfl, ?_, hb2, hb3⟩
  intro j v hj
  rw [Go.Deep.add_add]
  match j, hj with
  | 0, hj => simp at hj; subst hj; exact hc _ _ p0
  | 1, hj => simp at hj; subst hj; rw [← hb1]; exact hc _ _ p1
theorem BytesAt.cutB {w : World} {R : Option Addr} {b : List UInt8} {i : Nat} (h : BytesAt w R (b.drop i)) (l n m : Nat) (h2 : l + n ≤ m) (h3 : i + l + n ≤ b.length) : BytesAt w (cutAt R l m) (cutB b (i + l) n) := by
  have := h.cut l (l + n) m h2 (by rw [List.length_drop]; omega)
  rw [List.drop_drop, show l + n - l = n by omega] at this
  exact this
theorem BytesAt.rest {w : World} {R : Option Addr} {b : List UInt8} {i : Nat} (h : BytesAt w R (b.drop i)) (l m : Nat) (h2 : b.length - i ≤ m) (h3 : i + l ≤ b.length) : BytesAt w (cutAt R l m) (b.drop (i + l)) := by
  have := h.cutB l (b.length - (i + l)) m (by omega) (by omega)
  unfold Proofs.Ythkgpnkbbdpldaa.cutB at this
  rwa [List.take_of_length_le (by rw [List.length_drop]; omega)] at this
theorem BytesAt.get {w : World} {R : Option Addr} {b : List UInt8} {i : Nat} (h : BytesAt w R (b.drop i)) (hi : i < b.length) : ∃ rd, R = some rd ∧ ∀ j, i + j < b.length → w.cell? (rd.add j) = some (.int .u8 ((b.getD (i + j) 0).toNat : Int)) := by
  obtain ⟨rd, h1, h2⟩ := h (by rw [List.length_drop]; omega)
  refine ⟨rd, h1, fun j hj => h2 j _ ?_⟩
  rw [bcells_get, List.getElem?_drop, List.getD_eq_getElem?_getD, List.getElem?_eq_getElem hj]
  rfl
theorem str_eq (a b : List UInt8) : ((⟨a.toArray⟩ : ByteArray).toList == (⟨b.toArray⟩ : ByteArray).toList) = decide (a = b) := by
  rw [ByteArray.toList_eq, ByteArray.toList_eq]
  by_cases h : a = b
  · subst h; simp
  · rw [decide_eq_false h, beq_eq_false_iff_ne]
    simpa using h
theorem u8_lt (b : List UInt8) (i : Nat) : (b.getD i 0).toNat < 256 := UInt8.toNat_lt _
theorem Fit.snoc {xs : List Rec} {x : Rec} (h : Fit xs) (h1 : x.1.size ≤ 140737488351232) (h2 : x.2.length ≤ 140737488351232) : Fit (xs ++ [x]) := by
  intro y hy
  rcases List.mem_append.1 hy with hy | hy
  · exact h y hy
  · simp at hy; subst hy; exact ⟨h1, h2⟩
theorem fill_one2 (z a b : Value) :
    z.cells.size = 2 → Instr.fill (fun i => some (i * 2, 2)) ((Array.range (1 * 2)).map (z.cells[· % z.cells.size]!)) [(0, .agg #[a, b])] = some #[a, b] := by
  intro _
  generalize hA : ((Array.range (1 * 2)).map (z.cells[· % z.cells.size]!)) = arr
  have h2 : arr.size = 2 := by rw [← hA]; simp
  match arr, h2 with
  | ⟨[x, y]⟩, _ => simp [Instr.fill, Value.cells]
set_option maxHeartbeats 8000000 in
set_option maxRecDepth 100000 in
theorem read_any (A : Option Addr) (cp : Nat) (b : List UInt8) (w : World) (hl : b.length ≤ 1000000) (hcp : b.length ≤ cp) (hcp2 : cp ≤ 9223372036854775807) (hA : BytesAt w A b) :
    Calls Try.prog 15 #[.slice A b.length cp] w fun e w' => ∃ v us, e = .returned (.tuple #[v, .int .i64 (readE b)]) ∧ RecsOwn w.heap.size 37 5 w' v (readR b) us ∧ Only [] w w' := by
  have HA := Lib.hid hA
  clear hA
  go_enter Try.func15, Try.ntmps15
  by_cases h256 : b.length = 256
  · obtain ⟨bd, rfl, hbd⟩ := BytesAt.get (i := 0) HA.out (by omega)
    have hb0 : w.cell? bd = some (.int .u8 ((b.getD 0 0).toNat : Int)) := by have := hbd 0 (by omega); simpa [Addr.add] using this
    have hc256 := u8_lt b 0
    have HCQ : Hid (∀ c, c = (b.getD 0 0).toNat → 7 < c → readL b = none) := fun c h1 h2 => readL_many (by omega)
    have HSP0 : Hid (∀ c, c = (b.getD 0 0).toNat → readFrom b (b.getD 0 0).toNat 1 = readFrom b c 1) := fun c h => by rw [h]
    have HLL := Lib.hid (fun l => readL_some (b := b) (l := l) h256)
    have HNN := Lib.hid (readL_none (b := b))
    clear hbd
    obtain ⟨c, hc⟩ : ∃ c, c = (b.getD 0 0).toNat := ⟨_, rfl⟩
    rw [← hc] at hb0 hc256
    have HC0 := Lib.hid hc
    clear hc
    by_cases h7 : 7 < c
    · have hn := HCQ.out c HC0.out h7
      have e1 := readE_none hn
      have e2 := readR_none hn
      have H1 := Lib.hid e1
      have H2 := Lib.hid e2
      have h7' : (7 : Int) < c := by omega
      have h256' : (b.length : Int) = 256 := by omega
      clear e1 e2 hn HLL HNN
      go_wp2
      go_ret2
      exact ⟨_, [], by rw [H1.out]; rfl, by rw [H2.out]; exact RecsOwn.nil _ _ _ _, Only.refl _ _⟩
    · have h7' : (c : Int) ≤ 7 := by omega
      have h256' : (b.length : Int) = 256 := by omega
      have hB1 := Lib.hid (BytesAt.rest (i := 0) HA.out 1 cp (by omega) (by omega))
      rw [Nat.zero_add] at hB1
      go_wp2_with (refine wpList_cut 5 Try.underlying25 sizeU8 (some bd) b.length cp rfl 1 b.length cp (bounds_l _ _ _ _ _ _ rfl (by omega)) ?_)
      have hrc : b.length - 1 ≤ cp - 1 := by omega
      have hrl : (b.length - 1) + 1 = 256 := by omega
      have hrc2 : cp - 1 ≤ 9223372036854775807 := by omega
      have HB1 := Lib.hid hB1
      clear hB1
      generalize cutAt (some bd) 1 cp = R0 at *
      generalize cp - 1 = rc0 at *
      go_loopw [4, 5, 6, 7, 24] (fun l r _ _ i wr => ∃ (n p rl rc c4 : Nat) (R A4 : Option Addr) (acc : List Rec) (us : List Value), n ≤ c ∧ i = .int .u8 n ∧ r = .slice R rl rc ∧ l = .slice A4 n c4 ∧ rl + p = 256 ∧ rl ≤ rc ∧ rc ≤ 9223372036854775807 ∧ acc.length = n ∧ Hid (BytesAt w R (b.drop p)) ∧ Hid (RecsOwn w.heap.size 37 5 wr l acc us) ∧ Hid (Fit acc) ∧ Hid (readFrom b c 1 = (readFrom b (c - n) p).map (acc ++ ·)) ∧ Hid (Only [] w wr)) (fun _ _ _ _ i _ => c - (intOf i).toNat)
      case atStart => exact ⟨0, 1, 255, rc0, 0, R0, none, [], [], by omega, rfl, rfl, rfl, by omega, by omega, hrc2, rfl, HB1, RecsOwn.nil _ _ _ _, (fun x hx => by cases hx), Lib.hid (by simp), Only.refl _ _⟩
      case round =>
        clear hrc hrl hrc2 HB1
        obtain ⟨n, p, rl, rc, c4, R, A4, acc, us, hn, rfl, rfl, rfl, hrl, hrc, hrc2, hacc, hR, hown, hfit, hsp, hO⟩ := hrel
        have HACC := Lib.hid hacc
        clear hacc
        by_cases hlt : n < c
        · have hlt' : (n : Int) < c := by omega
          by_cases h2 : rl < 2
          · have h2' : (rl : Int) < 2 := by omega
            have hn : readL b = none := HNN.out (by rw [HSP0.out c HC0.out, hsp.out, show c - n = (c - n - 1) + 1 by omega, readFrom_short (.inl (by omega))]; rfl)
            have e1 := readE_none hn
            have e2 := readR_none hn
            have H1 := Lib.hid e1
            have H2 := Lib.hid e2
            clear e1 e2 hn
            go_wp2
            go_ret2
            exact ⟨_, [], by rw [H1.out]; rfl, by rw [H2.out]; exact RecsOwn.nil _ _ _ _, hO.out⟩
  
          · have h2' : (2 : Int) ≤ rl := by omega
            obtain ⟨rd, rfl, hrd⟩ := hR.out.get (by omega)
            have e0 : wr.cell? rd = some (.int .u8 ((b.getD p 0).toNat : Int)) := by have := hO.out.cell (hrd 0 (by omega)) (by simp); simpa [Addr.add] using this
            have e1 : wr.cell? ⟨rd.block, rd.off + 1, none⟩ = some (.int .u8 ((b.getD (p + 1) 0).toNat : Int)) := hO.out.cell (hrd 1 (by omega)) (by simp)
            have hkk := u8_lt b p
            have hmm := u8_lt b (p + 1)
            have HST := Lib.hid (readFrom_step (b := b) (n := c - n - 1) (i := p) acc (by omega))
            have HSH := Lib.hid (fun h => readFrom_short (b := b) (n := c - n - 1) (i := p) (.inr h))
            clear hrd
            have hA0 : 0 < rl := by omega
            have hA1 : (1 : Int) < rl := by omega
            generalize (b.getD p 0).toNat = kk at *
            generalize (b.getD (p + 1) 0).toNat = mm at *
            go_wp2
            refine L.grow_start [] 10 ((0, true, false) :: (1, true, false) :: (2, true, false) :: (3, true, false) :: (4, true, false) :: (5, true, false) :: (6, true, false) :: (7, true, false) :: (8, true, true) :: (9, true, true) :: []) (by kernel_rfl) (([], [5], some 29) :: ([0], [29], some 30) :: ([1], [30], some 31) :: ([2], [31], some 32) :: ([], [5], some 33) :: ([4], [33], some 34) :: ([5], [34], some 35) :: ([6], [35], some 36) :: ([3, 0, 1, 2, 3], [32], some 6) :: ([7, 8, 0, 1, 2, 3, 4, 5, 6, 7, 8], [36], some 7) :: []) (by kernel_rfl) (by kernel_rfl) (n := 10) rfl (by kernel_rfl) (fun _ _ _ _ _ h => h) (fun wg hog => ?_)
            refine L.growe_start (N := 89) (by rfl) ?_
            have e0' : ∀ w', Only [] wg w' → w'.cell? rd = some (.int .u8 (kk : Int)) := fun w' h => h.cell (hog.cell e0 (by simp)) (by simp)
            have e1' : ∀ w', Only [] wg w' → w'.cell? ⟨rd.block, rd.off + 1, none⟩ = some (.int .u8 (mm : Int)) := fun w' h => h.cell (hog.cell e1 (by simp)) (by simp)
            have HOG := Lib.hid (hO.out.trans hog)
            have HOWN := Lib.hid (hown.out.only hog)
            have hwk : IntKind.i64.wrap (kk : Int) = kk := IntWalk.i64_in _ (by omega)
            have hwm : IntKind.i64.wrap (mm : Int) = mm := IntWalk.i64_in _ (by omega)
            clear hog e0 e1 hO hown
            iterate 10 (first | (refine L.ge_off rfl rfl rfl (by rfl) ?_) | (refine L.ge_move rfl rfl rfl (by rfl) rfl (by simp [L.evE, L.lk, Act.eval]; rfl) ?_) | (refine L.ge_pick rfl rfl rfl (by rfl) rfl (by simp [L.evE, L.lk, Act.eval]; rfl) (by simp [L.evE, L.lk, Act.eval]; rfl) ?_) | (refine L.ge_val rfl rfl rfl (by rfl) (by intro w' hw'; simp [execOp, L.evE, L.lk, Act.eval]; go_simp; rfl) ?_))
            refine L.ge_done ?_
            simp only [L.puts, Act.put, goInt, List.setIfInBounds_toArray, List.set_cons_zero, List.set_cons_succ]
            clear e0' e1' hwk hwm hA0 hA1
            by_cases h3 : rl < 2 + kk + mm
            · have h3' : (rl : Int) < 2 + kk + mm := by omega
              clear h3
              have hn : readL b = none := HNN.out (by rw [HSP0.out c HC0.out, hsp.out, show c - n = (c - n - 1) + 1 by omega, HSH.out (by omega)]; rfl)
              have e1 := readE_none hn
              have e2 := readR_none hn
              have H1 := Lib.hid e1
              have H2 := Lib.hid e2
              clear e1 e2 hn
              go_wp2
              go_ret2
              exact ⟨_, [], by rw [H1.out]; rfl, by rw [H2.out]; exact RecsOwn.nil _ _ _ _, HOG.out⟩

            · have h3' : (2 : Int) + kk + mm ≤ rl := by omega
              have HST2 := Lib.hid (HST.out (by omega))
              have HX1 := Lib.hid (hR.out.cutB 2 kk rc (by omega) (by omega))
              have HX2 := Lib.hid (hR.out.cutB (2 + kk) mm (2 + kk + mm) (by omega) (by omega))
              have HX3 := Lib.hid (hR.out.rest (2 + kk + mm) rc (by omega) (by omega))
              have hl1 := cutB_length b (p + 2) kk (by omega)
              have hl2 := cutB_length b (p + 2 + kk) mm (by omega)
              have hkm : 2 + kk + mm ≤ rc := by omega
              have hkm1 : 2 + kk ≤ rc := by omega
              rw [show p + (2 + kk) = p + 2 + kk by omega] at HX2
              rw [show p + (2 + kk + mm) = p + 2 + kk + mm by omega] at HX3
              have HL1 := Lib.hid hl1
              have HL2 := Lib.hid hl2
              clear hl1 hl2 h3
              go_wp2
              refine L.grow_start (Value.slice A4 n c4).ownBlock.toList 24 ((0, true, false) :: (1, true, false) :: (2, true, false) :: (3, true, false) :: (4, true, false) :: (5, true, false) :: (7, true, false) :: (8, true, false) :: (9, true, false) :: (10, true, false) :: (11, true, false) :: (12, true, false) :: (13, true, false) :: (14, true, false) :: (15, true, false) :: (16, true, false) :: (17, true, false) :: (18, true, false) :: (6, false, true) :: (19, false, true) :: (20, true, true) :: (21, false, true) :: (22, false, true) :: (23, true, true) :: []) (by kernel_rfl) (([], [4], some 44) :: ([], [5], some 45) :: ([], [6], some 46) :: ([2], [46], some 47) :: ([1, 3], [45, 47], some 48) :: ([4], [48], some 49) :: ([], [], some 50) :: ([], [5], some 51) :: ([], [6], some 52) :: ([8], [52], some 53) :: ([], [6], some 54) :: ([10], [54], some 55) :: ([], [7], some 56) :: ([11, 12], [55, 56], some 57) :: ([], [6], some 58) :: ([14], [58], some 59) :: ([], [7], some 60) :: ([15, 16], [59, 60], some 61) :: ([7, 9, 13, 17], [51, 53, 57, 61], some 62) :: ([6, 18], [50, 62], some 63) :: ([5, 19], [49, 63], some 64) :: ([20], [64], some 65) :: ([0, 21, 19], [44, 65], some 66) :: ([22, 22, 0, 1, 2, 3, 4, 5, 6, 7, 8, 9, 10, 11, 12, 13, 14, 15, 16, 17, 18, 19, 20, 21, 22], [66], some 4) :: []) (by kernel_rfl) (by kernel_rfl) (n := 24) rfl (by kernel_rfl) (fun _ _ _ _ _ h => h) (fun wk hok => ?_)
              refine L.growe_start (N := 89) (by rfl) ?_
              have HO2 := Lib.hid (HOG.out.trans hok)
              have HOWK := Lib.hid (HOWN.out.only hok)
              have hbs : ∀ k ∈ (Value.slice A4 n c4).ownBlock.toList, w.heap.size ≤ k := fun k hk => (ownsRow_lt HOWK.out.row (by simpa using hk)).1
              have HBS := Lib.hid hbs
              have hon : ∀ w', Only (Value.slice A4 n c4).ownBlock.toList wk w' → Only [] w w' := fun w' h => HO2.out.then h (fun i hi => .inr (HBS.out i hi))
              have HON := Lib.hid hon
              clear hok hbs hon HOWN HOG
              have hw1 : IntKind.i64.wrap (2 + (kk : Int)) = 2 + kk := IntWalk.i64_in _ (by omega)
              have hw2 : IntKind.i64.wrap (2 + (kk : Int) + mm) = 2 + kk + mm := IntWalk.i64_in _ (by omega)
              iterate 4 (first | (refine L.ge_off rfl rfl rfl (by rfl) ?_) | (refine L.ge_move rfl rfl rfl (by rfl) rfl (by simp [L.evE, L.lk, Act.eval]; rfl) ?_) | (refine L.ge_pick rfl rfl rfl (by rfl) rfl (by simp [L.evE, L.lk, Act.eval]; rfl) (by simp [L.evE, L.lk, Act.eval]; rfl) ?_) | (refine L.ge_val rfl rfl rfl (by rfl) (by intro w' hw'; simp [execOp, L.evE, L.lk, Act.eval]; go_simp; rfl) ?_))
              refine ge_slice rfl rfl rfl (by rfl) _ _ _ _ _ rfl 5 Try.underlying25 sizeU8 (some rd) rl rc (by simp [L.evE, L.lk, Act.eval]) 2 (2 + kk) rc (fun w' => by simp [L.evE, L.lk, Act.eval]; exact bounds_lh w' rl rc _ _ _ _ 2 (2 + kk) rfl (by omega) (by omega) hkm1) ?_
              rw [show 2 + kk - 2 = kk by omega]
              refine ge_bytes_string rfl rfl rfl (by rfl) _ _ _ rfl 5 Try.underlying25 Try.underlying5 Try.underlying9 (cutAt (some rd) 2 rc) kk (rc - 2) (cutB b (p + 2) kk) HL1.out (by simp [L.evE, L.lk, Act.eval]) (fun w' h => HX1.out.only (HON.out w' h)) ?_
              iterate 11 (first | (refine L.ge_off rfl rfl rfl (by rfl) ?_) | (refine L.ge_move rfl rfl rfl (by rfl) rfl (by simp [L.evE, L.lk, Act.eval]; rfl) ?_) | (refine L.ge_pick rfl rfl rfl (by rfl) rfl (by simp [L.evE, L.lk, Act.eval]; rfl) (by simp [L.evE, L.lk, Act.eval]; rfl) ?_) | (refine L.ge_val rfl rfl rfl (by rfl) (by intro w' hw'; simp [execOp, L.evE, L.lk, Act.eval]; go_simp; rfl) ?_))
              refine ge_slice rfl rfl rfl (by rfl) _ _ _ _ _ rfl 5 Try.underlying25 sizeU8 (some rd) rl rc (by simp [L.evE, L.lk, Act.eval]) (2 + kk) (2 + kk + mm) (2 + kk + mm) (fun w' => by simp [L.evE, L.lk, Act.eval]; exact bounds_lhm w' rl rc _ _ _ _ _ _ (2 + kk) (2 + kk + mm) (2 + kk + mm) (by omega) (by omega) (by omega) (by omega) (by omega) hkm) ?_
              rw [show 2 + kk + mm - (2 + kk) = mm by omega]
              refine ge_none rfl rfl rfl (by rfl) _ rfl 5 Try.underlying25 (by kernel_rfl) ?_
              refine ge_append_cap0 rfl rfl rfl (by rfl) (.tmp 50) (.tmp 62) 25 rfl 5 1 1 (.int .u8 0) Try.underlying25 infoU8 rfl (by omega) wk.heap.size (by simp [L.evE, L.lk, Act.eval]) wk.heap.size (Nat.le_refl _) ⟨_, heap_alloc_new wk _, rfl⟩ (cutAt (some rd) (2 + kk) (2 + kk + mm)) mm mm (bcells (cutB b (p + 2 + kk) mm)) (by simp [L.evE, L.lk, Act.eval]) (by rw [bcells_length, HL2.out]; omega) (fun h => HX2.out.only (HO2.out.alloc _) (by rw [HL2.out]; exact h)) (bcells_one _) (by unfold maxLen; omega) (by omega) (by simp) ?_
              intro A7 c7 w7 hb7 ho7
              have HO7 := Lib.hid (((Only.refl [] wk).alloc (.cells #[] 5)).trans ho7)
              have HB7 := Lib.hid hb7
              clear hb7 ho7
              iterate 1 (first | (refine L.ge_off rfl rfl rfl (by rfl) ?_) | (refine L.ge_move rfl rfl rfl (by rfl) rfl (by simp [L.evE, L.lk, Act.eval]; rfl) ?_) | (refine L.ge_pick rfl rfl rfl (by rfl) rfl (by simp [L.evE, L.lk, Act.eval]; rfl) (by simp [L.evE, L.lk, Act.eval]; rfl) ?_) | (refine L.ge_val rfl rfl rfl (by rfl) (by intro w' hw'; simp [execOp, L.evE, L.lk, Act.eval]; go_simp; rfl) ?_))
              refine ge_one rfl rfl rfl (by rfl) _ (.tmp 64) rfl 37 Try.underlying22 (.agg #[.string ⟨#[]⟩, .slice none 0 0]) 2 40 infoPair (by omega) (by omega) #[.string ⟨(cutB b (p + 2) kk).toArray⟩, .slice A7 mm c7] (by have h := fill_one2 (.agg #[.string ⟨#[]⟩, .slice none 0 0]) (.string ⟨(cutB b (p + 2) kk).toArray⟩) (.slice A7 mm c7) rfl; simpa [L.evE, L.lk, Act.eval] using h) ?_
              have HPN := Lib.hid (heap_alloc_new w7 (.cells #[.string ⟨(cutB b (p + 2) kk).toArray⟩, .slice A7 mm c7] 37))
              have hrow := ((HOWK.out.only HO7.out).only ((Only.refl [] w7).alloc (.cells #[.string ⟨(cutB b (p + 2) kk).toArray⟩, .slice A7 mm c7] 37))).row
              rw [HACC.out] at hrow
              have hz : w.heap.size ≤ w7.heap.size := Nat.le_trans HO2.out.size HO7.out.size
              refine ge_append_row rfl rfl rfl (by rfl) (.tmp 44) (.tmp 65) 22 rfl w.heap.size 37 2 40 (.agg #[.string ⟨#[]⟩, .slice none 0 0]) Try.underlying22 infoPair rfl (by omega) (.slice A4 n c4) n (pairCells acc us) (by simp [L.evE, L.lk, Act.eval]) hrow (some ⟨w7.heap.size, 0, none⟩) 1 1 [.string ⟨(cutB b (p + 2) kk).toArray⟩, .slice A7 mm c7] (by simp [L.evE, L.lk, Act.eval]) rfl (fun _ => ⟨_, rfl, cellsAt_row HPN.out⟩) (by simp [Value.oneCell']) (by unfold maxLen; omega) (by omega) (by simp; omega) ?_
              intro A8 c8 w8 hb8 ho8 hk8
              refine ⟨ho8, ?_⟩
              have HN : Hid (RecsOwn w.heap.size 37 5 w8 (.slice A8 (n + 1) c8) (acc ++ [((⟨(cutB b (p + 2) kk).toArray⟩, cutB b (p + 2 + kk) mm) : Rec)]) (us ++ [.slice A7 mm c7])) := by
                refine RecsOwn.snoc HOWK.out (HO7.out.alloc (.cells #[.string ⟨(cutB b (p + 2) kk).toArray⟩, .slice A7 mm c7] 37)) ?_ (fun k hk => (ownsRow_lt HB7.out hk).1) ho8 (by rw [HACC.out]; exact hb8) (fun k hk => hk8 k hk)
                show World.ownsRow _ _ _ _ _ (cutB b (p + 2 + kk) mm).length _
                rw [HL2.out]
                exact ownsRow_mono (ownsRow_only HB7.out ((Only.refl [] _).alloc _) (by simp)) HO2.out.size
              have HO8 := Lib.hid (HON.out w8 (Only.trans (Only.mono (HO7.out.alloc (.cells #[.string ⟨(cutB b (p + 2) kk).toArray⟩, .slice A7 mm c7] 37)) (by simp)) ho8))
              clear hb8 ho8 hk8 hrow HPN
              iterate 1 (first | (refine L.ge_off rfl rfl rfl (by rfl) ?_) | (refine L.ge_move rfl rfl rfl (by rfl) rfl (by simp [L.evE, L.lk, Act.eval]; rfl) ?_) | (refine L.ge_pick rfl rfl rfl (by rfl) rfl (by simp [L.evE, L.lk, Act.eval]; rfl) (by simp [L.evE, L.lk, Act.eval]; rfl) ?_) | (refine L.ge_val rfl rfl rfl (by rfl) (by intro w' hw'; simp [execOp, L.evE, L.lk, Act.eval]; go_simp; rfl) ?_))
              refine L.ge_done ?_
              simp only [L.puts, Act.put, goInt, List.setIfInBounds_toArray, List.set_cons_zero, List.set_cons_succ]
              go_wp2_with (refine wpList_cut 5 Try.underlying25 sizeU8 (some rd) rl rc rfl (2 + kk + mm) rl rc (bounds_l _ _ _ _ _ _ (by simp [Act.eval]; try omega) (by omega)) ?_)
              have hwn : IntKind.u8.wrap ((n : Int) + 1) = (n : Int) + 1 := u8_id _ (by omega) (by omega)
              go_wp2
              go_roundw
              case rel =>
                refine ⟨n + 1, p + 2 + kk + mm, rl - (2 + kk + mm), rc - (2 + kk + mm), c8, cutAt (some rd) (2 + kk + mm) rc, A8, _, _, by omega, by go_num, rfl, rfl, by omega, by omega, by omega, by rw [List.length_append, HACC.out]; rfl, HX3, HN, ?_, ?_, HO8⟩
                · refine Fit.snoc hfit.out ?_ ?_
                  · show (cutB b (p + 2) kk).toArray.size ≤ _
                    rw [List.size_toArray, HL1.out]; omega
                  · show (cutB b (p + 2 + kk) mm).length ≤ _
                    rw [HL2.out]; omega
                · have h9 := hsp.out
                  rw [show c - n = (c - n - 1) + 1 by omega, HST2.out] at h9
                  rw [show c - (n + 1) = c - n - 1 by omega]
                  exact h9
              case measure => simp [intOf]; omega
        · have hnc : c = n := by omega
          have hspe : readFrom b (b.getD 0 0).toNat 1 = some acc := by
            rw [HSP0.out c HC0.out, hsp.out, hnc, Nat.sub_self]
            simp [readFrom]
          have HLAST := Lib.hid (HLL.out acc hspe)
          clear hspe hR hsp HNN HLL HSP0 HCQ HC0 hb0
          have hac := HACC.out
          subst hnc
          subst hac
          have HPR := Lib.hid hown.out.pairs
          go_wp2_with (go_at_call 11; refine (lay_any A4 c4 acc wr (by omega) hfit.out HPR.out).mono ?_; rintro e w5 ⟨v, rfl, hv1, hv2, ho5⟩; have HV1 := Lib.hid hv1; have HV2 := Lib.hid hv2; have HO5 := Lib.hid (hO.out.trans ho5); have HOW5 := Lib.hid (hown.out.only ho5); clear hv1 hv2 ho5 HPR hown; refine (fun (h : Hid _) => h.out) ?_)
          refine Lib.hid ?_
          by_cases h0 : layE acc = 0
          · obtain ⟨g, rfl, hg, hgw⟩ := HV2.out h0
            rw [h0]
            have HE0 := Lib.hid h0
            obtain ⟨s1, hs1⟩ : ∃ s, s = (⟨(layB acc).toArray⟩ : ByteArray) := ⟨_, rfl⟩
            obtain ⟨s2, hs2⟩ : ∃ s, s = (⟨b.toArray⟩ : ByteArray) := ⟨_, rfl⟩
            have hcp1 : (convert 25 9 (.slice (some ⟨g, 0, none⟩) 256 256)).run Try.prog w5 = .ok (.string s1) w5 := by
              rw [hs1]
              exact run_string_row w5 25 9 5 Try.underlying25 Try.underlying5 Try.underlying9 g 256 256 (layB acc) _ _ (layB_length h0) hg
            have hcp2 : (convert 25 9 (.slice (some bd) 256 cp)).run Try.prog w5 = .ok (.string s2) w5 := by
              rw [hs2]
              exact run_bytes_string w5 25 9 5 Try.underlying25 Try.underlying5 Try.underlying9 (some bd) 256 cp b h256 (HA.out.only HO5.out)
            have HS1 := Lib.hid hs1
            have HS2 := Lib.hid hs2
            have hq : (s1.toList == s2.toList) = decide (layB acc = b) := by rw [hs1, hs2, str_eq]
            clear hs1 hs2 hg HV1 HV2
            by_cases hb : layB acc = b
            · rw [decide_eq_true hb] at hq
              have hr : readL b = some acc := by rw [HLAST.out, if_pos ⟨h0, hb⟩]
              have e1 := readE_some hr
              have e2 := readR_some hr
              have H1 := Lib.hid e1
              have H2 := Lib.hid e2
              clear e1 e2 hr h0 hb
              go_wp2
              go_ret2
              exact ⟨_, us, by rw [H1.out]; rfl, by rw [H2.out]; exact HOW5.out, HO5.out⟩
            · rw [decide_eq_false hb] at hq
              have hr : readL b = none := by rw [HLAST.out, if_neg (fun h => hb h.2)]
              have e1 := readE_none hr
              have e2 := readR_none hr
              have H1 := Lib.hid e1
              have H2 := Lib.hid e2
              clear e1 e2 hr h0 hb
              go_wp2
              go_ret2
              exact ⟨_, [], by rw [H1.out]; rfl, by rw [H2.out]; exact RecsOwn.nil _ _ _ _, HO5.out⟩
          · have hv := HV1.out h0
            subst hv
            have hr : readL b = none := by rw [HLAST.out, if_neg (fun h => h0 h.1)]
            have e1 := readE_none hr
            have e2 := readR_none hr
            have H1 := Lib.hid e1
            have H2 := Lib.hid e2
            have hE : ((layE acc : Int) == 0) = false := by rw [beq_eq_false_iff_ne]; omega
            clear e1 e2 hr HV1 HV2 hE
            go_wp2
            go_ret2
            exact ⟨_, [], by rw [H1.out]; rfl, by rw [H2.out]; exact RecsOwn.nil _ _ _ _, HO5.out⟩
  · have e1 := readE_none (readL_long h256)
    have e2 := readR_none (readL_long h256)
    have H1 := Lib.hid e1
    have H2 := Lib.hid e2
    have h256' : ((b.length : Int) == 256) = false := by rw [beq_eq_false_iff_ne]; omega
    clear e1 e2
    go_wp2
    go_ret2
    exact ⟨_, [], by rw [H1.out]; rfl, by rw [H2.out]; exact RecsOwn.nil _ _ _ _, Only.refl _ _⟩
end Go.Proofs.Ythkgpnkbbdpldaa
