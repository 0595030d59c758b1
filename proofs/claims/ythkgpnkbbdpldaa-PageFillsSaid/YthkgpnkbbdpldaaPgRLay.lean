/-
  The document's Lay.
-/
import Derived.Test.YthkgpnkbbdpldaaPgLay
namespace Go.Proofs.Ythkgpnkbbdpldaa
open Go.RowKit
set_option linter.unusedSimpArgs false
set_option linter.unusedVariables false
theorem bcells_add (a b : List UInt8) : bcells (a ++ b) = bcells a ++ bcells b := by simp [bcells]
theorem byte_new (w : World) (n : Nat) : 0 < 1 → ∃ ad, some (⟨w.heap.size, 0, none⟩ : Addr) = some ad ∧ CellsAt (w.alloc (.cells #[.int .u8 ((n : Int) % 256)] 5)) ad (bcells [UInt8.ofNat n]) := by
  intro _
  refine ⟨_, rfl, ?_⟩
  have e : Value.int .u8 ((n : Int) % 256) = bcell (UInt8.ofNat n) := by rw [← bcell_wrap]; rfl
  rw [e]
  exact cellsAt_row (heap_alloc_new w _)
theorem byte_new' (w : World) (n : Nat) (h : n < 256) : 0 < 1 → ∃ ad, some (⟨w.heap.size, 0, none⟩ : Addr) = some ad ∧ CellsAt (w.alloc (.cells #[.int .u8 (n : Int)] 5)) ad (bcells [UInt8.ofNat n]) := by
  intro _
  refine ⟨_, rfl, ?_⟩
  rw [bcell_small n h]
  exact cellsAt_row (heap_alloc_new w _)
def sliceLen : Value → Nat
  | .slice _ n _ => n
  | _ => 0
/-- One byte in a row of its own. -/
theorem row_new (w : World) (b : Nat) (n : Nat) (h : n < 256) (hb : b ≤ w.heap.size) : (w.alloc (.cells #[.int .u8 (n : Int)] 5)).ownsRow b 5 1 (.slice (some ⟨w.heap.size, 0, none⟩) 1 1) 1 (bcells [UInt8.ofNat n]) := by
  refine ⟨by simp [bcells], .inr ⟨_, _, _, rfl, hb, heap_alloc_new w _, Nat.le_refl _, by decide, rfl, ?_⟩⟩
  rw [bcell_small n h]
  rfl
theorem Own1.then {w w1 w2 : World} {e : TypeId} {s n : Nat} {v : Value} {xs : List Value} (ho : Only [] w w1) (h : w1.ownsRow w.heap.size e s v n xs) (h2 : Only v.ownBlock.toList w1 w2) : Only [] w w2 :=
  ho.then h2 (fun i hi => .inr (ownsRow_lt h (by simpa using hi)).1)
set_option maxHeartbeats 8000000 in
set_option maxRecDepth 100000 in
theorem rlay_any (A : Option Addr) (cp : Nat) (xs : List Rec) (w : World) (hl : xs.length ≤ 1000000) (hF : Fit xs) (hA : PairsAt w A xs) :
    Calls Try.prog 12 #[.slice A xs.length cp] w fun e w' => e = .returned (.tuple #[.string ⟨(layB xs).toArray⟩, .int .i64 (layE xs)]) ∧ Only [] w w' := by
  have HA := Lib.hid hA
  have HF := Lib.hid hF
  clear hA hF
  go_enter Try.func12, Try.ntmps12
  go_wp2_with (go_at_call 21; refine (sum_any A cp xs w hl HF.out HA.out).mono ?_; rintro e w1 ⟨⟨S, rfl, hS⟩, ho1⟩; have HS := Lib.hid hS; have HO1 := Lib.hid ho1; clear ho1 hS)
  go_loopw [5] (fun i wr => ∃ k : Nat, (k + 1 ≤ xs.length ∨ k = 0) ∧ i = .int .i64 ((k : Int) + 1) ∧ Hid (rises (xs.take (k + 1)) = true) ∧ Hid (Only [] w wr)) (fun i _ => xs.length + 1 - (intOf i).toNat)
  case atStart => exact ⟨0, .inr rfl, rfl, Lib.hid (by match xs with | [] => rfl | z :: zs => simp [rises]), HO1⟩
  case round =>
    obtain ⟨j, hj, rfl, hr, hO⟩ := hrel
    by_cases hlt : j + 1 < xs.length
    · have hlt' : (j : Int) + 1 < xs.length := by omega
      obtain ⟨ad, B, cap, rfl, hxc, _, _⟩ := (HA.out.only hO.out).row (j + 1) hlt
      obtain ⟨ad', By, cy, had, hyc, _, _⟩ := (HA.out.only hO.out).row j (by omega)
      obtain rfl : ad = ad' := by simpa using had
      have HR3 := Lib.hid (rises_take xs j hlt)
      have hyc0 := cellsAt_head hyc rfl
      have hxc0 := cellsAt_head hxc rfl
      clear had hyc hxc
      generalize xs[j + 1] = x at *
      generalize xs[j] = y at *
      have hk9 : (0 : Int) ≤ (j : Int) + 1 := by omega
      have hj8 : (j : Int) < xs.length := by omega
      have hj7 : (0 : Int) ≤ j := by omega
      have hwj : IntKind.i64.wrap (j : Int) = j := IntWalk.i64_in _ (by omega)
      go_wp2
      refine L.grow_start [] 12 ((0, true, false) :: (1, true, false) :: (2, true, false) :: (3, true, false) :: (4, true, false) :: (5, true, false) :: (6, true, true) :: (7, true, true) :: (8, true, true) :: (9, true, true) :: (10, true, true) :: (11, true, true) :: []) (by kernel_rfl) (([], [0], some 16) :: ([], [5], some 17) :: ([0, 1], [16, 17], some 18) :: ([2], [18], some 19) :: ([3], [19], some 20) :: ([], [0], some 21) :: ([], [5], some 22) :: ([6], [22], some 23) :: ([5, 7], [21, 23], some 24) :: ([8], [24], some 25) :: ([9], [25], some 26) :: ([4, 10], [20, 26], some 27) :: []) (by kernel_rfl) (by kernel_rfl) (n := 12) rfl (by kernel_rfl) (fun _ _ _ _ _ h => h) (fun wg hog => ?_)
      refine L.growe_start (N := 84) (by rfl) ?_
      have e0 : ∀ w', Only [] wg w' → w'.cell? (ad.add ((j + 1) * 2)) = some (.string x.1) := fun w' h => h.cell (hog.cell hxc0 (by simp)) (by simp)
      have e1 : ∀ w', Only [] wg w' → w'.cell? (ad.add (j * 2)) = some (.string y.1) := fun w' h => h.cell (hog.cell hyc0 (by simp)) (by simp)
      have HOG := Lib.hid (hO.out.trans hog)
      clear hog hxc0 hyc0
      iterate 12 (first | (refine L.ge_off rfl rfl rfl (by rfl) ?_) | (refine L.ge_move rfl rfl rfl (by rfl) rfl (by simp [L.evE, L.lk, Act.eval]; rfl) ?_) | (refine L.ge_pick rfl rfl rfl (by rfl) rfl (by simp [L.evE, L.lk, Act.eval]; rfl) (by simp [L.evE, L.lk, Act.eval]; rfl) ?_) | (refine L.ge_val rfl rfl rfl (by rfl) (by intro w' hw'; simp [execOp, L.evE, L.lk, Act.eval]; go_simp; rfl) ?_))
      refine L.ge_done ?_
      simp only [L.puts, Act.put, goInt, List.setIfInBounds_toArray, List.set_cons_zero, List.set_cons_succ]
      clear e0 e1 hwj hj7 hk9
      obtain ⟨bb, hbb⟩ : ∃ bb, bb = (Op.bytesLess x.1.toList y.1.toList || x.1.toList == y.1.toList) := ⟨_, rfl⟩
      rw [← hbb]
      have HBB : Hid (bb = !before y.1 x.1) := by rw [before_not, hbb]; rfl
      clear hbb
      rcases Bool.eq_false_or_eq_true bb with rfl | rfl
      · go_wp2
        go_ret2
        have e : layE xs = 1 := by
          unfold layE
          rw [if_pos (.inr (rises_of_take (j + 2) (by rw [HR3.out, hr.out]; have := HBB.out; simp at this; rw [this]; rfl)))]
        refine ⟨?_, HOG.out⟩
        rw [e, show layB xs = [] by unfold layB; rw [if_neg (by omega)]]
        rfl
      · go_wp2
        go_roundw
        case rel => exact ⟨j + 1, .inl (by omega), by go_num, Lib.hid (by rw [HR3.out, hr.out]; have := HBB.out; simp at this; rw [this]; rfl), HOG⟩
        case measure => simp [intOf]; omega
    · have hR : rises xs = true := by
        have := hr.out
        rwa [List.take_of_length_le (by omega)] at this
      have HR := Lib.hid hR
      clear hr hR
      rcases HS.out with ⟨hb, rfl⟩ | ⟨hb, h0, h11, h7, h8⟩
      · have e : layE xs = 1 := by unfold layE; rw [if_pos (.inl hb)]
        have HE := Lib.hid e
        have hlt' : (xs.length : Int) ≤ (j : Int) + 1 := by omega
        clear e hb HS
        go_wp2
        go_ret2
        refine ⟨?_, hO.out⟩
        rw [HE.out, show layB xs = [] by unfold layB; rw [if_neg (by rw [HE.out]; omega)]]
        rfl
      · by_cases ht : 7 < tot xs
        · have e : layE xs = 3 := by unfold layE; rw [if_neg (by rw [hb, HR.out]; simp), if_pos ht]
          have HE := Lib.hid e
          have hs7 := h8 ht
          have hlt' : (xs.length : Int) ≤ (j : Int) + 1 := by omega
          clear e hb HS h8 h7
          go_wp2
          go_ret2
          refine ⟨?_, hO.out⟩
          rw [HE.out, show layB xs = [] by unfold layB; rw [if_neg (by rw [HE.out]; omega)]]
          rfl
        · have e : layE xs = 0 := by unfold layE; rw [if_neg (by rw [hb, HR.out]; simp), if_neg ht]
          have HE := Lib.hid e
          have hs7 : S ≤ 7 := by have := h7 (by omega); omega
          have hlen : xs.length ≤ 7 := by have := tot_ge xs hb; omega
          have hlt' : (xs.length : Int) ≤ (j : Int) + 1 := by omega
          clear e hb HS h8 h7
          go_wp2
          have hz : w.heap.size ≤ wr.heap.size := hO.out.size
          have HB0 := Lib.hid (row_new wr w.heap.size xs.length (by omega) hz)
          have HOB := Lib.hid (hO.out.alloc (.cells #[.int .u8 (xs.length : Int)] 5))
          go_loopw [6, 7] (fun b i wr => ∃ (k : Nat) (B : Option Addr) (c : Nat), k ≤ xs.length ∧ i = .int .i64 k ∧ b = .slice B (front xs.length (xs.take k)).length c ∧ Hid (wr.ownsRow w.heap.size 5 1 b (front xs.length (xs.take k)).length (bcells (front xs.length (xs.take k)))) ∧ Hid (Only [] w wr)) (fun _ i _ => xs.length - (intOf i).toNat)
          case atStart => exact ⟨0, _, _, by omega, rfl, rfl, HB0, HOB⟩
          case round =>
            clear hO
            obtain ⟨k, B0, c0, hk, rfl, rfl, hB, hO⟩ := hrel
            by_cases hlt : k < xs.length
            · have hlt' : (k : Int) < xs.length := by omega
              obtain ⟨ad, B, cap, rfl, hcs, hcap, hby⟩ := HA.out.row k hlt
              have hfit := HF.out.at k hlt
              have hro : (front xs.length (xs.take k)).length + (2 + xs[k].1.size + xs[k].2.length) ≤ 256 := front_room HE.out k hlt
              have HF1 := Lib.hid (front_take xs k hlt)
              have HBY := Lib.hid hby
              have HC0 := Lib.hid (fun w' (h : Only [] w w') => cellsAt_head (hcs.only h (by simp)) rfl)
              have HC1 := Lib.hid (fun w' (h : Only [] w w') => cellsAt_field (hcs.only h (by simp)) 1 (by omega) rfl)
              clear hcs hby
              generalize xs[k] = x at *
              generalize front xs.length (xs.take k) = F at *
              have HRO := Lib.hid hro
              have f0 := HC0.out wr hO.out
              have g0 := HC1.out wr hO.out
              clear hro hcap
              go_wp2_with (first
                | (at_builtin; refine wpList_append_row rfl (.tmp 42) (.tmp 50) 25 rfl w.heap.size 5 1 1 (.int .u8 0) Try.underlying25 infoU8 rfl (by omega) (.slice B0 F.length c0) (F.length) (bcells F) rfl ?_ _ 1 1 (bcells [UInt8.ofNat x.1.size]) (by rfl) (by simp [bcells]) ?_ (bcells_one _) ?_ ?_ ?_ ?_; exact ownsRow_only hB.out ((Only.refl [] _).alloc _) (by simp); exact byte_new wr _; have := HRO.out; unfold maxLen; omega; have := HRO.out; omega; have := hO.out.size; simp; omega; intro B1 c1 w1 hb1 ho1 _; have hB1 := Lib.hid hb1; have HO1 := Lib.hid (Only.then (hO.out.alloc (.cells #[.int .u8 ((x.1.size : Int) % 256)] 5)) ho1 (fun i hi => .inr (ownsRow_lt hB.out (by simpa using hi)).1)); have f1 := HC0.out _ HO1.out; have g1 := HC1.out _ HO1.out; clear hb1 ho1 f0 g0)
                | (at_builtin; refine wpList_append_row rfl (.tmp 52) (.tmp 60) 25 rfl w.heap.size 5 1 1 (.int .u8 0) Try.underlying25 infoU8 rfl (by omega) (.slice B1 (F.length + 1) c1) (F.length + 1) (bcells F ++ bcells [UInt8.ofNat x.1.size]) rfl ?_ _ 1 1 (bcells [UInt8.ofNat x.2.length]) (by rfl) (by simp [bcells]) ?_ (bcells_one _) ?_ ?_ ?_ ?_; exact ownsRow_only hB1.out ((Only.refl [] _).alloc _) (by simp); exact byte_new w1 _; have := HRO.out; unfold maxLen; omega; have := HRO.out; omega; have := HO1.out.size; simp; omega; intro B2 c2 w2 hb2 ho2 _; have hB2 := Lib.hid hb2; have HO2 := Lib.hid (Only.then (HO1.out.alloc (.cells #[.int .u8 ((x.2.length : Int) % 256)] 5)) ho2 (fun i hi => .inr (ownsRow_lt hB1.out (by simpa using hi)).1)); have f2 := HC0.out _ HO2.out; have g2 := HC1.out _ HO2.out; clear hb2 ho2 f1 g1)
                | (at_builtin; refine wpList_append_row_string rfl (.tmp 62) (.tmp 67) 25 9 rfl w.heap.size 5 Try.underlying25 Try.underlying9 infoU8 (.slice B2 (F.length + 1 + 1) c2) (F.length + 1 + 1) (bcells F ++ bcells [UInt8.ofNat x.1.size] ++ bcells [UInt8.ofNat x.2.length]) rfl hB2.out x.1 rfl ?_ ?_ ?_; have := HRO.out; omega; have := HO2.out.size; omega; intro B3 c3 w3 hb3 ho3; have hB3 := Lib.hid hb3; have HO3 := Lib.hid (Own1.then HO2.out hB2.out ho3); have f3 := HC0.out _ HO3.out; have g3 := HC1.out _ HO3.out; clear hb3 ho3 f2 g2)
                | (at_builtin; refine wpList_append_row rfl (.tmp 69) (.tmp 74) 25 rfl w.heap.size 5 1 1 (.int .u8 0) Try.underlying25 infoU8 rfl (by omega) (.slice B3 (F.length + 1 + 1 + x.1.size) c3) (F.length + 1 + 1 + x.1.size) (bcells F ++ bcells [UInt8.ofNat x.1.size] ++ bcells [UInt8.ofNat x.2.length] ++ bcells x.1.data.toList) rfl ?_ _ x.2.length cap (bcells x.2) (by rfl) (by simp [bcells]) ?_ (bcells_one _) ?_ ?_ ?_ ?_; exact hB3.out; exact HBY.out.only HO3.out; have := HRO.out; unfold maxLen; omega; have := HRO.out; omega; have := HO3.out.size; omega; intro B4 c4 w4 hb4 ho4 _; have hB4 := Lib.hid hb4; have HO4 := Lib.hid (Own1.then HO3.out hB3.out ho4); clear hb4 ho4 f3 g3))
              go_wp2
              go_roundw
              case rel =>
                have e1 : bcells (F ++ recBytes x) = bcells F ++ bcells [UInt8.ofNat x.1.size] ++ bcells [UInt8.ofNat x.2.length] ++ bcells x.1.data.toList ++ bcells x.2 := by simp [bcells, recBytes]
                have e2 : (F ++ recBytes x).length = F.length + 1 + 1 + x.1.size + x.2.length := by rw [List.length_append, recBytes_length]; omega
                refine ⟨k + 1, B4, c4, by omega, by go_num, ?_, ?_, HO4⟩
                · rw [HF1.out, e2]
                · rw [HF1.out, e1, e2]
                  exact hB4
              case measure => simp [intOf]; omega
            · obtain rfl : k = xs.length := by omega
              rw [List.take_length] at hB
              have hfl := front_le HE.out
              have hlb : layB xs = front xs.length xs ++ List.replicate (256 - (front xs.length xs).length) 0 := by unfold layB; rw [if_pos HE.out]; rfl
              have HLB := Lib.hid hlb
              clear hlb
              rw [List.take_length]
              generalize front xs.length xs = F at *
              go_wp2
              go_loopw [6] (fun b wr => ∃ (n : Nat) (B : Option Addr) (c : Nat), F.length ≤ n ∧ n ≤ 256 ∧ b = .slice B n c ∧ Hid (wr.ownsRow w.heap.size 5 1 b n (bcells (F ++ List.replicate (n - F.length) 0))) ∧ Hid (Only [] w wr)) (fun b _ => 256 - sliceLen b)
              case atStart => exact ⟨F.length, _, _, Nat.le_refl _, hfl, rfl, by rw [Nat.sub_self]; simpa using hB, hO⟩
              case round =>
                clear hO hB
                obtain ⟨n, B1, c1, hn1, hn2, rfl, hB, hO⟩ := hrel
                by_cases hlt : n < 256
                · have hlt' : (n : Int) < 256 := by omega
                  go_wp2_with (at_builtin; refine wpList_append_row rfl (.tmp 79) (.tmp 80) 25 rfl w.heap.size 5 1 1 (.int .u8 0) Try.underlying25 infoU8 rfl (by omega) (.slice B1 n c1) n (bcells (F ++ List.replicate (n - F.length) 0)) rfl ?_ _ 1 1 (bcells [UInt8.ofNat 0]) (by rfl) (by simp [bcells]) ?_ (bcells_one _) ?_ ?_ ?_ ?_; exact ownsRow_only hB.out ((Only.refl [] _).alloc _) (by simp); exact byte_new' wr 0 (by omega); unfold maxLen; omega; omega; have := hO.out.size; simp; omega; intro B2 c2 w2 hb2 ho2 _; have hB2 := Lib.hid hb2; have HO2 := Lib.hid (Only.then (hO.out.alloc (.cells #[.int .u8 0] 5)) ho2 (fun i hi => .inr (ownsRow_lt hB.out (by simpa using hi)).1)); clear hb2 ho2)
                  go_roundw
                  case rel =>
                    refine ⟨n + 1, B2, c2, by omega, by omega, rfl, ?_, HO2⟩
                    rw [show n + 1 - F.length = (n - F.length) + 1 by omega, List.replicate_succ', ← List.append_assoc, bcells_add]
                    exact hB2
                  case measure => simp [sliceLen]; omega
                · obtain rfl : n = 256 := by omega
                  obtain ⟨A9, c9, hv9, _, hby9⟩ := ownsRow_slice hB.out
                  obtain ⟨rfl, rfl⟩ : B1 = A9 ∧ c1 = c9 := by simpa using hv9
                  have HBY := Lib.hid (show BytesAt wr B1 (F ++ List.replicate (256 - F.length) 0) from fun _ => hby9 (by omega))
                  clear hby9 hv9 hlt
                  go_wp2_with (with_reducible refine wpList_bytes_string rfl (.tmp 82) 25 9 rfl 5 Try.underlying25 Try.underlying5 Try.underlying9 B1 256 c1 (F ++ List.replicate (256 - F.length) 0) (by simp; omega) rfl HBY.out ?_)
                  go_ret2
                  refine ⟨?_, hO.out⟩
                  rw [HE.out, HLB.out]
                  rfl
end Go.Proofs.Ythkgpnkbbdpldaa
