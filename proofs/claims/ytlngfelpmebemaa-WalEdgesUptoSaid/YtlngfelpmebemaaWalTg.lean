/-
  The log's targets: which sectors a group has.
-/
import Derived.Test.YtlngfelpmebemaaWalAp
namespace Go.Proofs.Ytlngfelpmebemaa
open Go Go.RowKit
set_option linter.unusedSimpArgs false
set_option linter.unusedVariables false
theorem infoInt : (Try.prog.info? 3).map (fun i => (i.zero, i.size, i.bytes)) = some (some (.int .i64 0), 1, 8) := by kernel_rfl
theorem or_bytes (h l : Nat) (hh : h < 256) (hl : l < 256) : bits BinOp.or IntKind.i64 (IntKind.i64.wrap ((h : Int) * 256)) (l : Int) = ((h * 256 + l : Nat) : Int) := by
  rw [IntWalk.i64_in _ (by omega)]
  unfold bits
  simp only []
  have e1 : BitVec.ofInt IntKind.i64.bits ((h : Int) * 256) = BitVec.ofNat 64 (h * 256) := by
    rw [show (h : Int) * 256 = ((h * 256 : Nat) : Int) by omega, BitVec.ofInt_natCast]
    rfl
  have e2 : BitVec.ofInt IntKind.i64.bits (l : Int) = BitVec.ofNat 64 l := by
    rw [BitVec.ofInt_natCast]
    rfl
  have e3 : (BitVec.ofNat 64 (h * 256) ||| BitVec.ofNat 64 l).toNat = h * 256 + l := by
    rw [BitVec.toNat_or, BitVec.toNat_ofNat, BitVec.toNat_ofNat, Nat.mod_eq_of_lt (by omega), Nat.mod_eq_of_lt (by omega)]
    have := Nat.two_pow_add_eq_or_of_lt (i := 8) (b := l) (by omega) h
    rw [show 2 ^ 8 = 256 from rfl] at this
    rw [Nat.mul_comm h 256, ← this]
  rw [e1, e2]
  show IntKind.i64.wrap (((BitVec.ofNat 64 (h * 256) ||| BitVec.ofNat 64 l).toNat : Nat) : Int) = _
  rw [e3]
  exact IntWalk.i64_in _ (by omega)
def tgt (b : List UInt8) (k : Nat) : Nat := (b.getD (2 * k) 0).toNat * 256 + (b.getD (2 * k + 1) 0).toNat
/-- The j-th target that is written on a disk. -/
def target (D : Dk) (j : Nat) : Nat := tgt (D.L.getD (1 + j / 64) []) (j % 64)
def icells (xs : List Nat) : List Value := xs.map fun (x : Nat) => Value.int .i64 (x : Int)
theorem target_at (D : Dk) (i k : Nat) (hk : k < 64) : target D (64 * i + k) = tgt (D.L.getD (1 + i) []) k := by
  unfold target
  rw [show (64 * i + k) / 64 = i by omega, show (64 * i + k) % 64 = k by omega]
def targetsE (D : Dk) (p n : Nat) : Nat := if n = 0 then 0 else if D.off = true then 6 else if ∃ j, j < n ∧ p ≤ target D j then 30 else 0
set_option maxHeartbeats 8000000 in
set_option maxRecDepth 100000 in
theorem targets_any (q g s cp nm p : Nat) (r : List Value) (dead : Bool) (D : Dk) (n : Nat) (w : World) (hn : n ≤ p) (hp : p ≤ 1000000) (hnm : listsN n ≤ nm) (hD : D.Ok) (hoff : D.off = false)
    (hroom : 1 + nm + 2 * p ≤ D.L.length) (hd : IsDk w g s cp r D) (hlg : IsLg w q g nm p dead) :
    Calls Try.prog 38 #[.pointer (some ⟨q, 0, none⟩), .int .i64 n] w fun e w' => ∃ (A : Option Addr) (m c E : Nat), e = .returned (.tuple #[.slice A m c, .int .i64 (E : Int)]) ∧ Hid (E = targetsE D p n) ∧
      Hid (E = 0 → m = n ∧ w'.ownsRow w.heap.size 3 1 (.slice A m c) n (icells ((List.range n).map (target D)))) ∧ Only [] w w' := by
  have HLG := Lib.hid hlg
  have HDK := Lib.hid hd
  have HDO := Lib.hid hD
  have HOFF := Lib.hid hoff
  clear hlg hd hD hoff
  go_enter Try.func38, Try.ntmps38
  go_wp2_with (go_at_call 30; refine (lists_any n (by omega) w).mono ?_; rintro e w1 ⟨rfl, rfl⟩)
  have hll : listsN n ≤ 1000000 := by unfold listsN; omega
  go_loopw [6, 7, 8, 9, 10, 11, 14] (fun l _ _ _ _ _ i wr => ∃ (k m c : Nat) (A : Option Addr), k ≤ listsN n ∧ i = .int .i64 k ∧ m = min (64 * k) n ∧ l = .slice A m c ∧ Hid (∀ j, j < m → target D j < p) ∧ Hid (wr.ownsRow w1.heap.size 3 1 l m (icells ((List.range m).map (target D)))) ∧ Hid (Only [] w1 wr)) (fun _ _ _ _ _ _ i _ => listsN n - (intOf i).toNat)
  case atStart => exact ⟨0, 0, 0, none, by omega, rfl, by simp, rfl, (fun j h => by omega), ownsRow_nil _ _ _ _, Only.refl _ _⟩
  case round =>
    obtain ⟨i, m, c, A, hi, rfl, hm, rfl, hlt, hB, hO⟩ := hrel
    by_cases hlt2 : i < listsN n
    · have hlt2' : (i : Int) < listsN n := by omega
      have hw1 : IntKind.i64.wrap (1 + (i : Int)) = 1 + i := IntWalk.i64_in _ (by omega)
      have hL9 : 1 + i < D.L.length := by omega
      have hbq : D.L[1 + i]? = some (D.L.getD (1 + i) []) := by rw [List.getD_eq_getElem?_getD, List.getElem?_eq_getElem hL9]; rfl
      have hb256 := HDO.out.secs _ (List.mem_of_getElem? hbq)
      have HTA := Lib.hid (target_at D i)
      have HBQ := Lib.hid hbq
      clear hbq
      generalize D.L.getD (1 + i) [] = b at *
      have c0 := (HLG.out.only hO.out (by simp)).c0
      have HM := Lib.hid hm
      clear hm
      go_wp2_with (go_at_call 35; refine (read_is g s cp r D _ (1 + i) b wr (HDK.out.only hO.out (by simp) (by simp)) HDO.out HOFF.out rfl HBQ.out).mono ?_; rintro e wj ⟨pb, rfl, hpb, hpz, hoj⟩; have HPB := Lib.hid hpb; have HO2 := Lib.hid (hO.out.trans hoj); have HB2 := Lib.hid (ownsRow_only hB.out hoj (by simp)); clear hpb hoj)
      have hmi : m = 64 * i ∧ 64 * i < n := by
        have := HM.out
        unfold listsN at hlt2
        omega
      obtain ⟨rfl, hin⟩ := hmi
      clear HM
      go_loopw [6, 10, 11] (fun l kk _ wr => ∃ (k c : Nat) (A : Option Addr), k ≤ 64 ∧ kk = .int .i64 k ∧ 64 * i + k ≤ n ∧ l = .slice A (64 * i + k) c ∧ Hid (∀ j, j < 64 * i + k → target D j < p) ∧ Hid (wr.ownsRow w1.heap.size 3 1 l (64 * i + k) (icells ((List.range (64 * i + k)).map (target D)))) ∧ Hid (wr.heap[pb]? = some (.cells (bcells b).toArray 75 (0, 0))) ∧ Hid (∀ k', l.ownBlock = some k' → k' ≠ pb) ∧ Hid (Only [] w1 wr)) (fun _ kk _ _ => 64 - (intOf kk).toNat)
      case atStart => exact ⟨0, c, A, by omega, rfl, by omega, rfl, hlt, HB2, HPB, Lib.hid (fun k' hk' => by have := (ownsRow_lt hB.out hk').2; omega), HO2⟩
      case round =>
        clear hlt HB2 HPB
        obtain ⟨k, c, A, hk, rfl, hkn, rfl, hlt, hB, hPB, hne, hO3⟩ := hrel
        by_cases hk64 : k < 64
        · have hk64' : (k : Int) < 64 := by omega
          by_cases hkn2 : 64 * i + k < n
          · have hkn2' : (64 : Int) * i + k < n := by omega
            have hcell : ∀ j, j < 256 → ∀ w', Only [] wr w' → w'.cell? ⟨pb, j, none⟩ = some (.int .u8 ((b.getD j 0).toNat : Int)) := fun j hj w' h => by
              refine (cell_of_row w' pb j _ _ _ (h.heap hPB.out (by simp))).trans ?_
              rw [List.getElem?_toArray, bcells_get, List.getD_eq_getElem?_getD, List.getElem?_eq_getElem (by omega)]
              rfl
            have HC0 := Lib.hid (hcell (2 * k) (by omega))
            have HC1 := Lib.hid (hcell (2 * k + 1) (by omega))
            have htk := HTA.out k hk64
            unfold tgt at htk
            have hh := UInt8.toNat_lt (b.getD (2 * k) 0)
            have hl := UInt8.toNat_lt (b.getD (2 * k + 1) 0)
            clear hcell
            generalize (b.getD (2 * k) 0).toNat = hi9 at *
            generalize (b.getD (2 * k + 1) 0).toNat = lo9 at *
            have HTK := Lib.hid htk
            clear htk
            have hm1 : IntKind.i64.wrap (2 * (k : Int)) = 2 * k := IntWalk.i64_in _ (by omega)
            have hm2 : IntKind.i64.wrap (2 * (k : Int) + 1) = 2 * k + 1 := IntWalk.i64_in _ (by omega)
            have hm3 : IntKind.i64.wrap (hi9 : Int) = hi9 := IntWalk.i64_in _ (by omega)
            have hm4 : IntKind.i64.wrap (lo9 : Int) = lo9 := IntWalk.i64_in _ (by omega)
            have hk2 : 2 * (k : Int) < 256 := by omega
            have hk3 : 2 * (k : Int) + 1 < 256 := by omega
            have hk0 : (0 : Int) ≤ 2 * (k : Int) := by omega
            have hk1 : (0 : Int) ≤ 2 * (k : Int) + 1 := by omega
            go_wp2
            refine L.grow_start [] 16 ((0, true, false) :: (1, true, false) :: (2, true, false) :: (3, true, false) :: (4, true, false) :: (5, true, false) :: (6, true, false) :: (7, true, false) :: (8, true, true) :: (9, true, true) :: (10, true, true) :: (11, true, true) :: (12, true, true) :: (13, true, true) :: (14, true, true) :: (15, true, true) :: []) (by kernel_rfl) (([], [8], some 40) :: ([], [10], some 41) :: ([1], [41], some 42) :: ([0, 2], [40, 42], some 43) :: ([3], [43], some 44) :: ([4], [44], some 45) :: ([5], [45], some 46) :: ([], [8], some 47) :: ([], [10], some 48) :: ([8], [48], some 49) :: ([9], [49], some 50) :: ([7, 10], [47, 50], some 51) :: ([11], [51], some 52) :: ([12], [52], some 53) :: ([6, 13], [46, 53], some 54) :: ([14, 0, 1, 2, 3, 4, 5, 6, 7, 8, 9, 10, 11, 12, 13, 14], [54], some 11) :: []) (by kernel_rfl) (by kernel_rfl) (n := 16) rfl (by kernel_rfl) (fun _ _ _ _ _ h => h) (fun wg hog => ?_)
            refine L.growe_start (N := 67) (by rfl) ?_
            have e0 : ∀ w', Only [] wg w' → w'.cell? ⟨pb, (2 * (k : Int)).toNat, none⟩ = some (.int .u8 (hi9 : Int)) := fun w' h => by rw [show (2 * (k : Int)).toNat = 2 * k by omega]; exact HC0.out w' (hog.trans h)
            have e1 : ∀ w', Only [] wg w' → w'.cell? ⟨pb, (2 * (k : Int) + 1).toNat, none⟩ = some (.int .u8 (lo9 : Int)) := fun w' h => by rw [show (2 * (k : Int) + 1).toNat = 2 * k + 1 by omega]; exact HC1.out w' (hog.trans h)
            have hor := or_bytes hi9 lo9 (by omega) (by omega)
            have HOG := Lib.hid (hO3.out.trans hog)
            have HBG := Lib.hid (ownsRow_only hB.out hog (by simp))
            have HPG := Lib.hid (hog.heap hPB.out (by simp))
            clear hog
            iterate 16 (first | (refine L.ge_off rfl rfl rfl (by rfl) ?_) | (refine L.ge_move rfl rfl rfl (by rfl) rfl (by simp [L.evE, L.lk, Act.eval]; rfl) ?_) | (refine L.ge_pick rfl rfl rfl (by rfl) rfl (by simp [L.evE, L.lk, Act.eval]; rfl) (by simp [L.evE, L.lk, Act.eval]; rfl) ?_) | (refine L.ge_val rfl rfl rfl (by rfl) (by intro w' hw'; simp [execOp, L.evE, L.lk, Act.eval]; go_simp; rfl) ?_))
            refine L.ge_done ?_
            simp only [L.puts, Act.put, goInt, List.setIfInBounds_toArray, List.set_cons_zero, List.set_cons_succ]
            rw [show (hi9 : Int) * 256 + lo9 = ((target D (64 * i + k) : Nat) : Int) by rw [HTK.out]; omega]
            clear e0 e1 hor hm1 hm2 hm3 hm4 hk0 hk1 hk2 hk3
            have hth : target D (64 * i + k) ≤ 65535 := by rw [HTK.out]; omega
            have c2 := (HLG.out.only HOG.out (by simp)).c2
            generalize hy : target D (64 * i + k) = y at *
            have HY := Lib.hid hy
            clear hy
            by_cases hyp : y < p
            · have hyp' : (y : Int) < p := by omega
              have hz1 : w1.heap.size ≤ wg.heap.size := HOG.out.size
              go_wp2_with (first
                | (at_builtin; refine wpList_append_row rfl (.tmp 61) (.tmp 63) 26 rfl w1.heap.size 3 1 8 (.int .i64 0) Try.underlying26 infoInt rfl (by omega) (.slice A (64 * i + k) c) (64 * i + k) (icells ((List.range (64 * i + k)).map (target D))) rfl ?_ _ 1 1 [.int .i64 (y : Int)] (by rfl) rfl (fun _ => ⟨_, rfl, cellsAt_row (heap_alloc_new wg _)⟩) (by simp [Value.oneCell']) (by unfold maxLen; omega) (by omega) (by simp; omega) ?_; exact ownsRow_only HBG.out ((Only.refl [] _).alloc _) (by simp); intro A8 c8 w8 hb8 ho8 hk8; have HB8 := Lib.hid hb8; have HO8 := Lib.hid (Only.then (HOG.out.alloc (.cells #[.int .i64 (y : Int)] 3)) ho8 (fun j hj => .inr (ownsRow_lt HBG.out (by simpa using hj)).1)); have HP8 := Lib.hid (ho8.heap ((Below.heap_alloc wg (.cells #[.int .i64 (y : Int)] 3) pb (heap_lt HPG.out)).trans HPG.out) (fun hm => hne.out pb (by simpa using hm) rfl)); have HN8 := Lib.hid (fun k' hk' => (hk8 k' hk').elim (hne.out k') (fun h => by have := heap_lt HPG.out; simp at h; omega)); clear hb8 ho8 hk8))
              go_roundw
              case rel =>
                refine ⟨k + 1, c8, A8, by omega, by go_num, by omega, rfl, ?_, ?_, HP8, HN8, HO8⟩
                · refine Lib.hid fun j hj => ?_
                  by_cases hjk : j = 64 * i + k
                  · subst hjk; rw [HY.out]; exact hyp
                  · exact hlt.out j (by omega)
                · have h8 := HB8.out
                  rw [show 64 * i + (k + 1) = 64 * i + k + 1 by omega, List.range_succ, List.map_append]
                  show Hid (World.ownsRow _ _ _ _ _ _ (icells (_ ++ [target D (64 * i + k)])))
                  rw [HY.out]
                  unfold icells at h8 ⊢
                  rw [List.map_append]
                  exact h8
              case measure => simp [intOf]; omega
            · have hyp' : (p : Int) ≤ y := by omega
              go_wp2
              go_ret2
              refine ⟨none, 0, 0, 30, rfl, Lib.hid ?_, Lib.hid (fun h => by omega), HOG.out⟩
              unfold targetsE
              rw [if_neg (by omega), if_neg (by rw [HOFF.out]; simp), if_pos ⟨64 * i + k, by omega, by rw [HY.out]; omega⟩]
          · have hkn2' : (n : Int) ≤ (64 : Int) * i + k := by omega
            go_wp2
            go_roundw
            case rel => exact ⟨i + 1, 64 * i + k, c, A, by omega, by go_num, by omega, rfl, hlt, hB, hO3⟩
            case measure => simp [intOf]; omega
        · have hk64' : (64 : Int) ≤ k := by omega
          go_wp2
          go_roundw
          case rel => exact ⟨i + 1, 64 * i + k, c, A, by omega, by go_num, by omega, rfl, hlt, hB, hO3⟩
          case measure => simp [intOf]; omega
    · have hlt2' : (listsN n : Int) ≤ i := by omega
      obtain rfl : m = n := by unfold listsN at hi hlt2; omega
      clear hm
      go_wp2
      go_ret2
      refine ⟨_, _, _, 0, rfl, Lib.hid ?_, Lib.hid (fun _ => ⟨rfl, hB.out⟩), hO.out⟩
      unfold targetsE
      by_cases h0 : m = 0
      · rw [if_pos h0]
      · rw [if_neg h0, if_neg (by rw [HOFF.out]; simp), if_neg]
        rintro ⟨j, h1, h2⟩
        have := hlt.out j h1
        omega
end Go.Proofs.Ytlngfelpmebemaa
