/-
  How much room a disk has: the log's, the document's.
-/
import Derived.Test.YtlngfelpmebemaaDisk
import Derived.Test.YtlngfelpmebemaaCut
import Derived.Test.YtlngfelpmebemaaWalPure
namespace Go.Proofs.Ytlngfelpmebemaa
open Go.RowKit
set_option linter.unusedSimpArgs false
set_option linter.unusedVariables false
set_option maxHeartbeats 4000000 in
set_option maxRecDepth 100000 in
theorem lists_any (n : Nat) (h : n ≤ 1000000000) (w : World) : Calls Try.prog 30 #[.int .i64 n] w fun e w' => e = .returned (.int .i64 (listsN n)) ∧ w' = w := by
  go_enter Try.func30, Try.ntmps30
  have h1 : IntKind.i64.wrap ((n : Int) + 64) = n + 64 := IntWalk.i64_in _ (by omega)
  have h2 : IntKind.i64.wrap ((n : Int) + 64 - 1) = n + 63 := by rw [IntWalk.i64_in _ (by omega)]; omega
  have e : ((n : Int) + 63) / 64 = ((listsN n : Nat) : Int) := by unfold listsN; omega
  go_wp2
  go_ret
  exact ⟨by rw [← e]; rfl, rfl⟩
theorem lists_is (n l : Nat) (h : n ≤ 1000000000) (hl : listsN n = l) (w : World) : Calls Try.prog 30 #[.int .i64 n] w fun e w' => e = .returned (.int .i64 l) ∧ w' = w := by
  subst hl
  exact lists_any n h w
set_option maxHeartbeats 4000000 in
set_option maxRecDepth 100000 in
theorem room_any (s : Int) (h : s ≤ 1000000) (h0 : -9223372036854775808 ≤ s) (w : World) : Calls Try.prog 9 #[.int .i64 s] w fun e w' => e = .returned (.int .i64 (roomN s.toNat)) ∧ w' = w := by
  obtain ⟨V, hV⟩ : ∃ V, V = roomN s.toNat := ⟨_, rfl⟩
  rw [← hV]
  have HV := Lib.hid hV
  clear hV
  go_enter Try.func9, Try.ntmps9
  by_cases h4 : s < 4
  · go_wp2
    go_ret
    exact ⟨by rw [HV.out, room_zero (by omega)]; rfl, rfl⟩
  · obtain ⟨S, rfl⟩ : ∃ S : Nat, s = S := ⟨s.toNat, by omega⟩
    have h4' : (4 : Int) ≤ S := by omega
    rw [Int.toNat_natCast] at HV
    have h1 : IntKind.i64.wrap ((S : Int) - 1) = (S : Int) - 1 := IntWalk.i64_in _ (by omega)
    have hV2 : V = down S ((S - 1) / 2) := by rw [HV.out]; unfold roomN; rw [if_neg (by omega)]
    have HV2 := Lib.hid hV2
    clear hV2
    have E0 := Lib.hid (show (((S : Int) - 1) / 2) = (((S - 1) / 2 : Nat) : Int) by omega)
    go_wp2
    rw [E0.out]
    clear E0
    have hm5 : (S - 1) / 2 ≤ 500000 := by omega
    generalize (S - 1) / 2 = m at *
    go_loopw [3] (fun p wr => ∃ k : Nat, k ≤ 500000 ∧ p = .int .i64 k ∧ Hid (down S k = V) ∧ wr = w) (fun p _ => (intOf p).toNat)
    case atStart => exact ⟨m, by omega, rfl, HV2.out.symm, rfl⟩
    case round =>
      obtain ⟨k, hk, rfl, hd, rfl⟩ := hrel
      have hc1 : IntKind.i64.wrap (1 + (listsN k : Int)) = 1 + listsN k := IntWalk.i64_in _ (by unfold listsN; omega)
      have hc2 : IntKind.i64.wrap (2 * (k : Int)) = 2 * k := IntWalk.i64_in _ (by omega)
      have hc3 : IntKind.i64.wrap ((S : Int) - 2 * (k : Int)) = (S : Int) - 2 * k := IntWalk.i64_in _ (by omega)
      by_cases hf : fits S k
      · have hf' : 1 + (listsN k : Int) ≤ (S : Int) - 2 * k := by unfold fits at hf; omega
        have hdk : V = k := by
          have := hd.out
          match k, hf with
          | 0, _ => rw [← this]; rfl
          | k + 1, hf => rw [← this]; unfold down; rw [if_pos hf]
        have HDK := Lib.hid hdk
        clear hdk hf
        generalize hlk : listsN k = lk at *
        have HLK := Lib.hid hlk
        clear hlk
        go_wp2_with (go_at_call 30; refine (lists_is k lk (by omega) HLK.out wr).mono ?_; rintro e w5 ⟨rfl, rfl⟩)
        go_ret
        exact ⟨by rw [HDK.out]; rfl, rfl⟩
      · have hf' : (S : Int) - 2 * k < 1 + (listsN k : Int) := by unfold fits at hf; omega
        have hk0 : k ≠ 0 := fun h => hf (by subst h; unfold fits listsN; omega)
        obtain ⟨q, rfl⟩ : ∃ q, k = q + 1 := ⟨k - 1, by omega⟩
        have hdq := hd.out
        unfold down at hdq
        rw [if_neg hf] at hdq
        have HDQ := Lib.hid hdq
        clear hdq hf hk0 hd
        have hq1 : IntKind.i64.wrap (q : Int) = q := IntWalk.i64_in _ (by omega)
        generalize hlk : listsN (q + 1) = lk at *
        have HLK := Lib.hid hlk
        clear hlk
        go_wp2_with (go_at_call 30; refine (lists_is (q + 1) lk (by omega) HLK.out wr).mono ?_; rintro e w5 ⟨rfl, rfl⟩)
        go_roundw
        case rel => exact ⟨q, by omega, rfl, HDQ, trivial⟩
        case measure => simp [intOf]
set_option maxHeartbeats 4000000 in
set_option maxRecDepth 100000 in
theorem rroom_any (s : Int) (h : s ≤ 1000000) (h0 : -9223372036854775808 ≤ s) (w : World) : Calls Try.prog 10 #[.int .i64 s] w fun e w' => e = .returned (.int .i64 (roomN s.toNat)) ∧ w' = w := by
  obtain ⟨V, hV⟩ : ∃ V, V = roomN s.toNat := ⟨_, rfl⟩
  rw [← hV]
  have HV := Lib.hid hV
  clear hV
  go_enter Try.func10, Try.ntmps10
  by_cases hneg : s < 0
  · have hV0 : V = 0 := by rw [HV.out, room_zero (by omega)]
    subst hV0
    have ht2 : s.tdiv 2 ≤ 0 := by
      obtain ⟨n, rfl⟩ : ∃ n : Nat, s = -(n : Int) := ⟨s.natAbs, by omega⟩
      rw [Int.neg_tdiv]
      have : (0 : Int) ≤ (n : Int).tdiv 2 := Int.tdiv_nonneg (by omega) (by omega)
      omega
    go_wp2
    go_loopw [3, 4] (fun p _ wr => p = .int .i64 0 ∧ wr = w) (fun _ _ _ => 0)
    case atStart => exact ⟨rfl, rfl⟩
    case round =>
      obtain ⟨rfl, rfl⟩ := hrel
      go_wp2
      go_ret
      exact ⟨rfl, rfl⟩
  · obtain ⟨S, rfl⟩ : ∃ S : Nat, s = S := ⟨s.toNat, by omega⟩
    rw [Int.toNat_natCast] at HV
    clear hneg
    go_wp2
    go_loopw [3, 4] (fun p _ wr => ∃ k : Nat, k ≤ 500000 ∧ p = .int .i64 k ∧ Hid (k = 0 ∨ fits S k) ∧ wr = w) (fun p _ _ => 500001 - (intOf p).toNat)
    case atStart => exact ⟨0, by omega, rfl, .inl rfl, rfl⟩
    case round =>
      obtain ⟨k, hk, rfl, hf, rfl⟩ := hrel
      have hS0 : (0 : Int) ≤ S := by omega
      by_cases hlt : k < S / 2
      · have hlt' : (k : Int) < (S : Int) / 2 := by omega
        have hc0 : IntKind.i64.wrap ((k : Int) + 1) = (k : Int) + 1 := IntWalk.i64_in _ (by omega)
        have hc1 : IntKind.i64.wrap ((k : Int) + 1 + 63) = (k : Int) + 64 := by rw [IntWalk.i64_in _ (by omega)]; omega
        have hc2 : ((k : Int) + 64) / 64 = ((listsN (k + 1) : Nat) : Int) := by unfold listsN; omega
        have hll : listsN (k + 1) ≤ 500000 := by unfold listsN; omega
        by_cases hg : fits S (k + 1)
        · have hg' : 1 + (listsN (k + 1) : Int) + 2 * ((k : Int) + 1) ≤ S := by unfold fits at hg; omega
          have HG := Lib.hid hg
          clear hg
          generalize listsN (k + 1) = lk at *
          go_wp2
          go_roundw
          case rel => exact ⟨k + 1, by omega, by go_num, .inr HG.out, trivial⟩
          case measure => simp [intOf]; omega
        · have hg' : (S : Int) < 1 + (listsN (k + 1) : Int) + 2 * ((k : Int) + 1) := by unfold fits at hg; omega
          have HE := Lib.hid (room_eq hf.out hg)
          clear hg
          generalize listsN (k + 1) = lk at *
          go_wp2
          go_ret
          exact ⟨by rw [HV.out, HE.out]; rfl, rfl⟩
      · have hlt' : (S : Int) / 2 ≤ k := by omega
        have hk0 : V = k := by
          rw [HV.out]
          by_cases hk00 : k = 0
          · subst hk00
            rw [room_zero (by omega)]
          · rcases hf.out with h9 | h9
            · exact absurd h9 hk00
            · exfalso
              unfold fits listsN at h9
              omega
        go_wp2
        go_ret
        exact ⟨by rw [hk0]; rfl, rfl⟩
/-- The log's own block: its disk, how many sectors name a group, the room, is it dead. -/
structure IsLg (w : World) (q g : Nat) (names room : Nat) (dead : Bool) : Prop where
  hd : w.heap[q]? = some (.cells #[.pointer (some ⟨g, 0, none⟩), .int .i64 names, .int .i64 room, .bool dead] 68 (0, 0))
theorem IsLg.only {S : List Nat} {w w' : World} {q g names room : Nat} {dead : Bool} (h : IsLg w q g names room dead) (ho : Only S w w') (hq : q ∉ S) : IsLg w' q g names room dead := ⟨ho.heap h.hd hq⟩
theorem IsLg.c0 {w : World} {q g names room : Nat} {dead : Bool} (h : IsLg w q g names room dead) : w.cell? ⟨q, 0, none⟩ = some (.pointer (some ⟨g, 0, none⟩)) := (cell_of_row w q 0 _ _ _ h.hd).trans rfl
theorem IsLg.c1 {w : World} {q g names room : Nat} {dead : Bool} (h : IsLg w q g names room dead) : w.cell? ⟨q, 1, none⟩ = some (.int .i64 names) := (cell_of_row w q 1 _ _ _ h.hd).trans rfl
theorem IsLg.c2 {w : World} {q g names room : Nat} {dead : Bool} (h : IsLg w q g names room dead) : w.cell? ⟨q, 2, none⟩ = some (.int .i64 room) := (cell_of_row w q 2 _ _ _ h.hd).trans rfl
theorem IsLg.c3 {w : World} {q g names room : Nat} {dead : Bool} (h : IsLg w q g names room dead) : w.cell? ⟨q, 3, none⟩ = some (.bool dead) := (cell_of_row w q 3 _ _ _ h.hd).trans rfl
theorem IsLg.fz {w : World} {q g names room : Nat} {dead : Bool} (h : IsLg w q g names room dead) (i : Nat) : w.frozen? ⟨q, i, none⟩ = false := frozen_of_row w q i _ _ h.hd
theorem lsectors_any (q g names room : Nat) (dead : Bool) (w : World) (h : IsLg w q g names room dead) : Calls Try.prog 26 #[.pointer (some ⟨q, 0, none⟩)] w fun e w' => e = .returned (.int .i64 room) ∧ w' = w := by
  have h2 := h.c2
  go_enter Try.func26, Try.ntmps26
  go_wp2
  go_ret
  exact ⟨rfl, rfl⟩
theorem image_any (q g names room : Nat) (dead : Bool) (i : Nat) (w : World) (h : IsLg w q g names room dead) (h1 : names ≤ 1000000) (h2 : i ≤ 1000000) : Calls Try.prog 41 #[.pointer (some ⟨q, 0, none⟩), .int .i64 i] w fun e w' => e = .returned (.int .i64 ((1 + names + i : Nat) : Int)) ∧ w' = w := by
  have c1 := h.c1
  have w1 : IntKind.i64.wrap (1 + (names : Int)) = 1 + names := IntWalk.i64_in _ (by omega)
  have w2 : IntKind.i64.wrap (1 + (names : Int) + i) = 1 + names + i := IntWalk.i64_in _ (by omega)
  go_enter Try.func41, Try.ntmps41
  go_wp2
  go_ret
  exact ⟨rfl, rfl⟩
theorem data_any (q g names room : Nat) (dead : Bool) (i : Nat) (w : World) (h : IsLg w q g names room dead) (h1 : names ≤ 1000000) (h2 : i ≤ 1000000) (h3 : room ≤ 1000000) : Calls Try.prog 36 #[.pointer (some ⟨q, 0, none⟩), .int .i64 i] w fun e w' => e = .returned (.int .i64 ((1 + names + room + i : Nat) : Int)) ∧ Only [] w w' := by
  have w1 : IntKind.i64.wrap (1 + (names : Int)) = 1 + names := IntWalk.i64_in _ (by omega)
  have w2 : IntKind.i64.wrap (1 + (names : Int) + room) = 1 + names + room := IntWalk.i64_in _ (by omega)
  have w3 : IntKind.i64.wrap (1 + (names : Int) + room + i) = 1 + names + room + i := IntWalk.i64_in _ (by omega)
  go_enter Try.func36, Try.ntmps36
  go_wp2
  refine L.grow_start [] 13 ((0, true, false) :: (1, true, false) :: (2, true, false) :: (3, true, false) :: (4, true, false) :: (5, true, false) :: (6, true, false) :: (7, true, false) :: (8, true, false) :: (9, true, false) :: (10, true, true) :: (11, true, true) :: (12, true, true) :: []) (by kernel_rfl) (([], [0], some 5) :: ([0], [5], some 6) :: ([1], [6], some 7) :: ([2], [7], some 8) :: ([3], [8], some 9) :: ([], [0], some 10) :: ([5], [10], some 11) :: ([6], [11], some 12) :: ([7], [12], some 13) :: ([4, 8], [9, 13], some 14) :: ([], [1], some 15) :: ([9, 10], [14, 15], some 16) :: ([11, 0, 1, 2, 3, 4, 5, 6, 7, 8, 9, 10, 11], [16], some 4) :: []) (by kernel_rfl) (by kernel_rfl) (n := 13) rfl (by kernel_rfl) (fun _ _ _ _ _ h => h) (fun wg hog => ?_)
  refine L.growe_start (N := 17) (by rfl) ?_
  have c1 : ∀ w', Only [] wg w' → w'.cell? ⟨q, 1, none⟩ = some (.int .i64 names) := fun w' k => ((h.only hog (by simp)).only k (by simp)).c1
  have c2 : ∀ w', Only [] wg w' → w'.cell? ⟨q, 2, none⟩ = some (.int .i64 room) := fun w' k => ((h.only hog (by simp)).only k (by simp)).c2
  have HOG := Lib.hid hog
  clear hog
  iterate 13 (first | (refine L.ge_off rfl rfl rfl (by rfl) ?_) | (refine L.ge_move rfl rfl rfl (by rfl) rfl (by simp [L.evE, L.lk, Act.eval]; rfl) ?_) | (refine L.ge_pick rfl rfl rfl (by rfl) rfl (by simp [L.evE, L.lk, Act.eval]; rfl) (by simp [L.evE, L.lk, Act.eval]; rfl) ?_) | (refine L.ge_val rfl rfl rfl (by rfl) (by intro w' hw'; simp [execOp, L.evE, L.lk, Act.eval]; go_simp; rfl) ?_))
  refine L.ge_done ?_
  simp only [L.puts, Act.put, goInt, List.setIfInBounds_toArray, List.set_cons_zero, List.set_cons_succ]
  go_wp2
  go_ret
  exact ⟨rfl, HOG.out⟩
end Go.Proofs.Ytlngfelpmebemaa
