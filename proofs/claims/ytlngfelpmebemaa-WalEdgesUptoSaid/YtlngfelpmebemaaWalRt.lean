/-
  The log's right: may a group be.
-/
import Derived.Test.YtlngfelpmebemaaWalRd
import Derived.Test.YtlngfelpmebemaaMap
namespace Go.Proofs.Ytlngfelpmebemaa
open Go Go.RowKit
set_option linter.unusedSimpArgs false
set_option linter.unusedVariables false
/-- What a sector is to have. -/
abbrev Wr := Int × List UInt8
/-- The writes that a slice shows. -/
def WritesAt (w : World) (A : Option Addr) (xs : List Wr) : Prop :=
  ∀ (i : Nat) (x : Wr), xs[i]? = some x → ∃ ad B cap, A = some ad ∧ CellsAt w (ad.add (i * 2)) [.int .i64 x.1, .slice B x.2.length cap] ∧ x.2.length ≤ cap ∧ BytesAt w B x.2
theorem WritesAt.only {w w' : World} {A : Option Addr} {xs : List Wr} (h : WritesAt w A xs) (ho : Only [] w w') : WritesAt w' A xs := fun i x hx => by
  obtain ⟨ad, B, cap, h1, h2, h3, h4⟩ := h i x hx
  exact ⟨ad, B, cap, h1, h2.only ho (by simp), h3, h4.only ho⟩
theorem WritesAt.row {w : World} {A : Option Addr} {xs : List Wr} (h : WritesAt w A xs) (k : Nat) (hk : k < xs.length) :
    ∃ ad B cap, A = some ad ∧ CellsAt w (ad.add (k * 2)) [.int .i64 xs[k].1, .slice B xs[k].2.length cap] ∧ xs[k].2.length ≤ cap ∧ BytesAt w B xs[k].2 := h k _ (List.getElem?_eq_getElem hk)
def okW (p : Nat) (x : Wr) : Prop := 0 ≤ x.1 ∧ x.1 < (p : Int) ∧ x.2.length = 256
def RightP (p : Nat) (xs : List Wr) : Prop := (∀ x ∈ xs, okW p x) ∧ (xs.map (·.1)).Nodup
instance (p : Nat) (x : Wr) : Decidable (okW p x) := by unfold okW; exact inferInstance
instance (p : Nat) (xs : List Wr) : Decidable (RightP p xs) := by unfold RightP; exact inferInstance
theorem right_snoc (p : Nat) (xs : List Wr) (x : Wr) : RightP p (xs ++ [x]) ↔ RightP p xs ∧ okW p x ∧ x.1 ∉ xs.map (·.1) := by
  unfold RightP
  rw [List.map_append, List.nodup_append]
  simp only [List.mem_append, List.mem_singleton, List.map_cons, List.map_nil]
  constructor
  · rintro ⟨h1, h2, _, h4⟩
    exact ⟨⟨fun y hy => h1 y (.inl hy), h2⟩, h1 x (.inr rfl), fun hm => h4 x.1 hm x.1 rfl rfl⟩
  · rintro ⟨⟨h1, h2⟩, h3, h4⟩
    refine ⟨fun y hy => hy.elim (h1 y) (fun e => e ▸ h3), h2, by simp, ?_⟩
    rintro a ha b rfl rfl
    exact h4 ha
theorem right_of_take {p : Nat} {xs : List Wr} (k : Nat) (h : ¬ RightP p (xs.take k)) : ¬ RightP p xs := by
  intro hr
  apply h
  refine ⟨fun x hx => hr.1 x (List.mem_of_mem_take hx), ?_⟩
  rw [List.map_take]
  exact List.Nodup.sublist (List.take_sublist _ _) hr.2
theorem sizeWrite : (Try.prog.info? 63).map (·.size) = some 2 := by kernel_rfl
set_option maxHeartbeats 8000000 in
set_option maxRecDepth 100000 in
theorem right_any (q g nm p : Nat) (dead : Bool) (A : Option Addr) (cp : Nat) (xs : List Wr) (w : World) (hl : xs.length ≤ 1000000) (hi : ∀ x ∈ xs, x.1 ≤ 9223372036854775807) (hp : p ≤ 1000000) (hlg : IsLg w q g nm p dead) (hA : WritesAt w A xs) :
    Calls Try.prog 33 #[.pointer (some ⟨q, 0, none⟩), .slice A xs.length cp] w fun e w' => e = .returned (.bool (decide (RightP p xs))) ∧ Only [] w w' := by
  obtain ⟨V, hV⟩ : ∃ V, V = decide (RightP p xs) := ⟨_, rfl⟩
  rw [← hV]
  have HV := Lib.hid hV
  have HA := Lib.hid hA
  have HLG := Lib.hid hlg
  clear hV hA hlg hi
  go_enter Try.func33, Try.ntmps33
  have hmk : (Instr.makeMap 76 none).run Try.prog w = .ok (.map (some w.heap.size)) (w.alloc (.map #[] 0)) := by simp [Instr.makeMap]
  go_wp2
  clear hmk
  have HS0 := Lib.hid (IsSet.new w)
  obtain ⟨m, hm⟩ : ∃ m, m = w.heap.size := ⟨_, rfl⟩
  rw [← hm] at HS0 ⊢
  have HMM := Lib.hid hm
  clear hm
  go_loopw [7, 11] (fun _ i wr => ∃ k : Nat, k ≤ xs.length ∧ i = .int .i64 k ∧ Hid (RightP p (xs.take k)) ∧ Hid (IsSet wr m ((xs.take k).map (·.1))) ∧ Hid (Only [] w wr)) (fun _ i _ => xs.length - (intOf i).toNat)
  case atStart => exact ⟨0, by omega, rfl, Lib.hid ⟨by simp, by simp⟩, HS0, (Only.refl _ _).alloc _⟩
  case round =>
    obtain ⟨k, hk, rfl, hr, hs, hO⟩ := hrel
    by_cases hlt : k < xs.length
    · have hlt' : (k : Int) < xs.length := by omega
      obtain ⟨ad, B, cap, rfl, hcs, _, _⟩ := (HA.out.only hO.out).row k hlt
      have HTK := Lib.hid (List.take_succ_eq_append_getElem hlt)
      have HC := Lib.hid hcs
      clear hcs
      generalize xs[k] = x at *
      go_wp2_with (with_reducible refine wpList_load_at rfl 63 (.tmp 13) rfl (ad.add (k * 2)) rfl _ _ HC.out Try.underlying63 rfl (by kernel_rfl) ?_)
      have HPW := Lib.hid (heap_alloc_new wr (.cells #[.int .i64 x.1, .slice B x.2.length cap] 63))
      have HO1 := Lib.hid (hO.out.alloc (.cells #[.int .i64 x.1, .slice B x.2.length cap] 63))
      have HS1 := Lib.hid (hs.out.only ((Only.refl [] wr).alloc (.cells #[.int .i64 x.1, .slice B x.2.length cap] 63)) (by simp))
      have HLG1 := Lib.hid (HLG.out.only HO1.out (by simp))
      have hzz := hO.out.size
      generalize wr.alloc (.cells #[.int .i64 x.1, .slice B x.2.length cap] 63) = w1 at *
      generalize wr.heap.size = pw at *
      clear hs HC
      by_cases h1 : x.1 < 0
      · have HBAD : Hid (¬ RightP p xs) := Lib.hid (right_of_take (k + 1) (by rw [HTK.out, right_snoc]; exact fun h => by have := h.2.1.1; omega))
        refine L.grow_start [] 25 ((0, true, true) :: (1, true, true) :: (2, true, true) :: (3, true, true) :: (4, true, false) :: (5, true, false) :: (6, true, true) :: (7, true, true) :: (8, true, true) :: (9, true, true) :: (10, true, true) :: (11, true, true) :: (12, true, true) :: (13, true, true) :: (14, true, true) :: (15, true, true) :: (16, true, true) :: (17, true, true) :: (18, true, true) :: (19, true, false) :: (20, true, true) :: (21, true, true) :: (22, true, true) :: (23, true, true) :: (24, true, true) :: []) (by kernel_rfl) (([], [7], some 15) :: ([0], [15], some 16) :: ([1], [16], some 17) :: ([2], [17], some 18) :: ([3], [7, 18], some 19) :: ([4, 3], [19, 18], some 20) :: ([3], [0, 18], some 21) :: ([6, 3], [21, 18], some 22) :: ([7, 3], [22, 18], some 23) :: ([8, 3], [23, 18], some 24) :: ([5, 9, 3], [20, 24, 18], some 25) :: ([3, 10], [18, 25], some 26) :: ([11, 3], [26], some 27) :: ([12], [7, 27], some 28) :: ([13, 12], [28, 27], some 29) :: ([14, 12], [29, 27], some 30) :: ([15, 12], [30, 27], some 31) :: ([12, 16], [27, 31], some 32) :: ([17, 12], [32], some 33) :: ([18], [5, 33], some 34) :: ([18], [7, 33], some 35) :: ([20, 18], [35, 33], some 36) :: ([19, 21, 18], [34, 36, 33], some 37) :: ([22, 18], [37, 33], some 38) :: ([18, 23], [33, 38], some 39) :: []) (by kernel_rfl) (by kernel_rfl) (n := 25) rfl (by kernel_rfl) (fun _ _ _ _ _ h => h) (fun wg hog => ?_)
        refine L.growe_start (N := 46) (by rfl) ?_
        have e0 : ∀ w', Only [] wg w' → w'.cell? ⟨pw, 0, none⟩ = some (.int .i64 x.1) := fun w' h => h.cell ((cell_of_row wg _ 0 _ _ _ (hog.heap HPW.out (by simp))).trans rfl) (by simp)
        have e1 : ∀ w', Only [] wg w' → w'.cell? ⟨pw, 1, none⟩ = some (.slice B x.2.length cap) := fun w' h => h.cell ((cell_of_row wg _ 1 _ _ _ (hog.heap HPW.out (by simp))).trans rfl) (by simp)
        have e2 : ∀ w', Only [] wg w' → w'.cell? ⟨q, 2, none⟩ = some (.int .i64 p) := fun w' h => ((HLG1.out.only hog (by simp)).only h (by simp)).c2
        have HOG := Lib.hid (HO1.out.trans hog)
        have HSG := Lib.hid (HS1.out.only hog (by simp))
        have HPG := Lib.hid (hog.heap HPW.out (by simp))
        clear hog
        iterate 25 (first | (refine L.ge_off rfl rfl rfl (by rfl) ?_) | (refine L.ge_move rfl rfl rfl (by rfl) rfl (by simp [L.evE, L.lk, Act.eval]; rfl) ?_) | (refine L.ge_pick rfl rfl rfl (by rfl) rfl (by simp [L.evE, L.lk, Act.eval]; rfl) (by simp [L.evE, L.lk, Act.eval]; rfl) ?_) | (refine L.ge_val rfl rfl rfl (by rfl) (by intro w' hw'; simp [execOp, L.evE, L.lk, Act.eval]; go_simp; rfl) ?_))
        refine L.ge_done ?_
        simp only [L.puts, Act.put, goInt, List.setIfInBounds_toArray, List.set_cons_zero, List.set_cons_succ]
        clear e0 e1 e2
        go_wp2
        go_ret
        refine ⟨?_, HOG.out⟩
        rw [HV.out, decide_eq_false HBAD.out]
        rfl
      · have h1' : 0 ≤ x.1 := by omega
        by_cases h2 : (p : Int) ≤ x.1
        · have HBAD : Hid (¬ RightP p xs) := Lib.hid (right_of_take (k + 1) (by rw [HTK.out, right_snoc]; exact fun h => by have := h.2.1.2.1; omega))
          refine L.grow_start [] 25 ((0, true, true) :: (1, true, true) :: (2, true, true) :: (3, true, true) :: (4, true, false) :: (5, true, false) :: (6, true, true) :: (7, true, true) :: (8, true, true) :: (9, true, true) :: (10, true, true) :: (11, true, true) :: (12, true, true) :: (13, true, true) :: (14, true, true) :: (15, true, true) :: (16, true, true) :: (17, true, true) :: (18, true, true) :: (19, true, false) :: (20, true, true) :: (21, true, true) :: (22, true, true) :: (23, true, true) :: (24, true, true) :: []) (by kernel_rfl) (([], [7], some 15) :: ([0], [15], some 16) :: ([1], [16], some 17) :: ([2], [17], some 18) :: ([3], [7, 18], some 19) :: ([4, 3], [19, 18], some 20) :: ([3], [0, 18], some 21) :: ([6, 3], [21, 18], some 22) :: ([7, 3], [22, 18], some 23) :: ([8, 3], [23, 18], some 24) :: ([5, 9, 3], [20, 24, 18], some 25) :: ([3, 10], [18, 25], some 26) :: ([11, 3], [26], some 27) :: ([12], [7, 27], some 28) :: ([13, 12], [28, 27], some 29) :: ([14, 12], [29, 27], some 30) :: ([15, 12], [30, 27], some 31) :: ([12, 16], [27, 31], some 32) :: ([17, 12], [32], some 33) :: ([18], [5, 33], some 34) :: ([18], [7, 33], some 35) :: ([20, 18], [35, 33], some 36) :: ([19, 21, 18], [34, 36, 33], some 37) :: ([22, 18], [37, 33], some 38) :: ([18, 23], [33, 38], some 39) :: []) (by kernel_rfl) (by kernel_rfl) (n := 25) rfl (by kernel_rfl) (fun _ _ _ _ _ h => h) (fun wg hog => ?_)
          refine L.growe_start (N := 46) (by rfl) ?_
          have e0 : ∀ w', Only [] wg w' → w'.cell? ⟨pw, 0, none⟩ = some (.int .i64 x.1) := fun w' h => h.cell ((cell_of_row wg _ 0 _ _ _ (hog.heap HPW.out (by simp))).trans rfl) (by simp)
          have e1 : ∀ w', Only [] wg w' → w'.cell? ⟨pw, 1, none⟩ = some (.slice B x.2.length cap) := fun w' h => h.cell ((cell_of_row wg _ 1 _ _ _ (hog.heap HPW.out (by simp))).trans rfl) (by simp)
          have e2 : ∀ w', Only [] wg w' → w'.cell? ⟨q, 2, none⟩ = some (.int .i64 p) := fun w' h => ((HLG1.out.only hog (by simp)).only h (by simp)).c2
          have HOG := Lib.hid (HO1.out.trans hog)
          have HSG := Lib.hid (HS1.out.only hog (by simp))
          have HPG := Lib.hid (hog.heap HPW.out (by simp))
          clear hog
          iterate 25 (first | (refine L.ge_off rfl rfl rfl (by rfl) ?_) | (refine L.ge_move rfl rfl rfl (by rfl) rfl (by simp [L.evE, L.lk, Act.eval]; rfl) ?_) | (refine L.ge_pick rfl rfl rfl (by rfl) rfl (by simp [L.evE, L.lk, Act.eval]; rfl) (by simp [L.evE, L.lk, Act.eval]; rfl) ?_) | (refine L.ge_val rfl rfl rfl (by rfl) (by intro w' hw'; simp [execOp, L.evE, L.lk, Act.eval]; go_simp; rfl) ?_))
          refine L.ge_done ?_
          simp only [L.puts, Act.put, goInt, List.setIfInBounds_toArray, List.set_cons_zero, List.set_cons_succ]
          clear e0 e1 e2
          go_wp2
          go_ret
          refine ⟨?_, HOG.out⟩
          rw [HV.out, decide_eq_false HBAD.out]
          rfl
        · have h2' : x.1 < (p : Int) := by omega
          by_cases h3 : x.2.length = 256
          · have h3' : (x.2.length : Int) = 256 := by omega
            by_cases h4 : x.1 ∈ (xs.take k).map (·.1)
            · have HBAD : Hid (¬ RightP p xs) := Lib.hid (right_of_take (k + 1) (by rw [HTK.out, right_snoc]; exact fun h => h.2.2 h4))
              refine L.grow_start [] 25 ((0, true, true) :: (1, true, true) :: (2, true, true) :: (3, true, true) :: (4, true, false) :: (5, true, false) :: (6, true, true) :: (7, true, true) :: (8, true, true) :: (9, true, true) :: (10, true, true) :: (11, true, true) :: (12, true, true) :: (13, true, true) :: (14, true, true) :: (15, true, true) :: (16, true, true) :: (17, true, true) :: (18, true, true) :: (19, true, false) :: (20, true, true) :: (21, true, true) :: (22, true, true) :: (23, true, true) :: (24, true, true) :: []) (by kernel_rfl) (([], [7], some 15) :: ([0], [15], some 16) :: ([1], [16], some 17) :: ([2], [17], some 18) :: ([3], [7, 18], some 19) :: ([4, 3], [19, 18], some 20) :: ([3], [0, 18], some 21) :: ([6, 3], [21, 18], some 22) :: ([7, 3], [22, 18], some 23) :: ([8, 3], [23, 18], some 24) :: ([5, 9, 3], [20, 24, 18], some 25) :: ([3, 10], [18, 25], some 26) :: ([11, 3], [26], some 27) :: ([12], [7, 27], some 28) :: ([13, 12], [28, 27], some 29) :: ([14, 12], [29, 27], some 30) :: ([15, 12], [30, 27], some 31) :: ([12, 16], [27, 31], some 32) :: ([17, 12], [32], some 33) :: ([18], [5, 33], some 34) :: ([18], [7, 33], some 35) :: ([20, 18], [35, 33], some 36) :: ([19, 21, 18], [34, 36, 33], some 37) :: ([22, 18], [37, 33], some 38) :: ([18, 23], [33, 38], some 39) :: []) (by kernel_rfl) (by kernel_rfl) (n := 25) rfl (by kernel_rfl) (fun _ _ _ _ _ h => h) (fun wg hog => ?_)
              refine L.growe_start (N := 46) (by rfl) ?_
              have e0 : ∀ w', Only [] wg w' → w'.cell? ⟨pw, 0, none⟩ = some (.int .i64 x.1) := fun w' h => h.cell ((cell_of_row wg _ 0 _ _ _ (hog.heap HPW.out (by simp))).trans rfl) (by simp)
              have e1 : ∀ w', Only [] wg w' → w'.cell? ⟨pw, 1, none⟩ = some (.slice B x.2.length cap) := fun w' h => h.cell ((cell_of_row wg _ 1 _ _ _ (hog.heap HPW.out (by simp))).trans rfl) (by simp)
              have e2 : ∀ w', Only [] wg w' → w'.cell? ⟨q, 2, none⟩ = some (.int .i64 p) := fun w' h => ((HLG1.out.only hog (by simp)).only h (by simp)).c2
              have e3 : ∀ w', Only [] wg w' → (Instr.lookup 76 (.map (some m)) (.int .i64 x.1) false).run Try.prog w' = .ok (.int .i64 1) w' := fun w' h => run_lookup_set w' 76 3 3 Try.underlying76 Try.underlying3 (by kernel_rfl) m _ ((HS1.out.only hog (by simp)).only h (by simp)) x.1 1 (.inr ⟨h4, rfl⟩)
              have HOG := Lib.hid (HO1.out.trans hog)
              have HSG := Lib.hid (HS1.out.only hog (by simp))
              have HPG := Lib.hid (hog.heap HPW.out (by simp))
              clear hog
              iterate 25 (first | (refine L.ge_off rfl rfl rfl (by rfl) ?_) | (refine L.ge_move rfl rfl rfl (by rfl) rfl (by simp [L.evE, L.lk, Act.eval]; rfl) ?_) | (refine L.ge_pick rfl rfl rfl (by rfl) rfl (by simp [L.evE, L.lk, Act.eval]; rfl) (by simp [L.evE, L.lk, Act.eval]; rfl) ?_) | (refine L.ge_val rfl rfl rfl (by rfl) (by intro w' hw'; simp [execOp, L.evE, L.lk, Act.eval]; go_simp; rfl) ?_))
              refine L.ge_done ?_
              simp only [L.puts, Act.put, goInt, List.setIfInBounds_toArray, List.set_cons_zero, List.set_cons_succ]
              clear e0 e1 e2
              clear e3 h4
              go_wp2
              go_ret
              refine ⟨?_, HOG.out⟩
              rw [HV.out, decide_eq_false HBAD.out]
              rfl
            · have HOKK : Hid (RightP p (xs.take (k + 1))) := Lib.hid (by rw [HTK.out, right_snoc]; exact ⟨hr.out, ⟨h1', h2', h3⟩, h4⟩)
              have H4 := Lib.hid h4
              refine L.grow_start [] 25 ((0, true, true) :: (1, true, true) :: (2, true, true) :: (3, true, true) :: (4, true, false) :: (5, true, false) :: (6, true, true) :: (7, true, true) :: (8, true, true) :: (9, true, true) :: (10, true, true) :: (11, true, true) :: (12, true, true) :: (13, true, true) :: (14, true, true) :: (15, true, true) :: (16, true, true) :: (17, true, true) :: (18, true, true) :: (19, true, false) :: (20, true, true) :: (21, true, true) :: (22, true, true) :: (23, true, true) :: (24, true, true) :: []) (by kernel_rfl) (([], [7], some 15) :: ([0], [15], some 16) :: ([1], [16], some 17) :: ([2], [17], some 18) :: ([3], [7, 18], some 19) :: ([4, 3], [19, 18], some 20) :: ([3], [0, 18], some 21) :: ([6, 3], [21, 18], some 22) :: ([7, 3], [22, 18], some 23) :: ([8, 3], [23, 18], some 24) :: ([5, 9, 3], [20, 24, 18], some 25) :: ([3, 10], [18, 25], some 26) :: ([11, 3], [26], some 27) :: ([12], [7, 27], some 28) :: ([13, 12], [28, 27], some 29) :: ([14, 12], [29, 27], some 30) :: ([15, 12], [30, 27], some 31) :: ([12, 16], [27, 31], some 32) :: ([17, 12], [32], some 33) :: ([18], [5, 33], some 34) :: ([18], [7, 33], some 35) :: ([20, 18], [35, 33], some 36) :: ([19, 21, 18], [34, 36, 33], some 37) :: ([22, 18], [37, 33], some 38) :: ([18, 23], [33, 38], some 39) :: []) (by kernel_rfl) (by kernel_rfl) (n := 25) rfl (by kernel_rfl) (fun _ _ _ _ _ h => h) (fun wg hog => ?_)
              refine L.growe_start (N := 46) (by rfl) ?_
              have e0 : ∀ w', Only [] wg w' → w'.cell? ⟨pw, 0, none⟩ = some (.int .i64 x.1) := fun w' h => h.cell ((cell_of_row wg _ 0 _ _ _ (hog.heap HPW.out (by simp))).trans rfl) (by simp)
              have e1 : ∀ w', Only [] wg w' → w'.cell? ⟨pw, 1, none⟩ = some (.slice B x.2.length cap) := fun w' h => h.cell ((cell_of_row wg _ 1 _ _ _ (hog.heap HPW.out (by simp))).trans rfl) (by simp)
              have e2 : ∀ w', Only [] wg w' → w'.cell? ⟨q, 2, none⟩ = some (.int .i64 p) := fun w' h => ((HLG1.out.only hog (by simp)).only h (by simp)).c2
              have e3 : ∀ w', Only [] wg w' → (Instr.lookup 76 (.map (some m)) (.int .i64 x.1) false).run Try.prog w' = .ok (.int .i64 0) w' := fun w' h => run_lookup_set w' 76 3 3 Try.underlying76 Try.underlying3 (by kernel_rfl) m _ ((HS1.out.only hog (by simp)).only h (by simp)) x.1 0 (.inl ⟨h4, rfl⟩)
              have HOG := Lib.hid (HO1.out.trans hog)
              have HSG := Lib.hid (HS1.out.only hog (by simp))
              have HPG := Lib.hid (hog.heap HPW.out (by simp))
              clear hog
              iterate 25 (first | (refine L.ge_off rfl rfl rfl (by rfl) ?_) | (refine L.ge_move rfl rfl rfl (by rfl) rfl (by simp [L.evE, L.lk, Act.eval]; rfl) ?_) | (refine L.ge_pick rfl rfl rfl (by rfl) rfl (by simp [L.evE, L.lk, Act.eval]; rfl) (by simp [L.evE, L.lk, Act.eval]; rfl) ?_) | (refine L.ge_val rfl rfl rfl (by rfl) (by intro w' hw'; simp [execOp, L.evE, L.lk, Act.eval]; go_simp; rfl) ?_))
              refine L.ge_done ?_
              simp only [L.puts, Act.put, goInt, List.setIfInBounds_toArray, List.set_cons_zero, List.set_cons_succ]
              clear e0 e1 e2
              clear e3 h4
              have HMU := Lib.hid (fun w' (h : Only [] wg w') => run_update_set (P := Try.prog) w' 76 3 3 Try.underlying76 Try.underlying3 m _ (HSG.out.only h (by simp)) x.1 H4.out)
              have f0 : wg.cell? ⟨pw, 0, none⟩ = some (.int .i64 x.1) := (cell_of_row wg _ 0 _ _ _ HPG.out).trans rfl
              have flk : (Instr.lookup 76 (.map (some m)) (.int .i64 x.1) false).run Try.prog wg = .ok (.int .i64 0) wg := run_lookup_set wg 76 3 3 Try.underlying76 Try.underlying3 (by kernel_rfl) m _ HSG.out x.1 0 (.inl ⟨H4.out, rfl⟩)
              obtain ⟨w8, hup, hs8, ho8⟩ := HMU.out wg (Only.refl _ _)
              have HS8 := Lib.hid hs8
              have HO8 := Lib.hid (HOG.out.then ho8 (fun i hi => by right; simp at hi; rw [hi, HMM.out]; exact Nat.le_refl _))
              clear hs8 ho8 HMU
              go_wp2
              go_roundw
              case rel =>
                refine ⟨k + 1, by omega, by go_num, HOKK, ?_, HO8⟩
                rw [HTK.out, List.map_append]
                exact HS8
              case measure => simp [intOf]; omega
          · have h3' : ((x.2.length : Int) != 256) = true := by rw [bne_iff_ne]; omega
            have HBAD : Hid (¬ RightP p xs) := Lib.hid (right_of_take (k + 1) (by rw [HTK.out, right_snoc]; exact fun h => h3 h.2.1.2.2))
            refine L.grow_start [] 25 ((0, true, true) :: (1, true, true) :: (2, true, true) :: (3, true, true) :: (4, true, false) :: (5, true, false) :: (6, true, true) :: (7, true, true) :: (8, true, true) :: (9, true, true) :: (10, true, true) :: (11, true, true) :: (12, true, true) :: (13, true, true) :: (14, true, true) :: (15, true, true) :: (16, true, true) :: (17, true, true) :: (18, true, true) :: (19, true, false) :: (20, true, true) :: (21, true, true) :: (22, true, true) :: (23, true, true) :: (24, true, true) :: []) (by kernel_rfl) (([], [7], some 15) :: ([0], [15], some 16) :: ([1], [16], some 17) :: ([2], [17], some 18) :: ([3], [7, 18], some 19) :: ([4, 3], [19, 18], some 20) :: ([3], [0, 18], some 21) :: ([6, 3], [21, 18], some 22) :: ([7, 3], [22, 18], some 23) :: ([8, 3], [23, 18], some 24) :: ([5, 9, 3], [20, 24, 18], some 25) :: ([3, 10], [18, 25], some 26) :: ([11, 3], [26], some 27) :: ([12], [7, 27], some 28) :: ([13, 12], [28, 27], some 29) :: ([14, 12], [29, 27], some 30) :: ([15, 12], [30, 27], some 31) :: ([12, 16], [27, 31], some 32) :: ([17, 12], [32], some 33) :: ([18], [5, 33], some 34) :: ([18], [7, 33], some 35) :: ([20, 18], [35, 33], some 36) :: ([19, 21, 18], [34, 36, 33], some 37) :: ([22, 18], [37, 33], some 38) :: ([18, 23], [33, 38], some 39) :: []) (by kernel_rfl) (by kernel_rfl) (n := 25) rfl (by kernel_rfl) (fun _ _ _ _ _ h => h) (fun wg hog => ?_)
            refine L.growe_start (N := 46) (by rfl) ?_
            have e0 : ∀ w', Only [] wg w' → w'.cell? ⟨pw, 0, none⟩ = some (.int .i64 x.1) := fun w' h => h.cell ((cell_of_row wg _ 0 _ _ _ (hog.heap HPW.out (by simp))).trans rfl) (by simp)
            have e1 : ∀ w', Only [] wg w' → w'.cell? ⟨pw, 1, none⟩ = some (.slice B x.2.length cap) := fun w' h => h.cell ((cell_of_row wg _ 1 _ _ _ (hog.heap HPW.out (by simp))).trans rfl) (by simp)
            have e2 : ∀ w', Only [] wg w' → w'.cell? ⟨q, 2, none⟩ = some (.int .i64 p) := fun w' h => ((HLG1.out.only hog (by simp)).only h (by simp)).c2
            have HOG := Lib.hid (HO1.out.trans hog)
            have HSG := Lib.hid (HS1.out.only hog (by simp))
            have HPG := Lib.hid (hog.heap HPW.out (by simp))
            clear hog
            iterate 25 (first | (refine L.ge_off rfl rfl rfl (by rfl) ?_) | (refine L.ge_move rfl rfl rfl (by rfl) rfl (by simp [L.evE, L.lk, Act.eval]; rfl) ?_) | (refine L.ge_pick rfl rfl rfl (by rfl) rfl (by simp [L.evE, L.lk, Act.eval]; rfl) (by simp [L.evE, L.lk, Act.eval]; rfl) ?_) | (refine L.ge_val rfl rfl rfl (by rfl) (by intro w' hw'; simp [execOp, L.evE, L.lk, Act.eval]; go_simp; rfl) ?_))
            refine L.ge_done ?_
            simp only [L.puts, Act.put, goInt, List.setIfInBounds_toArray, List.set_cons_zero, List.set_cons_succ]
            clear e0 e1 e2
            go_wp2
            go_ret
            refine ⟨?_, HOG.out⟩
            rw [HV.out, decide_eq_false HBAD.out]
            rfl
    · obtain rfl : k = xs.length := by omega
      have hrr := hr.out
      rw [List.take_length] at hrr
      have HRR := Lib.hid hrr
      clear hrr hr
      go_wp2
      go_ret
      refine ⟨?_, hO.out⟩
      rw [HV.out, decide_eq_true HRR.out]
      rfl
end Go.Proofs.Ytlngfelpmebemaa
