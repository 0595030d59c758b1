/-
  The law PageFills, walked.
-/
import Derived.Test.YthkgpnkbbdpldaaPgOne
import Derived.Test.YthkgpnkbbdpldaaPgSame
import Derived.Test.YthkgpnkbbdpldaaPgIns
namespace Go.Proofs.Ythkgpnkbbdpldaa
open Go.RowKit
set_option linter.unusedSimpArgs false
set_option linter.unusedVariables false
theorem same_m (A B : Option Addr) (n m ca cb : Nat) (xs ys : List Rec) (w : World) (hn : xs.length = n) (hm : ys.length = m) (hl : n ≤ 1000000) (hl2 : m ≤ 1000000) (hA : PairsAt w A xs) (hB : PairsAt w B ys) :
    Calls Try.prog 17 #[.slice A n ca, .slice B m cb] w fun e w' => e = .returned (.bool (decide (xs = ys))) ∧ Only [] w w' := by
  subst hn hm
  exact same_any A B ca cb xs ys w hl hl2 hA hB
theorem insTake_len {x : Rec} {xs : List Rec} {k : Nat} (hup : rises xs = true) (hk : k ≤ xs.length) (hne : ∀ y ∈ xs.take k, y.1 ≠ x.1) : (ins x (xs.take k)).2.length ≤ k + 1 := by
  have hr : rises (xs.take k) = true := by
    cases hr : rises (xs.take k) with
    | true => rfl
    | false => rw [rises_of_take k hr] at hup; cases hup
  have h := (ins_ok hr hne k (by rw [List.length_take]; omega)).len
  rw [List.take_take, Nat.min_self, List.length_take] at h
  split at h <;> omega
theorem shows_pairs {w w' : World} {base : Nat} {tP : TypeId} {A : Option Addr} {n c : Nat} {ys : List Rec} {us : List Value} (hrow : w'.ownsRow base tP 2 (.slice A n c) ys.length (pairCells ys us)) (hs : Shows w ys us) (ho : Only [] w w') : PairsAt w' A ys := by
  intro i x hx
  have hi : i < ys.length := (List.getElem?_eq_some_iff.1 hx).1
  have hiu : i < us.length := by rw [hs.1]; exact hi
  have hu : us[i]? = some us[i] := List.getElem?_eq_getElem hiu
  obtain ⟨A', c', h1, _, h3⟩ := ownsRow_slice hrow
  obtain ⟨rfl, rfl, rfl⟩ : A = A' ∧ n = ys.length ∧ c = c' := by simpa using h1
  obtain ⟨ad, rfl, hc⟩ := h3 (by omega)
  obtain ⟨B, cb, hb1, hb2, hb3⟩ := hs.2 i x _ hx hu
  obtain ⟨p0, p1⟩ := pairCells_get hx hu
  refine ⟨ad, B, cb, rfl, ?_, hb2, hb3.only ho⟩
  intro j v hj
  rw [Go.Deep.add_add]
  match j, hj with
  | 0, hj => simp at hj; subst hj; exact hc _ _ p0
  | 1, hj => simp at hj; subst hj; rw [← hb1]; exact hc _ _ p1
theorem fit_all {l : List Rec} (h : bad l = false) : Fit l := by
  intro x hx
  obtain ⟨k, hk, rfl⟩ := List.getElem_of_mem hx
  exact slots_fit (slots_pos h k hk)
theorem free_le (xs : List Rec) : free xs ≤ 7 := by unfold free; split <;> omega
theorem insStep_no {x : Rec} {s : Bool × List Rec} {y : Rec} (h : ¬ (s.1 = false ∧ before x.1 y.1 = true)) : insStep x s y = (s.1, s.2 ++ [y]) := by unfold insStep; rw [if_neg h]
theorem insStep_yes {x : Rec} {s : Bool × List Rec} {y : Rec} (h : s.1 = false) (h2 : before x.1 y.1 = true) : insStep x s y = (true, s.2 ++ [x, y]) := by unfold insStep; rw [if_pos ⟨h, h2⟩]
set_option maxHeartbeats 8000000 in
set_option maxRecDepth 100000 in
theorem fills_any (A : Option Addr) (cap : Nat) (xs : List Rec) (key : ByteArray) (B : Option Addr) (cb : Nat) (bl : List UInt8) (w : World) (hl : xs.length ≤ 4611686018427387903) (hF : Fit xs) (hA : PairsAt w A xs)
    (hk : key.size ≤ 140737488351232) (hb : bl.length ≤ cb) (hcb : cb ≤ 140737488351232) (hB : BytesAt w B bl) :
    Calls Try.prog 8 #[.slice A xs.length cap, .string key, .slice B bl.length cb] w fun e w' => e = .returned (.bool true) ∧ Only [] w w' := by
  have HA := Lib.hid hA
  have HF := Lib.hid hF
  have HB := Lib.hid hB
  clear hA hF hB
  obtain ⟨V, hV⟩ : ∃ V, V = smallB xs := ⟨_, rfl⟩
  have HV := Lib.hid hV
  clear hV
  obtain ⟨V2, hV2⟩ : ∃ V2, V2 = decide (xs.length ≤ 20 ∧ key.size ≤ 200 ∧ bl.length ≤ 200) := ⟨_, rfl⟩
  go_enter Try.func8, Try.ntmps8
  go_wp2_with (first
    | (go_at_call 9; refine (awake_any w).mono ?_; rintro e w1 ⟨rfl, ho1⟩; have HO1 := Lib.hid ho1; clear ho1)
    | (go_at_call 10; refine (small_any A cap xs w1 hl HF.out (HA.out.only HO1.out)).mono ?_; rw [← HV.out]; rintro e w2 ⟨rfl, ho2⟩; have HO2 := Lib.hid (HO1.out.trans ho2); clear ho2; refine (fun (h : Hid _) => h.out) ?_))
  refine Lib.hid ?_
  cases V with
  | false =>
    clear hV2
    go_wp2
    go_ret
    exact ⟨rfl, HO2.out⟩
  | true =>
    by_cases hx20 : xs.length ≤ 20
    · have hx20' : (xs.length : Int) ≤ 20 := by omega
      by_cases hk200 : key.size ≤ 200
      · have hk200' : (key.size : Int) ≤ 200 := by omega
        by_cases hb200 : bl.length ≤ 200
        · have hb200' : (bl.length : Int) ≤ 200 := by omega
          clear hV2
          go_wp2_with (go_at_call 11; refine (lay_n A xs.length cap xs w2 rfl (by omega) HF.out (HA.out.only HO2.out)).mono ?_; rintro e w3 ⟨Av, nv, rfl, _, _, ho3⟩; have HO3 := Lib.hid (HO2.out.trans ho3); clear ho3; refine (fun (h : Hid _) => h.out) ?_)
          refine Lib.hid ?_
          have HP0 := Lib.hid (heap_alloc_new w3 (.cells #[.string key, .slice B bl.length cb] 37))
          have HOP := Lib.hid (HO3.out.alloc (.cells #[.string key, .slice B bl.length cb] 37))
          have hz3 : (w3.alloc (.cells #[.string key, .slice B bl.length cb] 37)).heap.size = w3.heap.size + 1 := by simp
          obtain ⟨x, hx⟩ : ∃ x : Rec, x = (key, bl) := ⟨_, rfl⟩
          have hs : slots x = slotsN key.size bl.length := by rw [hx]; rfl
          have HX := Lib.hid hx
          have HS := Lib.hid hs
          clear hx hs
          have hle := slots_le x
          generalize hsx : slots x = sx at *
          have HSX := Lib.hid hsx
          clear hsx
          have hp0 := (cell_of_row _ _ 0 _ _ _ HP0.out).trans rfl
          have hp1 := (cell_of_row _ _ 1 _ _ _ HP0.out).trans rfl
          go_wp2_with (go_at_call 18; refine (slots_any key B bl.length cb _ hk (by omega)).mono ?_; rw [← HS.out]; rintro e wp ⟨rfl, ho4⟩; have HO4 := Lib.hid (HOP.out.trans ho4); have HP4 := Lib.hid (ho4.heap HP0.out (by simp)); clear ho4 hp0 hp1; refine (fun (h : Hid _) => h.out) ?_)
          refine Lib.hid ?_
          clear HOP HP0 hz3
          generalize w3.heap.size = pb at *
          by_cases hE : layE xs = 0
          · have hE0 : (layE xs : Int) = 0 := by omega
            rw [hE0]
            have HE := Lib.hid hE
            clear hE hE0
            by_cases hs0 : sx = 0
            · subst hs0
              go_wp2
              go_ret
              exact ⟨rfl, HO4.out⟩
            · have hs0' : ((sx : Int) == 0) = false := by rw [beq_eq_false_iff_ne]; omega
              have hup := (layE_zero HE.out).2.1
              have HUP := Lib.hid hup
              clear hup
              have HQ := Lib.hid (fun w' (h : Only [] wp w') => h.cell ((cell_of_row wp pb 0 _ _ _ HP4.out).trans rfl) (by simp))
              have HQ1 := Lib.hid (fun w' (h : Only [] wp w') => h.cell ((cell_of_row wp pb 1 _ _ _ HP4.out).trans rfl) (by simp))
              go_wp2
              go_loopw [13, 14, 15] (fun l b i wr => ∃ (k m c4 : Nat) (A4 : Option Addr) (us : List Value) (inn : Bool), k ≤ xs.length ∧ i = .int .i64 k ∧ b = .bool inn ∧ l = .slice A4 m c4 ∧ Hid (inn = (ins x (xs.take k)).1) ∧ Hid (m = (ins x (xs.take k)).2.length) ∧ Hid (∀ y ∈ xs.take k, y.1 ≠ x.1) ∧ Hid (wr.ownsRow wp.heap.size 37 2 l m (pairCells (ins x (xs.take k)).2 us)) ∧ Hid (Shows w (ins x (xs.take k)).2 us) ∧ Hid (Only [] wp wr)) (fun _ _ i _ => xs.length - (intOf i).toNat)
              case atStart => exact ⟨0, 0, 0, none, [], false, by omega, rfl, rfl, rfl, rfl, rfl, (fun y hy => by cases hy), ownsRow_nil _ _ _ _, Shows.nil w, Only.refl _ _⟩
              case round =>
                obtain ⟨k, m, c4, A4, us, inn, hk, rfl, rfl, rfl, hinn, hm, hne, hB, hsh, hO⟩ := hrel
                have hq0 := HQ.out _ hO.out
                have hq1 := HQ1.out _ hO.out
                by_cases hlt : k < xs.length
                · have hlt' : (k : Int) < xs.length := by omega
                  have hm22 := insTake_len HUP.out (by omega) hne.out
                  rw [← hm.out] at hm22
                  obtain ⟨ad, BY, cy, rfl, hyc, hcy, hby⟩ := HA.out.row k hlt
                  have HSTEP := Lib.hid (ins_take x xs k hlt)
                  have HTK := Lib.hid (List.take_succ_eq_append_getElem hlt)
                  have HC := Lib.hid (fun w' (h : Only [] w w') => hyc.only h (by simp))
                  have HBY := Lib.hid hby
                  have HCY := Lib.hid hcy
                  have hf0 := cellsAt_head (HC.out _ (HO4.out.trans hO.out)) rfl
                  clear hyc hby hcy
                  generalize xs[k] = y at *
                  have hkq := key_eq y.1 key
                  by_cases hq : y.1 = key
                  · rw [decide_eq_true hq] at hkq
                    go_wp2
                    go_ret
                    exact ⟨rfl, HO4.out.trans hO.out⟩
                  · rw [decide_eq_false hq] at hkq
                    have HNE := Lib.hid (show ∀ z ∈ xs.take (k + 1), z.1 ≠ x.1 by
                      intro z hz
                      rw [HTK.out] at hz
                      rcases List.mem_append.1 hz with hz | hz
                      · exact hne.out z hz
                      · simp at hz
                        subst hz
                        rw [HX.out]
                        exact hq)
                    clear hq
                    cases inn with
                    | true =>
                      have HEQ : Hid (ins x (xs.take (k + 1)) = ((ins x (xs.take k)).1, (ins x (xs.take k)).2 ++ [y])) := by
                        refine Lib.hid ?_
                        rw [HSTEP.out]
                        exact insStep_no (fun h => by have := hinn.out; rw [← this] at h; cases h.1)
                      go_wp2_with (first
                        | (with_reducible refine wpList_load_at rfl 37 (.tmp 93) rfl (ad.add (k * 2)) rfl _ _ (HC.out _ (HO4.out.trans hO.out)) Try.underlying37 rfl (by kernel_rfl) ?_)
                        | (at_builtin; refine wpList_append_row rfl (.tmp 90) (.tmp 95) 22 rfl wp.heap.size 37 2 40 (.agg #[.string ⟨#[]⟩, .slice none 0 0]) Try.underlying22 infoPair rfl (by omega) (.slice A4 m c4) (m) (pairCells (ins x (xs.take k)).2 us) rfl ?_ _ 1 1 [.string y.1, .slice BY y.2.length cy] (by rfl) rfl (fun _ => ⟨_, rfl, cellsAt_row (heap_alloc_new wr _)⟩) (by simp [Value.oneCell']) (by unfold maxLen; omega) (by omega) (by have := hO.out.size; simp; omega) ?_; exact ownsRow_only hB.out ((Only.refl [] _).alloc _) (by simp); intro A8 c8 w8 hb8 ho8 _; have HB8 := Lib.hid hb8; have HO8 := Lib.hid (Only.then (hO.out.alloc (.cells #[.string y.1, .slice BY y.2.length cy] 37)) ho8 (fun i hi => .inr (ownsRow_lt hB.out (by simpa using hi)).1)); clear hb8 ho8; skip))
                      go_roundw
                      case rel =>
                        refine ⟨k + 1, m + 1, c8, A8, us ++ [.slice BY y.2.length cy], _, by omega, by go_num, rfl, rfl, ?_, ?_, HNE, ?_, ?_, HO8⟩
                        · rw [HEQ.out]
                          exact hinn
                        · rw [HEQ.out, hm.out]
                          exact Lib.hid (by simp)
                        · rw [HEQ.out]
                          have h9 := HB8
                          rw [← pairCells_snoc _ _ _ _ hsh.out.1] at h9
                          exact h9
                        · rw [HEQ.out]
                          exact hsh.out.snoc HCY.out HBY.out
                      case measure => simp [intOf]; omega
                    | false =>
                      obtain ⟨bb, hbb⟩ : ∃ bb, bb = Op.bytesLess key.toList y.1.toList := ⟨_, rfl⟩
                      have HBF := Lib.hid (show bb = before x.1 y.1 by rw [HX.out]; exact hbb)
                      have hb9 := hbb.symm
                      clear hbb
                      cases bb with
                      | true =>
                        have HEQ : Hid (ins x (xs.take (k + 1)) = (true, (ins x (xs.take k)).2 ++ [x, y])) := by
                          refine Lib.hid ?_
                          rw [HSTEP.out]
                          exact insStep_yes hinn.out.symm HBF.out.symm
                        go_wp2_with (first
                          | (with_reducible refine wpList_load_at rfl 37 (.tmp 93) rfl (ad.add (k * 2)) rfl _ _ (HC.out _ (HO4.out.trans HO7.out)) Try.underlying37 rfl (by kernel_rfl) ?_)
                          | (at_builtin; refine wpList_append_row rfl (.tmp 86) (.tmp 88) 22 rfl wp.heap.size 37 2 40 (.agg #[.string ⟨#[]⟩, .slice none 0 0]) Try.underlying22 infoPair rfl (by omega) (.slice A4 m c4) (m) (pairCells (ins x (xs.take k)).2 us) rfl ?_ _ 1 1 [.string key, .slice B bl.length cb] (by rfl) rfl (fun _ => ⟨_, rfl, cellsAt_row (heap_alloc_new wr _)⟩) (by simp [Value.oneCell']) (by unfold maxLen; omega) (by omega) (by have := hO.out.size; simp; omega) ?_; exact ownsRow_only hB.out ((Only.refl [] _).alloc _) (by simp); intro A7 c7 w7 hb7 ho7 _; have HB7 := Lib.hid hb7; have HO7 := Lib.hid (Only.then (hO.out.alloc (.cells #[.string key, .slice B bl.length cb] 37)) ho7 (fun i hi => .inr (ownsRow_lt hB.out (by simpa using hi)).1)); clear hb7 ho7; skip)
                          | (at_builtin; refine wpList_append_row rfl (.tmp 90) (.tmp 95) 22 rfl wp.heap.size 37 2 40 (.agg #[.string ⟨#[]⟩, .slice none 0 0]) Try.underlying22 infoPair rfl (by omega) (.slice A7 (m + 1) c7) (m + 1) (pairCells (ins x (xs.take k)).2 us ++ [.string key, .slice B bl.length cb]) rfl ?_ _ 1 1 [.string y.1, .slice BY y.2.length cy] (by rfl) rfl (fun _ => ⟨_, rfl, cellsAt_row (heap_alloc_new w7 _)⟩) (by simp [Value.oneCell']) (by unfold maxLen; omega) (by omega) (by have := HO7.out.size; simp; omega) ?_; exact ownsRow_only HB7.out ((Only.refl [] _).alloc _) (by simp); intro A8 c8 w8 hb8 ho8 _; have HB8 := Lib.hid hb8; have HO8 := Lib.hid (Only.then (HO7.out.alloc (.cells #[.string y.1, .slice BY y.2.length cy] 37)) ho8 (fun i hi => .inr (ownsRow_lt HB7.out (by simpa using hi)).1)); clear hb8 ho8; skip))
                        go_roundw
                        case rel =>
                          refine ⟨k + 1, m + 1 + 1, c8, A8, us ++ [.slice B bl.length cb] ++ [.slice BY y.2.length cy], true, by omega, by go_num, rfl, rfl, ?_, ?_, HNE, ?_, ?_, HO8⟩
                          · rw [HEQ.out]
                            exact Lib.hid rfl
                          · rw [HEQ.out, hm.out]
                            exact Lib.hid (by simp)
                          · rw [HEQ.out]
                            have hsx1 : Shows w ((ins x (xs.take k)).2 ++ [x]) (us ++ [.slice B bl.length cb]) := by
                              have h1 : x.2 = bl := by rw [HX.out]
                              have h2 := hsh.out.snoc (y := x) (B := B) (cap := cb) (by rw [h1]; exact hb) (by rw [h1]; exact HB.out)
                              rwa [h1] at h2
                            have h9 := HB8
                            have h1 : x.1 = key := by rw [HX.out]
                            rw [← h1, ← pairCells_snoc _ _ _ _ hsh.out.1, ← pairCells_snoc _ _ _ _ hsx1.1] at h9
                            rw [show (ins x (xs.take k)).2 ++ [x, y] = (ins x (xs.take k)).2 ++ [x] ++ [y] by simp]
                            exact h9
                          · rw [HEQ.out]
                            have hsx1 : Shows w ((ins x (xs.take k)).2 ++ [x]) (us ++ [.slice B bl.length cb]) := by
                              have h1 : x.2 = bl := by rw [HX.out]
                              have h2 := hsh.out.snoc (y := x) (B := B) (cap := cb) (by rw [h1]; exact hb) (by rw [h1]; exact HB.out)
                              rwa [h1] at h2
                            show Hid (Shows w ((ins x (xs.take k)).2 ++ [x, y]) _)
                            rw [show (ins x (xs.take k)).2 ++ [x, y] = (ins x (xs.take k)).2 ++ [x] ++ [y] by simp]
                            exact hsx1.snoc HCY.out HBY.out
                        case measure => simp [intOf]; omega
                      | false =>
                        have HEQ : Hid (ins x (xs.take (k + 1)) = ((ins x (xs.take k)).1, (ins x (xs.take k)).2 ++ [y])) := by
                          refine Lib.hid ?_
                          rw [HSTEP.out]
                          exact insStep_no (fun h => by have := HBF.out; rw [← this] at h; cases h.2)
                        go_wp2_with (first
                          | (with_reducible refine wpList_load_at rfl 37 (.tmp 93) rfl (ad.add (k * 2)) rfl _ _ (HC.out _ (HO4.out.trans hO.out)) Try.underlying37 rfl (by kernel_rfl) ?_)
                          | (at_builtin; refine wpList_append_row rfl (.tmp 90) (.tmp 95) 22 rfl wp.heap.size 37 2 40 (.agg #[.string ⟨#[]⟩, .slice none 0 0]) Try.underlying22 infoPair rfl (by omega) (.slice A4 m c4) (m) (pairCells (ins x (xs.take k)).2 us) rfl ?_ _ 1 1 [.string y.1, .slice BY y.2.length cy] (by rfl) rfl (fun _ => ⟨_, rfl, cellsAt_row (heap_alloc_new wr _)⟩) (by simp [Value.oneCell']) (by unfold maxLen; omega) (by omega) (by have := hO.out.size; simp; omega) ?_; exact ownsRow_only hB.out ((Only.refl [] _).alloc _) (by simp); intro A8 c8 w8 hb8 ho8 _; have HB8 := Lib.hid hb8; have HO8 := Lib.hid (Only.then (hO.out.alloc (.cells #[.string y.1, .slice BY y.2.length cy] 37)) ho8 (fun i hi => .inr (ownsRow_lt hB.out (by simpa using hi)).1)); clear hb8 ho8; skip))
                        go_roundw
                        case rel =>
                          refine ⟨k + 1, m + 1, c8, A8, us ++ [.slice BY y.2.length cy], _, by omega, by go_num, rfl, rfl, ?_, ?_, HNE, ?_, ?_, HO8⟩
                          · rw [HEQ.out]
                            exact hinn
                          · rw [HEQ.out, hm.out]
                            exact Lib.hid (by simp)
                          · rw [HEQ.out]
                            have h9 := HB8
                            rw [← pairCells_snoc _ _ _ _ hsh.out.1] at h9
                            exact h9
                          · rw [HEQ.out]
                            exact hsh.out.snoc HCY.out HBY.out
                        case measure => simp [intOf]; omega
                · obtain rfl : k = xs.length := by omega
                  have hne9 := hne.out
                  have hinn9 := hinn.out
                  have hm9 := hm.out
                  have hB9 := hB.out
                  have hsh9 := hsh.out
                  rw [List.take_length] at hne9 hinn9 hm9 hB9 hsh9
                  have hss : slots x ≠ 0 := by rw [HSX.out]; exact hs0
                  have HOKS := Lib.hid (insAll_ok HUP.out (layE_zero HE.out).1 hne9 hss)
                  have HLAY := Lib.hid (insAll_lay HE.out hne9 hss)
                  have hm22' := insTake_len (k := xs.length) HUP.out (Nat.le_refl _) (by rw [List.take_length]; exact hne9)
                  rw [List.take_length, ← hm9] at hm22'
                  clear hinn hm hne hB hsh hss
                  cases inn with
                  | true =>
                    have eM : insAll x xs = (ins x xs).2 := by unfold insAll; rw [if_pos hinn9.symm]
                    have HMM := Lib.hid (show m = (insAll x xs).length by rw [eM]; exact hm9)
                    have HROW := Lib.hid (show wr.ownsRow wp.heap.size 37 2 (.slice A4 m c4) m (pairCells (insAll x xs) us) by rw [eM]; exact hB9)
                    have HSHW := Lib.hid (show Shows w (insAll x xs) us by rw [eM]; exact hsh9)
                    clear eM hinn9 hm9 hB9 hsh9 hq0 hq1 hne9
                    have HPM := Lib.hid (shows_pairs (by rw [← HMM.out]; exact HROW.out) HSHW.out (HO4.out.trans hO.out))
                    have HFM := Lib.hid (fit_all HOKS.out.2.1)
                    have hm22 : m ≤ 22 := by rw [HMM.out, HOKS.out.2.2.2]; omega
                    have HOM := Lib.hid (HO4.out.trans hO.out)
                    clear HROW HSHW
                    generalize insAll x xs = ms at *
                    by_cases hfr : free xs < sx
                    · have hfr' : (free xs : Int) < sx := by omega
                      have hE3 := HLAY.out.1 (by rw [HSX.out]; exact hfr)
                      have HE3 := Lib.hid hE3
                      clear hE3
                      go_wp2_with (first
                        | (go_at_call 11; refine (lay_n A4 (m) c4 ms wr HMM.out.symm (by omega) HFM.out HPM.out).mono ?_; rw [HE3.out]; rintro e w11 ⟨Aw, nw, rfl, _, _, ho11⟩; have HO11 := Lib.hid (HOM.out.trans ho11); clear ho11)
                        | (go_at_call 13; refine (free_n A xs.length cap xs w11 rfl (by omega) HF.out (HA.out.only HO11.out)).mono ?_; rintro e w12 ⟨rfl, ho12⟩; have HO12 := Lib.hid (HO11.out.trans ho12); clear ho12))
                      go_ret
                      exact ⟨rfl, HO12.out⟩
                    · have hfr' : (sx : Int) ≤ free xs := by omega
                      obtain ⟨hE0, hfm⟩ := HLAY.out.2 (by rw [HSX.out]; omega)
                      rw [HSX.out] at hfm
                      have HE0 := Lib.hid hE0
                      have HRL := Lib.hid (readL_lay hE0)
                      have hms : ms.length ≤ 22 := by rw [← HMM.out]; exact hm22
                      have hf7 := free_le xs
                      have hq1 : IntKind.i64.wrap ((free xs : Int) - (sx : Int)) = free ms := by rw [IntWalk.i64_in _ (by omega)]; omega
                      clear hE0 hfm hfr hf7
                      go_wp2_with (first
                        | (go_at_call 11; refine (lay_n A4 (m) c4 ms wr HMM.out.symm (by omega) HFM.out HPM.out).mono ?_; rw [HE0.out]; rintro e w11 ⟨Aw, nw, rfl, hnw, hbw, ho11⟩; have HNW := Lib.hid hnw; have HBW := Lib.hid hbw; have HO11 := Lib.hid (HOM.out.trans ho11); have HPM1 := Lib.hid (HPM.out.only ho11); clear hnw hbw ho11; refine (fun (h : Hid _) => h.out) ?_))
                      refine Lib.hid ?_
                      have hnw9 : nw = 256 := by rw [← HNW.out]; exact layB_length HE0.out
                      subst hnw9
                      go_wp2_with (first
                        | (go_at_call 13; refine (free_n A xs.length cap xs w11 rfl (by omega) HF.out (HA.out.only HO11.out)).mono ?_; rintro e w12 ⟨rfl, ho12⟩; have HO12 := Lib.hid (HO11.out.trans ho12); have HPM2 := Lib.hid (HPM1.out.only ho12); have HBW2 := Lib.hid (HBW.out.only ho12); clear ho12)
                        | (go_at_call 15; refine (read_n Aw 256 256 (layB ms) w12 HNW.out (by omega) (Nat.le_refl _) (by omega) HBW2.out).mono ?_; rw [readE_some HRL.out, readR_some HRL.out]; rintro e w13 ⟨v13, us13, rfl, hr13, ho13⟩; have HR13 := Lib.hid hr13; have HO13 := Lib.hid (HO12.out.trans ho13); have HPM3 := Lib.hid (HPM2.out.only ho13); clear hr13 ho13; obtain ⟨A13, c13, rfl, _, _⟩ := ownsRow_slice HR13.out.row)
                        | (go_at_call 17; refine (same_m A13 A4 ms.length (m) c13 c4 ms ms w13 rfl HMM.out.symm (by omega) (by omega) HR13.out.pairs HPM3.out).mono ?_; rw [decide_eq_true rfl]; rintro e w14 ⟨rfl, ho14⟩; have HO14 := Lib.hid (HO13.out.trans ho14); have HPM4 := Lib.hid (HPM3.out.only ho14); clear ho14; refine (fun (h : Hid _) => h.out) ?_))
                      refine Lib.hid ?_
                      go_wp2_with (go_at_call 13; refine (free_n A4 (m) c4 ms w14 HMM.out.symm (by omega) HFM.out HPM4.out).mono ?_; rintro e w15 ⟨rfl, ho15⟩; have HO15 := Lib.hid (HO14.out.trans ho15); clear ho15; refine (fun (h : Hid _) => h.out) ?_)
                      refine Lib.hid ?_
                      go_wp2_with (go_at_call 13; refine (free_n A xs.length cap xs w15 rfl (by omega) HF.out (HA.out.only HO15.out)).mono ?_; rintro e w16 ⟨rfl, ho16⟩; have HO16 := Lib.hid (HO15.out.trans ho16); clear ho16)
                      go_ret
                      exact ⟨rfl, HO16.out⟩
                  | false =>
                    have eM : insAll x xs = (ins x xs).2 ++ [x] := by unfold insAll; rw [if_neg (by rw [← hinn9]; simp)]
                    have HB8 := Lib.hid hB9
                    have HMM := Lib.hid (show m + 1 = (insAll x xs).length by rw [eM, List.length_append, hm9]; rfl)
                    have hsx1 : Shows w ((ins x xs).2 ++ [x]) (us ++ [.slice B bl.length cb]) := by
                      have h1 : x.2 = bl := by rw [HX.out]
                      have h2 := hsh9.snoc (y := x) (B := B) (cap := cb) (by rw [h1]; exact hb) (by rw [h1]; exact HB.out)
                      rwa [h1] at h2
                    have HSHW := Lib.hid (show Shows w (insAll x xs) (us ++ [.slice B bl.length cb]) by rw [eM]; exact hsx1)
                    have HPC := Lib.hid (show pairCells (ins x xs).2 us ++ [.string key, .slice B bl.length cb] = pairCells (insAll x xs) (us ++ [.slice B bl.length cb]) by rw [eM, pairCells_snoc _ _ _ _ hsh9.1, HX.out])
                    clear eM hinn9 hm9 hB9 hsh9 hsx1 hne9
                    go_wp2_with (first
                      | (at_builtin; refine wpList_append_row rfl (.tmp 99) (.tmp 101) 22 rfl wp.heap.size 37 2 40 (.agg #[.string ⟨#[]⟩, .slice none 0 0]) Try.underlying22 infoPair rfl (by omega) (.slice A4 m c4) (m) (pairCells (ins x xs).2 us) rfl ?_ _ 1 1 [.string key, .slice B bl.length cb] (by rfl) rfl (fun _ => ⟨_, rfl, cellsAt_row (heap_alloc_new wr _)⟩) (by simp [Value.oneCell']) (by unfold maxLen; omega) (by omega) (by have := hO.out.size; simp; omega) ?_; exact ownsRow_only HB8.out ((Only.refl [] _).alloc _) (by simp); intro A7 c7 w7 hb7 ho7 _; have HB7 := Lib.hid hb7; have HO7 := Lib.hid (Only.then (hO.out.alloc (.cells #[.string key, .slice B bl.length cb] 37)) ho7 (fun i hi => .inr (ownsRow_lt HB8.out (by simpa using hi)).1)); clear hb7 ho7; skip))
                    have HROW := Lib.hid (show w7.ownsRow wp.heap.size 37 2 (.slice A7 (m + 1) c7) (m + 1) (pairCells (insAll x xs) (us ++ [.slice B bl.length cb])) by rw [← HPC.out]; exact HB7.out)
                    clear HPC HB8 hq0 hq1
                    have HPM := Lib.hid (shows_pairs (by rw [← HMM.out]; exact HROW.out) HSHW.out (HO4.out.trans HO7.out))
                    have HFM := Lib.hid (fit_all HOKS.out.2.1)
                    have hm22 : m + 1 ≤ 22 := by rw [HMM.out, HOKS.out.2.2.2]; omega
                    have HOM := Lib.hid (HO4.out.trans HO7.out)
                    clear HROW HSHW
                    generalize insAll x xs = ms at *
                    by_cases hfr : free xs < sx
                    · have hfr' : (free xs : Int) < sx := by omega
                      have hE3 := HLAY.out.1 (by rw [HSX.out]; exact hfr)
                      have HE3 := Lib.hid hE3
                      clear hE3
                      go_wp2_with (first
                        | (go_at_call 11; refine (lay_n A7 (m + 1) c7 ms w7 HMM.out.symm (by omega) HFM.out HPM.out).mono ?_; rw [HE3.out]; rintro e w11 ⟨Aw, nw, rfl, _, _, ho11⟩; have HO11 := Lib.hid (HOM.out.trans ho11); clear ho11)
                        | (go_at_call 13; refine (free_n A xs.length cap xs w11 rfl (by omega) HF.out (HA.out.only HO11.out)).mono ?_; rintro e w12 ⟨rfl, ho12⟩; have HO12 := Lib.hid (HO11.out.trans ho12); clear ho12))
                      go_ret
                      exact ⟨rfl, HO12.out⟩
                    · have hfr' : (sx : Int) ≤ free xs := by omega
                      obtain ⟨hE0, hfm⟩ := HLAY.out.2 (by rw [HSX.out]; omega)
                      rw [HSX.out] at hfm
                      have HE0 := Lib.hid hE0
                      have HRL := Lib.hid (readL_lay hE0)
                      have hms : ms.length ≤ 22 := by rw [← HMM.out]; exact hm22
                      have hf7 := free_le xs
                      have hq1 : IntKind.i64.wrap ((free xs : Int) - (sx : Int)) = free ms := by rw [IntWalk.i64_in _ (by omega)]; omega
                      clear hE0 hfm hfr hf7
                      go_wp2_with (first
                        | (go_at_call 11; refine (lay_n A7 (m + 1) c7 ms w7 HMM.out.symm (by omega) HFM.out HPM.out).mono ?_; rw [HE0.out]; rintro e w11 ⟨Aw, nw, rfl, hnw, hbw, ho11⟩; have HNW := Lib.hid hnw; have HBW := Lib.hid hbw; have HO11 := Lib.hid (HOM.out.trans ho11); have HPM1 := Lib.hid (HPM.out.only ho11); clear hnw hbw ho11; refine (fun (h : Hid _) => h.out) ?_))
                      refine Lib.hid ?_
                      have hnw9 : nw = 256 := by rw [← HNW.out]; exact layB_length HE0.out
                      subst hnw9
                      go_wp2_with (first
                        | (go_at_call 13; refine (free_n A xs.length cap xs w11 rfl (by omega) HF.out (HA.out.only HO11.out)).mono ?_; rintro e w12 ⟨rfl, ho12⟩; have HO12 := Lib.hid (HO11.out.trans ho12); have HPM2 := Lib.hid (HPM1.out.only ho12); have HBW2 := Lib.hid (HBW.out.only ho12); clear ho12)
                        | (go_at_call 15; refine (read_n Aw 256 256 (layB ms) w12 HNW.out (by omega) (Nat.le_refl _) (by omega) HBW2.out).mono ?_; rw [readE_some HRL.out, readR_some HRL.out]; rintro e w13 ⟨v13, us13, rfl, hr13, ho13⟩; have HR13 := Lib.hid hr13; have HO13 := Lib.hid (HO12.out.trans ho13); have HPM3 := Lib.hid (HPM2.out.only ho13); clear hr13 ho13; obtain ⟨A13, c13, rfl, _, _⟩ := ownsRow_slice HR13.out.row)
                        | (go_at_call 17; refine (same_m A13 A7 ms.length (m + 1) c13 c7 ms ms w13 rfl HMM.out.symm (by omega) (by omega) HR13.out.pairs HPM3.out).mono ?_; rw [decide_eq_true rfl]; rintro e w14 ⟨rfl, ho14⟩; have HO14 := Lib.hid (HO13.out.trans ho14); have HPM4 := Lib.hid (HPM3.out.only ho14); clear ho14; refine (fun (h : Hid _) => h.out) ?_))
                      refine Lib.hid ?_
                      go_wp2_with (go_at_call 13; refine (free_n A7 (m + 1) c7 ms w14 HMM.out.symm (by omega) HFM.out HPM4.out).mono ?_; rintro e w15 ⟨rfl, ho15⟩; have HO15 := Lib.hid (HO14.out.trans ho15); clear ho15; refine (fun (h : Hid _) => h.out) ?_)
                      refine Lib.hid ?_
                      go_wp2_with (go_at_call 13; refine (free_n A xs.length cap xs w15 rfl (by omega) HF.out (HA.out.only HO15.out)).mono ?_; rintro e w16 ⟨rfl, ho16⟩; have HO16 := Lib.hid (HO15.out.trans ho16); clear ho16)
                      go_ret
                      exact ⟨rfl, HO16.out⟩
          · go_wp2
            go_ret
            exact ⟨rfl, HO4.out⟩
        · have hb200' : (200 : Int) < bl.length := by omega
          clear hV2
          go_wp2
          go_ret
          exact ⟨rfl, HO2.out⟩
      · have hk200' : (200 : Int) < key.size := by omega
        clear hV2
        go_wp2
        go_ret
        exact ⟨rfl, HO2.out⟩
    · have hx20' : (20 : Int) < xs.length := by omega
      clear hV2
      go_wp2
      go_ret
      exact ⟨rfl, HO2.out⟩
theorem pageFills_walk (A : Option Addr) (cap : Nat) (xs : List (ByteArray × List Int × Unit)) (key : ByteArray) (B : Option Addr) (cb : Nat) (bs : List Int) (w : World) (hl : xs.length ≤ cap) (hb : cap * 40 ≤ 140737488351232) (hr : rdRow 2 rdRec w A xs)
    (hk : key.size ≤ 140737488351232) (hl2 : bs.length ≤ cb) (hb2 : cb * 1 ≤ 140737488351232) (hr2 : rdRow 1 (rdInt .u8) w B bs) :
    Calls Try.prog 8 #[.slice A xs.length cap, .string key, .slice B bs.length cb] w fun e w' => e = .returned (.bool true) ∧ Only [] w w' := by
  obtain ⟨ys, h1, h2, h3⟩ := recs_in hr
  obtain ⟨bl, h4, h5⟩ := bytes_in hr2
  rw [← h1, ← h4]
  exact fills_any A cap ys key B cb bl w (by omega) h3 h2 hk (by omega) (by omega) h5
end Go.Proofs.Ythkgpnkbbdpldaa
