import Derived.Test.YtlikjknakplamaaDoorMA1
import Derived.Laws.RangeAny
import Derived.Lib.ItoaNum
import Derived.Lib.TrimUEq
set_option linter.unusedVariables false
set_option linter.unusedSimpArgs false
namespace Go.Proofs.YtlikjknakplamaaDoorW.PrintWords
end Go.Proofs.YtlikjknakplamaaDoorW.PrintWords
namespace Go.Proofs.YtlikjknakplamaaDoorW.PrintLast
end Go.Proofs.YtlikjknakplamaaDoorW.PrintLast
namespace Go.Proofs.YtlikjknakplamaaDoorW.PrintMore
end Go.Proofs.YtlikjknakplamaaDoorW.PrintMore
/-! ### Print14 -/
namespace Go.Proofs.YtlikjknakplamaaDoor.Print
open Go.RowKit Go.Proofs.YtlikjknakplamaaDoorW.PrintWords Go.Proofs.YtlikjknakplamaaDoorW.PrintLast Go.Proofs.YtlikjknakplamaaDoorW.PrintMore
set_option linter.unusedVariables false
set_option linter.unusedSimpArgs false
def lex_Name.f (a0 : ByteArray) : Option (Bool) := (utf8_ValidString.f a0).bind fun t279 => (if t279 = true then ((lex_wordy.f a0).bind fun t280 => (if t280 = true then (if 0 < (a0.size : Int) then (if (bt a0 0) < 48 then ((utf8_RuneCountInString.f a0).bind fun t281 => (some (decide (t281 ≤ 12)))) else (if (bt a0 0) > 57 then ((utf8_RuneCountInString.f a0).bind fun t282 => (some (decide (t282 ≤ 12)))) else (some false))) else (none)) else (some false))) else (some false))
set_option maxHeartbeats 8000000 in
set_option maxRecDepth 100000 in
theorem lex_Name.calls (a0 : ByteArray) (r : Bool) (w : World) (hT : Tabs w) (h : lex_Name.f a0 = some r) :
    Calls Tryd.prog 26 #[.string a0] w fun e w' => e = .returned (.bool r) ∧ Below w.heap.size w w' := by
  have HB := Aside0.mk (Below.refl w.heap.size w)
  have H : ((utf8_ValidString.f a0).bind fun t279 => (if t279 = true then ((lex_wordy.f a0).bind fun t280 => (if t280 = true then (if 0 < (a0.size : Int) then (if (bt a0 0) < 48 then ((utf8_RuneCountInString.f a0).bind fun t281 => (some (decide (t281 ≤ 12)))) else (if (bt a0 0) > 57 then ((utf8_RuneCountInString.f a0).bind fun t282 => (some (decide (t282 ≤ 12)))) else (some false))) else (none)) else (some false))) else (some false))) = some r := h
  clear h
  replace H := Option.bind_eq_some_iff.mp H
  obtain ⟨t279, A20, H⟩ := H
  replace H : (if t279 = true then ((lex_wordy.f a0).bind fun t280 => (if t280 = true then (if 0 < (a0.size : Int) then (if (bt a0 0) < 48 then ((utf8_RuneCountInString.f a0).bind fun t281 => (some (decide (t281 ≤ 12)))) else (if (bt a0 0) > 57 then ((utf8_RuneCountInString.f a0).bind fun t282 => (some (decide (t282 ≤ 12)))) else (some false))) else (none)) else (some false))) else (some false)) = some r := H
  have A2 := Aside0.mk A20
  clear A20
  by_cases c3 : t279 = true
  · subst c3
    have H1 : ((lex_wordy.f a0).bind fun t280 => (if t280 = true then (if 0 < (a0.size : Int) then (if (bt a0 0) < 48 then ((utf8_RuneCountInString.f a0).bind fun t281 => (some (decide (t281 ≤ 12)))) else (if (bt a0 0) > 57 then ((utf8_RuneCountInString.f a0).bind fun t282 => (some (decide (t282 ≤ 12)))) else (some false))) else (none)) else (some false))) = some r := by rw [if_pos rfl] at H; exact H
    clear H
    have H := H1
    clear H1
    replace H := Option.bind_eq_some_iff.mp H
    obtain ⟨t280, A40, H⟩ := H
    replace H : (if t280 = true then (if 0 < (a0.size : Int) then (if (bt a0 0) < 48 then ((utf8_RuneCountInString.f a0).bind fun t281 => (some (decide (t281 ≤ 12)))) else (if (bt a0 0) > 57 then ((utf8_RuneCountInString.f a0).bind fun t282 => (some (decide (t282 ≤ 12)))) else (some false))) else (none)) else (some false)) = some r := H
    have A4 := Aside0.mk A40
    clear A40
    by_cases c5 : t280 = true
    · subst c5
      have H1 : (if 0 < (a0.size : Int) then (if (bt a0 0) < 48 then ((utf8_RuneCountInString.f a0).bind fun t281 => (some (decide (t281 ≤ 12)))) else (if (bt a0 0) > 57 then ((utf8_RuneCountInString.f a0).bind fun t282 => (some (decide (t282 ≤ 12)))) else (some false))) else (none)) = some r := by rw [if_pos rfl] at H; exact H
      clear H
      have H := H1
      clear H1
      by_cases c6 : 0 < (a0.size : Int)
      · rw [if_pos c6] at H
        have c6b0 : decide (0 < (a0.size : Int)) = true := decide_eq_true c6
        have c6b1 : decide (0 < a0.size) = true := decide_eq_true (by omega)
        clear c6
        by_cases c8 : (bt a0 0) < 48
        · rw [if_pos c8] at H
          have c8b0 : decide ((bt a0 0) < 48) = true := decide_eq_true c8
          clear c8
          replace H := Option.bind_eq_some_iff.mp H
          obtain ⟨t281, A90, H⟩ := H
          replace H : (some (decide (t281 ≤ 12))) = some r := H
          have A9 := Aside0.mk A90
          clear A90
          obtain rfl := Option.some.inj H
          go_enter Tryd.func26, Tryd.ntmps26
          go_wp2_with (first | ((with_reducible refine gate_callee (f := 37) rfl ?_); refine goesL_ (some 4) rfl rfl Tryd.func37 (by kernel_rfl) rfl #[.string a0] rfl (by (try simp only [List.map_toArray, List.map_cons, List.map_nil]); first | done | rfl | (simp only [List.length_drop, List.length_take]; rfl)) ?_; (with_reducible refine (utf8_ValidString.calls a0 true _ ?side1 A2.out).mono ?_); (case side1 => exact Tabs.below hT (by repeat (first | (with_reducible first | exact HB.out | apply below_alloc | apply pw_below_drewN | apply below_drew1) | exact HB.out))); rintro e w10 ⟨rfl, hb⟩; refine ⟨_, rfl, ?_⟩; have n0_ := Aside0.mk (below_step (by repeat (first | (with_reducible first | exact HB.out | apply below_alloc | apply pw_below_drewN | apply below_drew1) | exact HB.out)) hb); clear HB; have HB := n0_; clear n0_; (try clear hb); (try clear hb2); (try clear hk); (try clear hi)) | (go_at_call 39; (with_reducible refine (lex_wordy.calls a0 true _ A4.out).mono ?_); rintro e w11 ⟨rfl, hb⟩; have n0_ := Aside0.mk (below_step (by repeat (first | (with_reducible first | exact HB.out | apply below_alloc | apply pw_below_drewN | apply below_drew1) | exact HB.out)) hb); clear HB; have HB := n0_; clear n0_; (try clear hb); (try clear hb2); (try clear hk); (try clear hi); have p7 : 0 ≤ (0 : Int) := (by omega); have q7 : 0 < a0.size := (by have : (0 : Int) < (a0.size : Int) := of_decide_eq_true (by first | (with_reducible assumption) | assumption); omega); have hx7 : ∀ h : 0 < a0.size, ((a0[0]'h).toNat : Int) = bt a0 0 := bt_at a0 0; clear p7; have qi7 : (0 < (a0.size : Int)) = True := eq_true (of_decide_eq_true (by first | (with_reducible assumption) | assumption)); replace q7 := eq_true q7) | (go_at_call 38; (with_reducible refine (utf8_RuneCountInString.calls a0 t281 _ A9.out).mono ?_); rintro e w12 ⟨rfl, hb⟩; have n0_ := Aside0.mk (below_step (by repeat (first | (with_reducible first | exact HB.out | apply below_alloc | apply pw_below_drewN | apply below_drew1) | exact HB.out)) hb); clear HB; have HB := n0_; clear n0_; (try clear hb); (try clear hb2); (try clear hk); (try clear hi)))
          go_ret
          exact ⟨by first | rfl | (simp [errW_none, errW_some] <;> rfl) | (simp [*, errW_none, errW_some] <;> rfl), by repeat (first | (with_reducible first | exact HB.out | apply below_alloc | apply pw_below_drewN | apply below_drew1) | exact HB.out)⟩
        · rw [if_neg c8] at H
          have c8b0 : decide ((bt a0 0) < 48) = false := decide_eq_false c8
          clear c8
          by_cases c14 : (bt a0 0) > 57
          · rw [if_pos c14] at H
            have c14b0 : decide (57 < (bt a0 0)) = true := decide_eq_true c14
            clear c14
            replace H := Option.bind_eq_some_iff.mp H
            obtain ⟨t282, A150, H⟩ := H
            replace H : (some (decide (t282 ≤ 12))) = some r := H
            have A15 := Aside0.mk A150
            clear A150
            obtain rfl := Option.some.inj H
            go_enter Tryd.func26, Tryd.ntmps26
            go_wp2_with (first | ((with_reducible refine gate_callee (f := 37) rfl ?_); refine goesL_ (some 4) rfl rfl Tryd.func37 (by kernel_rfl) rfl #[.string a0] rfl (by (try simp only [List.map_toArray, List.map_cons, List.map_nil]); first | done | rfl | (simp only [List.length_drop, List.length_take]; rfl)) ?_; (with_reducible refine (utf8_ValidString.calls a0 true _ ?side1 A2.out).mono ?_); (case side1 => exact Tabs.below hT (by repeat (first | (with_reducible first | exact HB.out | apply below_alloc | apply pw_below_drewN | apply below_drew1) | exact HB.out))); rintro e w16 ⟨rfl, hb⟩; refine ⟨_, rfl, ?_⟩; have n0_ := Aside0.mk (below_step (by repeat (first | (with_reducible first | exact HB.out | apply below_alloc | apply pw_below_drewN | apply below_drew1) | exact HB.out)) hb); clear HB; have HB := n0_; clear n0_; (try clear hb); (try clear hb2); (try clear hk); (try clear hi)) | (go_at_call 39; (with_reducible refine (lex_wordy.calls a0 true _ A4.out).mono ?_); rintro e w17 ⟨rfl, hb⟩; have n0_ := Aside0.mk (below_step (by repeat (first | (with_reducible first | exact HB.out | apply below_alloc | apply pw_below_drewN | apply below_drew1) | exact HB.out)) hb); clear HB; have HB := n0_; clear n0_; (try clear hb); (try clear hb2); (try clear hk); (try clear hi); have p7 : 0 ≤ (0 : Int) := (by omega); have q7 : 0 < a0.size := (by have : (0 : Int) < (a0.size : Int) := of_decide_eq_true (by first | (with_reducible assumption) | assumption); omega); have hx7 : ∀ h : 0 < a0.size, ((a0[0]'h).toNat : Int) = bt a0 0 := bt_at a0 0; clear p7; have qi7 : (0 < (a0.size : Int)) = True := eq_true (of_decide_eq_true (by first | (with_reducible assumption) | assumption)); replace q7 := eq_true q7; have p13 : 0 ≤ (0 : Int) := (by omega); have q13 : 0 < a0.size := (by have : (0 : Int) < (a0.size : Int) := of_decide_eq_true (by first | (with_reducible assumption) | assumption); omega); have hx13 : ∀ h : 0 < a0.size, ((a0[0]'h).toNat : Int) = bt a0 0 := bt_at a0 0; clear p13; have qi13 : (0 < (a0.size : Int)) = True := eq_true (of_decide_eq_true (by first | (with_reducible assumption) | assumption)); replace q13 := eq_true q13) | (go_at_call 38; (with_reducible refine (utf8_RuneCountInString.calls a0 t282 _ A15.out).mono ?_); rintro e w18 ⟨rfl, hb⟩; have n0_ := Aside0.mk (below_step (by repeat (first | (with_reducible first | exact HB.out | apply below_alloc | apply pw_below_drewN | apply below_drew1) | exact HB.out)) hb); clear HB; have HB := n0_; clear n0_; (try clear hb); (try clear hb2); (try clear hk); (try clear hi)))
            go_ret
            exact ⟨by first | rfl | (simp [errW_none, errW_some] <;> rfl) | (simp [*, errW_none, errW_some] <;> rfl), by repeat (first | (with_reducible first | exact HB.out | apply below_alloc | apply pw_below_drewN | apply below_drew1) | exact HB.out)⟩
          · rw [if_neg c14] at H
            have c14b0 : decide (57 < (bt a0 0)) = false := decide_eq_false c14
            clear c14
            obtain rfl := Option.some.inj H
            go_enter Tryd.func26, Tryd.ntmps26
            go_wp2_with (first | ((with_reducible refine gate_callee (f := 37) rfl ?_); refine goesL_ (some 4) rfl rfl Tryd.func37 (by kernel_rfl) rfl #[.string a0] rfl (by (try simp only [List.map_toArray, List.map_cons, List.map_nil]); first | done | rfl | (simp only [List.length_drop, List.length_take]; rfl)) ?_; (with_reducible refine (utf8_ValidString.calls a0 true _ ?side1 A2.out).mono ?_); (case side1 => exact Tabs.below hT (by repeat (first | (with_reducible first | exact HB.out | apply below_alloc | apply pw_below_drewN | apply below_drew1) | exact HB.out))); rintro e w19 ⟨rfl, hb⟩; refine ⟨_, rfl, ?_⟩; have n0_ := Aside0.mk (below_step (by repeat (first | (with_reducible first | exact HB.out | apply below_alloc | apply pw_below_drewN | apply below_drew1) | exact HB.out)) hb); clear HB; have HB := n0_; clear n0_; (try clear hb); (try clear hb2); (try clear hk); (try clear hi)) | (go_at_call 39; (with_reducible refine (lex_wordy.calls a0 true _ A4.out).mono ?_); rintro e w20 ⟨rfl, hb⟩; have n0_ := Aside0.mk (below_step (by repeat (first | (with_reducible first | exact HB.out | apply below_alloc | apply pw_below_drewN | apply below_drew1) | exact HB.out)) hb); clear HB; have HB := n0_; clear n0_; (try clear hb); (try clear hb2); (try clear hk); (try clear hi); have p7 : 0 ≤ (0 : Int) := (by omega); have q7 : 0 < a0.size := (by have : (0 : Int) < (a0.size : Int) := of_decide_eq_true (by first | (with_reducible assumption) | assumption); omega); have hx7 : ∀ h : 0 < a0.size, ((a0[0]'h).toNat : Int) = bt a0 0 := bt_at a0 0; clear p7; have qi7 : (0 < (a0.size : Int)) = True := eq_true (of_decide_eq_true (by first | (with_reducible assumption) | assumption)); replace q7 := eq_true q7; have p13 : 0 ≤ (0 : Int) := (by omega); have q13 : 0 < a0.size := (by have : (0 : Int) < (a0.size : Int) := of_decide_eq_true (by first | (with_reducible assumption) | assumption); omega); have hx13 : ∀ h : 0 < a0.size, ((a0[0]'h).toNat : Int) = bt a0 0 := bt_at a0 0; clear p13; have qi13 : (0 < (a0.size : Int)) = True := eq_true (of_decide_eq_true (by first | (with_reducible assumption) | assumption)); replace q13 := eq_true q13))
            go_ret
            exact ⟨by first | rfl | (simp [errW_none, errW_some] <;> rfl) | (simp [*, errW_none, errW_some] <;> rfl), by repeat (first | (with_reducible first | exact HB.out | apply below_alloc | apply pw_below_drewN | apply below_drew1) | exact HB.out)⟩
      · rw [if_neg c6] at H
        exact absurd H (by simp)
    · replace c5 := Bool.eq_false_iff.mpr c5
      subst c5
      have H1 : (some false) = some r := by rw [if_neg (show ¬ (false = true) by decide)] at H; exact H
      clear H
      have H := H1
      clear H1
      obtain rfl := Option.some.inj H
      go_enter Tryd.func26, Tryd.ntmps26
      go_wp2_with (first | ((with_reducible refine gate_callee (f := 37) rfl ?_); refine goesL_ (some 4) rfl rfl Tryd.func37 (by kernel_rfl) rfl #[.string a0] rfl (by (try simp only [List.map_toArray, List.map_cons, List.map_nil]); first | done | rfl | (simp only [List.length_drop, List.length_take]; rfl)) ?_; (with_reducible refine (utf8_ValidString.calls a0 true _ ?side1 A2.out).mono ?_); (case side1 => exact Tabs.below hT (by repeat (first | (with_reducible first | exact HB.out | apply below_alloc | apply pw_below_drewN | apply below_drew1) | exact HB.out))); rintro e w21 ⟨rfl, hb⟩; refine ⟨_, rfl, ?_⟩; have n0_ := Aside0.mk (below_step (by repeat (first | (with_reducible first | exact HB.out | apply below_alloc | apply pw_below_drewN | apply below_drew1) | exact HB.out)) hb); clear HB; have HB := n0_; clear n0_; (try clear hb); (try clear hb2); (try clear hk); (try clear hi)) | (go_at_call 39; (with_reducible refine (lex_wordy.calls a0 false _ A4.out).mono ?_); rintro e w22 ⟨rfl, hb⟩; have n0_ := Aside0.mk (below_step (by repeat (first | (with_reducible first | exact HB.out | apply below_alloc | apply pw_below_drewN | apply below_drew1) | exact HB.out)) hb); clear HB; have HB := n0_; clear n0_; (try clear hb); (try clear hb2); (try clear hk); (try clear hi)))
      go_ret
      exact ⟨by first | rfl | (simp [errW_none, errW_some] <;> rfl) | (simp [*, errW_none, errW_some] <;> rfl), by repeat (first | (with_reducible first | exact HB.out | apply below_alloc | apply pw_below_drewN | apply below_drew1) | exact HB.out)⟩
  · replace c3 := Bool.eq_false_iff.mpr c3
    subst c3
    have H1 : (some false) = some r := by rw [if_neg (show ¬ (false = true) by decide)] at H; exact H
    clear H
    have H := H1
    clear H1
    obtain rfl := Option.some.inj H
    go_enter Tryd.func26, Tryd.ntmps26
    go_wp2_with (first | ((with_reducible refine gate_callee (f := 37) rfl ?_); refine goesL_ (some 4) rfl rfl Tryd.func37 (by kernel_rfl) rfl #[.string a0] rfl (by (try simp only [List.map_toArray, List.map_cons, List.map_nil]); first | done | rfl | (simp only [List.length_drop, List.length_take]; rfl)) ?_; (with_reducible refine (utf8_ValidString.calls a0 false _ ?side1 A2.out).mono ?_); (case side1 => exact Tabs.below hT (by repeat (first | (with_reducible first | exact HB.out | apply below_alloc | apply pw_below_drewN | apply below_drew1) | exact HB.out))); rintro e w23 ⟨rfl, hb⟩; refine ⟨_, rfl, ?_⟩; have n0_ := Aside0.mk (below_step (by repeat (first | (with_reducible first | exact HB.out | apply below_alloc | apply pw_below_drewN | apply below_drew1) | exact HB.out)) hb); clear HB; have HB := n0_; clear n0_; (try clear hb); (try clear hb2); (try clear hk); (try clear hi)))
    go_ret
    exact ⟨by first | rfl | (simp [errW_none, errW_some] <;> rfl) | (simp [*, errW_none, errW_some] <;> rfl), by repeat (first | (with_reducible first | exact HB.out | apply below_alloc | apply pw_below_drewN | apply below_drew1) | exact HB.out)⟩
end Go.Proofs.YtlikjknakplamaaDoor.Print
/-! ### Print15 -/
namespace Go.Proofs.YtlikjknakplamaaDoor.Print
open Go.RowKit Go.Proofs.YtlikjknakplamaaDoorW.PrintWords Go.Proofs.YtlikjknakplamaaDoorW.PrintLast Go.Proofs.YtlikjknakplamaaDoorW.PrintMore
set_option linter.unusedVariables false
set_option linter.unusedSimpArgs false
mutual
def malthouselaw01_LexWords.j0 : Nat → ByteArray → Int → Bool → Option (Bool)
  | 0, _, _, _ => none
  | k + 1, x0, x1, x5 => (lex_Quote.f x0).bind fun bt312 => (if bt312.2 = true then ((lex_Cut.f bt312.1).bind fun bt314 => (if bt314.2.1 = 0 then (if (bt314.1.length : Int) = 2 then (if 0 < (bt314.1.length : Int) then (if ((rd_T38 bt314.1 0).f0) = 3 then (if ((rd_T38 bt314.1 0).f1).toList = x0.toList then (malthouselaw01_LexWords.j1 k x1 x5) else (some false)) else (some false)) else (none)) else (some false)) else (some false))) else (malthouselaw01_LexWords.j1 k x1 x5))
def malthouselaw01_LexWords.j1 : Nat → Int → Bool → Option (Bool)
  | 0, _, _ => none
  | k + 1, x1, x5 => if x1 ≥ 0 then ((lex_Show.f x1).bind fun t321 => ((lex_Cut.f t321).bind fun bt322 => (if bt322.2.1 = 0 then (if (bt322.1.length : Int) = 2 then (if 0 < (bt322.1.length : Int) then (if ((rd_T38 bt322.1 0).f0) = 2 then (if ((rd_T38 bt322.1 0).f2) = x1 then (some x5) else (some false)) else (some false)) else (none)) else (some false)) else (some false)))) else (some x5)
end
def malthouselaw01_LexWords.f (k : Nat) (a0 : ByteArray) (a1 : Int) : Option (Bool) := (malthouselaw01_awake.f).bind fun t303 => (if (a0.size : Int) > 100 then (some t303) else ((lex_Name.f a0).bind fun t304 => (if t304 = true then ((lex_Cut.f a0).bind fun bt305 => (if bt305.2.1 = 0 then (if (bt305.1.length : Int) = 2 then (if 0 < (bt305.1.length : Int) then (if ((rd_T38 bt305.1 0).f0) = 1 then (if ((rd_T38 bt305.1 0).f1).toList = a0.toList then (malthouselaw01_LexWords.j0 k a0 a1 t303) else (some false)) else (some false)) else (none)) else (some false)) else (some false))) else (malthouselaw01_LexWords.j0 k a0 a1 t303))))
set_option maxHeartbeats 8000000 in
set_option maxRecDepth 100000 in
theorem malthouselaw01_LexWords.calls (k : Nat) (a0 : ByteArray) (a1 : Int) (r : Bool) (w : World) (hT : Tabs w) (h : malthouselaw01_LexWords.f k a0 a1 = some r) :
    Calls Tryd.prog 11 #[.string a0, .int .i64 a1] w fun e w' => e = .returned (.bool r) ∧ Below w.heap.size w w' := by
  have HB := Aside0.mk (Below.refl w.heap.size w)
  have H : ((malthouselaw01_awake.f).bind fun t303 => (if (a0.size : Int) > 100 then (some t303) else ((lex_Name.f a0).bind fun t304 => (if t304 = true then ((lex_Cut.f a0).bind fun bt305 => (if bt305.2.1 = 0 then (if (bt305.1.length : Int) = 2 then (if 0 < (bt305.1.length : Int) then (if ((rd_T38 bt305.1 0).f0) = 1 then (if ((rd_T38 bt305.1 0).f1).toList = a0.toList then (malthouselaw01_LexWords.j0 k a0 a1 t303) else (some false)) else (some false)) else (none)) else (some false)) else (some false))) else (malthouselaw01_LexWords.j0 k a0 a1 t303))))) = some r := h
  clear h
  replace H := Option.bind_eq_some_iff.mp H
  obtain ⟨t303, A30, H⟩ := H
  replace H : (if (a0.size : Int) > 100 then (some t303) else ((lex_Name.f a0).bind fun t304 => (if t304 = true then ((lex_Cut.f a0).bind fun bt305 => (if bt305.2.1 = 0 then (if (bt305.1.length : Int) = 2 then (if 0 < (bt305.1.length : Int) then (if ((rd_T38 bt305.1 0).f0) = 1 then (if ((rd_T38 bt305.1 0).f1).toList = a0.toList then (malthouselaw01_LexWords.j0 k a0 a1 t303) else (some false)) else (some false)) else (none)) else (some false)) else (some false))) else (malthouselaw01_LexWords.j0 k a0 a1 t303)))) = some r := H
  have A3 := Aside0.mk A30
  clear A30
  by_cases c4 : (a0.size : Int) > 100
  · rw [if_pos c4] at H
    have c4b0 : decide (100 < (a0.size : Int)) = true := decide_eq_true c4
    have c4b1 : decide (100 < a0.size) = true := decide_eq_true (by omega)
    clear c4
    obtain rfl := Option.some.inj H
    go_enter Tryd.func11, Tryd.ntmps11
    go_wp2_with (first | ((with_reducible refine gate_callee (f := 12) rfl ?_); refine goesL_ (some 17) rfl rfl Tryd.func12 (by kernel_rfl) rfl #[] rfl (by (try simp only [List.map_toArray, List.map_cons, List.map_nil]); first | done | rfl | (simp only [List.length_drop, List.length_take]; rfl)) ?_; (with_reducible refine (malthouselaw01_awake.calls  t303 _ ?side1 A3.out).mono ?_); (case side1 => exact Tabs.below hT (by repeat (first | (with_reducible first | exact HB.out | apply below_alloc | apply pw_below_drewN | apply below_drew1) | exact HB.out))); rintro e w5 ⟨rfl, hb⟩; refine ⟨_, rfl, ?_⟩; have n0_ := Aside0.mk (below_step (by repeat (first | (with_reducible first | exact HB.out | apply below_alloc | apply pw_below_drewN | apply below_drew1) | exact HB.out)) hb); clear HB; have HB := n0_; clear n0_; (try clear hb); (try clear hb2); (try clear hk); (try clear hi)))
    go_ret
    exact ⟨by first | rfl | (simp [errW_none, errW_some] <;> rfl) | (simp [*, errW_none, errW_some] <;> rfl), by repeat (first | (with_reducible first | exact HB.out | apply below_alloc | apply pw_below_drewN | apply below_drew1) | exact HB.out)⟩
  · rw [if_neg c4] at H
    have c4b0 : decide (100 < (a0.size : Int)) = false := decide_eq_false c4
    have c4b1 : decide (100 < a0.size) = false := decide_eq_false (by omega)
    clear c4
    replace H := Option.bind_eq_some_iff.mp H
    obtain ⟨t304, A60, H⟩ := H
    replace H : (if t304 = true then ((lex_Cut.f a0).bind fun bt305 => (if bt305.2.1 = 0 then (if (bt305.1.length : Int) = 2 then (if 0 < (bt305.1.length : Int) then (if ((rd_T38 bt305.1 0).f0) = 1 then (if ((rd_T38 bt305.1 0).f1).toList = a0.toList then (malthouselaw01_LexWords.j0 k a0 a1 t303) else (some false)) else (some false)) else (none)) else (some false)) else (some false))) else (malthouselaw01_LexWords.j0 k a0 a1 t303)) = some r := H
    have A6 := Aside0.mk A60
    clear A60
    have HC7 := Aside0.mk H
    clear H
    go_enter Tryd.func11, Tryd.ntmps11
    go_upto_if 23 with (first | ((with_reducible refine gate_callee (f := 12) rfl ?_); refine goesL_ (some 17) rfl rfl Tryd.func12 (by kernel_rfl) rfl #[] rfl (by (try simp only [List.map_toArray, List.map_cons, List.map_nil]); first | done | rfl | (simp only [List.length_drop, List.length_take]; rfl)) ?_; (with_reducible refine (malthouselaw01_awake.calls  t303 _ ?side1 A3.out).mono ?_); (case side1 => exact Tabs.below hT (by repeat (first | (with_reducible first | exact HB.out | apply below_alloc | apply pw_below_drewN | apply below_drew1) | exact HB.out))); rintro e w8 ⟨rfl, hb⟩; refine ⟨_, rfl, ?_⟩; have n0_ := Aside0.mk (below_step (by repeat (first | (with_reducible first | exact HB.out | apply below_alloc | apply pw_below_drewN | apply below_drew1) | exact HB.out)) hb); clear HB; have HB := n0_; clear n0_; (try clear hb); (try clear hb2); (try clear hk); (try clear hi)) | ((with_reducible refine gate_callee (f := 26) rfl ?_); refine goesL_ (some 23) rfl rfl Tryd.func26 (by kernel_rfl) rfl #[.string a0] rfl (by (try simp only [List.map_toArray, List.map_cons, List.map_nil]); first | done | rfl | (simp only [List.length_drop, List.length_take]; rfl)) ?_; (with_reducible refine (lex_Name.calls a0 t304 _ ?side1 A6.out).mono ?_); (case side1 => exact Tabs.below hT (by repeat (first | (with_reducible first | exact HB.out | apply below_alloc | apply pw_below_drewN | apply below_drew1) | exact HB.out))); rintro e w9 ⟨rfl, hb⟩; refine ⟨_, rfl, ?_⟩; have n0_ := Aside0.mk (below_step (by repeat (first | (with_reducible first | exact HB.out | apply below_alloc | apply pw_below_drewN | apply below_drew1) | exact HB.out)) hb); clear HB; have HB := n0_; clear n0_; (try clear hb); (try clear hb2); (try clear hk); (try clear hi)))
    (try simp only [Act.put, List.setIfInBounds_toArray, List.set_cons_zero, List.set_cons_succ])
    go_cut [] (fun wc => ∃ (kq : Nat), Aside0 (malthouselaw01_LexWords.j0 kq a0 a1 t303 = some r) ∧ Aside0 (kq ≤ k) ∧ Aside0 (Below w.heap.size w wc))
    case first =>
      have H := HC7.out
      clear HC7
      by_cases c10 : t304 = true
      · subst c10
        have H1 : ((lex_Cut.f a0).bind fun bt305 => (if bt305.2.1 = 0 then (if (bt305.1.length : Int) = 2 then (if 0 < (bt305.1.length : Int) then (if ((rd_T38 bt305.1 0).f0) = 1 then (if ((rd_T38 bt305.1 0).f1).toList = a0.toList then (malthouselaw01_LexWords.j0 k a0 a1 t303) else (some false)) else (some false)) else (none)) else (some false)) else (some false))) = some r := by rw [if_pos rfl] at H; exact H
        clear H
        have H := H1
        clear H1
        replace H := Option.bind_eq_some_iff.mp H
        obtain ⟨⟨t305, t306, t307⟩, A110, H⟩ := H
        replace H : (if t306 = 0 then (if (t305.length : Int) = 2 then (if 0 < (t305.length : Int) then (if ((rd_T38 t305 0).f0) = 1 then (if ((rd_T38 t305 0).f1).toList = a0.toList then (malthouselaw01_LexWords.j0 k a0 a1 t303) else (some false)) else (some false)) else (none)) else (some false)) else (some false)) = some r := H
        have A11 := Aside0.mk A110
        clear A110
        by_cases c12 : t306 = 0
        · rw [if_pos c12] at H
          have c12b0 : (t306 == 0) = true := beq_iff_eq.mpr c12
          have c12b1 : (t306 != 0) = false := bne_eq_false_iff_eq.mpr c12
          clear c12
          (first | rw [c12b0] | (simp only [i64_w, i32_w]; rw [c12b0]) | skip)
          by_cases c13 : (t305.length : Int) = 2
          · rw [if_pos c13] at H
            have c13b0 : ((t305.length : Int) == 2) = true := beq_iff_eq.mpr c13
            have c13b1 : ((t305.length : Int) != 2) = false := bne_eq_false_iff_eq.mpr c13
            clear c13
            by_cases c14 : 0 < (t305.length : Int)
            · rw [if_pos c14] at H
              have c14b0 : decide (0 < (t305.length : Int)) = true := decide_eq_true c14
              have c14b1 : decide (0 < t305.length) = true := decide_eq_true (by omega)
              clear c14
              by_cases c15 : ((rd_T38 t305 0).f0) = 1
              · rw [if_pos c15] at H
                have c15b0 : (((rd_T38 t305 0).f0) == 1) = true := beq_iff_eq.mpr c15
                have c15b1 : (((rd_T38 t305 0).f0) != 1) = false := bne_eq_false_iff_eq.mpr c15
                clear c15
                by_cases c16 : ((rd_T38 t305 0).f1).toList = a0.toList
                · rw [if_pos c16] at H
                  have c16b0 : (((rd_T38 t305 0).f1).toList == a0.toList) = true := beq_iff_eq.mpr c16
                  have c16b1 : (((rd_T38 t305 0).f1).toList != a0.toList) = false := bne_eq_false_iff_eq.mpr c16
                  clear c16
                  have H' := Aside0.mk H
                  clear H
                  go_wp2_with (first | ((with_reducible refine gate_callee (f := 13) rfl ?_); refine goesL_ (some 26) rfl rfl Tryd.func13 (by kernel_rfl) rfl #[.string a0] rfl (by (try simp only [List.map_toArray, List.map_cons, List.map_nil]); first | done | rfl | (simp only [List.length_drop, List.length_take]; rfl)) ?_; (with_reducible refine (lex_Cut.calls a0 t305 t306 t307 _ ?side1 A11.out).mono ?_); (case side1 => exact Tabs.below hT (by repeat (first | (with_reducible first | exact HB.out | apply below_alloc | apply pw_below_drewN | apply below_drew1) | exact HB.out))); rintro e w17 ⟨v308, rfl, ho0, hb⟩; refine ⟨_, rfl, ?_⟩; have n0_ := Aside0.mk (Kd.R_lower ho0 (below_size (by repeat (first | (with_reducible first | exact HB.out | apply below_alloc | apply pw_below_drewN | apply below_drew1) | exact HB.out)))); have n1_ := Aside0.mk (below_step (by repeat (first | (with_reducible first | exact HB.out | apply below_alloc | apply pw_below_drewN | apply below_drew1) | exact HB.out)) hb); clear HB; have HO309 := n0_; have HB := n1_; clear n0_ n1_; (try clear hb); (try clear hb2); (try clear hk); (try clear hi); (try clear ho0); obtain ⟨Ao18, co18, eo18⟩ := Kd.R_slice HO309.out; subst eo18; have p310 : 0 ≤ (0 : Int) := (by omega); have q310 : 0 < (t305.length : Int) := of_decide_eq_true (by first | (with_reducible assumption) | assumption); obtain ⟨ad310, e310, hx310_0, hx310_1, hx310_2, hx310_3⟩ := at_T38 (Kd.R_reads' HO309.out).2.2 0 p310 q310; cases e310; have qi310 : (0 < t305.length) = True := eq_true (by omega); (try rw [show ((0 : Int)).toNat = 0 from rfl] at hx310_0); (try rw [show 0 * 4 = 0 from rfl] at hx310_0); (try rw [Addr.add_zero'] at hx310_0); (try rw [show ((0 : Int)).toNat = 0 from rfl] at hx310_1); (try rw [show 0 * 4 = 0 from rfl] at hx310_1); (try rw [Addr.add_zero'] at hx310_1); (try rw [show ((0 : Int)).toNat = 0 from rfl] at hx310_2); (try rw [show 0 * 4 = 0 from rfl] at hx310_2); (try rw [Addr.add_zero'] at hx310_2); (try rw [show ((0 : Int)).toNat = 0 from rfl] at hx310_3); (try rw [show 0 * 4 = 0 from rfl] at hx310_3); (try rw [Addr.add_zero'] at hx310_3); replace p310 := eq_true p310; replace q310 := eq_true q310; have p311 : 0 ≤ (0 : Int) := (by omega); have q311 : 0 < (t305.length : Int) := of_decide_eq_true (by first | (with_reducible assumption) | assumption); obtain ⟨ad311, e311, hx311_0, hx311_1, hx311_2, hx311_3⟩ := at_T38 (Kd.R_reads' HO309.out).2.2 0 p311 q311; obtain rfl : ad310 = ad311 := (by injection e311); have qi311 : (0 < t305.length) = True := eq_true (by omega); (try rw [show ((0 : Int)).toNat = 0 from rfl] at hx311_0); (try rw [show 0 * 4 = 0 from rfl] at hx311_0); (try rw [Addr.add_zero'] at hx311_0); (try rw [show ((0 : Int)).toNat = 0 from rfl] at hx311_1); (try rw [show 0 * 4 = 0 from rfl] at hx311_1); (try rw [Addr.add_zero'] at hx311_1); (try rw [show ((0 : Int)).toNat = 0 from rfl] at hx311_2); (try rw [show 0 * 4 = 0 from rfl] at hx311_2); (try rw [Addr.add_zero'] at hx311_2); (try rw [show ((0 : Int)).toNat = 0 from rfl] at hx311_3); (try rw [show 0 * 4 = 0 from rfl] at hx311_3); (try rw [Addr.add_zero'] at hx311_3); replace p311 := eq_true p311; replace q311 := eq_true q311))
                  go_meet
                  case rel => exact ⟨_, H', ⟨by first | omega | exact Nat.le_refl _⟩, ⟨by repeat (first | (with_reducible first | exact HB.out | apply below_alloc | apply pw_below_drewN | apply below_drew1) | exact HB.out)⟩⟩
                · rw [if_neg c16] at H
                  have c16b0 : (((rd_T38 t305 0).f1).toList == a0.toList) = false := beq_eq_false_iff_ne.mpr c16
                  have c16b1 : (((rd_T38 t305 0).f1).toList != a0.toList) = true := bne_iff_ne.mpr c16
                  obtain rfl := Option.some.inj H
                  go_wp2_with (first | ((with_reducible refine gate_callee (f := 13) rfl ?_); refine goesL_ (some 26) rfl rfl Tryd.func13 (by kernel_rfl) rfl #[.string a0] rfl (by (try simp only [List.map_toArray, List.map_cons, List.map_nil]); first | done | rfl | (simp only [List.length_drop, List.length_take]; rfl)) ?_; (with_reducible refine (lex_Cut.calls a0 t305 t306 t307 _ ?side1 A11.out).mono ?_); (case side1 => exact Tabs.below hT (by repeat (first | (with_reducible first | exact HB.out | apply below_alloc | apply pw_below_drewN | apply below_drew1) | exact HB.out))); rintro e w19 ⟨v308, rfl, ho0, hb⟩; refine ⟨_, rfl, ?_⟩; have n0_ := Aside0.mk (Kd.R_lower ho0 (below_size (by repeat (first | (with_reducible first | exact HB.out | apply below_alloc | apply pw_below_drewN | apply below_drew1) | exact HB.out)))); have n1_ := Aside0.mk (below_step (by repeat (first | (with_reducible first | exact HB.out | apply below_alloc | apply pw_below_drewN | apply below_drew1) | exact HB.out)) hb); clear HB; have HO309 := n0_; have HB := n1_; clear n0_ n1_; (try clear hb); (try clear hb2); (try clear hk); (try clear hi); (try clear ho0); obtain ⟨Ao20, co20, eo20⟩ := Kd.R_slice HO309.out; subst eo20; have p310 : 0 ≤ (0 : Int) := (by omega); have q310 : 0 < (t305.length : Int) := of_decide_eq_true (by first | (with_reducible assumption) | assumption); obtain ⟨ad310, e310, hx310_0, hx310_1, hx310_2, hx310_3⟩ := at_T38 (Kd.R_reads' HO309.out).2.2 0 p310 q310; cases e310; have qi310 : (0 < t305.length) = True := eq_true (by omega); (try rw [show ((0 : Int)).toNat = 0 from rfl] at hx310_0); (try rw [show 0 * 4 = 0 from rfl] at hx310_0); (try rw [Addr.add_zero'] at hx310_0); (try rw [show ((0 : Int)).toNat = 0 from rfl] at hx310_1); (try rw [show 0 * 4 = 0 from rfl] at hx310_1); (try rw [Addr.add_zero'] at hx310_1); (try rw [show ((0 : Int)).toNat = 0 from rfl] at hx310_2); (try rw [show 0 * 4 = 0 from rfl] at hx310_2); (try rw [Addr.add_zero'] at hx310_2); (try rw [show ((0 : Int)).toNat = 0 from rfl] at hx310_3); (try rw [show 0 * 4 = 0 from rfl] at hx310_3); (try rw [Addr.add_zero'] at hx310_3); replace p310 := eq_true p310; replace q310 := eq_true q310; have p311 : 0 ≤ (0 : Int) := (by omega); have q311 : 0 < (t305.length : Int) := of_decide_eq_true (by first | (with_reducible assumption) | assumption); obtain ⟨ad311, e311, hx311_0, hx311_1, hx311_2, hx311_3⟩ := at_T38 (Kd.R_reads' HO309.out).2.2 0 p311 q311; obtain rfl : ad310 = ad311 := (by injection e311); have qi311 : (0 < t305.length) = True := eq_true (by omega); (try rw [show ((0 : Int)).toNat = 0 from rfl] at hx311_0); (try rw [show 0 * 4 = 0 from rfl] at hx311_0); (try rw [Addr.add_zero'] at hx311_0); (try rw [show ((0 : Int)).toNat = 0 from rfl] at hx311_1); (try rw [show 0 * 4 = 0 from rfl] at hx311_1); (try rw [Addr.add_zero'] at hx311_1); (try rw [show ((0 : Int)).toNat = 0 from rfl] at hx311_2); (try rw [show 0 * 4 = 0 from rfl] at hx311_2); (try rw [Addr.add_zero'] at hx311_2); (try rw [show ((0 : Int)).toNat = 0 from rfl] at hx311_3); (try rw [show 0 * 4 = 0 from rfl] at hx311_3); (try rw [Addr.add_zero'] at hx311_3); replace p311 := eq_true p311; replace q311 := eq_true q311))
                  go_ret
                  exact ⟨by first | rfl | (simp [errW_none, errW_some] <;> rfl) | (simp [*, errW_none, errW_some] <;> rfl), by repeat (first | (with_reducible first | exact HB.out | apply below_alloc | apply pw_below_drewN | apply below_drew1) | exact HB.out)⟩
              · rw [if_neg c15] at H
                have c15b0 : (((rd_T38 t305 0).f0) == 1) = false := beq_eq_false_iff_ne.mpr c15
                have c15b1 : (((rd_T38 t305 0).f0) != 1) = true := bne_iff_ne.mpr c15
                obtain rfl := Option.some.inj H
                go_wp2_with (first | ((with_reducible refine gate_callee (f := 13) rfl ?_); refine goesL_ (some 26) rfl rfl Tryd.func13 (by kernel_rfl) rfl #[.string a0] rfl (by (try simp only [List.map_toArray, List.map_cons, List.map_nil]); first | done | rfl | (simp only [List.length_drop, List.length_take]; rfl)) ?_; (with_reducible refine (lex_Cut.calls a0 t305 t306 t307 _ ?side1 A11.out).mono ?_); (case side1 => exact Tabs.below hT (by repeat (first | (with_reducible first | exact HB.out | apply below_alloc | apply pw_below_drewN | apply below_drew1) | exact HB.out))); rintro e w21 ⟨v308, rfl, ho0, hb⟩; refine ⟨_, rfl, ?_⟩; have n0_ := Aside0.mk (Kd.R_lower ho0 (below_size (by repeat (first | (with_reducible first | exact HB.out | apply below_alloc | apply pw_below_drewN | apply below_drew1) | exact HB.out)))); have n1_ := Aside0.mk (below_step (by repeat (first | (with_reducible first | exact HB.out | apply below_alloc | apply pw_below_drewN | apply below_drew1) | exact HB.out)) hb); clear HB; have HO309 := n0_; have HB := n1_; clear n0_ n1_; (try clear hb); (try clear hb2); (try clear hk); (try clear hi); (try clear ho0); obtain ⟨Ao22, co22, eo22⟩ := Kd.R_slice HO309.out; subst eo22; have p310 : 0 ≤ (0 : Int) := (by omega); have q310 : 0 < (t305.length : Int) := of_decide_eq_true (by first | (with_reducible assumption) | assumption); obtain ⟨ad310, e310, hx310_0, hx310_1, hx310_2, hx310_3⟩ := at_T38 (Kd.R_reads' HO309.out).2.2 0 p310 q310; cases e310; have qi310 : (0 < t305.length) = True := eq_true (by omega); (try rw [show ((0 : Int)).toNat = 0 from rfl] at hx310_0); (try rw [show 0 * 4 = 0 from rfl] at hx310_0); (try rw [Addr.add_zero'] at hx310_0); (try rw [show ((0 : Int)).toNat = 0 from rfl] at hx310_1); (try rw [show 0 * 4 = 0 from rfl] at hx310_1); (try rw [Addr.add_zero'] at hx310_1); (try rw [show ((0 : Int)).toNat = 0 from rfl] at hx310_2); (try rw [show 0 * 4 = 0 from rfl] at hx310_2); (try rw [Addr.add_zero'] at hx310_2); (try rw [show ((0 : Int)).toNat = 0 from rfl] at hx310_3); (try rw [show 0 * 4 = 0 from rfl] at hx310_3); (try rw [Addr.add_zero'] at hx310_3); replace p310 := eq_true p310; replace q310 := eq_true q310))
                go_ret
                exact ⟨by first | rfl | (simp [errW_none, errW_some] <;> rfl) | (simp [*, errW_none, errW_some] <;> rfl), by repeat (first | (with_reducible first | exact HB.out | apply below_alloc | apply pw_below_drewN | apply below_drew1) | exact HB.out)⟩
            · rw [if_neg c14] at H
              exact absurd H (by simp)
          · rw [if_neg c13] at H
            have c13b0 : ((t305.length : Int) == 2) = false := beq_eq_false_iff_ne.mpr c13
            have c13b1 : ((t305.length : Int) != 2) = true := bne_iff_ne.mpr c13
            obtain rfl := Option.some.inj H
            go_wp2_with (first | ((with_reducible refine gate_callee (f := 13) rfl ?_); refine goesL_ (some 26) rfl rfl Tryd.func13 (by kernel_rfl) rfl #[.string a0] rfl (by (try simp only [List.map_toArray, List.map_cons, List.map_nil]); first | done | rfl | (simp only [List.length_drop, List.length_take]; rfl)) ?_; (with_reducible refine (lex_Cut.calls a0 t305 t306 t307 _ ?side1 A11.out).mono ?_); (case side1 => exact Tabs.below hT (by repeat (first | (with_reducible first | exact HB.out | apply below_alloc | apply pw_below_drewN | apply below_drew1) | exact HB.out))); rintro e w23 ⟨v308, rfl, ho0, hb⟩; refine ⟨_, rfl, ?_⟩; have n0_ := Aside0.mk (Kd.R_lower ho0 (below_size (by repeat (first | (with_reducible first | exact HB.out | apply below_alloc | apply pw_below_drewN | apply below_drew1) | exact HB.out)))); have n1_ := Aside0.mk (below_step (by repeat (first | (with_reducible first | exact HB.out | apply below_alloc | apply pw_below_drewN | apply below_drew1) | exact HB.out)) hb); clear HB; have HO309 := n0_; have HB := n1_; clear n0_ n1_; (try clear hb); (try clear hb2); (try clear hk); (try clear hi); (try clear ho0); obtain ⟨Ao24, co24, eo24⟩ := Kd.R_slice HO309.out; subst eo24))
            go_ret
            exact ⟨by first | rfl | (simp [errW_none, errW_some] <;> rfl) | (simp [*, errW_none, errW_some] <;> rfl), by repeat (first | (with_reducible first | exact HB.out | apply below_alloc | apply pw_below_drewN | apply below_drew1) | exact HB.out)⟩
        · rw [if_neg c12] at H
          have c12b0 : (t306 == 0) = false := beq_eq_false_iff_ne.mpr c12
          have c12b1 : (t306 != 0) = true := bne_iff_ne.mpr c12
          (first | rw [c12b0] | (simp only [i64_w, i32_w]; rw [c12b0]) | skip)
          obtain rfl := Option.some.inj H
          go_wp2_with (first | ((with_reducible refine gate_callee (f := 13) rfl ?_); refine goesL_ (some 26) rfl rfl Tryd.func13 (by kernel_rfl) rfl #[.string a0] rfl (by (try simp only [List.map_toArray, List.map_cons, List.map_nil]); first | done | rfl | (simp only [List.length_drop, List.length_take]; rfl)) ?_; (with_reducible refine (lex_Cut.calls a0 t305 t306 t307 _ ?side1 A11.out).mono ?_); (case side1 => exact Tabs.below hT (by repeat (first | (with_reducible first | exact HB.out | apply below_alloc | apply pw_below_drewN | apply below_drew1) | exact HB.out))); rintro e w25 ⟨v308, rfl, ho0, hb⟩; refine ⟨_, rfl, ?_⟩; have n0_ := Aside0.mk (Kd.R_lower ho0 (below_size (by repeat (first | (with_reducible first | exact HB.out | apply below_alloc | apply pw_below_drewN | apply below_drew1) | exact HB.out)))); have n1_ := Aside0.mk (below_step (by repeat (first | (with_reducible first | exact HB.out | apply below_alloc | apply pw_below_drewN | apply below_drew1) | exact HB.out)) hb); clear HB; have HO309 := n0_; have HB := n1_; clear n0_ n1_; (try clear hb); (try clear hb2); (try clear hk); (try clear hi); (try clear ho0)))
          go_ret
          exact ⟨by first | rfl | (simp [errW_none, errW_some] <;> rfl) | (simp [*, errW_none, errW_some] <;> rfl), by repeat (first | (with_reducible first | exact HB.out | apply below_alloc | apply pw_below_drewN | apply below_drew1) | exact HB.out)⟩
      · replace c10 := Bool.eq_false_iff.mpr c10
        subst c10
        have H1 : (malthouselaw01_LexWords.j0 k a0 a1 t303) = some r := by rw [if_neg (show ¬ (false = true) by decide)] at H; exact H
        clear H
        have H := H1
        clear H1
        have H' := Aside0.mk H
        clear H
        go_wp2
        go_meet
        case rel => exact ⟨_, H', ⟨by first | omega | exact Nat.le_refl _⟩, ⟨by repeat (first | (with_reducible first | exact HB.out | apply below_alloc | apply pw_below_drewN | apply below_drew1) | exact HB.out)⟩⟩
    case rest =>
      clear HC7
      try clear c1
      try clear c2
      try clear p2
      try clear p3
      try clear q3
      try clear hx3
      try clear qi3
      try clear c4
      try clear c4b0
      try clear c4b1
      try clear c10
      try clear c11
      try clear c12
      try clear c12b0
      try clear c12b1
      try clear c13
      try clear c13b0
      try clear c13b1
      try clear c14
      try clear c14b0
      try clear c14b1
      try clear c15
      try clear c15b0
      try clear c15b1
      try clear c16
      try clear c16b0
      try clear c16b1
      try clear hx310_0
      try clear hx310_1
      try clear hx310_2
      try clear hx310_3
      try clear hx311_0
      try clear hx311_1
      try clear hx311_2
      try clear hx311_3
      try clear p310
      try clear p311
      try clear q310
      try clear q311
      obtain ⟨kq, HA, HJ6, HB⟩ := hcut
      cases kq with
      | zero => exact absurd HA.out (by simp [malthouselaw01_LexWords.j0])
      | succ kj6 =>
        have H := HA.out
        clear HA
        simp only [malthouselaw01_LexWords.j0] at H
        replace H := Option.bind_eq_some_iff.mp H
        obtain ⟨⟨t312, t313⟩, A260, H⟩ := H
        replace H : (if t313 = true then ((lex_Cut.f t312).bind fun bt314 => (if bt314.2.1 = 0 then (if (bt314.1.length : Int) = 2 then (if 0 < (bt314.1.length : Int) then (if ((rd_T38 bt314.1 0).f0) = 3 then (if ((rd_T38 bt314.1 0).f1).toList = a0.toList then (malthouselaw01_LexWords.j1 kj6 a1 t303) else (some false)) else (some false)) else (none)) else (some false)) else (some false))) else (malthouselaw01_LexWords.j1 kj6 a1 t303)) = some r := H
        have A26 := Aside0.mk A260
        clear A260
        have HC27 := Aside0.mk H
        clear H
        go_upto_if 57 with (first | ((with_reducible refine gate_callee (f := 24) rfl ?_); refine goesL_ (some 54) rfl rfl Tryd.func24 (by kernel_rfl) rfl #[.string a0] rfl (by (try simp only [List.map_toArray, List.map_cons, List.map_nil]); first | done | rfl | (simp only [List.length_drop, List.length_take]; rfl)) ?_; (with_reducible refine (lex_Quote.calls a0 t312 t313 _ ?side1 A26.out).mono ?_); (case side1 => exact Tabs.below hT (by repeat (first | (with_reducible first | exact HB.out | apply below_alloc | apply pw_below_drewN | apply below_drew1) | exact HB.out))); rintro e w28 ⟨rfl, hb⟩; refine ⟨_, rfl, ?_⟩; have n0_ := Aside0.mk (below_step (by repeat (first | (with_reducible first | exact HB.out | apply below_alloc | apply pw_below_drewN | apply below_drew1) | exact HB.out)) hb); clear HB; have HB := n0_; clear n0_; (try clear hb); (try clear hb2); (try clear hk); (try clear hi)))
        (try simp only [Act.put, List.setIfInBounds_toArray, List.set_cons_zero, List.set_cons_succ])
        go_cut [] (fun wc => ∃ (kq : Nat), Aside0 (malthouselaw01_LexWords.j1 kq a1 t303 = some r) ∧ Aside0 (kq ≤ kj6) ∧ Aside0 (Below w.heap.size w wc))
        case first =>
          have H := HC27.out
          clear HC27
          by_cases c29 : t313 = true
          · subst c29
            have H1 : ((lex_Cut.f t312).bind fun bt314 => (if bt314.2.1 = 0 then (if (bt314.1.length : Int) = 2 then (if 0 < (bt314.1.length : Int) then (if ((rd_T38 bt314.1 0).f0) = 3 then (if ((rd_T38 bt314.1 0).f1).toList = a0.toList then (malthouselaw01_LexWords.j1 kj6 a1 t303) else (some false)) else (some false)) else (none)) else (some false)) else (some false))) = some r := by rw [if_pos rfl] at H; exact H
            clear H
            have H := H1
            clear H1
            replace H := Option.bind_eq_some_iff.mp H
            obtain ⟨⟨t314, t315, t316⟩, A300, H⟩ := H
            replace H : (if t315 = 0 then (if (t314.length : Int) = 2 then (if 0 < (t314.length : Int) then (if ((rd_T38 t314 0).f0) = 3 then (if ((rd_T38 t314 0).f1).toList = a0.toList then (malthouselaw01_LexWords.j1 kj6 a1 t303) else (some false)) else (some false)) else (none)) else (some false)) else (some false)) = some r := H
            have A30 := Aside0.mk A300
            clear A300
            by_cases c31 : t315 = 0
            · rw [if_pos c31] at H
              have c31b0 : (t315 == 0) = true := beq_iff_eq.mpr c31
              have c31b1 : (t315 != 0) = false := bne_eq_false_iff_eq.mpr c31
              clear c31
              (first | rw [c31b0] | (simp only [i64_w, i32_w]; rw [c31b0]) | skip)
              by_cases c32 : (t314.length : Int) = 2
              · rw [if_pos c32] at H
                have c32b0 : ((t314.length : Int) == 2) = true := beq_iff_eq.mpr c32
                have c32b1 : ((t314.length : Int) != 2) = false := bne_eq_false_iff_eq.mpr c32
                clear c32
                by_cases c33 : 0 < (t314.length : Int)
                · rw [if_pos c33] at H
                  have c33b0 : decide (0 < (t314.length : Int)) = true := decide_eq_true c33
                  have c33b1 : decide (0 < t314.length) = true := decide_eq_true (by omega)
                  clear c33
                  by_cases c34 : ((rd_T38 t314 0).f0) = 3
                  · rw [if_pos c34] at H
                    have c34b0 : (((rd_T38 t314 0).f0) == 3) = true := beq_iff_eq.mpr c34
                    have c34b1 : (((rd_T38 t314 0).f0) != 3) = false := bne_eq_false_iff_eq.mpr c34
                    clear c34
                    by_cases c35 : ((rd_T38 t314 0).f1).toList = a0.toList
                    · rw [if_pos c35] at H
                      have c35b0 : (((rd_T38 t314 0).f1).toList == a0.toList) = true := beq_iff_eq.mpr c35
                      have c35b1 : (((rd_T38 t314 0).f1).toList != a0.toList) = false := bne_eq_false_iff_eq.mpr c35
                      clear c35
                      have H' := Aside0.mk H
                      clear H
                      go_wp2_with (first | ((with_reducible refine gate_callee (f := 13) rfl ?_); refine goesL_ (some 60) rfl rfl Tryd.func13 (by kernel_rfl) rfl #[.string t312] rfl (by (try simp only [List.map_toArray, List.map_cons, List.map_nil]); first | done | rfl | (simp only [List.length_drop, List.length_take]; rfl)) ?_; (with_reducible refine (lex_Cut.calls t312 t314 t315 t316 _ ?side1 A30.out).mono ?_); (case side1 => exact Tabs.below hT (by repeat (first | (with_reducible first | exact HB.out | apply below_alloc | apply pw_below_drewN | apply below_drew1) | exact HB.out))); rintro e w36 ⟨v317, rfl, ho0, hb⟩; refine ⟨_, rfl, ?_⟩; have n0_ := Aside0.mk (Kd.R_lower ho0 (below_size (by repeat (first | (with_reducible first | exact HB.out | apply below_alloc | apply pw_below_drewN | apply below_drew1) | exact HB.out)))); have n1_ := Aside0.mk (below_step (by repeat (first | (with_reducible first | exact HB.out | apply below_alloc | apply pw_below_drewN | apply below_drew1) | exact HB.out)) hb); clear HB; have HO318 := n0_; have HB := n1_; clear n0_ n1_; (try clear hb); (try clear hb2); (try clear hk); (try clear hi); (try clear ho0); obtain ⟨Ao37, co37, eo37⟩ := Kd.R_slice HO318.out; subst eo37; have p319 : 0 ≤ (0 : Int) := (by omega); have q319 : 0 < (t314.length : Int) := of_decide_eq_true (by first | (with_reducible assumption) | assumption); obtain ⟨ad319, e319, hx319_0, hx319_1, hx319_2, hx319_3⟩ := at_T38 (Kd.R_reads' HO318.out).2.2 0 p319 q319; cases e319; have qi319 : (0 < t314.length) = True := eq_true (by omega); (try rw [show ((0 : Int)).toNat = 0 from rfl] at hx319_0); (try rw [show 0 * 4 = 0 from rfl] at hx319_0); (try rw [Addr.add_zero'] at hx319_0); (try rw [show ((0 : Int)).toNat = 0 from rfl] at hx319_1); (try rw [show 0 * 4 = 0 from rfl] at hx319_1); (try rw [Addr.add_zero'] at hx319_1); (try rw [show ((0 : Int)).toNat = 0 from rfl] at hx319_2); (try rw [show 0 * 4 = 0 from rfl] at hx319_2); (try rw [Addr.add_zero'] at hx319_2); (try rw [show ((0 : Int)).toNat = 0 from rfl] at hx319_3); (try rw [show 0 * 4 = 0 from rfl] at hx319_3); (try rw [Addr.add_zero'] at hx319_3); replace p319 := eq_true p319; replace q319 := eq_true q319; have p320 : 0 ≤ (0 : Int) := (by omega); have q320 : 0 < (t314.length : Int) := of_decide_eq_true (by first | (with_reducible assumption) | assumption); obtain ⟨ad320, e320, hx320_0, hx320_1, hx320_2, hx320_3⟩ := at_T38 (Kd.R_reads' HO318.out).2.2 0 p320 q320; obtain rfl : ad319 = ad320 := (by injection e320); have qi320 : (0 < t314.length) = True := eq_true (by omega); (try rw [show ((0 : Int)).toNat = 0 from rfl] at hx320_0); (try rw [show 0 * 4 = 0 from rfl] at hx320_0); (try rw [Addr.add_zero'] at hx320_0); (try rw [show ((0 : Int)).toNat = 0 from rfl] at hx320_1); (try rw [show 0 * 4 = 0 from rfl] at hx320_1); (try rw [Addr.add_zero'] at hx320_1); (try rw [show ((0 : Int)).toNat = 0 from rfl] at hx320_2); (try rw [show 0 * 4 = 0 from rfl] at hx320_2); (try rw [Addr.add_zero'] at hx320_2); (try rw [show ((0 : Int)).toNat = 0 from rfl] at hx320_3); (try rw [show 0 * 4 = 0 from rfl] at hx320_3); (try rw [Addr.add_zero'] at hx320_3); replace p320 := eq_true p320; replace q320 := eq_true q320))
                      go_meet
                      case rel => exact ⟨_, H', ⟨by have := HJ6.out; first | omega | exact Nat.le_refl _⟩, ⟨by repeat (first | (with_reducible first | exact HB.out | apply below_alloc | apply pw_below_drewN | apply below_drew1) | exact HB.out)⟩⟩
                    · rw [if_neg c35] at H
                      have c35b0 : (((rd_T38 t314 0).f1).toList == a0.toList) = false := beq_eq_false_iff_ne.mpr c35
                      have c35b1 : (((rd_T38 t314 0).f1).toList != a0.toList) = true := bne_iff_ne.mpr c35
                      obtain rfl := Option.some.inj H
                      go_wp2_with (first | ((with_reducible refine gate_callee (f := 13) rfl ?_); refine goesL_ (some 60) rfl rfl Tryd.func13 (by kernel_rfl) rfl #[.string t312] rfl (by (try simp only [List.map_toArray, List.map_cons, List.map_nil]); first | done | rfl | (simp only [List.length_drop, List.length_take]; rfl)) ?_; (with_reducible refine (lex_Cut.calls t312 t314 t315 t316 _ ?side1 A30.out).mono ?_); (case side1 => exact Tabs.below hT (by repeat (first | (with_reducible first | exact HB.out | apply below_alloc | apply pw_below_drewN | apply below_drew1) | exact HB.out))); rintro e w38 ⟨v317, rfl, ho0, hb⟩; refine ⟨_, rfl, ?_⟩; have n0_ := Aside0.mk (Kd.R_lower ho0 (below_size (by repeat (first | (with_reducible first | exact HB.out | apply below_alloc | apply pw_below_drewN | apply below_drew1) | exact HB.out)))); have n1_ := Aside0.mk (below_step (by repeat (first | (with_reducible first | exact HB.out | apply below_alloc | apply pw_below_drewN | apply below_drew1) | exact HB.out)) hb); clear HB; have HO318 := n0_; have HB := n1_; clear n0_ n1_; (try clear hb); (try clear hb2); (try clear hk); (try clear hi); (try clear ho0); obtain ⟨Ao39, co39, eo39⟩ := Kd.R_slice HO318.out; subst eo39; have p319 : 0 ≤ (0 : Int) := (by omega); have q319 : 0 < (t314.length : Int) := of_decide_eq_true (by first | (with_reducible assumption) | assumption); obtain ⟨ad319, e319, hx319_0, hx319_1, hx319_2, hx319_3⟩ := at_T38 (Kd.R_reads' HO318.out).2.2 0 p319 q319; cases e319; have qi319 : (0 < t314.length) = True := eq_true (by omega); (try rw [show ((0 : Int)).toNat = 0 from rfl] at hx319_0); (try rw [show 0 * 4 = 0 from rfl] at hx319_0); (try rw [Addr.add_zero'] at hx319_0); (try rw [show ((0 : Int)).toNat = 0 from rfl] at hx319_1); (try rw [show 0 * 4 = 0 from rfl] at hx319_1); (try rw [Addr.add_zero'] at hx319_1); (try rw [show ((0 : Int)).toNat = 0 from rfl] at hx319_2); (try rw [show 0 * 4 = 0 from rfl] at hx319_2); (try rw [Addr.add_zero'] at hx319_2); (try rw [show ((0 : Int)).toNat = 0 from rfl] at hx319_3); (try rw [show 0 * 4 = 0 from rfl] at hx319_3); (try rw [Addr.add_zero'] at hx319_3); replace p319 := eq_true p319; replace q319 := eq_true q319; have p320 : 0 ≤ (0 : Int) := (by omega); have q320 : 0 < (t314.length : Int) := of_decide_eq_true (by first | (with_reducible assumption) | assumption); obtain ⟨ad320, e320, hx320_0, hx320_1, hx320_2, hx320_3⟩ := at_T38 (Kd.R_reads' HO318.out).2.2 0 p320 q320; obtain rfl : ad319 = ad320 := (by injection e320); have qi320 : (0 < t314.length) = True := eq_true (by omega); (try rw [show ((0 : Int)).toNat = 0 from rfl] at hx320_0); (try rw [show 0 * 4 = 0 from rfl] at hx320_0); (try rw [Addr.add_zero'] at hx320_0); (try rw [show ((0 : Int)).toNat = 0 from rfl] at hx320_1); (try rw [show 0 * 4 = 0 from rfl] at hx320_1); (try rw [Addr.add_zero'] at hx320_1); (try rw [show ((0 : Int)).toNat = 0 from rfl] at hx320_2); (try rw [show 0 * 4 = 0 from rfl] at hx320_2); (try rw [Addr.add_zero'] at hx320_2); (try rw [show ((0 : Int)).toNat = 0 from rfl] at hx320_3); (try rw [show 0 * 4 = 0 from rfl] at hx320_3); (try rw [Addr.add_zero'] at hx320_3); replace p320 := eq_true p320; replace q320 := eq_true q320))
                      go_ret
                      exact ⟨by first | rfl | (simp [errW_none, errW_some] <;> rfl) | (simp [*, errW_none, errW_some] <;> rfl), by repeat (first | (with_reducible first | exact HB.out | apply below_alloc | apply pw_below_drewN | apply below_drew1) | exact HB.out)⟩
                  · rw [if_neg c34] at H
                    have c34b0 : (((rd_T38 t314 0).f0) == 3) = false := beq_eq_false_iff_ne.mpr c34
                    have c34b1 : (((rd_T38 t314 0).f0) != 3) = true := bne_iff_ne.mpr c34
                    obtain rfl := Option.some.inj H
                    go_wp2_with (first | ((with_reducible refine gate_callee (f := 13) rfl ?_); refine goesL_ (some 60) rfl rfl Tryd.func13 (by kernel_rfl) rfl #[.string t312] rfl (by (try simp only [List.map_toArray, List.map_cons, List.map_nil]); first | done | rfl | (simp only [List.length_drop, List.length_take]; rfl)) ?_; (with_reducible refine (lex_Cut.calls t312 t314 t315 t316 _ ?side1 A30.out).mono ?_); (case side1 => exact Tabs.below hT (by repeat (first | (with_reducible first | exact HB.out | apply below_alloc | apply pw_below_drewN | apply below_drew1) | exact HB.out))); rintro e w40 ⟨v317, rfl, ho0, hb⟩; refine ⟨_, rfl, ?_⟩; have n0_ := Aside0.mk (Kd.R_lower ho0 (below_size (by repeat (first | (with_reducible first | exact HB.out | apply below_alloc | apply pw_below_drewN | apply below_drew1) | exact HB.out)))); have n1_ := Aside0.mk (below_step (by repeat (first | (with_reducible first | exact HB.out | apply below_alloc | apply pw_below_drewN | apply below_drew1) | exact HB.out)) hb); clear HB; have HO318 := n0_; have HB := n1_; clear n0_ n1_; (try clear hb); (try clear hb2); (try clear hk); (try clear hi); (try clear ho0); obtain ⟨Ao41, co41, eo41⟩ := Kd.R_slice HO318.out; subst eo41; have p319 : 0 ≤ (0 : Int) := (by omega); have q319 : 0 < (t314.length : Int) := of_decide_eq_true (by first | (with_reducible assumption) | assumption); obtain ⟨ad319, e319, hx319_0, hx319_1, hx319_2, hx319_3⟩ := at_T38 (Kd.R_reads' HO318.out).2.2 0 p319 q319; cases e319; have qi319 : (0 < t314.length) = True := eq_true (by omega); (try rw [show ((0 : Int)).toNat = 0 from rfl] at hx319_0); (try rw [show 0 * 4 = 0 from rfl] at hx319_0); (try rw [Addr.add_zero'] at hx319_0); (try rw [show ((0 : Int)).toNat = 0 from rfl] at hx319_1); (try rw [show 0 * 4 = 0 from rfl] at hx319_1); (try rw [Addr.add_zero'] at hx319_1); (try rw [show ((0 : Int)).toNat = 0 from rfl] at hx319_2); (try rw [show 0 * 4 = 0 from rfl] at hx319_2); (try rw [Addr.add_zero'] at hx319_2); (try rw [show ((0 : Int)).toNat = 0 from rfl] at hx319_3); (try rw [show 0 * 4 = 0 from rfl] at hx319_3); (try rw [Addr.add_zero'] at hx319_3); replace p319 := eq_true p319; replace q319 := eq_true q319))
                    go_ret
                    exact ⟨by first | rfl | (simp [errW_none, errW_some] <;> rfl) | (simp [*, errW_none, errW_some] <;> rfl), by repeat (first | (with_reducible first | exact HB.out | apply below_alloc | apply pw_below_drewN | apply below_drew1) | exact HB.out)⟩
                · rw [if_neg c33] at H
                  exact absurd H (by simp)
              · rw [if_neg c32] at H
                have c32b0 : ((t314.length : Int) == 2) = false := beq_eq_false_iff_ne.mpr c32
                have c32b1 : ((t314.length : Int) != 2) = true := bne_iff_ne.mpr c32
                obtain rfl := Option.some.inj H
                go_wp2_with (first | ((with_reducible refine gate_callee (f := 13) rfl ?_); refine goesL_ (some 60) rfl rfl Tryd.func13 (by kernel_rfl) rfl #[.string t312] rfl (by (try simp only [List.map_toArray, List.map_cons, List.map_nil]); first | done | rfl | (simp only [List.length_drop, List.length_take]; rfl)) ?_; (with_reducible refine (lex_Cut.calls t312 t314 t315 t316 _ ?side1 A30.out).mono ?_); (case side1 => exact Tabs.below hT (by repeat (first | (with_reducible first | exact HB.out | apply below_alloc | apply pw_below_drewN | apply below_drew1) | exact HB.out))); rintro e w42 ⟨v317, rfl, ho0, hb⟩; refine ⟨_, rfl, ?_⟩; have n0_ := Aside0.mk (Kd.R_lower ho0 (below_size (by repeat (first | (with_reducible first | exact HB.out | apply below_alloc | apply pw_below_drewN | apply below_drew1) | exact HB.out)))); have n1_ := Aside0.mk (below_step (by repeat (first | (with_reducible first | exact HB.out | apply below_alloc | apply pw_below_drewN | apply below_drew1) | exact HB.out)) hb); clear HB; have HO318 := n0_; have HB := n1_; clear n0_ n1_; (try clear hb); (try clear hb2); (try clear hk); (try clear hi); (try clear ho0); obtain ⟨Ao43, co43, eo43⟩ := Kd.R_slice HO318.out; subst eo43))
                go_ret
                exact ⟨by first | rfl | (simp [errW_none, errW_some] <;> rfl) | (simp [*, errW_none, errW_some] <;> rfl), by repeat (first | (with_reducible first | exact HB.out | apply below_alloc | apply pw_below_drewN | apply below_drew1) | exact HB.out)⟩
            · rw [if_neg c31] at H
              have c31b0 : (t315 == 0) = false := beq_eq_false_iff_ne.mpr c31
              have c31b1 : (t315 != 0) = true := bne_iff_ne.mpr c31
              (first | rw [c31b0] | (simp only [i64_w, i32_w]; rw [c31b0]) | skip)
              obtain rfl := Option.some.inj H
              go_wp2_with (first | ((with_reducible refine gate_callee (f := 13) rfl ?_); refine goesL_ (some 60) rfl rfl Tryd.func13 (by kernel_rfl) rfl #[.string t312] rfl (by (try simp only [List.map_toArray, List.map_cons, List.map_nil]); first | done | rfl | (simp only [List.length_drop, List.length_take]; rfl)) ?_; (with_reducible refine (lex_Cut.calls t312 t314 t315 t316 _ ?side1 A30.out).mono ?_); (case side1 => exact Tabs.below hT (by repeat (first | (with_reducible first | exact HB.out | apply below_alloc | apply pw_below_drewN | apply below_drew1) | exact HB.out))); rintro e w44 ⟨v317, rfl, ho0, hb⟩; refine ⟨_, rfl, ?_⟩; have n0_ := Aside0.mk (Kd.R_lower ho0 (below_size (by repeat (first | (with_reducible first | exact HB.out | apply below_alloc | apply pw_below_drewN | apply below_drew1) | exact HB.out)))); have n1_ := Aside0.mk (below_step (by repeat (first | (with_reducible first | exact HB.out | apply below_alloc | apply pw_below_drewN | apply below_drew1) | exact HB.out)) hb); clear HB; have HO318 := n0_; have HB := n1_; clear n0_ n1_; (try clear hb); (try clear hb2); (try clear hk); (try clear hi); (try clear ho0)))
              go_ret
              exact ⟨by first | rfl | (simp [errW_none, errW_some] <;> rfl) | (simp [*, errW_none, errW_some] <;> rfl), by repeat (first | (with_reducible first | exact HB.out | apply below_alloc | apply pw_below_drewN | apply below_drew1) | exact HB.out)⟩
          · replace c29 := Bool.eq_false_iff.mpr c29
            subst c29
            have H1 : (malthouselaw01_LexWords.j1 kj6 a1 t303) = some r := by rw [if_neg (show ¬ (false = true) by decide)] at H; exact H
            clear H
            have H := H1
            clear H1
            have H' := Aside0.mk H
            clear H
            go_wp2
            go_meet
            case rel => exact ⟨_, H', ⟨by have := HJ6.out; first | omega | exact Nat.le_refl _⟩, ⟨by repeat (first | (with_reducible first | exact HB.out | apply below_alloc | apply pw_below_drewN | apply below_drew1) | exact HB.out)⟩⟩
        case rest =>
          clear HC27
          try clear c1
          try clear c2
          try clear p2
          try clear c3
          try clear p3
          try clear q3
          try clear hx3
          try clear qi3
          try clear c4
          try clear c4b0
          try clear c4b1
          try clear c10
          try clear c11
          try clear c12
          try clear c12b0
          try clear c12b1
          try clear c13
          try clear c13b0
          try clear c13b1
          try clear c14
          try clear c14b0
          try clear c14b1
          try clear c15
          try clear c15b0
          try clear c15b1
          try clear c16
          try clear c16b0
          try clear c16b1
          try clear c24
          try clear c26
          try clear c29
          try clear c31
          try clear c31b0
          try clear c31b1
          try clear p31
          try clear q31
          try clear hx31
          try clear qi31
          try clear c32
          try clear c32b0
          try clear c32b1
          try clear p32
          try clear q32
          try clear hx32
          try clear qi32
          try clear c33
          try clear c33b0
          try clear c33b1
          try clear c34
          try clear c34b0
          try clear c34b1
          try clear c35
          try clear c35b0
          try clear c35b1
          try clear hx310_0
          try clear hx310_1
          try clear hx310_2
          try clear hx310_3
          try clear hx311_0
          try clear hx311_1
          try clear hx311_2
          try clear hx311_3
          try clear hx319_0
          try clear hx319_1
          try clear hx319_2
          try clear hx319_3
          try clear hx320_0
          try clear hx320_1
          try clear hx320_2
          try clear hx320_3
          try clear p2
          try clear p3
          try clear p310
          try clear p311
          try clear p319
          try clear p320
          try clear q3
          try clear q310
          try clear q311
          try clear q319
          try clear q320
          obtain ⟨kq, HA, HJ26, HB⟩ := hcut
          cases kq with
          | zero => exact absurd HA.out (by simp [malthouselaw01_LexWords.j1])
          | succ kj26 =>
            have H := HA.out
            clear HA
            simp only [malthouselaw01_LexWords.j1] at H
            by_cases c45 : a1 ≥ 0
            · rw [if_pos c45] at H
              have c45b0 : decide (0 ≤ a1) = true := decide_eq_true c45
              clear c45
              replace H := Option.bind_eq_some_iff.mp H
              obtain ⟨t321, A460, H⟩ := H
              replace H : ((lex_Cut.f t321).bind fun bt322 => (if bt322.2.1 = 0 then (if (bt322.1.length : Int) = 2 then (if 0 < (bt322.1.length : Int) then (if ((rd_T38 bt322.1 0).f0) = 2 then (if ((rd_T38 bt322.1 0).f2) = a1 then (some t303) else (some false)) else (some false)) else (none)) else (some false)) else (some false))) = some r := H
              have A46 := Aside0.mk A460
              clear A460
              replace H := Option.bind_eq_some_iff.mp H
              obtain ⟨⟨t322, t323, t324⟩, A470, H⟩ := H
              replace H : (if t323 = 0 then (if (t322.length : Int) = 2 then (if 0 < (t322.length : Int) then (if ((rd_T38 t322 0).f0) = 2 then (if ((rd_T38 t322 0).f2) = a1 then (some t303) else (some false)) else (some false)) else (none)) else (some false)) else (some false)) = some r := H
              have A47 := Aside0.mk A470
              clear A470
              by_cases c48 : t323 = 0
              · rw [if_pos c48] at H
                have c48b0 : (t323 == 0) = true := beq_iff_eq.mpr c48
                have c48b1 : (t323 != 0) = false := bne_eq_false_iff_eq.mpr c48
                clear c48
                by_cases c49 : (t322.length : Int) = 2
                · rw [if_pos c49] at H
                  have c49b0 : ((t322.length : Int) == 2) = true := beq_iff_eq.mpr c49
                  have c49b1 : ((t322.length : Int) != 2) = false := bne_eq_false_iff_eq.mpr c49
                  clear c49
                  by_cases c50 : 0 < (t322.length : Int)
                  · rw [if_pos c50] at H
                    have c50b0 : decide (0 < (t322.length : Int)) = true := decide_eq_true c50
                    have c50b1 : decide (0 < t322.length) = true := decide_eq_true (by omega)
                    clear c50
                    by_cases c51 : ((rd_T38 t322 0).f0) = 2
                    · rw [if_pos c51] at H
                      have c51b0 : (((rd_T38 t322 0).f0) == 2) = true := beq_iff_eq.mpr c51
                      have c51b1 : (((rd_T38 t322 0).f0) != 2) = false := bne_eq_false_iff_eq.mpr c51
                      clear c51
                      by_cases c52 : ((rd_T38 t322 0).f2) = a1
                      · rw [if_pos c52] at H
                        have c52b0 : (((rd_T38 t322 0).f2) == a1) = true := beq_iff_eq.mpr c52
                        have c52b1 : (((rd_T38 t322 0).f2) != a1) = false := bne_eq_false_iff_eq.mpr c52
                        clear c52
                        obtain rfl := Option.some.inj H
                        go_wp2_with (first | ((with_reducible refine gate_callee (f := 20) rfl ?_); refine goesL_ (some 90) rfl rfl Tryd.func20 (by kernel_rfl) rfl #[.int .i64 a1] rfl (by (try simp only [List.map_toArray, List.map_cons, List.map_nil]); first | done | rfl | (simp only [List.length_drop, List.length_take]; rfl)) ?_; (with_reducible refine (lex_Show.calls a1 t321 _ ?side1 A46.out).mono ?_); (case side1 => exact Tabs.below hT (by repeat (first | (with_reducible first | exact HB.out | apply below_alloc | apply pw_below_drewN | apply below_drew1) | exact HB.out))); rintro e w53 ⟨rfl, hb⟩; refine ⟨_, rfl, ?_⟩; have n0_ := Aside0.mk (below_step (by repeat (first | (with_reducible first | exact HB.out | apply below_alloc | apply pw_below_drewN | apply below_drew1) | exact HB.out)) hb); clear HB; have HB := n0_; clear n0_; (try clear hb); (try clear hb2); (try clear hk); (try clear hi)) | ((with_reducible refine gate_callee (f := 13) rfl ?_); refine goesL_ (some 91) rfl rfl Tryd.func13 (by kernel_rfl) rfl #[.string t321] rfl (by (try simp only [List.map_toArray, List.map_cons, List.map_nil]); first | done | rfl | (simp only [List.length_drop, List.length_take]; rfl)) ?_; (with_reducible refine (lex_Cut.calls t321 t322 t323 t324 _ ?side1 A47.out).mono ?_); (case side1 => exact Tabs.below hT (by repeat (first | (with_reducible first | exact HB.out | apply below_alloc | apply pw_below_drewN | apply below_drew1) | exact HB.out))); rintro e w54 ⟨v325, rfl, ho0, hb⟩; refine ⟨_, rfl, ?_⟩; have n0_ := Aside0.mk (Kd.R_lower ho0 (below_size (by repeat (first | (with_reducible first | exact HB.out | apply below_alloc | apply pw_below_drewN | apply below_drew1) | exact HB.out)))); have n1_ := Aside0.mk (below_step (by repeat (first | (with_reducible first | exact HB.out | apply below_alloc | apply pw_below_drewN | apply below_drew1) | exact HB.out)) hb); clear HB; have HO326 := n0_; have HB := n1_; clear n0_ n1_; (try clear hb); (try clear hb2); (try clear hk); (try clear hi); (try clear ho0); obtain ⟨Ao55, co55, eo55⟩ := Kd.R_slice HO326.out; subst eo55; have p327 : 0 ≤ (0 : Int) := (by omega); have q327 : 0 < (t322.length : Int) := of_decide_eq_true (by first | (with_reducible assumption) | assumption); obtain ⟨ad327, e327, hx327_0, hx327_1, hx327_2, hx327_3⟩ := at_T38 (Kd.R_reads' HO326.out).2.2 0 p327 q327; cases e327; have qi327 : (0 < t322.length) = True := eq_true (by omega); (try rw [show ((0 : Int)).toNat = 0 from rfl] at hx327_0); (try rw [show 0 * 4 = 0 from rfl] at hx327_0); (try rw [Addr.add_zero'] at hx327_0); (try rw [show ((0 : Int)).toNat = 0 from rfl] at hx327_1); (try rw [show 0 * 4 = 0 from rfl] at hx327_1); (try rw [Addr.add_zero'] at hx327_1); (try rw [show ((0 : Int)).toNat = 0 from rfl] at hx327_2); (try rw [show 0 * 4 = 0 from rfl] at hx327_2); (try rw [Addr.add_zero'] at hx327_2); (try rw [show ((0 : Int)).toNat = 0 from rfl] at hx327_3); (try rw [show 0 * 4 = 0 from rfl] at hx327_3); (try rw [Addr.add_zero'] at hx327_3); replace p327 := eq_true p327; replace q327 := eq_true q327; have p328 : 0 ≤ (0 : Int) := (by omega); have q328 : 0 < (t322.length : Int) := of_decide_eq_true (by first | (with_reducible assumption) | assumption); obtain ⟨ad328, e328, hx328_0, hx328_1, hx328_2, hx328_3⟩ := at_T38 (Kd.R_reads' HO326.out).2.2 0 p328 q328; obtain rfl : ad327 = ad328 := (by injection e328); have qi328 : (0 < t322.length) = True := eq_true (by omega); (try rw [show ((0 : Int)).toNat = 0 from rfl] at hx328_0); (try rw [show 0 * 4 = 0 from rfl] at hx328_0); (try rw [Addr.add_zero'] at hx328_0); (try rw [show ((0 : Int)).toNat = 0 from rfl] at hx328_1); (try rw [show 0 * 4 = 0 from rfl] at hx328_1); (try rw [Addr.add_zero'] at hx328_1); (try rw [show ((0 : Int)).toNat = 0 from rfl] at hx328_2); (try rw [show 0 * 4 = 0 from rfl] at hx328_2); (try rw [Addr.add_zero'] at hx328_2); (try rw [show ((0 : Int)).toNat = 0 from rfl] at hx328_3); (try rw [show 0 * 4 = 0 from rfl] at hx328_3); (try rw [Addr.add_zero'] at hx328_3); replace p328 := eq_true p328; replace q328 := eq_true q328))
                        go_ret
                        exact ⟨by first | rfl | (simp [errW_none, errW_some] <;> rfl) | (simp [*, errW_none, errW_some] <;> rfl), by repeat (first | (with_reducible first | exact HB.out | apply below_alloc | apply pw_below_drewN | apply below_drew1) | exact HB.out)⟩
                      · rw [if_neg c52] at H
                        have c52b0 : (((rd_T38 t322 0).f2) == a1) = false := beq_eq_false_iff_ne.mpr c52
                        have c52b1 : (((rd_T38 t322 0).f2) != a1) = true := bne_iff_ne.mpr c52
                        obtain rfl := Option.some.inj H
                        go_wp2_with (first | ((with_reducible refine gate_callee (f := 20) rfl ?_); refine goesL_ (some 90) rfl rfl Tryd.func20 (by kernel_rfl) rfl #[.int .i64 a1] rfl (by (try simp only [List.map_toArray, List.map_cons, List.map_nil]); first | done | rfl | (simp only [List.length_drop, List.length_take]; rfl)) ?_; (with_reducible refine (lex_Show.calls a1 t321 _ ?side1 A46.out).mono ?_); (case side1 => exact Tabs.below hT (by repeat (first | (with_reducible first | exact HB.out | apply below_alloc | apply pw_below_drewN | apply below_drew1) | exact HB.out))); rintro e w56 ⟨rfl, hb⟩; refine ⟨_, rfl, ?_⟩; have n0_ := Aside0.mk (below_step (by repeat (first | (with_reducible first | exact HB.out | apply below_alloc | apply pw_below_drewN | apply below_drew1) | exact HB.out)) hb); clear HB; have HB := n0_; clear n0_; (try clear hb); (try clear hb2); (try clear hk); (try clear hi)) | ((with_reducible refine gate_callee (f := 13) rfl ?_); refine goesL_ (some 91) rfl rfl Tryd.func13 (by kernel_rfl) rfl #[.string t321] rfl (by (try simp only [List.map_toArray, List.map_cons, List.map_nil]); first | done | rfl | (simp only [List.length_drop, List.length_take]; rfl)) ?_; (with_reducible refine (lex_Cut.calls t321 t322 t323 t324 _ ?side1 A47.out).mono ?_); (case side1 => exact Tabs.below hT (by repeat (first | (with_reducible first | exact HB.out | apply below_alloc | apply pw_below_drewN | apply below_drew1) | exact HB.out))); rintro e w57 ⟨v325, rfl, ho0, hb⟩; refine ⟨_, rfl, ?_⟩; have n0_ := Aside0.mk (Kd.R_lower ho0 (below_size (by repeat (first | (with_reducible first | exact HB.out | apply below_alloc | apply pw_below_drewN | apply below_drew1) | exact HB.out)))); have n1_ := Aside0.mk (below_step (by repeat (first | (with_reducible first | exact HB.out | apply below_alloc | apply pw_below_drewN | apply below_drew1) | exact HB.out)) hb); clear HB; have HO326 := n0_; have HB := n1_; clear n0_ n1_; (try clear hb); (try clear hb2); (try clear hk); (try clear hi); (try clear ho0); obtain ⟨Ao58, co58, eo58⟩ := Kd.R_slice HO326.out; subst eo58; have p327 : 0 ≤ (0 : Int) := (by omega); have q327 : 0 < (t322.length : Int) := of_decide_eq_true (by first | (with_reducible assumption) | assumption); obtain ⟨ad327, e327, hx327_0, hx327_1, hx327_2, hx327_3⟩ := at_T38 (Kd.R_reads' HO326.out).2.2 0 p327 q327; cases e327; have qi327 : (0 < t322.length) = True := eq_true (by omega); (try rw [show ((0 : Int)).toNat = 0 from rfl] at hx327_0); (try rw [show 0 * 4 = 0 from rfl] at hx327_0); (try rw [Addr.add_zero'] at hx327_0); (try rw [show ((0 : Int)).toNat = 0 from rfl] at hx327_1); (try rw [show 0 * 4 = 0 from rfl] at hx327_1); (try rw [Addr.add_zero'] at hx327_1); (try rw [show ((0 : Int)).toNat = 0 from rfl] at hx327_2); (try rw [show 0 * 4 = 0 from rfl] at hx327_2); (try rw [Addr.add_zero'] at hx327_2); (try rw [show ((0 : Int)).toNat = 0 from rfl] at hx327_3); (try rw [show 0 * 4 = 0 from rfl] at hx327_3); (try rw [Addr.add_zero'] at hx327_3); replace p327 := eq_true p327; replace q327 := eq_true q327; have p328 : 0 ≤ (0 : Int) := (by omega); have q328 : 0 < (t322.length : Int) := of_decide_eq_true (by first | (with_reducible assumption) | assumption); obtain ⟨ad328, e328, hx328_0, hx328_1, hx328_2, hx328_3⟩ := at_T38 (Kd.R_reads' HO326.out).2.2 0 p328 q328; obtain rfl : ad327 = ad328 := (by injection e328); have qi328 : (0 < t322.length) = True := eq_true (by omega); (try rw [show ((0 : Int)).toNat = 0 from rfl] at hx328_0); (try rw [show 0 * 4 = 0 from rfl] at hx328_0); (try rw [Addr.add_zero'] at hx328_0); (try rw [show ((0 : Int)).toNat = 0 from rfl] at hx328_1); (try rw [show 0 * 4 = 0 from rfl] at hx328_1); (try rw [Addr.add_zero'] at hx328_1); (try rw [show ((0 : Int)).toNat = 0 from rfl] at hx328_2); (try rw [show 0 * 4 = 0 from rfl] at hx328_2); (try rw [Addr.add_zero'] at hx328_2); (try rw [show ((0 : Int)).toNat = 0 from rfl] at hx328_3); (try rw [show 0 * 4 = 0 from rfl] at hx328_3); (try rw [Addr.add_zero'] at hx328_3); replace p328 := eq_true p328; replace q328 := eq_true q328))
                        go_ret
                        exact ⟨by first | rfl | (simp [errW_none, errW_some] <;> rfl) | (simp [*, errW_none, errW_some] <;> rfl), by repeat (first | (with_reducible first | exact HB.out | apply below_alloc | apply pw_below_drewN | apply below_drew1) | exact HB.out)⟩
                    · rw [if_neg c51] at H
                      have c51b0 : (((rd_T38 t322 0).f0) == 2) = false := beq_eq_false_iff_ne.mpr c51
                      have c51b1 : (((rd_T38 t322 0).f0) != 2) = true := bne_iff_ne.mpr c51
                      obtain rfl := Option.some.inj H
                      go_wp2_with (first | ((with_reducible refine gate_callee (f := 20) rfl ?_); refine goesL_ (some 90) rfl rfl Tryd.func20 (by kernel_rfl) rfl #[.int .i64 a1] rfl (by (try simp only [List.map_toArray, List.map_cons, List.map_nil]); first | done | rfl | (simp only [List.length_drop, List.length_take]; rfl)) ?_; (with_reducible refine (lex_Show.calls a1 t321 _ ?side1 A46.out).mono ?_); (case side1 => exact Tabs.below hT (by repeat (first | (with_reducible first | exact HB.out | apply below_alloc | apply pw_below_drewN | apply below_drew1) | exact HB.out))); rintro e w59 ⟨rfl, hb⟩; refine ⟨_, rfl, ?_⟩; have n0_ := Aside0.mk (below_step (by repeat (first | (with_reducible first | exact HB.out | apply below_alloc | apply pw_below_drewN | apply below_drew1) | exact HB.out)) hb); clear HB; have HB := n0_; clear n0_; (try clear hb); (try clear hb2); (try clear hk); (try clear hi)) | ((with_reducible refine gate_callee (f := 13) rfl ?_); refine goesL_ (some 91) rfl rfl Tryd.func13 (by kernel_rfl) rfl #[.string t321] rfl (by (try simp only [List.map_toArray, List.map_cons, List.map_nil]); first | done | rfl | (simp only [List.length_drop, List.length_take]; rfl)) ?_; (with_reducible refine (lex_Cut.calls t321 t322 t323 t324 _ ?side1 A47.out).mono ?_); (case side1 => exact Tabs.below hT (by repeat (first | (with_reducible first | exact HB.out | apply below_alloc | apply pw_below_drewN | apply below_drew1) | exact HB.out))); rintro e w60 ⟨v325, rfl, ho0, hb⟩; refine ⟨_, rfl, ?_⟩; have n0_ := Aside0.mk (Kd.R_lower ho0 (below_size (by repeat (first | (with_reducible first | exact HB.out | apply below_alloc | apply pw_below_drewN | apply below_drew1) | exact HB.out)))); have n1_ := Aside0.mk (below_step (by repeat (first | (with_reducible first | exact HB.out | apply below_alloc | apply pw_below_drewN | apply below_drew1) | exact HB.out)) hb); clear HB; have HO326 := n0_; have HB := n1_; clear n0_ n1_; (try clear hb); (try clear hb2); (try clear hk); (try clear hi); (try clear ho0); obtain ⟨Ao61, co61, eo61⟩ := Kd.R_slice HO326.out; subst eo61; have p327 : 0 ≤ (0 : Int) := (by omega); have q327 : 0 < (t322.length : Int) := of_decide_eq_true (by first | (with_reducible assumption) | assumption); obtain ⟨ad327, e327, hx327_0, hx327_1, hx327_2, hx327_3⟩ := at_T38 (Kd.R_reads' HO326.out).2.2 0 p327 q327; cases e327; have qi327 : (0 < t322.length) = True := eq_true (by omega); (try rw [show ((0 : Int)).toNat = 0 from rfl] at hx327_0); (try rw [show 0 * 4 = 0 from rfl] at hx327_0); (try rw [Addr.add_zero'] at hx327_0); (try rw [show ((0 : Int)).toNat = 0 from rfl] at hx327_1); (try rw [show 0 * 4 = 0 from rfl] at hx327_1); (try rw [Addr.add_zero'] at hx327_1); (try rw [show ((0 : Int)).toNat = 0 from rfl] at hx327_2); (try rw [show 0 * 4 = 0 from rfl] at hx327_2); (try rw [Addr.add_zero'] at hx327_2); (try rw [show ((0 : Int)).toNat = 0 from rfl] at hx327_3); (try rw [show 0 * 4 = 0 from rfl] at hx327_3); (try rw [Addr.add_zero'] at hx327_3); replace p327 := eq_true p327; replace q327 := eq_true q327))
                      go_ret
                      exact ⟨by first | rfl | (simp [errW_none, errW_some] <;> rfl) | (simp [*, errW_none, errW_some] <;> rfl), by repeat (first | (with_reducible first | exact HB.out | apply below_alloc | apply pw_below_drewN | apply below_drew1) | exact HB.out)⟩
                  · rw [if_neg c50] at H
                    exact absurd H (by simp)
                · rw [if_neg c49] at H
                  have c49b0 : ((t322.length : Int) == 2) = false := beq_eq_false_iff_ne.mpr c49
                  have c49b1 : ((t322.length : Int) != 2) = true := bne_iff_ne.mpr c49
                  obtain rfl := Option.some.inj H
                  go_wp2_with (first | ((with_reducible refine gate_callee (f := 20) rfl ?_); refine goesL_ (some 90) rfl rfl Tryd.func20 (by kernel_rfl) rfl #[.int .i64 a1] rfl (by (try simp only [List.map_toArray, List.map_cons, List.map_nil]); first | done | rfl | (simp only [List.length_drop, List.length_take]; rfl)) ?_; (with_reducible refine (lex_Show.calls a1 t321 _ ?side1 A46.out).mono ?_); (case side1 => exact Tabs.below hT (by repeat (first | (with_reducible first | exact HB.out | apply below_alloc | apply pw_below_drewN | apply below_drew1) | exact HB.out))); rintro e w62 ⟨rfl, hb⟩; refine ⟨_, rfl, ?_⟩; have n0_ := Aside0.mk (below_step (by repeat (first | (with_reducible first | exact HB.out | apply below_alloc | apply pw_below_drewN | apply below_drew1) | exact HB.out)) hb); clear HB; have HB := n0_; clear n0_; (try clear hb); (try clear hb2); (try clear hk); (try clear hi)) | ((with_reducible refine gate_callee (f := 13) rfl ?_); refine goesL_ (some 91) rfl rfl Tryd.func13 (by kernel_rfl) rfl #[.string t321] rfl (by (try simp only [List.map_toArray, List.map_cons, List.map_nil]); first | done | rfl | (simp only [List.length_drop, List.length_take]; rfl)) ?_; (with_reducible refine (lex_Cut.calls t321 t322 t323 t324 _ ?side1 A47.out).mono ?_); (case side1 => exact Tabs.below hT (by repeat (first | (with_reducible first | exact HB.out | apply below_alloc | apply pw_below_drewN | apply below_drew1) | exact HB.out))); rintro e w63 ⟨v325, rfl, ho0, hb⟩; refine ⟨_, rfl, ?_⟩; have n0_ := Aside0.mk (Kd.R_lower ho0 (below_size (by repeat (first | (with_reducible first | exact HB.out | apply below_alloc | apply pw_below_drewN | apply below_drew1) | exact HB.out)))); have n1_ := Aside0.mk (below_step (by repeat (first | (with_reducible first | exact HB.out | apply below_alloc | apply pw_below_drewN | apply below_drew1) | exact HB.out)) hb); clear HB; have HO326 := n0_; have HB := n1_; clear n0_ n1_; (try clear hb); (try clear hb2); (try clear hk); (try clear hi); (try clear ho0); obtain ⟨Ao64, co64, eo64⟩ := Kd.R_slice HO326.out; subst eo64))
                  go_ret
                  exact ⟨by first | rfl | (simp [errW_none, errW_some] <;> rfl) | (simp [*, errW_none, errW_some] <;> rfl), by repeat (first | (with_reducible first | exact HB.out | apply below_alloc | apply pw_below_drewN | apply below_drew1) | exact HB.out)⟩
              · rw [if_neg c48] at H
                have c48b0 : (t323 == 0) = false := beq_eq_false_iff_ne.mpr c48
                have c48b1 : (t323 != 0) = true := bne_iff_ne.mpr c48
                obtain rfl := Option.some.inj H
                go_wp2_with (first | ((with_reducible refine gate_callee (f := 20) rfl ?_); refine goesL_ (some 90) rfl rfl Tryd.func20 (by kernel_rfl) rfl #[.int .i64 a1] rfl (by (try simp only [List.map_toArray, List.map_cons, List.map_nil]); first | done | rfl | (simp only [List.length_drop, List.length_take]; rfl)) ?_; (with_reducible refine (lex_Show.calls a1 t321 _ ?side1 A46.out).mono ?_); (case side1 => exact Tabs.below hT (by repeat (first | (with_reducible first | exact HB.out | apply below_alloc | apply pw_below_drewN | apply below_drew1) | exact HB.out))); rintro e w65 ⟨rfl, hb⟩; refine ⟨_, rfl, ?_⟩; have n0_ := Aside0.mk (below_step (by repeat (first | (with_reducible first | exact HB.out | apply below_alloc | apply pw_below_drewN | apply below_drew1) | exact HB.out)) hb); clear HB; have HB := n0_; clear n0_; (try clear hb); (try clear hb2); (try clear hk); (try clear hi)) | ((with_reducible refine gate_callee (f := 13) rfl ?_); refine goesL_ (some 91) rfl rfl Tryd.func13 (by kernel_rfl) rfl #[.string t321] rfl (by (try simp only [List.map_toArray, List.map_cons, List.map_nil]); first | done | rfl | (simp only [List.length_drop, List.length_take]; rfl)) ?_; (with_reducible refine (lex_Cut.calls t321 t322 t323 t324 _ ?side1 A47.out).mono ?_); (case side1 => exact Tabs.below hT (by repeat (first | (with_reducible first | exact HB.out | apply below_alloc | apply pw_below_drewN | apply below_drew1) | exact HB.out))); rintro e w66 ⟨v325, rfl, ho0, hb⟩; refine ⟨_, rfl, ?_⟩; have n0_ := Aside0.mk (Kd.R_lower ho0 (below_size (by repeat (first | (with_reducible first | exact HB.out | apply below_alloc | apply pw_below_drewN | apply below_drew1) | exact HB.out)))); have n1_ := Aside0.mk (below_step (by repeat (first | (with_reducible first | exact HB.out | apply below_alloc | apply pw_below_drewN | apply below_drew1) | exact HB.out)) hb); clear HB; have HO326 := n0_; have HB := n1_; clear n0_ n1_; (try clear hb); (try clear hb2); (try clear hk); (try clear hi); (try clear ho0)))
                go_ret
                exact ⟨by first | rfl | (simp [errW_none, errW_some] <;> rfl) | (simp [*, errW_none, errW_some] <;> rfl), by repeat (first | (with_reducible first | exact HB.out | apply below_alloc | apply pw_below_drewN | apply below_drew1) | exact HB.out)⟩
            · rw [if_neg c45] at H
              have c45b0 : decide (0 ≤ a1) = false := decide_eq_false c45
              clear c45
              obtain rfl := Option.some.inj H
              go_wp2
              go_ret
              exact ⟨by first | rfl | (simp [errW_none, errW_some] <;> rfl) | (simp [*, errW_none, errW_some] <;> rfl), by repeat (first | (with_reducible first | exact HB.out | apply below_alloc | apply pw_below_drewN | apply below_drew1) | exact HB.out)⟩
end Go.Proofs.YtlikjknakplamaaDoor.Print
/-! ### EJoined -/
namespace Go.Proofs.YtlikjknakplamaaDoor.Print
open Go.RowKit Go.Proofs.YtlikjknakplamaaDoorW.PrintWords Go.Proofs.YtlikjknakplamaaDoorW.PrintLast Go.Proofs.YtlikjknakplamaaDoorW.PrintMore
set_option linter.unusedSimpArgs false
set_option linter.unusedVariables false
def jStep (s : ByteArray) (t : S38) : ByteArray := if t.f0 = 3 then ((s ++ (⟨#[34]⟩ : ByteArray)) ++ t.f1) ++ (⟨#[34, 32]⟩ : ByteArray) else (s ++ t.f1) ++ (⟨#[32]⟩ : ByteArray)
def joinZ (s : ByteArray) (l : List S38) : ByteArray := l.foldl jStep s
def jSize (l : List S38) : Nat := (l.map fun t => t.f1.size + 3).sum
theorem jStep_size (s : ByteArray) (t : S38) : (jStep s t).size ≤ s.size + (t.f1.size + 3) := by
  unfold jStep
  split
  · rw [ByteArray.size_append, ByteArray.size_append, ByteArray.size_append]
    show s.size + 1 + t.f1.size + 2 ≤ _
    omega
  · rw [ByteArray.size_append, ByteArray.size_append]
    show s.size + t.f1.size + 1 ≤ _
    omega
theorem jSize_drop (l : List S38) (k : Nat) (hk : k < l.length) : jSize (l.drop k) = (l[k].f1.size + 3) + jSize (l.drop (k + 1)) := by
  unfold jSize
  rw [List.drop_eq_getElem_cons hk, List.map_cons, List.sum_cons]
theorem joinZ_drop (s : ByteArray) (l : List S38) (k : Nat) (hk : k < l.length) : joinZ s (l.drop k) = joinZ (jStep s l[k]) (l.drop (k + 1)) := by
  unfold joinZ
  rw [List.drop_eq_getElem_cons hk, List.foldl_cons]
def malthouselaw01_Joined.f (l0 : List S38) : Option ByteArray := if jSize l0 ≤ 1000000000 ∧ l0.length ≤ 1000000000 then some (joinZ ⟨#[]⟩ l0) else none
set_option maxHeartbeats 4000000 in
set_option maxRecDepth 100000 in
theorem malthouselaw01_Joined.calls (A0 : Option Addr) (c0 : Nat) (l0 : List S38) (r : ByteArray) (w : World) (hr0 : Kd.C k38 w A0 l0.length l0) (hc0 : l0.length ≤ c0) (h : malthouselaw01_Joined.f l0 = some r) :
    Calls Tryd.prog 22 #[.slice A0 l0.length c0] w fun e w' => e = .returned (.string r) ∧ Below w.heap.size w w' := by
  unfold malthouselaw01_Joined.f at h
  split at h
  case isFalse => cases h
  rename_i hl
  obtain rfl := Option.some.inj h
  clear h
  obtain ⟨V, hV⟩ : ∃ V, V = joinZ ⟨#[]⟩ l0 := ⟨_, rfl⟩
  rw [← hV]
  have HV := Lib.hid (show V = joinZ ⟨#[]⟩ (l0.drop 0) from hV)
  have HR := Lib.hid hr0
  have HJ := Lib.hid (show (⟨#[]⟩ : ByteArray).size + jSize (l0.drop 0) ≤ 1000000000 by show 0 + _ ≤ _; rw [List.drop_zero]; omega)
  have hu := Tryd.underlying38
  clear hV hr0
  go_enter Tryd.func22, Tryd.ntmps22
  go_wp2
  go_loopw [3, 4] (fun s i wr => ∃ (k : Nat) (x : ByteArray), k ≤ l0.length ∧ i = .int .i64 k ∧ s = .string x ∧ Hid (V = joinZ x (l0.drop k)) ∧ Hid (x.size + jSize (l0.drop k) ≤ 1000000000) ∧ Below w.heap.size w wr) (fun _ i _ => l0.length - (intOf i).toNat)
  case atStart => exact ⟨0, ⟨#[]⟩, by omega, rfl, rfl, HV, HJ, Below.refl _ _⟩
  case round =>
    obtain ⟨k, x, hk, rfl, rfl, hv, hj, hb⟩ := hrel
    clear HV HJ
    by_cases hlt : k < l0.length
    · have hlt' : (k : Int) < l0.length := by omega
      have hk0 : (0 : Int) ≤ k := by omega
      have hv' := hv.out
      have hj' := hj.out
      rw [joinZ_drop _ _ _ hlt] at hv'
      rw [jSize_drop _ _ hlt] at hj'
      obtain ⟨ad, e1, q0, q1, _, _⟩ := at_T38 (Kd.C_below HR.out hb) (k : Int) hk0 hlt'
      cases e1
      have e2 : rd_T38 l0 (k : Int) = l0[k] := getD_at l0 z38 k hlt
      rw [e2] at q0 q1
      rw [Int.toNat_natCast] at q0 q1
      generalize l0[k] = t at *
      have HV2 := Lib.hid hv'
      have HJ2 := Lib.hid (show (jStep x t).size + jSize (l0.drop (k + 1)) ≤ 1000000000 by have := jStep_size x t; omega)
      have hsz : x.size + t.f1.size ≤ 999999997 := by omega
      clear hv hj hv' hj' e2
      by_cases h3 : t.f0 = 3
      · have HS := Lib.hid (show jStep x t = ((x ++ (⟨#[34]⟩ : ByteArray)) ++ t.f1) ++ (⟨#[34, 32]⟩ : ByteArray) by unfold jStep; rw [if_pos h3])
        have h3b : (t.f0 == 3) = true := by rw [h3]; rfl
        go_wp2
        go_roundw
        case rel => exact ⟨k + 1, jStep x t, by omega, by go_num, by rw [HS.out], HV2, HJ2, hb⟩
        case measure => simp [intOf]; omega
      · have HS := Lib.hid (show jStep x t = (x ++ t.f1) ++ (⟨#[32]⟩ : ByteArray) by unfold jStep; rw [if_neg h3])
        have h3b : (t.f0 == 3) = false := by rw [beq_eq_false_iff_ne]; exact h3
        go_wp2
        go_roundw
        case rel => exact ⟨k + 1, jStep x t, by omega, by go_num, by rw [HS.out], HV2, HJ2, hb⟩
        case measure => simp [intOf]; omega
    · have hlt' : (l0.length : Int) ≤ k := by omega
      have hv' := hv.out
      rw [List.drop_eq_nil_of_le (by omega)] at hv'
      have HV2 := Lib.hid hv'
      clear hv hv'
      go_wp2
      go_ret
      exact ⟨by rw [HV2.out]; rfl, hb⟩
end Go.Proofs.YtlikjknakplamaaDoor.Print
/-! ### Print10 -/
namespace Go.Proofs.YtlikjknakplamaaDoor.Print
open Go.RowKit Go.Proofs.YtlikjknakplamaaDoorW.PrintWords Go.Proofs.YtlikjknakplamaaDoorW.PrintLast Go.Proofs.YtlikjknakplamaaDoorW.PrintMore
set_option linter.unusedVariables false
set_option linter.unusedSimpArgs false
mutual
def malthouselaw01_LexBack.j0 : Nat → Bool → List (S38) → Bool → Option (Bool)
  | 0, _, _, _ => none
  | k + 1, x3, x4, x27 => if x27 = true then (some x3) else ((malthouselaw01_Joined.f x4).bind fun t214 => ((lex_Cut.f t214).bind fun bt215 => (if bt215.2.1 = 0 then (malthouselaw01_LexBack.j1 k x4 bt215.1 ((bt215.1.length : Int) != (x4.length : Int))) else (malthouselaw01_LexBack.j1 k x4 bt215.1 true))))
def malthouselaw01_LexBack.j1 : Nat → List (S38) → List (S38) → Bool → Option (Bool)
  | 0, _, _, _ => none
  | k + 1, x4, x7, x44 => if x44 = true then (some false) else (malthouselaw01_LexBack.l0 k x4 x7 0)
def malthouselaw01_LexBack.l0 : Nat → List (S38) → List (S38) → Int → Option (Bool)
  | 0, _, _, _ => none
  | k + 1, x4, x7, x10 => if x10 < (x4.length : Int) then (if 0 ≤ x10 then (if x10 < (x7.length : Int) then (if ((rd_T38 x4 x10).f0) = ((rd_T38 x7 x10).f0) then (if ((rd_T38 x4 x10).f1).toList = ((rd_T38 x7 x10).f1).toList then (if ((rd_T38 x4 x10).f2) = ((rd_T38 x7 x10).f2) then (malthouselaw01_LexBack.l0 k x4 x7 (wrap64 (x10 + 1))) else (some false)) else (some false)) else (some false)) else (none)) else (none)) else (some true)
end
def malthouselaw01_LexBack.f (k : Nat) (a0 : ByteArray) : Option (Bool) := (malthouselaw01_awake.f).bind fun t208 => (if (a0.size : Int) > 3000 then (some t208) else ((lex_Cut.f a0).bind fun bt209 => (if t208 = true then (malthouselaw01_LexBack.j0 k t208 bt209.1 (bt209.2.1 != 0)) else (malthouselaw01_LexBack.j0 k t208 bt209.1 true))))
set_option maxHeartbeats 8000000 in
set_option maxRecDepth 100000 in
theorem malthouselaw01_LexBack.calls (k : Nat) (a0 : ByteArray) (r : Bool) (w : World) (hT : Tabs w) (h : malthouselaw01_LexBack.f k a0 = some r) :
    Calls Tryd.prog 6 #[.string a0] w fun e w' => e = .returned (.bool r) ∧ Below w.heap.size w w' := by
  have HB := Aside0.mk (Below.refl w.heap.size w)
  have H : ((malthouselaw01_awake.f).bind fun t208 => (if (a0.size : Int) > 3000 then (some t208) else ((lex_Cut.f a0).bind fun bt209 => (if t208 = true then (malthouselaw01_LexBack.j0 k t208 bt209.1 (bt209.2.1 != 0)) else (malthouselaw01_LexBack.j0 k t208 bt209.1 true))))) = some r := h
  clear h
  replace H := Option.bind_eq_some_iff.mp H
  obtain ⟨t208, A20, H⟩ := H
  replace H : (if (a0.size : Int) > 3000 then (some t208) else ((lex_Cut.f a0).bind fun bt209 => (if t208 = true then (malthouselaw01_LexBack.j0 k t208 bt209.1 (bt209.2.1 != 0)) else (malthouselaw01_LexBack.j0 k t208 bt209.1 true)))) = some r := H
  have A2 := Aside0.mk A20
  clear A20
  by_cases c3 : (a0.size : Int) > 3000
  · rw [if_pos c3] at H
    have c3b0 : decide (3000 < (a0.size : Int)) = true := decide_eq_true c3
    have c3b1 : decide (3000 < a0.size) = true := decide_eq_true (by omega)
    clear c3
    obtain rfl := Option.some.inj H
    go_enter Tryd.func6, Tryd.ntmps6
    go_wp2_with (first | (go_at_call 12; (with_reducible refine (malthouselaw01_awake.calls  t208 _ ?side1 A2.out).mono ?_); (case side1 => exact Tabs.below hT (by repeat (first | (with_reducible first | exact HB.out | apply below_alloc | apply pw_below_drewN | apply below_drew1) | exact HB.out))); rintro e w4 ⟨rfl, hb⟩; have n0_ := Aside0.mk (below_step (by repeat (first | (with_reducible first | exact HB.out | apply below_alloc | apply pw_below_drewN | apply below_drew1) | exact HB.out)) hb); clear HB; have HB := n0_; clear n0_; (try clear hb); (try clear hb2); (try clear hk); (try clear hi)))
    repeat (go_quiet (first | (go_at_call 12; (with_reducible refine (malthouselaw01_awake.calls  t208 _ ?side1 A2.out).mono ?_); (case side1 => exact Tabs.below hT (by repeat (first | (with_reducible first | exact HB.out | apply below_alloc | apply pw_below_drewN | apply below_drew1) | exact HB.out))); rintro e w4 ⟨rfl, hb⟩; have n0_ := Aside0.mk (below_step (by repeat (first | (with_reducible first | exact HB.out | apply below_alloc | apply pw_below_drewN | apply below_drew1) | exact HB.out)) hb); clear HB; have HB := n0_; clear n0_; (try clear hb); (try clear hb2); (try clear hk); (try clear hi))); try go_wp2_with (first | (go_at_call 12; (with_reducible refine (malthouselaw01_awake.calls  t208 _ ?side1 A2.out).mono ?_); (case side1 => exact Tabs.below hT (by repeat (first | (with_reducible first | exact HB.out | apply below_alloc | apply pw_below_drewN | apply below_drew1) | exact HB.out))); rintro e w4 ⟨rfl, hb⟩; have n0_ := Aside0.mk (below_step (by repeat (first | (with_reducible first | exact HB.out | apply below_alloc | apply pw_below_drewN | apply below_drew1) | exact HB.out)) hb); clear HB; have HB := n0_; clear n0_; (try clear hb); (try clear hb2); (try clear hk); (try clear hi))))
    go_ret
    exact ⟨by first | rfl | (simp [errW_none, errW_some] <;> rfl) | (simp [*, errW_none, errW_some] <;> rfl), by repeat (first | (with_reducible first | exact HB.out | apply below_alloc | apply pw_below_drewN | apply below_drew1) | exact HB.out)⟩
  · rw [if_neg c3] at H
    have c3b0 : decide (3000 < (a0.size : Int)) = false := decide_eq_false c3
    have c3b1 : decide (3000 < a0.size) = false := decide_eq_false (by omega)
    clear c3
    replace H := Option.bind_eq_some_iff.mp H
    obtain ⟨⟨t209, t210, t211⟩, A50, H⟩ := H
    replace H : (if t208 = true then (malthouselaw01_LexBack.j0 k t208 t209 (t210 != 0)) else (malthouselaw01_LexBack.j0 k t208 t209 true)) = some r := H
    have A5 := Aside0.mk A50
    clear A50
    have HC6 := Aside0.mk H
    clear H
    go_enter Tryd.func6, Tryd.ntmps6
    go_upto_region 5 with (first | (go_at_call 12; (with_reducible refine (malthouselaw01_awake.calls  t208 _ ?side1 A2.out).mono ?_); (case side1 => exact Tabs.below hT (by repeat (first | (with_reducible first | exact HB.out | apply below_alloc | apply pw_below_drewN | apply below_drew1) | exact HB.out))); rintro e w7 ⟨rfl, hb⟩; have n0_ := Aside0.mk (below_step (by repeat (first | (with_reducible first | exact HB.out | apply below_alloc | apply pw_below_drewN | apply below_drew1) | exact HB.out)) hb); clear HB; have HB := n0_; clear n0_; (try clear hb); (try clear hb2); (try clear hk); (try clear hi)) | (go_at_call 13; (with_reducible refine (lex_Cut.calls a0 t209 t210 t211 _ ?side1 A5.out).mono ?_); (case side1 => exact Tabs.below hT (by repeat (first | (with_reducible first | exact HB.out | apply below_alloc | apply pw_below_drewN | apply below_drew1) | exact HB.out))); rintro e w8 ⟨v212, rfl, ho0, hb⟩; have n0_ := Aside0.mk (Kd.R_lower ho0 (below_size (by repeat (first | (with_reducible first | exact HB.out | apply below_alloc | apply pw_below_drewN | apply below_drew1) | exact HB.out)))); have n1_ := Aside0.mk (below_step (by repeat (first | (with_reducible first | exact HB.out | apply below_alloc | apply pw_below_drewN | apply below_drew1) | exact HB.out)) hb); clear HB; have HO213 := n0_; have HB := n1_; clear n0_ n1_; (try clear hb); (try clear hb2); (try clear hk); (try clear hi); (try clear ho0)))
    repeat (go_quiet (first | (go_at_call 12; (with_reducible refine (malthouselaw01_awake.calls  t208 _ ?side1 A2.out).mono ?_); (case side1 => exact Tabs.below hT (by repeat (first | (with_reducible first | exact HB.out | apply below_alloc | apply pw_below_drewN | apply below_drew1) | exact HB.out))); rintro e w7 ⟨rfl, hb⟩; have n0_ := Aside0.mk (below_step (by repeat (first | (with_reducible first | exact HB.out | apply below_alloc | apply pw_below_drewN | apply below_drew1) | exact HB.out)) hb); clear HB; have HB := n0_; clear n0_; (try clear hb); (try clear hb2); (try clear hk); (try clear hi)) | (go_at_call 13; (with_reducible refine (lex_Cut.calls a0 t209 t210 t211 _ ?side1 A5.out).mono ?_); (case side1 => exact Tabs.below hT (by repeat (first | (with_reducible first | exact HB.out | apply below_alloc | apply pw_below_drewN | apply below_drew1) | exact HB.out))); rintro e w8 ⟨v212, rfl, ho0, hb⟩; have n0_ := Aside0.mk (Kd.R_lower ho0 (below_size (by repeat (first | (with_reducible first | exact HB.out | apply below_alloc | apply pw_below_drewN | apply below_drew1) | exact HB.out)))); have n1_ := Aside0.mk (below_step (by repeat (first | (with_reducible first | exact HB.out | apply below_alloc | apply pw_below_drewN | apply below_drew1) | exact HB.out)) hb); clear HB; have HO213 := n0_; have HB := n1_; clear n0_ n1_; (try clear hb); (try clear hb2); (try clear hk); (try clear hi); (try clear ho0))); go_upto_region 5 with (first | (go_at_call 12; (with_reducible refine (malthouselaw01_awake.calls  t208 _ ?side1 A2.out).mono ?_); (case side1 => exact Tabs.below hT (by repeat (first | (with_reducible first | exact HB.out | apply below_alloc | apply pw_below_drewN | apply below_drew1) | exact HB.out))); rintro e w7 ⟨rfl, hb⟩; have n0_ := Aside0.mk (below_step (by repeat (first | (with_reducible first | exact HB.out | apply below_alloc | apply pw_below_drewN | apply below_drew1) | exact HB.out)) hb); clear HB; have HB := n0_; clear n0_; (try clear hb); (try clear hb2); (try clear hk); (try clear hi)) | (go_at_call 13; (with_reducible refine (lex_Cut.calls a0 t209 t210 t211 _ ?side1 A5.out).mono ?_); (case side1 => exact Tabs.below hT (by repeat (first | (with_reducible first | exact HB.out | apply below_alloc | apply pw_below_drewN | apply below_drew1) | exact HB.out))); rintro e w8 ⟨v212, rfl, ho0, hb⟩; have n0_ := Aside0.mk (Kd.R_lower ho0 (below_size (by repeat (first | (with_reducible first | exact HB.out | apply below_alloc | apply pw_below_drewN | apply below_drew1) | exact HB.out)))); have n1_ := Aside0.mk (below_step (by repeat (first | (with_reducible first | exact HB.out | apply below_alloc | apply pw_below_drewN | apply below_drew1) | exact HB.out)) hb); clear HB; have HO213 := n0_; have HB := n1_; clear n0_ n1_; (try clear hb); (try clear hb2); (try clear hk); (try clear hi); (try clear ho0))))
    (try simp only [Act.put, List.setIfInBounds_toArray, List.set_cons_zero, List.set_cons_succ])
    go_cut [27] (fun v27 wc => ∃ (kq : Nat) (x27_5 : Bool), v27 = .bool x27_5 ∧ Aside0 (malthouselaw01_LexBack.j0 kq t208 t209 x27_5 = some r) ∧ Aside0 (kq ≤ k) ∧ Aside0 (Kd.R k38 38 wc w.heap.size (fun _ => True) v212 t209) ∧ Aside0 (Below w.heap.size w wc))
    case first =>
      have H := HC6.out
      clear HC6
      by_cases c9 : t208 = true
      · subst c9
        have H1 : (malthouselaw01_LexBack.j0 k true t209 (t210 != 0)) = some r := by rw [if_pos rfl] at H; exact H
        clear H
        have H := H1
        clear H1
        have H' := Aside0.mk H
        clear H
        go_wp2
        repeat (go_quiet (fail); try go_wp2)
        go_meet
        case rel => exact ⟨_, ((t210 != 0)), (by first | rfl | (simp; done) | (simp [*]; done)), H', ⟨by first | omega | exact Nat.le_refl _⟩, ⟨by (with_reducible repeat (first | apply Kd.R_alloc | apply Kd.R_drewN | apply Kd.R_drew)); exact HO213.out⟩, ⟨by repeat (first | (with_reducible first | exact HB.out | apply below_alloc | apply pw_below_drewN | apply below_drew1) | exact HB.out)⟩⟩
      · replace c9 := Bool.eq_false_iff.mpr c9
        subst c9
        have H1 : (malthouselaw01_LexBack.j0 k false t209 true) = some r := by rw [if_neg (show ¬ (false = true) by decide)] at H; exact H
        clear H
        have H := H1
        clear H1
        have H' := Aside0.mk H
        clear H
        go_wp2
        repeat (go_quiet (fail); try go_wp2)
        go_meet
        case rel => exact ⟨_, (true), (by first | rfl | (simp; done) | (simp [*]; done)), H', ⟨by first | omega | exact Nat.le_refl _⟩, ⟨by (with_reducible repeat (first | apply Kd.R_alloc | apply Kd.R_drewN | apply Kd.R_drew)); exact HO213.out⟩, ⟨by repeat (first | (with_reducible first | exact HB.out | apply below_alloc | apply pw_below_drewN | apply below_drew1) | exact HB.out)⟩⟩
    case rest =>
      clear HC6
      try clear p2
      try clear c3
      try clear c3b0
      try clear c3b1
      try clear c6
      try clear c9
      obtain ⟨kq, x27_5, rfl, HA, HJ5, HO_4, HB⟩ := hcut
      cases kq with
      | zero => exact absurd HA.out (by simp [malthouselaw01_LexBack.j0])
      | succ kj5 =>
        have H := HA.out
        clear HA
        simp only [malthouselaw01_LexBack.j0] at H
        by_cases c10 : x27_5 = true
        · subst c10
          have H1 : (some t208) = some r := by rw [if_pos rfl] at H; exact H
          clear H
          have H := H1
          clear H1
          obtain rfl := Option.some.inj H
          go_wp2
          repeat (go_quiet (fail); try go_wp2)
          go_ret
          exact ⟨by first | rfl | (simp [errW_none, errW_some] <;> rfl) | (simp [*, errW_none, errW_some] <;> rfl), by repeat (first | (with_reducible first | exact HB.out | apply below_alloc | apply pw_below_drewN | apply below_drew1) | exact HB.out)⟩
        · replace c10 := Bool.eq_false_iff.mpr c10
          subst c10
          have H1 : ((malthouselaw01_Joined.f t209).bind fun t214 => ((lex_Cut.f t214).bind fun bt215 => (if bt215.2.1 = 0 then (malthouselaw01_LexBack.j1 kj5 t209 bt215.1 ((bt215.1.length : Int) != (t209.length : Int))) else (malthouselaw01_LexBack.j1 kj5 t209 bt215.1 true)))) = some r := by rw [if_neg (show ¬ (false = true) by decide)] at H; exact H
          clear H
          have H := H1
          clear H1
          replace H := Option.bind_eq_some_iff.mp H
          obtain ⟨t214, A110, H⟩ := H
          replace H : ((lex_Cut.f t214).bind fun bt215 => (if bt215.2.1 = 0 then (malthouselaw01_LexBack.j1 kj5 t209 bt215.1 ((bt215.1.length : Int) != (t209.length : Int))) else (malthouselaw01_LexBack.j1 kj5 t209 bt215.1 true))) = some r := H
          have A11 := Aside0.mk A110
          clear A110
          replace H := Option.bind_eq_some_iff.mp H
          obtain ⟨⟨t215, t216, t217⟩, A120, H⟩ := H
          replace H : (if t216 = 0 then (malthouselaw01_LexBack.j1 kj5 t209 t215 ((t215.length : Int) != (t209.length : Int))) else (malthouselaw01_LexBack.j1 kj5 t209 t215 true)) = some r := H
          have A12 := Aside0.mk A120
          clear A120
          have HC13 := Aside0.mk H
          clear H
          obtain ⟨Ao14, co14, eo14⟩ := Kd.R_slice HO_4.out
          subst eo14
          go_upto_region 8 with (first | (go_at_call 22; (with_reducible refine (malthouselaw01_Joined.calls _ _ t209 t214 _ ?side1 ?side2 A11.out).mono ?_); (case side1 => repeat (first | exact (Kd.R_reads' HO_4.out).2.2 | (with_reducible refine Kd.C_alloc ?_ _) | (with_reducible refine Kd.C_drewN ?_ _) | (with_reducible refine Kd.C_drew ?_))); (case side2 => exact (Kd.R_reads' HO_4.out).2.1); rintro e w15 ⟨rfl, hb⟩; have n0_ := Aside0.mk (Kd.R_below (by (with_reducible repeat (first | apply Kd.R_alloc | apply Kd.R_drewN | apply Kd.R_drew)); exact HO_4.out) hb); have n1_ := Aside0.mk (below_step (by repeat (first | (with_reducible first | exact HB.out | apply below_alloc | apply pw_below_drewN | apply below_drew1) | exact HB.out)) hb); clear HO_4; clear HB; have HO_4 := n0_; have HB := n1_; clear n0_ n1_; (try clear hb); (try clear hb2); (try clear hk); (try clear hi)) | (go_at_call 13; (with_reducible refine (lex_Cut.calls t214 t215 t216 t217 _ ?side1 A12.out).mono ?_); (case side1 => exact Tabs.below hT (by repeat (first | (with_reducible first | exact HB.out | apply below_alloc | apply pw_below_drewN | apply below_drew1) | exact HB.out))); rintro e w16 ⟨v218, rfl, ho0, hb⟩; have n0_ := Aside0.mk (Kd.R_elder' (by (with_reducible repeat (first | apply Kd.R_alloc | apply Kd.R_drewN | apply Kd.R_drew)); exact HO_4.out) (Kd.R_base ho0) hb); have n1_ := Aside0.mk (Kd.R_lower (Kd.R_new' ho0 (Kd.R_lt (by (with_reducible repeat (first | apply Kd.R_alloc | apply Kd.R_drewN | apply Kd.R_drew)); exact HO_4.out))) (below_size (by repeat (first | (with_reducible first | exact HB.out | apply below_alloc | apply pw_below_drewN | apply below_drew1) | exact HB.out)))); have n2_ := Aside0.mk (below_step (by repeat (first | (with_reducible first | exact HB.out | apply below_alloc | apply pw_below_drewN | apply below_drew1) | exact HB.out)) hb); clear HO_4; clear HB; have HO_4 := n0_; have HO219 := n1_; have HB := n2_; clear n0_ n1_ n2_; (try clear hb); (try clear hb2); (try clear hk); (try clear hi); (try clear ho0)))
          repeat (go_quiet (first | (go_at_call 22; (with_reducible refine (malthouselaw01_Joined.calls _ _ t209 t214 _ ?side1 ?side2 A11.out).mono ?_); (case side1 => repeat (first | exact (Kd.R_reads' HO_4.out).2.2 | (with_reducible refine Kd.C_alloc ?_ _) | (with_reducible refine Kd.C_drewN ?_ _) | (with_reducible refine Kd.C_drew ?_))); (case side2 => exact (Kd.R_reads' HO_4.out).2.1); rintro e w15 ⟨rfl, hb⟩; have n0_ := Aside0.mk (Kd.R_below (by (with_reducible repeat (first | apply Kd.R_alloc | apply Kd.R_drewN | apply Kd.R_drew)); exact HO_4.out) hb); have n1_ := Aside0.mk (below_step (by repeat (first | (with_reducible first | exact HB.out | apply below_alloc | apply pw_below_drewN | apply below_drew1) | exact HB.out)) hb); clear HO_4; clear HB; have HO_4 := n0_; have HB := n1_; clear n0_ n1_; (try clear hb); (try clear hb2); (try clear hk); (try clear hi)) | (go_at_call 13; (with_reducible refine (lex_Cut.calls t214 t215 t216 t217 _ ?side1 A12.out).mono ?_); (case side1 => exact Tabs.below hT (by repeat (first | (with_reducible first | exact HB.out | apply below_alloc | apply pw_below_drewN | apply below_drew1) | exact HB.out))); rintro e w16 ⟨v218, rfl, ho0, hb⟩; have n0_ := Aside0.mk (Kd.R_elder' (by (with_reducible repeat (first | apply Kd.R_alloc | apply Kd.R_drewN | apply Kd.R_drew)); exact HO_4.out) (Kd.R_base ho0) hb); have n1_ := Aside0.mk (Kd.R_lower (Kd.R_new' ho0 (Kd.R_lt (by (with_reducible repeat (first | apply Kd.R_alloc | apply Kd.R_drewN | apply Kd.R_drew)); exact HO_4.out))) (below_size (by repeat (first | (with_reducible first | exact HB.out | apply below_alloc | apply pw_below_drewN | apply below_drew1) | exact HB.out)))); have n2_ := Aside0.mk (below_step (by repeat (first | (with_reducible first | exact HB.out | apply below_alloc | apply pw_below_drewN | apply below_drew1) | exact HB.out)) hb); clear HO_4; clear HB; have HO_4 := n0_; have HO219 := n1_; have HB := n2_; clear n0_ n1_ n2_; (try clear hb); (try clear hb2); (try clear hk); (try clear hi); (try clear ho0))); go_upto_region 8 with (first | (go_at_call 22; (with_reducible refine (malthouselaw01_Joined.calls _ _ t209 t214 _ ?side1 ?side2 A11.out).mono ?_); (case side1 => repeat (first | exact (Kd.R_reads' HO_4.out).2.2 | (with_reducible refine Kd.C_alloc ?_ _) | (with_reducible refine Kd.C_drewN ?_ _) | (with_reducible refine Kd.C_drew ?_))); (case side2 => exact (Kd.R_reads' HO_4.out).2.1); rintro e w15 ⟨rfl, hb⟩; have n0_ := Aside0.mk (Kd.R_below (by (with_reducible repeat (first | apply Kd.R_alloc | apply Kd.R_drewN | apply Kd.R_drew)); exact HO_4.out) hb); have n1_ := Aside0.mk (below_step (by repeat (first | (with_reducible first | exact HB.out | apply below_alloc | apply pw_below_drewN | apply below_drew1) | exact HB.out)) hb); clear HO_4; clear HB; have HO_4 := n0_; have HB := n1_; clear n0_ n1_; (try clear hb); (try clear hb2); (try clear hk); (try clear hi)) | (go_at_call 13; (with_reducible refine (lex_Cut.calls t214 t215 t216 t217 _ ?side1 A12.out).mono ?_); (case side1 => exact Tabs.below hT (by repeat (first | (with_reducible first | exact HB.out | apply below_alloc | apply pw_below_drewN | apply below_drew1) | exact HB.out))); rintro e w16 ⟨v218, rfl, ho0, hb⟩; have n0_ := Aside0.mk (Kd.R_elder' (by (with_reducible repeat (first | apply Kd.R_alloc | apply Kd.R_drewN | apply Kd.R_drew)); exact HO_4.out) (Kd.R_base ho0) hb); have n1_ := Aside0.mk (Kd.R_lower (Kd.R_new' ho0 (Kd.R_lt (by (with_reducible repeat (first | apply Kd.R_alloc | apply Kd.R_drewN | apply Kd.R_drew)); exact HO_4.out))) (below_size (by repeat (first | (with_reducible first | exact HB.out | apply below_alloc | apply pw_below_drewN | apply below_drew1) | exact HB.out)))); have n2_ := Aside0.mk (below_step (by repeat (first | (with_reducible first | exact HB.out | apply below_alloc | apply pw_below_drewN | apply below_drew1) | exact HB.out)) hb); clear HO_4; clear HB; have HO_4 := n0_; have HO219 := n1_; have HB := n2_; clear n0_ n1_ n2_; (try clear hb); (try clear hb2); (try clear hk); (try clear hi); (try clear ho0))))
          (try simp only [Act.put, List.setIfInBounds_toArray, List.set_cons_zero, List.set_cons_succ])
          go_cut [44] (fun v44 wc => ∃ (kq : Nat) (x44_12 : Bool), v44 = .bool x44_12 ∧ Aside0 (malthouselaw01_LexBack.j1 kq t209 t215 x44_12 = some r) ∧ Aside0 (kq ≤ kj5) ∧ Aside0 (Kd.R k38 38 wc w.heap.size (fun k_ => some k_ ≠ (v218 : Value).ownBlock) (.slice Ao14 t209.length co14) t209) ∧ Aside0 (Kd.R k38 38 wc w.heap.size (fun k_ => some k_ ≠ ((.slice Ao14 t209.length co14) : Value).ownBlock) v218 t215) ∧ Aside0 (Below w.heap.size w wc))
          case first =>
            have H := HC13.out
            clear HC13
            by_cases c17 : t216 = 0
            · rw [if_pos c17] at H
              have c17b0 : (t216 == 0) = true := beq_iff_eq.mpr c17
              have c17b1 : (t216 != 0) = false := bne_eq_false_iff_eq.mpr c17
              clear c17
              (first | rw [c17b0] | (simp only [i64_w, i32_w]; rw [c17b0]) | skip)
              have H' := Aside0.mk H
              clear H
              obtain ⟨Ao18, co18, eo18⟩ := Kd.R_slice HO219.out
              subst eo18
              go_wp2
              repeat (go_quiet (fail); try go_wp2)
              go_meet
              case rel => exact ⟨_, (((t215.length : Int) != (t209.length : Int))), (by first | rfl | (simp; done) | (simp [*]; done)), H', ⟨by have := HJ5.out; first | omega | exact Nat.le_refl _⟩, ⟨by (with_reducible repeat (first | apply Kd.R_alloc | apply Kd.R_drewN | apply Kd.R_drew)); exact Kd.R_mono HO_4.out (fun _ hk => hk.2)⟩, ⟨by (with_reducible repeat (first | apply Kd.R_alloc | apply Kd.R_drewN | apply Kd.R_drew)); exact Kd.R_mono HO219.out (fun _ hk => hk.2)⟩, ⟨by repeat (first | (with_reducible first | exact HB.out | apply below_alloc | apply pw_below_drewN | apply below_drew1) | exact HB.out)⟩⟩
            · rw [if_neg c17] at H
              have c17b0 : (t216 == 0) = false := beq_eq_false_iff_ne.mpr c17
              have c17b1 : (t216 != 0) = true := bne_iff_ne.mpr c17
              (first | rw [c17b0] | (simp only [i64_w, i32_w]; rw [c17b0]) | skip)
              have H' := Aside0.mk H
              clear H
              go_wp2
              repeat (go_quiet (fail); try go_wp2)
              go_meet
              case rel => exact ⟨_, (true), (by first | rfl | (simp; done) | (simp [*]; done)), H', ⟨by have := HJ5.out; first | omega | exact Nat.le_refl _⟩, ⟨by (with_reducible repeat (first | apply Kd.R_alloc | apply Kd.R_drewN | apply Kd.R_drew)); exact Kd.R_mono HO_4.out (fun _ hk => hk.2)⟩, ⟨by (with_reducible repeat (first | apply Kd.R_alloc | apply Kd.R_drewN | apply Kd.R_drew)); exact Kd.R_mono HO219.out (fun _ hk => hk.2)⟩, ⟨by repeat (first | (with_reducible first | exact HB.out | apply below_alloc | apply pw_below_drewN | apply below_drew1) | exact HB.out)⟩⟩
          case rest =>
            clear HC13
            try clear c1
            try clear p2
            try clear c3
            try clear c3b0
            try clear c3b1
            try clear c6
            try clear c9
            try clear c10
            try clear c17
            try clear c17b0
            try clear c17b1
            try clear p2
            obtain ⟨kq, x44_12, rfl, HA, HJ12, HO_4, HO_7, HB⟩ := hcut
            cases kq with
            | zero => exact absurd HA.out (by simp [malthouselaw01_LexBack.j1])
            | succ kj12 =>
              have H := HA.out
              clear HA
              simp only [malthouselaw01_LexBack.j1] at H
              by_cases c19 : x44_12 = true
              · subst c19
                have H1 : (some false) = some r := by rw [if_pos rfl] at H; exact H
                clear H
                have H := H1
                clear H1
                obtain rfl := Option.some.inj H
                go_wp2
                repeat (go_quiet (fail); try go_wp2)
                go_ret
                exact ⟨by first | rfl | (simp [errW_none, errW_some] <;> rfl) | (simp [*, errW_none, errW_some] <;> rfl), by repeat (first | (with_reducible first | exact HB.out | apply below_alloc | apply pw_below_drewN | apply below_drew1) | exact HB.out)⟩
              · replace c19 := Bool.eq_false_iff.mpr c19
                subst c19
                have H1 : (malthouselaw01_LexBack.l0 kj12 t209 t215 0) = some r := by rw [if_neg (show ¬ (false = true) by decide)] at H; exact H
                clear H
                have H := H1
                clear H1
                have H' := Aside0.mk H
                clear H
                go_wp2
                repeat (go_quiet (fail); try go_wp2)
                go_loopg [10] kj12 (fun kq v10 w' => ∃ (x10_3 : Int), v10 = .int .i64 x10_3 ∧ Aside0 (malthouselaw01_LexBack.l0 kq t209 t215 x10_3 = some r) ∧ Aside0 (kq ≤ kj12) ∧ Aside0 (Kd.R k38 38 w' w.heap.size (fun k_ => some k_ ≠ (v218 : Value).ownBlock) (.slice Ao14 t209.length co14) t209) ∧ Aside0 (Kd.R k38 38 w' w.heap.size (fun k_ => some k_ ≠ ((.slice Ao14 t209.length co14) : Value).ownBlock) v218 t215) ∧ Aside0 (Below w.heap.size w w'))
                case atStart => exact ⟨(0), (by first | rfl | (simp; done) | (simp [*]; done)), H', ⟨Nat.le_refl _⟩, ⟨by (with_reducible repeat (first | apply Kd.R_alloc | apply Kd.R_drewN | apply Kd.R_drew)); exact HO_4.out⟩, ⟨by (with_reducible repeat (first | apply Kd.R_alloc | apply Kd.R_drewN | apply Kd.R_drew)); exact HO_7.out⟩, ⟨by repeat (first | (with_reducible first | exact HB.out | apply below_alloc | apply pw_below_drewN | apply below_drew1) | exact HB.out)⟩⟩
                case round =>
                  clear H'
                  try clear c1
                  try clear p2
                  try clear c3
                  try clear c3b0
                  try clear c3b1
                  try clear c6
                  try clear c9
                  try clear c10
                  try clear c17
                  try clear c17b0
                  try clear c17b1
                  try clear c19
                  try clear p2
                  obtain ⟨x10_3, rfl, HA, HK3, HO_4, HO_7, HB⟩ := hrel
                  cases gk with
                  | zero => exact absurd HA.out (by simp [malthouselaw01_LexBack.l0])
                  | succ k3 =>
                    have H := HA.out
                    clear HA
                    simp only [malthouselaw01_LexBack.l0] at H
                    by_cases c20 : x10_3 < (t209.length : Int)
                    · rw [if_pos c20] at H
                      have c20b0 : decide (x10_3 < (t209.length : Int)) = true := decide_eq_true c20
                      clear c20
                      by_cases c21 : 0 ≤ x10_3
                      · rw [if_pos c21] at H
                        have c21b0 : decide (0 ≤ x10_3) = true := decide_eq_true c21
                        clear c21
                        by_cases c22 : x10_3 < (t215.length : Int)
                        · rw [if_pos c22] at H
                          have c22b0 : decide (x10_3 < (t215.length : Int)) = true := decide_eq_true c22
                          clear c22
                          by_cases c23 : ((rd_T38 t209 x10_3).f0) = ((rd_T38 t215 x10_3).f0)
                          · rw [if_pos c23] at H
                            have c23b0 : (((rd_T38 t209 x10_3).f0) == ((rd_T38 t215 x10_3).f0)) = true := beq_iff_eq.mpr c23
                            have c23b1 : (((rd_T38 t209 x10_3).f0) != ((rd_T38 t215 x10_3).f0)) = false := bne_eq_false_iff_eq.mpr c23
                            clear c23
                            by_cases c24 : ((rd_T38 t209 x10_3).f1).toList = ((rd_T38 t215 x10_3).f1).toList
                            · rw [if_pos c24] at H
                              have c24b0 : (((rd_T38 t209 x10_3).f1).toList == ((rd_T38 t215 x10_3).f1).toList) = true := beq_iff_eq.mpr c24
                              have c24b1 : (((rd_T38 t209 x10_3).f1).toList != ((rd_T38 t215 x10_3).f1).toList) = false := bne_eq_false_iff_eq.mpr c24
                              clear c24
                              by_cases c25 : ((rd_T38 t209 x10_3).f2) = ((rd_T38 t215 x10_3).f2)
                              · rw [if_pos c25] at H
                                have c25b0 : (((rd_T38 t209 x10_3).f2) == ((rd_T38 t215 x10_3).f2)) = true := beq_iff_eq.mpr c25
                                have c25b1 : (((rd_T38 t209 x10_3).f2) != ((rd_T38 t215 x10_3).f2)) = false := bne_eq_false_iff_eq.mpr c25
                                clear c25
                                have H' := Aside0.mk H
                                clear H
                                have p220 : 0 ≤ (x10_3 : Int) := of_decide_eq_true (by first | (with_reducible assumption) | assumption)
                                have q220 : x10_3 < (t209.length : Int) := of_decide_eq_true (by first | (with_reducible assumption) | assumption)
                                obtain ⟨ad220, e220, hx220_0, hx220_1, hx220_2, hx220_3⟩ := at_T38 (Kd.R_reads' HO_4.out).2.2 x10_3 p220 q220
                                cases e220
                                replace p220 := eq_true p220
                                replace q220 := eq_true q220
                                obtain ⟨Ao26, co26, eo26⟩ := Kd.R_slice HO_7.out
                                subst eo26
                                have p221 : 0 ≤ (x10_3 : Int) := of_decide_eq_true (by first | (with_reducible assumption) | assumption)
                                have q221 : x10_3 < (t215.length : Int) := of_decide_eq_true (by first | (with_reducible assumption) | assumption)
                                obtain ⟨ad221, e221, hx221_0, hx221_1, hx221_2, hx221_3⟩ := at_T38 (Kd.R_reads' HO_7.out).2.2 x10_3 p221 q221
                                cases e221
                                replace p221 := eq_true p221
                                replace q221 := eq_true q221
                                have p222 : 0 ≤ (x10_3 : Int) := of_decide_eq_true (by first | (with_reducible assumption) | assumption)
                                have q222 : x10_3 < (t209.length : Int) := of_decide_eq_true (by first | (with_reducible assumption) | assumption)
                                obtain ⟨ad222, e222, hx222_0, hx222_1, hx222_2, hx222_3⟩ := at_T38 (Kd.R_reads' HO_4.out).2.2 x10_3 p222 q222
                                obtain rfl : ad220 = ad222 := (by injection e222)
                                replace p222 := eq_true p222
                                replace q222 := eq_true q222
                                have p223 : 0 ≤ (x10_3 : Int) := of_decide_eq_true (by first | (with_reducible assumption) | assumption)
                                have q223 : x10_3 < (t215.length : Int) := of_decide_eq_true (by first | (with_reducible assumption) | assumption)
                                obtain ⟨ad223, e223, hx223_0, hx223_1, hx223_2, hx223_3⟩ := at_T38 (Kd.R_reads' HO_7.out).2.2 x10_3 p223 q223
                                obtain rfl : ad221 = ad223 := (by injection e223)
                                replace p223 := eq_true p223
                                replace q223 := eq_true q223
                                have p224 : 0 ≤ (x10_3 : Int) := of_decide_eq_true (by first | (with_reducible assumption) | assumption)
                                have q224 : x10_3 < (t209.length : Int) := of_decide_eq_true (by first | (with_reducible assumption) | assumption)
                                obtain ⟨ad224, e224, hx224_0, hx224_1, hx224_2, hx224_3⟩ := at_T38 (Kd.R_reads' HO_4.out).2.2 x10_3 p224 q224
                                obtain rfl : ad220 = ad224 := (by injection e224)
                                replace p224 := eq_true p224
                                replace q224 := eq_true q224
                                have p225 : 0 ≤ (x10_3 : Int) := of_decide_eq_true (by first | (with_reducible assumption) | assumption)
                                have q225 : x10_3 < (t215.length : Int) := of_decide_eq_true (by first | (with_reducible assumption) | assumption)
                                obtain ⟨ad225, e225, hx225_0, hx225_1, hx225_2, hx225_3⟩ := at_T38 (Kd.R_reads' HO_7.out).2.2 x10_3 p225 q225
                                obtain rfl : ad221 = ad225 := (by injection e225)
                                replace p225 := eq_true p225
                                replace q225 := eq_true q225
                                go_wp2
                                repeat (go_quiet (fail); try go_wp2)
                                go_roundg k3
                                case measure => have := HJ5.out; have := HJ12.out; have := HK3.out; omega
                                case rel => exact ⟨(wrap64 (x10_3 + 1)), (by first | rfl | (simp; done) | (simp [*]; done)), H', ⟨by have := HJ5.out; have := HJ12.out; have := HK3.out; omega⟩, ⟨by (with_reducible repeat (first | apply Kd.R_alloc | apply Kd.R_drewN | apply Kd.R_drew)); exact HO_4.out⟩, ⟨by (with_reducible repeat (first | apply Kd.R_alloc | apply Kd.R_drewN | apply Kd.R_drew)); exact HO_7.out⟩, ⟨by repeat (first | (with_reducible first | exact HB.out | apply below_alloc | apply pw_below_drewN | apply below_drew1) | exact HB.out)⟩⟩
                              · rw [if_neg c25] at H
                                have c25b0 : (((rd_T38 t209 x10_3).f2) == ((rd_T38 t215 x10_3).f2)) = false := beq_eq_false_iff_ne.mpr c25
                                have c25b1 : (((rd_T38 t209 x10_3).f2) != ((rd_T38 t215 x10_3).f2)) = true := bne_iff_ne.mpr c25
                                obtain rfl := Option.some.inj H
                                have p220 : 0 ≤ (x10_3 : Int) := of_decide_eq_true (by first | (with_reducible assumption) | assumption)
                                have q220 : x10_3 < (t209.length : Int) := of_decide_eq_true (by first | (with_reducible assumption) | assumption)
                                obtain ⟨ad220, e220, hx220_0, hx220_1, hx220_2, hx220_3⟩ := at_T38 (Kd.R_reads' HO_4.out).2.2 x10_3 p220 q220
                                cases e220
                                replace p220 := eq_true p220
                                replace q220 := eq_true q220
                                obtain ⟨Ao27, co27, eo27⟩ := Kd.R_slice HO_7.out
                                subst eo27
                                have p221 : 0 ≤ (x10_3 : Int) := of_decide_eq_true (by first | (with_reducible assumption) | assumption)
                                have q221 : x10_3 < (t215.length : Int) := of_decide_eq_true (by first | (with_reducible assumption) | assumption)
                                obtain ⟨ad221, e221, hx221_0, hx221_1, hx221_2, hx221_3⟩ := at_T38 (Kd.R_reads' HO_7.out).2.2 x10_3 p221 q221
                                cases e221
                                replace p221 := eq_true p221
                                replace q221 := eq_true q221
                                have p222 : 0 ≤ (x10_3 : Int) := of_decide_eq_true (by first | (with_reducible assumption) | assumption)
                                have q222 : x10_3 < (t209.length : Int) := of_decide_eq_true (by first | (with_reducible assumption) | assumption)
                                obtain ⟨ad222, e222, hx222_0, hx222_1, hx222_2, hx222_3⟩ := at_T38 (Kd.R_reads' HO_4.out).2.2 x10_3 p222 q222
                                obtain rfl : ad220 = ad222 := (by injection e222)
                                replace p222 := eq_true p222
                                replace q222 := eq_true q222
                                have p223 : 0 ≤ (x10_3 : Int) := of_decide_eq_true (by first | (with_reducible assumption) | assumption)
                                have q223 : x10_3 < (t215.length : Int) := of_decide_eq_true (by first | (with_reducible assumption) | assumption)
                                obtain ⟨ad223, e223, hx223_0, hx223_1, hx223_2, hx223_3⟩ := at_T38 (Kd.R_reads' HO_7.out).2.2 x10_3 p223 q223
                                obtain rfl : ad221 = ad223 := (by injection e223)
                                replace p223 := eq_true p223
                                replace q223 := eq_true q223
                                have p224 : 0 ≤ (x10_3 : Int) := of_decide_eq_true (by first | (with_reducible assumption) | assumption)
                                have q224 : x10_3 < (t209.length : Int) := of_decide_eq_true (by first | (with_reducible assumption) | assumption)
                                obtain ⟨ad224, e224, hx224_0, hx224_1, hx224_2, hx224_3⟩ := at_T38 (Kd.R_reads' HO_4.out).2.2 x10_3 p224 q224
                                obtain rfl : ad220 = ad224 := (by injection e224)
                                replace p224 := eq_true p224
                                replace q224 := eq_true q224
                                have p225 : 0 ≤ (x10_3 : Int) := of_decide_eq_true (by first | (with_reducible assumption) | assumption)
                                have q225 : x10_3 < (t215.length : Int) := of_decide_eq_true (by first | (with_reducible assumption) | assumption)
                                obtain ⟨ad225, e225, hx225_0, hx225_1, hx225_2, hx225_3⟩ := at_T38 (Kd.R_reads' HO_7.out).2.2 x10_3 p225 q225
                                obtain rfl : ad221 = ad225 := (by injection e225)
                                replace p225 := eq_true p225
                                replace q225 := eq_true q225
                                go_wp2
                                repeat (go_quiet (fail); try go_wp2)
                                go_ret
                                exact ⟨by first | rfl | (simp [errW_none, errW_some] <;> rfl) | (simp [*, errW_none, errW_some] <;> rfl), by repeat (first | (with_reducible first | exact HB.out | apply below_alloc | apply pw_below_drewN | apply below_drew1) | exact HB.out)⟩
                            · rw [if_neg c24] at H
                              have c24b0 : (((rd_T38 t209 x10_3).f1).toList == ((rd_T38 t215 x10_3).f1).toList) = false := beq_eq_false_iff_ne.mpr c24
                              have c24b1 : (((rd_T38 t209 x10_3).f1).toList != ((rd_T38 t215 x10_3).f1).toList) = true := bne_iff_ne.mpr c24
                              obtain rfl := Option.some.inj H
                              have p220 : 0 ≤ (x10_3 : Int) := of_decide_eq_true (by first | (with_reducible assumption) | assumption)
                              have q220 : x10_3 < (t209.length : Int) := of_decide_eq_true (by first | (with_reducible assumption) | assumption)
                              obtain ⟨ad220, e220, hx220_0, hx220_1, hx220_2, hx220_3⟩ := at_T38 (Kd.R_reads' HO_4.out).2.2 x10_3 p220 q220
                              cases e220
                              replace p220 := eq_true p220
                              replace q220 := eq_true q220
                              obtain ⟨Ao28, co28, eo28⟩ := Kd.R_slice HO_7.out
                              subst eo28
                              have p221 : 0 ≤ (x10_3 : Int) := of_decide_eq_true (by first | (with_reducible assumption) | assumption)
                              have q221 : x10_3 < (t215.length : Int) := of_decide_eq_true (by first | (with_reducible assumption) | assumption)
                              obtain ⟨ad221, e221, hx221_0, hx221_1, hx221_2, hx221_3⟩ := at_T38 (Kd.R_reads' HO_7.out).2.2 x10_3 p221 q221
                              cases e221
                              replace p221 := eq_true p221
                              replace q221 := eq_true q221
                              have p222 : 0 ≤ (x10_3 : Int) := of_decide_eq_true (by first | (with_reducible assumption) | assumption)
                              have q222 : x10_3 < (t209.length : Int) := of_decide_eq_true (by first | (with_reducible assumption) | assumption)
                              obtain ⟨ad222, e222, hx222_0, hx222_1, hx222_2, hx222_3⟩ := at_T38 (Kd.R_reads' HO_4.out).2.2 x10_3 p222 q222
                              obtain rfl : ad220 = ad222 := (by injection e222)
                              replace p222 := eq_true p222
                              replace q222 := eq_true q222
                              have p223 : 0 ≤ (x10_3 : Int) := of_decide_eq_true (by first | (with_reducible assumption) | assumption)
                              have q223 : x10_3 < (t215.length : Int) := of_decide_eq_true (by first | (with_reducible assumption) | assumption)
                              obtain ⟨ad223, e223, hx223_0, hx223_1, hx223_2, hx223_3⟩ := at_T38 (Kd.R_reads' HO_7.out).2.2 x10_3 p223 q223
                              obtain rfl : ad221 = ad223 := (by injection e223)
                              replace p223 := eq_true p223
                              replace q223 := eq_true q223
                              go_wp2
                              repeat (go_quiet (fail); try go_wp2)
                              go_ret
                              exact ⟨by first | rfl | (simp [errW_none, errW_some] <;> rfl) | (simp [*, errW_none, errW_some] <;> rfl), by repeat (first | (with_reducible first | exact HB.out | apply below_alloc | apply pw_below_drewN | apply below_drew1) | exact HB.out)⟩
                          · rw [if_neg c23] at H
                            have c23b0 : (((rd_T38 t209 x10_3).f0) == ((rd_T38 t215 x10_3).f0)) = false := beq_eq_false_iff_ne.mpr c23
                            have c23b1 : (((rd_T38 t209 x10_3).f0) != ((rd_T38 t215 x10_3).f0)) = true := bne_iff_ne.mpr c23
                            obtain rfl := Option.some.inj H
                            have p220 : 0 ≤ (x10_3 : Int) := of_decide_eq_true (by first | (with_reducible assumption) | assumption)
                            have q220 : x10_3 < (t209.length : Int) := of_decide_eq_true (by first | (with_reducible assumption) | assumption)
                            obtain ⟨ad220, e220, hx220_0, hx220_1, hx220_2, hx220_3⟩ := at_T38 (Kd.R_reads' HO_4.out).2.2 x10_3 p220 q220
                            cases e220
                            replace p220 := eq_true p220
                            replace q220 := eq_true q220
                            obtain ⟨Ao29, co29, eo29⟩ := Kd.R_slice HO_7.out
                            subst eo29
                            have p221 : 0 ≤ (x10_3 : Int) := of_decide_eq_true (by first | (with_reducible assumption) | assumption)
                            have q221 : x10_3 < (t215.length : Int) := of_decide_eq_true (by first | (with_reducible assumption) | assumption)
                            obtain ⟨ad221, e221, hx221_0, hx221_1, hx221_2, hx221_3⟩ := at_T38 (Kd.R_reads' HO_7.out).2.2 x10_3 p221 q221
                            cases e221
                            replace p221 := eq_true p221
                            replace q221 := eq_true q221
                            go_wp2
                            repeat (go_quiet (fail); try go_wp2)
                            go_ret
                            exact ⟨by first | rfl | (simp [errW_none, errW_some] <;> rfl) | (simp [*, errW_none, errW_some] <;> rfl), by repeat (first | (with_reducible first | exact HB.out | apply below_alloc | apply pw_below_drewN | apply below_drew1) | exact HB.out)⟩
                        · rw [if_neg c22] at H
                          exact absurd H (by simp)
                      · rw [if_neg c21] at H
                        exact absurd H (by simp)
                    · rw [if_neg c20] at H
                      have c20b0 : decide (x10_3 < (t209.length : Int)) = false := decide_eq_false c20
                      clear c20
                      obtain rfl := Option.some.inj H
                      go_wp2
                      repeat (go_quiet (fail); try go_wp2)
                      go_ret
                      exact ⟨by first | rfl | (simp [errW_none, errW_some] <;> rfl) | (simp [*, errW_none, errW_some] <;> rfl), by repeat (first | (with_reducible first | exact HB.out | apply below_alloc | apply pw_below_drewN | apply below_drew1) | exact HB.out)⟩
end Go.Proofs.YtlikjknakplamaaDoor.Print
/-! ### NmPure -/
namespace Go.Proofs.YtlikjknakplamaaDoor.Print
open Go.RowKit Go.Proofs.YtlikjknakplamaaDoorW.PrintWords Go.Proofs.YtlikjknakplamaaDoorW.PrintLast Go.Proofs.YtlikjknakplamaaDoorW.PrintMore
set_option linter.unusedSimpArgs false
set_option linter.unusedVariables false
def byteAt (s : ByteArray) (i : Nat) : Nat := (s.get! i).toNat
theorem bt_byteAt (s : ByteArray) (i : Nat) (h : i < s.size) : bt s (i : Int) = byteAt s i := by
  unfold bt byteAt
  have e : s.get! i = s[i]'h := by have := get_at s i h; simpa using this
  rw [Int.toNat_natCast, dif_pos h, e]
theorem wrap_small (x : Int) (h0 : -9223372036854775808 ≤ x) (h1 : x ≤ 9223372036854775807) : wrap64 x = x := by unfold wrap64; omega
/-- Is a text a name? -/
def nameB (s : ByteArray) : Bool := Lib.validD s.data.toList && wordyB s && (decide (byteAt s 0 < 48) || decide (57 < byteAt s 0)) && decide (Lib.runeCount s ≤ 12)
theorem lex_name_is (s : ByteArray) (hs : s.size ≤ 1000000000) : lex_Name.f s = some (nameB s) := by
  have hcount : utf8_RuneCountInString.f s = some (Lib.runeCount s : Int) := if_pos (by omega)
  have hvalid : utf8_ValidString.f s = some (Lib.validD s.data.toList) := if_pos (by omega)
  unfold lex_Name.f nameB lex_wordy.f
  rw [hvalid, hcount]
  simp only [Option.bind_some]
  by_cases h1 : Lib.validD s.data.toList = true
  · rw [if_pos h1, h1]
    by_cases h2 : wordyB s = true
    · rw [if_pos h2, h2]
      have hpos : 0 < s.size := by
        have := h2
        unfold wordyB at this
        simp at this
        exact this.2
      rw [if_pos (by omega), show (0 : Int) = ((0 : Nat) : Int) from rfl, bt_byteAt s 0 hpos]
      simp only [Bool.true_and]
      by_cases h3 : byteAt s 0 < 48
      · rw [if_pos (by omega)]
        simp [h3]
        norm_cast
      · rw [if_neg (by omega)]
        by_cases h4 : 57 < byteAt s 0
        · rw [if_pos (by omega)]
          simp [h3, h4]
          norm_cast
        · rw [if_neg (by omega)]
          simp [h3, h4]
    · rw [if_neg h2]
      simp [h2]
  · rw [if_neg h1]
    simp [h1]
end Go.Proofs.YtlikjknakplamaaDoor.Print
/-! ### LxNum -/
namespace Go.Proofs.YtlikjknakplamaaDoor
open Go.Lib
set_option linter.unusedSimpArgs false
set_option linter.unusedVariables false
theorem class_digit (r : Nat) (h0 : 48 ≤ r) (h1 : r ≤ 57) : classZ (r : Int) = 3 := by
  unfold classZ
  rw [if_neg (by omega), if_neg (by omega), if_neg (by omega), if_pos (by omega)]
/-- The digits of a number, as runes. -/
def digs (u : Nat) : List Nat := (decDigits u).map UInt8.toNat
theorem digs_small (u : Nat) (h : u < 10) : digs u = [48 + u] := by
  unfold digs
  rw [decDigits, dif_pos h]
  simp
  omega
theorem digs_more (u : Nat) (h : ¬ u < 10) : digs u = digs (u / 10) ++ [48 + u % 10] := by
  unfold digs
  rw [decDigits, dif_neg h, List.map_append]
  congr 1
  simp
  omega
theorem digs_digit : ∀ (u : Nat), ∀ r ∈ digs u, 48 ≤ r ∧ r ≤ 57 := by
  intro u
  induction u using Nat.strongRecOn with
  | _ u ih =>
    intro r hr
    by_cases h : u < 10
    · rw [digs_small u h] at hr
      simp at hr
      omega
    · rw [digs_more u h] at hr
      rcases List.mem_append.1 hr with hr | hr
      · exact ih (u / 10) (by omega) r hr
      · simp at hr
        omega
theorem digitsR_snoc : ∀ (a : List Nat) (d n : Nat), 48 ≤ d → d ≤ 57 → digitsR (a ++ [d]) n = (digitsR a n).map fun m => 10 * m + (d - 48)
  | [], d, n, h0, h1 => by
    show (if classZ (d : Int) = 3 then digitsR [] (10 * n + (d - 48)) else none) = _
    rw [if_pos (class_digit d h0 h1)]
    rfl
  | x :: a, d, n, h0, h1 => by
    rw [List.cons_append, digitsR, digitsR]
    split
    · exact digitsR_snoc a d _ h0 h1
    · rfl
theorem digs_value : ∀ u : Nat, digitsR (digs u) 0 = some u := by
  intro u
  induction u using Nat.strongRecOn with
  | _ u ih =>
    by_cases h : u < 10
    · rw [digs_small u h, digitsR, if_pos (class_digit _ (by omega) (by omega)), digitsR]
      congr 1
      omega
    · rw [digs_more u h, digitsR_snoc _ _ _ (by omega) (by omega), ih (u / 10) (by omega)]
      show some (10 * (u / 10) + (48 + u % 10 - 48)) = some u
      congr 1
      omega
theorem digs_len : ∀ u : Nat, 1 ≤ u → 10 ^ ((digs u).length - 1) ≤ u ∧ 1 ≤ (digs u).length ∧ (digs u).head? ≠ some 48 := by
  intro u
  induction u using Nat.strongRecOn with
  | _ u ih =>
    intro hu
    by_cases h : u < 10
    · rw [digs_small u h]
      simp
      omega
    · obtain ⟨h1, h2, h3⟩ := ih (u / 10) (by omega) (by omega)
      rw [digs_more u h, List.length_append, List.length_singleton, Nat.add_sub_cancel]
      refine ⟨?_, by omega, ?_⟩
      · obtain ⟨k, hk⟩ : ∃ k, (digs (u / 10)).length = k + 1 := ⟨(digs (u / 10)).length - 1, by omega⟩
        rw [hk] at h1 ⊢
        rw [Nat.add_sub_cancel] at h1
        rw [Nat.pow_succ]
        omega
      · cases hd : digs (u / 10) with
        | nil => rw [hd] at h2; simp at h2
        | cons x l => rw [hd] at h3; simpa using h3
theorem digs_ne (u : Nat) : digs u ≠ [] := by
  intro h
  by_cases hu : u < 10
  · rw [digs_small u hu] at h; cases h
  · rw [digs_more u hu] at h; simp at h
theorem digs_numR (u : Nat) (hu : u ≤ 9223372036854775807) : numR (digs u) = ((u : Int), true) := by
  unfold numR
  have hc : ¬ (digs u = [] ∨ 19 < (digs u).length ∨ (1 < (digs u).length ∧ (digs u).head? = some 48)) := by
    rintro (h | h | h)
    · exact digs_ne u h
    · by_cases h1 : 1 ≤ u
      · obtain ⟨k1, _, _⟩ := digs_len u h1
        have : 10 ^ 19 ≤ 10 ^ ((digs u).length - 1) := Nat.pow_le_pow_right (by omega) (by omega)
        have e : (10 : Nat) ^ 19 = 10000000000000000000 := by decide
        omega
      · rw [digs_small u (by omega)] at h
        simp at h
    · by_cases h1 : 1 ≤ u
      · exact (digs_len u h1).2.2 h.2
      · rw [digs_small u (by omega)] at h
        simp at h
  rw [if_neg hc, digs_value]
  unfold told
  simp only
  rw [if_neg (by omega)]
theorem txt_digs (u : Nat) : txt (digs u) = decDigits u := by
  have : ∀ l : List UInt8, (∀ b ∈ l, b.toNat < 128) → txt (l.map UInt8.toNat) = l := by
    intro l
    induction l with
    | nil => intro _; rfl
    | cons b l ih =>
      intro h
      rw [List.map_cons, txt_cons, ih (fun x hx => h x (List.mem_cons_of_mem _ hx)), enc_small _ (h b List.mem_cons_self)]
      simp
  refine this (decDigits u) (fun b hb => ?_)
  have := digs_digit u b.toNat (List.mem_map.2 ⟨b, hb, rfl⟩)
  omega
theorem digs_ok (u : Nat) : ∀ r ∈ digs u, okR r := fun r hr => ok_small r (by have := digs_digit u r hr; omega)
/-- What is shown of a number, as runes. -/
def showR (n : Int) : List Nat := if n < 0 then 45 :: digs n.natAbs else digs n.toNat
theorem txt_show (n : Int) : txt (showR n) = itoa n := by
  unfold showR itoa
  split
  · rw [txt_cons, txt_digs, enc_small 45 (by omega)]
    rfl
  · exact txt_digs _
end Go.Proofs.YtlikjknakplamaaDoor
/-! ### LxLaw3 -/
namespace Go.Proofs.YtlikjknakplamaaDoor.Print
open Go.RowKit Go.Proofs.YtlikjknakplamaaDoorW.PrintWords Go.Proofs.YtlikjknakplamaaDoorW.PrintLast Go.Proofs.YtlikjknakplamaaDoorW.PrintMore
set_option linter.unusedSimpArgs false
set_option linter.unusedVariables false
theorem showZ_str (n : Int) : showZ n = str (showR n) := by
  unfold showZ str
  rw [txt_show]
end Go.Proofs.YtlikjknakplamaaDoor.Print
/-! ### Print11 -/
namespace Go.Proofs.YtlikjknakplamaaDoor.Print
open Go.RowKit Go.Proofs.YtlikjknakplamaaDoorW.PrintWords Go.Proofs.YtlikjknakplamaaDoorW.PrintLast Go.Proofs.YtlikjknakplamaaDoorW.PrintMore
set_option linter.unusedVariables false
set_option linter.unusedSimpArgs false
mutual
def malthouselaw01_LexPlaces.l0 : Nat → ByteArray → Bool → List (S38) → Int → Int → Option (Bool)
  | 0, _, _, _, _, _ => none
  | k + 1, x0, x3, x4, x6, x7 => if x7 < (x4.length : Int) then (if 0 ≤ x7 then (if ((rd_T38 x4 x7).f3) < 0 then (malthouselaw01_LexPlaces.j1 k x0 x3 x4 x6 x7 (x7 == (wrap64 ((x4.length : Int) - 1))) true) else (if ((rd_T38 x4 x7).f3) > (x0.size : Int) then (malthouselaw01_LexPlaces.j1 k x0 x3 x4 x6 x7 (x7 == (wrap64 ((x4.length : Int) - 1))) true) else (if x7 > 0 then (if 0 ≤ (wrap64 (x7 - 1)) then (if (wrap64 (x7 - 1)) < (x4.length : Int) then (if ((rd_T38 x4 x7).f3) ≤ ((rd_T38 x4 (wrap64 (x7 - 1))).f3) then (malthouselaw01_LexPlaces.j1 k x0 x3 x4 x6 x7 (x7 == (wrap64 ((x4.length : Int) - 1))) true) else (malthouselaw01_LexPlaces.j1 k x0 x3 x4 x6 x7 (x7 == (wrap64 ((x4.length : Int) - 1))) ((x7 == (wrap64 ((x4.length : Int) - 1))) != (((rd_T38 x4 x7).f0) == 0)))) else (none)) else (none)) else (malthouselaw01_LexPlaces.j1 k x0 x3 x4 x6 x7 (x7 == (wrap64 ((x4.length : Int) - 1))) ((x7 == (wrap64 ((x4.length : Int) - 1))) != (((rd_T38 x4 x7).f0) == 0)))))) else (none)) else (if x3 = true then (if (x4.length : Int) > 0 then (some (x6 == 0)) else (some false)) else (some false))
def malthouselaw01_LexPlaces.j1 : Nat → ByteArray → Bool → List (S38) → Int → Int → Bool → Bool → Option (Bool)
  | 0, _, _, _, _, _, _, _ => none
  | k + 1, x0, x3, x4, x6, x7, x8, x92 => if x92 = true then (some false) else (if 0 ≤ x7 then (if x7 < (x4.length : Int) then (if ((rd_T38 x4 x7).f1).toList = ([] : List UInt8) then (if ((rd_T38 x4 x7).f0) = 3 then (if x8 = true then (malthouselaw01_LexPlaces.l0 k x0 x3 x4 x6 (wrap64 (x7 + 1))) else (malthouselaw01_LexPlaces.l0 k x0 x3 x4 x6 (wrap64 (x7 + 1)))) else (if x8 = true then (malthouselaw01_LexPlaces.l0 k x0 x3 x4 x6 (wrap64 (x7 + 1))) else (some false))) else (if x8 = true then (some false) else (malthouselaw01_LexPlaces.l0 k x0 x3 x4 x6 (wrap64 (x7 + 1))))) else (none)) else (none))
end
def malthouselaw01_LexPlaces.f (k : Nat) (a0 : ByteArray) : Option (Bool) := (malthouselaw01_awake.f).bind fun t226 => (if (a0.size : Int) > 3000 then (some t226) else ((lex_Cut.f a0).bind fun bt227 => (if bt227.2.1 = 0 then (malthouselaw01_LexPlaces.l0 k a0 t226 bt227.1 bt227.2.2 0) else (if t226 = true then (if (bt227.1.length : Int) = 0 then (if bt227.2.2 ≥ 0 then (some (decide (bt227.2.2 ≤ (a0.size : Int)))) else (some false)) else (some false)) else (some false)))))
set_option maxHeartbeats 8000000 in
set_option maxRecDepth 100000 in
theorem malthouselaw01_LexPlaces.calls (k : Nat) (a0 : ByteArray) (r : Bool) (w : World) (hT : Tabs w) (h : malthouselaw01_LexPlaces.f k a0 = some r) :
    Calls Tryd.prog 7 #[.string a0] w fun e w' => e = .returned (.bool r) ∧ Below w.heap.size w w' := by
  have HB := Aside0.mk (Below.refl w.heap.size w)
  have H : ((malthouselaw01_awake.f).bind fun t226 => (if (a0.size : Int) > 3000 then (some t226) else ((lex_Cut.f a0).bind fun bt227 => (if bt227.2.1 = 0 then (malthouselaw01_LexPlaces.l0 k a0 t226 bt227.1 bt227.2.2 0) else (if t226 = true then (if (bt227.1.length : Int) = 0 then (if bt227.2.2 ≥ 0 then (some (decide (bt227.2.2 ≤ (a0.size : Int)))) else (some false)) else (some false)) else (some false)))))) = some r := h
  clear h
  replace H := Option.bind_eq_some_iff.mp H
  obtain ⟨t226, A20, H⟩ := H
  replace H : (if (a0.size : Int) > 3000 then (some t226) else ((lex_Cut.f a0).bind fun bt227 => (if bt227.2.1 = 0 then (malthouselaw01_LexPlaces.l0 k a0 t226 bt227.1 bt227.2.2 0) else (if t226 = true then (if (bt227.1.length : Int) = 0 then (if bt227.2.2 ≥ 0 then (some (decide (bt227.2.2 ≤ (a0.size : Int)))) else (some false)) else (some false)) else (some false))))) = some r := H
  have A2 := Aside0.mk A20
  clear A20
  by_cases c3 : (a0.size : Int) > 3000
  · rw [if_pos c3] at H
    have c3b0 : decide (3000 < (a0.size : Int)) = true := decide_eq_true c3
    have c3b1 : decide (3000 < a0.size) = true := decide_eq_true (by omega)
    clear c3
    obtain rfl := Option.some.inj H
    go_enter Tryd.func7, Tryd.ntmps7
    go_wp2_with (first | (go_at_call 12; (with_reducible refine (malthouselaw01_awake.calls  t226 _ ?side1 A2.out).mono ?_); (case side1 => exact Tabs.below hT (by repeat (first | (with_reducible first | exact HB.out | apply below_alloc | apply pw_below_drewN | apply below_drew1) | exact HB.out))); rintro e w4 ⟨rfl, hb⟩; have n0_ := Aside0.mk (below_step (by repeat (first | (with_reducible first | exact HB.out | apply below_alloc | apply pw_below_drewN | apply below_drew1) | exact HB.out)) hb); clear HB; have HB := n0_; clear n0_; (try clear hb); (try clear hb2); (try clear hk); (try clear hi)))
    repeat (go_quiet (first | (go_at_call 12; (with_reducible refine (malthouselaw01_awake.calls  t226 _ ?side1 A2.out).mono ?_); (case side1 => exact Tabs.below hT (by repeat (first | (with_reducible first | exact HB.out | apply below_alloc | apply pw_below_drewN | apply below_drew1) | exact HB.out))); rintro e w4 ⟨rfl, hb⟩; have n0_ := Aside0.mk (below_step (by repeat (first | (with_reducible first | exact HB.out | apply below_alloc | apply pw_below_drewN | apply below_drew1) | exact HB.out)) hb); clear HB; have HB := n0_; clear n0_; (try clear hb); (try clear hb2); (try clear hk); (try clear hi))); try go_wp2_with (first | (go_at_call 12; (with_reducible refine (malthouselaw01_awake.calls  t226 _ ?side1 A2.out).mono ?_); (case side1 => exact Tabs.below hT (by repeat (first | (with_reducible first | exact HB.out | apply below_alloc | apply pw_below_drewN | apply below_drew1) | exact HB.out))); rintro e w4 ⟨rfl, hb⟩; have n0_ := Aside0.mk (below_step (by repeat (first | (with_reducible first | exact HB.out | apply below_alloc | apply pw_below_drewN | apply below_drew1) | exact HB.out)) hb); clear HB; have HB := n0_; clear n0_; (try clear hb); (try clear hb2); (try clear hk); (try clear hi))))
    go_ret
    exact ⟨by first | rfl | (simp [errW_none, errW_some] <;> rfl) | (simp [*, errW_none, errW_some] <;> rfl), by repeat (first | (with_reducible first | exact HB.out | apply below_alloc | apply pw_below_drewN | apply below_drew1) | exact HB.out)⟩
  · rw [if_neg c3] at H
    have c3b0 : decide (3000 < (a0.size : Int)) = false := decide_eq_false c3
    have c3b1 : decide (3000 < a0.size) = false := decide_eq_false (by omega)
    clear c3
    replace H := Option.bind_eq_some_iff.mp H
    obtain ⟨⟨t227, t228, t229⟩, A50, H⟩ := H
    replace H : (if t228 = 0 then (malthouselaw01_LexPlaces.l0 k a0 t226 t227 t229 0) else (if t226 = true then (if (t227.length : Int) = 0 then (if t229 ≥ 0 then (some (decide (t229 ≤ (a0.size : Int)))) else (some false)) else (some false)) else (some false))) = some r := H
    have A5 := Aside0.mk A50
    clear A50
    by_cases c6 : t228 = 0
    · rw [if_pos c6] at H
      have c6b0 : (t228 == 0) = true := beq_iff_eq.mpr c6
      have c6b1 : (t228 != 0) = false := bne_eq_false_iff_eq.mpr c6
      clear c6
      have H' := Aside0.mk H
      clear H
      go_enter Tryd.func7, Tryd.ntmps7
      go_wp2_with (first | (go_at_call 12; (with_reducible refine (malthouselaw01_awake.calls  t226 _ ?side1 A2.out).mono ?_); (case side1 => exact Tabs.below hT (by repeat (first | (with_reducible first | exact HB.out | apply below_alloc | apply pw_below_drewN | apply below_drew1) | exact HB.out))); rintro e w7 ⟨rfl, hb⟩; have n0_ := Aside0.mk (below_step (by repeat (first | (with_reducible first | exact HB.out | apply below_alloc | apply pw_below_drewN | apply below_drew1) | exact HB.out)) hb); clear HB; have HB := n0_; clear n0_; (try clear hb); (try clear hb2); (try clear hk); (try clear hi)) | (go_at_call 13; (with_reducible refine (lex_Cut.calls a0 t227 t228 t229 _ ?side1 A5.out).mono ?_); (case side1 => exact Tabs.below hT (by repeat (first | (with_reducible first | exact HB.out | apply below_alloc | apply pw_below_drewN | apply below_drew1) | exact HB.out))); rintro e w8 ⟨v230, rfl, ho0, hb⟩; have n0_ := Aside0.mk (Kd.R_lower ho0 (below_size (by repeat (first | (with_reducible first | exact HB.out | apply below_alloc | apply pw_below_drewN | apply below_drew1) | exact HB.out)))); have n1_ := Aside0.mk (below_step (by repeat (first | (with_reducible first | exact HB.out | apply below_alloc | apply pw_below_drewN | apply below_drew1) | exact HB.out)) hb); clear HB; have HO231 := n0_; have HB := n1_; clear n0_ n1_; (try clear hb); (try clear hb2); (try clear hk); (try clear hi); (try clear ho0)))
      repeat (go_quiet (first | (go_at_call 12; (with_reducible refine (malthouselaw01_awake.calls  t226 _ ?side1 A2.out).mono ?_); (case side1 => exact Tabs.below hT (by repeat (first | (with_reducible first | exact HB.out | apply below_alloc | apply pw_below_drewN | apply below_drew1) | exact HB.out))); rintro e w7 ⟨rfl, hb⟩; have n0_ := Aside0.mk (below_step (by repeat (first | (with_reducible first | exact HB.out | apply below_alloc | apply pw_below_drewN | apply below_drew1) | exact HB.out)) hb); clear HB; have HB := n0_; clear n0_; (try clear hb); (try clear hb2); (try clear hk); (try clear hi)) | (go_at_call 13; (with_reducible refine (lex_Cut.calls a0 t227 t228 t229 _ ?side1 A5.out).mono ?_); (case side1 => exact Tabs.below hT (by repeat (first | (with_reducible first | exact HB.out | apply below_alloc | apply pw_below_drewN | apply below_drew1) | exact HB.out))); rintro e w8 ⟨v230, rfl, ho0, hb⟩; have n0_ := Aside0.mk (Kd.R_lower ho0 (below_size (by repeat (first | (with_reducible first | exact HB.out | apply below_alloc | apply pw_below_drewN | apply below_drew1) | exact HB.out)))); have n1_ := Aside0.mk (below_step (by repeat (first | (with_reducible first | exact HB.out | apply below_alloc | apply pw_below_drewN | apply below_drew1) | exact HB.out)) hb); clear HB; have HO231 := n0_; have HB := n1_; clear n0_ n1_; (try clear hb); (try clear hb2); (try clear hk); (try clear hi); (try clear ho0))); try go_wp2_with (first | (go_at_call 12; (with_reducible refine (malthouselaw01_awake.calls  t226 _ ?side1 A2.out).mono ?_); (case side1 => exact Tabs.below hT (by repeat (first | (with_reducible first | exact HB.out | apply below_alloc | apply pw_below_drewN | apply below_drew1) | exact HB.out))); rintro e w7 ⟨rfl, hb⟩; have n0_ := Aside0.mk (below_step (by repeat (first | (with_reducible first | exact HB.out | apply below_alloc | apply pw_below_drewN | apply below_drew1) | exact HB.out)) hb); clear HB; have HB := n0_; clear n0_; (try clear hb); (try clear hb2); (try clear hk); (try clear hi)) | (go_at_call 13; (with_reducible refine (lex_Cut.calls a0 t227 t228 t229 _ ?side1 A5.out).mono ?_); (case side1 => exact Tabs.below hT (by repeat (first | (with_reducible first | exact HB.out | apply below_alloc | apply pw_below_drewN | apply below_drew1) | exact HB.out))); rintro e w8 ⟨v230, rfl, ho0, hb⟩; have n0_ := Aside0.mk (Kd.R_lower ho0 (below_size (by repeat (first | (with_reducible first | exact HB.out | apply below_alloc | apply pw_below_drewN | apply below_drew1) | exact HB.out)))); have n1_ := Aside0.mk (below_step (by repeat (first | (with_reducible first | exact HB.out | apply below_alloc | apply pw_below_drewN | apply below_drew1) | exact HB.out)) hb); clear HB; have HO231 := n0_; have HB := n1_; clear n0_ n1_; (try clear hb); (try clear hb2); (try clear hk); (try clear hi); (try clear ho0))))
      go_loopg [7] k (fun kq v7 w' => ∃ (x7_1 : Int), v7 = .int .i64 x7_1 ∧ Aside0 (malthouselaw01_LexPlaces.l0 kq a0 t226 t227 t229 x7_1 = some r) ∧ Aside0 (kq ≤ k) ∧ Aside0 (Kd.R k38 38 w' w.heap.size (fun _ => True) v230 t227) ∧ Aside0 (Below w.heap.size w w'))
      case atStart => exact ⟨(0), (by first | rfl | (simp; done) | (simp [*]; done)), H', ⟨Nat.le_refl _⟩, ⟨by (with_reducible repeat (first | apply Kd.R_alloc | apply Kd.R_drewN | apply Kd.R_drew)); exact HO231.out⟩, ⟨by repeat (first | (with_reducible first | exact HB.out | apply below_alloc | apply pw_below_drewN | apply below_drew1) | exact HB.out)⟩⟩
      case round =>
        clear H'
        try clear p2
        try clear c3
        try clear c3b0
        try clear c3b1
        try clear c6
        try clear c6b0
        try clear c6b1
        try clear c7
        obtain ⟨x7_1, rfl, HA, HK1, HO_4, HB⟩ := hrel
        cases gk with
        | zero => exact absurd HA.out (by simp [malthouselaw01_LexPlaces.l0])
        | succ k1 =>
          have H := HA.out
          clear HA
          simp only [malthouselaw01_LexPlaces.l0] at H
          by_cases c9 : x7_1 < (t227.length : Int)
          · rw [if_pos c9] at H
            have c9b0 : decide (x7_1 < (t227.length : Int)) = true := decide_eq_true c9
            clear c9
            have HC10 := Aside0.mk H
            clear H
            obtain ⟨Ao11, co11, eo11⟩ := Kd.R_slice HO_4.out
            subst eo11
            go_upto_region 11 with (fail)
            repeat (go_quiet (fail); go_upto_region 11 with (fail))
            go_cut [92] (fun v92 wc => ∃ (kq : Nat) (x92_9 : Bool), v92 = .bool x92_9 ∧ Aside0 (malthouselaw01_LexPlaces.j1 kq a0 t226 t227 t229 x7_1 (x7_1 == (wrap64 ((t227.length : Int) - 1))) x92_9 = some r) ∧ Aside0 (kq ≤ k1) ∧ Aside0 (Kd.R k38 38 wc w.heap.size (fun _ => True) (.slice Ao11 t227.length co11) t227) ∧ Aside0 (Below w.heap.size w wc))
            case first =>
              have H := HC10.out
              clear HC10
              by_cases c12 : 0 ≤ x7_1
              · rw [if_pos c12] at H
                have c12b0 : decide (0 ≤ x7_1) = true := decide_eq_true c12
                clear c12
                (first | rw [c12b0] | (simp only [i64_w, i32_w]; rw [c12b0]) | skip)
                by_cases c13 : ((rd_T38 t227 x7_1).f3) < 0
                · rw [if_pos c13] at H
                  have c13b0 : decide (((rd_T38 t227 x7_1).f3) < 0) = true := decide_eq_true c13
                  clear c13
                  have H' := Aside0.mk H
                  clear H
                  have p232 : 0 ≤ (x7_1 : Int) := of_decide_eq_true (by first | (with_reducible assumption) | assumption)
                  have q232 : x7_1 < (t227.length : Int) := of_decide_eq_true (by first | (with_reducible assumption) | assumption)
                  obtain ⟨ad232, e232, hx232_0, hx232_1, hx232_2, hx232_3⟩ := at_T38 (Kd.R_reads' HO_4.out).2.2 x7_1 p232 q232
                  cases e232
                  replace p232 := eq_true p232
                  replace q232 := eq_true q232
                  go_wp2
                  repeat (go_quiet (fail); try go_wp2)
                  go_meet
                  case rel => exact ⟨_, (true), (by first | rfl | (simp; done) | (simp [*]; done)), H', ⟨by have := HK1.out; first | omega | exact Nat.le_refl _⟩, ⟨by (with_reducible repeat (first | apply Kd.R_alloc | apply Kd.R_drewN | apply Kd.R_drew)); exact HO_4.out⟩, ⟨by repeat (first | (with_reducible first | exact HB.out | apply below_alloc | apply pw_below_drewN | apply below_drew1) | exact HB.out)⟩⟩
                · rw [if_neg c13] at H
                  have c13b0 : decide (((rd_T38 t227 x7_1).f3) < 0) = false := decide_eq_false c13
                  clear c13
                  by_cases c14 : ((rd_T38 t227 x7_1).f3) > (a0.size : Int)
                  · rw [if_pos c14] at H
                    have c14b0 : decide ((a0.size : Int) < ((rd_T38 t227 x7_1).f3)) = true := decide_eq_true c14
                    clear c14
                    have H' := Aside0.mk H
                    clear H
                    have p232 : 0 ≤ (x7_1 : Int) := of_decide_eq_true (by first | (with_reducible assumption) | assumption)
                    have q232 : x7_1 < (t227.length : Int) := of_decide_eq_true (by first | (with_reducible assumption) | assumption)
                    obtain ⟨ad232, e232, hx232_0, hx232_1, hx232_2, hx232_3⟩ := at_T38 (Kd.R_reads' HO_4.out).2.2 x7_1 p232 q232
                    cases e232
                    replace p232 := eq_true p232
                    replace q232 := eq_true q232
                    have p233 : 0 ≤ (x7_1 : Int) := of_decide_eq_true (by first | (with_reducible assumption) | assumption)
                    have q233 : x7_1 < (t227.length : Int) := of_decide_eq_true (by first | (with_reducible assumption) | assumption)
                    obtain ⟨ad233, e233, hx233_0, hx233_1, hx233_2, hx233_3⟩ := at_T38 (Kd.R_reads' HO_4.out).2.2 x7_1 p233 q233
                    obtain rfl : ad232 = ad233 := (by injection e233)
                    replace p233 := eq_true p233
                    replace q233 := eq_true q233
                    go_wp2
                    repeat (go_quiet (fail); try go_wp2)
                    go_meet
                    case rel => exact ⟨_, (true), (by first | rfl | (simp; done) | (simp [*]; done)), H', ⟨by have := HK1.out; first | omega | exact Nat.le_refl _⟩, ⟨by (with_reducible repeat (first | apply Kd.R_alloc | apply Kd.R_drewN | apply Kd.R_drew)); exact HO_4.out⟩, ⟨by repeat (first | (with_reducible first | exact HB.out | apply below_alloc | apply pw_below_drewN | apply below_drew1) | exact HB.out)⟩⟩
                  · rw [if_neg c14] at H
                    have c14b0 : decide ((a0.size : Int) < ((rd_T38 t227 x7_1).f3)) = false := decide_eq_false c14
                    clear c14
                    by_cases c15 : x7_1 > 0
                    · rw [if_pos c15] at H
                      have c15b0 : decide (0 < x7_1) = true := decide_eq_true c15
                      clear c15
                      obtain ⟨ji16, hji16⟩ : ∃ j_ : Int, (wrap64 (x7_1 - 1)) = j_ := ⟨_, rfl⟩
                      replace H : (if 0 ≤ (ji16) then (if (ji16) < (t227.length : Int) then (if ((rd_T38 t227 x7_1).f3) ≤ ((rd_T38 t227 (ji16)).f3) then (malthouselaw01_LexPlaces.j1 k1 a0 t226 t227 t229 x7_1 (x7_1 == (wrap64 ((t227.length : Int) - 1))) true) else (malthouselaw01_LexPlaces.j1 k1 a0 t226 t227 t229 x7_1 (x7_1 == (wrap64 ((t227.length : Int) - 1))) ((x7_1 == (wrap64 ((t227.length : Int) - 1))) != (((rd_T38 t227 x7_1).f0) == 0)))) else (none)) else (none)) = some r := by first | (rw [hji16] at H; exact H) | (simp only [hji16] at H ⊢; exact H)
                      have hji16w : (IntKind.i64.wrap (x7_1 - 1)) = ji16 := (i64_w _).trans hji16
                      by_cases c17 : 0 ≤ (ji16)
                      · rw [if_pos c17] at H
                        have c17b0 : decide (0 ≤ (ji16)) = true := decide_eq_true c17
                        clear c17
                        by_cases c18 : (ji16) < (t227.length : Int)
                        · rw [if_pos c18] at H
                          have c18b0 : decide ((ji16) < (t227.length : Int)) = true := decide_eq_true c18
                          clear c18
                          by_cases c19 : ((rd_T38 t227 x7_1).f3) ≤ ((rd_T38 t227 (ji16)).f3)
                          · rw [if_pos c19] at H
                            have c19b0 : decide (((rd_T38 t227 x7_1).f3) ≤ ((rd_T38 t227 (ji16)).f3)) = true := decide_eq_true c19
                            clear c19
                            have H' := Aside0.mk H
                            clear H
                            have p232 : 0 ≤ (x7_1 : Int) := of_decide_eq_true (by first | (with_reducible assumption) | assumption)
                            have q232 : x7_1 < (t227.length : Int) := of_decide_eq_true (by first | (with_reducible assumption) | assumption)
                            obtain ⟨ad232, e232, hx232_0, hx232_1, hx232_2, hx232_3⟩ := at_T38 (Kd.R_reads' HO_4.out).2.2 x7_1 p232 q232
                            cases e232
                            replace p232 := eq_true p232
                            replace q232 := eq_true q232
                            have p233 : 0 ≤ (x7_1 : Int) := of_decide_eq_true (by first | (with_reducible assumption) | assumption)
                            have q233 : x7_1 < (t227.length : Int) := of_decide_eq_true (by first | (with_reducible assumption) | assumption)
                            obtain ⟨ad233, e233, hx233_0, hx233_1, hx233_2, hx233_3⟩ := at_T38 (Kd.R_reads' HO_4.out).2.2 x7_1 p233 q233
                            obtain rfl : ad232 = ad233 := (by injection e233)
                            replace p233 := eq_true p233
                            replace q233 := eq_true q233
                            have p234 : 0 ≤ (x7_1 : Int) := of_decide_eq_true (by first | (with_reducible assumption) | assumption)
                            have q234 : x7_1 < (t227.length : Int) := of_decide_eq_true (by first | (with_reducible assumption) | assumption)
                            obtain ⟨ad234, e234, hx234_0, hx234_1, hx234_2, hx234_3⟩ := at_T38 (Kd.R_reads' HO_4.out).2.2 x7_1 p234 q234
                            obtain rfl : ad232 = ad234 := (by injection e234)
                            replace p234 := eq_true p234
                            replace q234 := eq_true q234
                            have p235 : 0 ≤ ((ji16) : Int) := of_decide_eq_true (by first | (with_reducible assumption) | assumption)
                            have q235 : (ji16) < (t227.length : Int) := of_decide_eq_true (by first | (with_reducible assumption) | assumption)
                            obtain ⟨ad235, e235, hx235_0, hx235_1, hx235_2, hx235_3⟩ := at_T38 (Kd.R_reads' HO_4.out).2.2 (ji16) p235 q235
                            obtain rfl : ad232 = ad235 := (by injection e235)
                            replace p235 := eq_true p235
                            replace q235 := eq_true q235
                            go_wp2
                            repeat (go_quiet (fail); try go_wp2)
                            go_meet
                            case rel => exact ⟨_, (true), (by first | rfl | (simp; done) | (simp [*]; done)), H', ⟨by have := HK1.out; first | omega | exact Nat.le_refl _⟩, ⟨by (with_reducible repeat (first | apply Kd.R_alloc | apply Kd.R_drewN | apply Kd.R_drew)); exact HO_4.out⟩, ⟨by repeat (first | (with_reducible first | exact HB.out | apply below_alloc | apply pw_below_drewN | apply below_drew1) | exact HB.out)⟩⟩
                          · rw [if_neg c19] at H
                            have c19b0 : decide (((rd_T38 t227 x7_1).f3) ≤ ((rd_T38 t227 (ji16)).f3)) = false := decide_eq_false c19
                            clear c19
                            have H' := Aside0.mk H
                            clear H
                            have p232 : 0 ≤ (x7_1 : Int) := of_decide_eq_true (by first | (with_reducible assumption) | assumption)
                            have q232 : x7_1 < (t227.length : Int) := of_decide_eq_true (by first | (with_reducible assumption) | assumption)
                            obtain ⟨ad232, e232, hx232_0, hx232_1, hx232_2, hx232_3⟩ := at_T38 (Kd.R_reads' HO_4.out).2.2 x7_1 p232 q232
                            cases e232
                            replace p232 := eq_true p232
                            replace q232 := eq_true q232
                            have p233 : 0 ≤ (x7_1 : Int) := of_decide_eq_true (by first | (with_reducible assumption) | assumption)
                            have q233 : x7_1 < (t227.length : Int) := of_decide_eq_true (by first | (with_reducible assumption) | assumption)
                            obtain ⟨ad233, e233, hx233_0, hx233_1, hx233_2, hx233_3⟩ := at_T38 (Kd.R_reads' HO_4.out).2.2 x7_1 p233 q233
                            obtain rfl : ad232 = ad233 := (by injection e233)
                            replace p233 := eq_true p233
                            replace q233 := eq_true q233
                            have p234 : 0 ≤ (x7_1 : Int) := of_decide_eq_true (by first | (with_reducible assumption) | assumption)
                            have q234 : x7_1 < (t227.length : Int) := of_decide_eq_true (by first | (with_reducible assumption) | assumption)
                            obtain ⟨ad234, e234, hx234_0, hx234_1, hx234_2, hx234_3⟩ := at_T38 (Kd.R_reads' HO_4.out).2.2 x7_1 p234 q234
                            obtain rfl : ad232 = ad234 := (by injection e234)
                            replace p234 := eq_true p234
                            replace q234 := eq_true q234
                            have p235 : 0 ≤ ((ji16) : Int) := of_decide_eq_true (by first | (with_reducible assumption) | assumption)
                            have q235 : (ji16) < (t227.length : Int) := of_decide_eq_true (by first | (with_reducible assumption) | assumption)
                            obtain ⟨ad235, e235, hx235_0, hx235_1, hx235_2, hx235_3⟩ := at_T38 (Kd.R_reads' HO_4.out).2.2 (ji16) p235 q235
                            obtain rfl : ad232 = ad235 := (by injection e235)
                            replace p235 := eq_true p235
                            replace q235 := eq_true q235
                            have p236 : 0 ≤ (x7_1 : Int) := of_decide_eq_true (by first | (with_reducible assumption) | assumption)
                            have q236 : x7_1 < (t227.length : Int) := of_decide_eq_true (by first | (with_reducible assumption) | assumption)
                            obtain ⟨ad236, e236, hx236_0, hx236_1, hx236_2, hx236_3⟩ := at_T38 (Kd.R_reads' HO_4.out).2.2 x7_1 p236 q236
                            obtain rfl : ad232 = ad236 := (by injection e236)
                            replace p236 := eq_true p236
                            replace q236 := eq_true q236
                            go_wp2
                            repeat (go_quiet (fail); try go_wp2)
                            go_meet
                            case rel => exact ⟨_, (((x7_1 == (wrap64 ((t227.length : Int) - 1))) != (((rd_T38 t227 x7_1).f0) == 0))), (by first | rfl | (simp; done) | (simp [*]; done)), H', ⟨by have := HK1.out; first | omega | exact Nat.le_refl _⟩, ⟨by (with_reducible repeat (first | apply Kd.R_alloc | apply Kd.R_drewN | apply Kd.R_drew)); exact HO_4.out⟩, ⟨by repeat (first | (with_reducible first | exact HB.out | apply below_alloc | apply pw_below_drewN | apply below_drew1) | exact HB.out)⟩⟩
                        · rw [if_neg c18] at H
                          exact absurd H (by simp)
                      · rw [if_neg c17] at H
                        exact absurd H (by simp)
                    · rw [if_neg c15] at H
                      have c15b0 : decide (0 < x7_1) = false := decide_eq_false c15
                      clear c15
                      have H' := Aside0.mk H
                      clear H
                      have p232 : 0 ≤ (x7_1 : Int) := of_decide_eq_true (by first | (with_reducible assumption) | assumption)
                      have q232 : x7_1 < (t227.length : Int) := of_decide_eq_true (by first | (with_reducible assumption) | assumption)
                      obtain ⟨ad232, e232, hx232_0, hx232_1, hx232_2, hx232_3⟩ := at_T38 (Kd.R_reads' HO_4.out).2.2 x7_1 p232 q232
                      cases e232
                      replace p232 := eq_true p232
                      replace q232 := eq_true q232
                      have p233 : 0 ≤ (x7_1 : Int) := of_decide_eq_true (by first | (with_reducible assumption) | assumption)
                      have q233 : x7_1 < (t227.length : Int) := of_decide_eq_true (by first | (with_reducible assumption) | assumption)
                      obtain ⟨ad233, e233, hx233_0, hx233_1, hx233_2, hx233_3⟩ := at_T38 (Kd.R_reads' HO_4.out).2.2 x7_1 p233 q233
                      obtain rfl : ad232 = ad233 := (by injection e233)
                      replace p233 := eq_true p233
                      replace q233 := eq_true q233
                      have p237 : 0 ≤ (x7_1 : Int) := of_decide_eq_true (by first | (with_reducible assumption) | assumption)
                      have q237 : x7_1 < (t227.length : Int) := of_decide_eq_true (by first | (with_reducible assumption) | assumption)
                      obtain ⟨ad237, e237, hx237_0, hx237_1, hx237_2, hx237_3⟩ := at_T38 (Kd.R_reads' HO_4.out).2.2 x7_1 p237 q237
                      obtain rfl : ad232 = ad237 := (by injection e237)
                      replace p237 := eq_true p237
                      replace q237 := eq_true q237
                      go_wp2
                      repeat (go_quiet (fail); try go_wp2)
                      go_meet
                      case rel => exact ⟨_, (((x7_1 == (wrap64 ((t227.length : Int) - 1))) != (((rd_T38 t227 x7_1).f0) == 0))), (by first | rfl | (simp; done) | (simp [*]; done)), H', ⟨by have := HK1.out; first | omega | exact Nat.le_refl _⟩, ⟨by (with_reducible repeat (first | apply Kd.R_alloc | apply Kd.R_drewN | apply Kd.R_drew)); exact HO_4.out⟩, ⟨by repeat (first | (with_reducible first | exact HB.out | apply below_alloc | apply pw_below_drewN | apply below_drew1) | exact HB.out)⟩⟩
              · rw [if_neg c12] at H
                exact absurd H (by simp)
            case rest =>
              clear HC10
              try clear c1
              try clear p2
              try clear q2
              try clear hx2
              try clear c3
              try clear c3b0
              try clear c3b1
              try clear c6
              try clear c6b0
              try clear c6b1
              try clear p6
              try clear c7
              try clear c9
              try clear c9b0
              try clear c12
              try clear c12b0
              try clear c13
              try clear c13b0
              try clear c14
              try clear c14b0
              try clear c15
              try clear c15b0
              try clear c17
              try clear c17b0
              try clear c18
              try clear c18b0
              try clear c19
              try clear c19b0
              try clear hx232_0
              try clear hx232_1
              try clear hx232_2
              try clear hx232_3
              try clear hx233_0
              try clear hx233_1
              try clear hx233_2
              try clear hx233_3
              try clear hx234_0
              try clear hx234_1
              try clear hx234_2
              try clear hx234_3
              try clear hx235_0
              try clear hx235_1
              try clear hx235_2
              try clear hx235_3
              try clear hx236_0
              try clear hx236_1
              try clear hx236_2
              try clear hx236_3
              try clear hx237_0
              try clear hx237_1
              try clear hx237_2
              try clear hx237_3
              try clear p2
              try clear p232
              try clear p233
              try clear p234
              try clear p235
              try clear p236
              try clear p237
              try clear q232
              try clear q233
              try clear q234
              try clear q235
              try clear q236
              try clear q237
              obtain ⟨kq, x92_9, rfl, HA, HJ9, HO_4, HB⟩ := hcut
              cases kq with
              | zero => exact absurd HA.out (by simp [malthouselaw01_LexPlaces.j1])
              | succ kj9 =>
                have H := HA.out
                clear HA
                simp only [malthouselaw01_LexPlaces.j1] at H
                by_cases c20 : x92_9 = true
                · subst c20
                  have H1 : (some false) = some r := by rw [if_pos rfl] at H; exact H
                  clear H
                  have H := H1
                  clear H1
                  obtain rfl := Option.some.inj H
                  go_wp2
                  repeat (go_quiet (fail); try go_wp2)
                  go_ret
                  exact ⟨by first | rfl | (simp [errW_none, errW_some] <;> rfl) | (simp [*, errW_none, errW_some] <;> rfl), by repeat (first | (with_reducible first | exact HB.out | apply below_alloc | apply pw_below_drewN | apply below_drew1) | exact HB.out)⟩
                · replace c20 := Bool.eq_false_iff.mpr c20
                  subst c20
                  have H1 : (if 0 ≤ x7_1 then (if x7_1 < (t227.length : Int) then (if ((rd_T38 t227 x7_1).f1).toList = ([] : List UInt8) then (if ((rd_T38 t227 x7_1).f0) = 3 then (if (x7_1 == (wrap64 ((t227.length : Int) - 1))) = true then (malthouselaw01_LexPlaces.l0 kj9 a0 t226 t227 t229 (wrap64 (x7_1 + 1))) else (malthouselaw01_LexPlaces.l0 kj9 a0 t226 t227 t229 (wrap64 (x7_1 + 1)))) else (if (x7_1 == (wrap64 ((t227.length : Int) - 1))) = true then (malthouselaw01_LexPlaces.l0 kj9 a0 t226 t227 t229 (wrap64 (x7_1 + 1))) else (some false))) else (if (x7_1 == (wrap64 ((t227.length : Int) - 1))) = true then (some false) else (malthouselaw01_LexPlaces.l0 kj9 a0 t226 t227 t229 (wrap64 (x7_1 + 1))))) else (none)) else (none)) = some r := by rw [if_neg (show ¬ (false = true) by decide)] at H; exact H
                  clear H
                  have H := H1
                  clear H1
                  by_cases c21 : 0 ≤ x7_1
                  · rw [if_pos c21] at H
                    have c21b0 : decide (0 ≤ x7_1) = true := decide_eq_true c21
                    clear c21
                    by_cases c22 : x7_1 < (t227.length : Int)
                    · rw [if_pos c22] at H
                      have c22b0 : decide (x7_1 < (t227.length : Int)) = true := decide_eq_true c22
                      clear c22
                      by_cases c23 : ((rd_T38 t227 x7_1).f1).toList = ([] : List UInt8)
                      · rw [if_pos c23] at H
                        have c23b0 : (((rd_T38 t227 x7_1).f1).toList == ([] : List UInt8)) = true := beq_iff_eq.mpr c23
                        have c23b1 : (((rd_T38 t227 x7_1).f1).toList != ([] : List UInt8)) = false := bne_eq_false_iff_eq.mpr c23
                        clear c23
                        by_cases c24 : ((rd_T38 t227 x7_1).f0) = 3
                        · rw [if_pos c24] at H
                          have c24b0 : (((rd_T38 t227 x7_1).f0) == 3) = true := beq_iff_eq.mpr c24
                          have c24b1 : (((rd_T38 t227 x7_1).f0) != 3) = false := bne_eq_false_iff_eq.mpr c24
                          clear c24
                          by_cases c25 : (x7_1 == (wrap64 ((t227.length : Int) - 1))) = true
                          · rw [if_pos c25] at H
                            have c25b0 : (x7_1 == (wrap64 ((t227.length : Int) - 1))) = true := c25
                            (try (have c25b1 : decide (x7_1 = (wrap64 ((t227.length : Int) - 1))) = true := by simpa using c25))
                            (try (have c25b2 : (x7_1 == (wrap64 ((t227.length : Int) - 1))) = true := by simpa using c25))
                            clear c25
                            have H' := Aside0.mk H
                            clear H
                            have p238 : 0 ≤ (x7_1 : Int) := of_decide_eq_true (by first | (with_reducible assumption) | assumption)
                            have q238 : x7_1 < (t227.length : Int) := of_decide_eq_true (by first | (with_reducible assumption) | assumption)
                            obtain ⟨ad238, e238, hx238_0, hx238_1, hx238_2, hx238_3⟩ := at_T38 (Kd.R_reads' HO_4.out).2.2 x7_1 p238 q238
                            cases e238
                            replace p238 := eq_true p238
                            replace q238 := eq_true q238
                            have p239 : 0 ≤ (x7_1 : Int) := of_decide_eq_true (by first | (with_reducible assumption) | assumption)
                            have q239 : x7_1 < (t227.length : Int) := of_decide_eq_true (by first | (with_reducible assumption) | assumption)
                            obtain ⟨ad239, e239, hx239_0, hx239_1, hx239_2, hx239_3⟩ := at_T38 (Kd.R_reads' HO_4.out).2.2 x7_1 p239 q239
                            obtain rfl : ad238 = ad239 := (by injection e239)
                            replace p239 := eq_true p239
                            replace q239 := eq_true q239
                            have p240 : 0 ≤ (x7_1 : Int) := of_decide_eq_true (by first | (with_reducible assumption) | assumption)
                            have q240 : x7_1 < (t227.length : Int) := of_decide_eq_true (by first | (with_reducible assumption) | assumption)
                            obtain ⟨ad240, e240, hx240_0, hx240_1, hx240_2, hx240_3⟩ := at_T38 (Kd.R_reads' HO_4.out).2.2 x7_1 p240 q240
                            obtain rfl : ad238 = ad240 := (by injection e240)
                            replace p240 := eq_true p240
                            replace q240 := eq_true q240
                            go_wp2
                            repeat (go_quiet (fail); try go_wp2)
                            go_roundg kj9
                            case measure => have := HK1.out; have := HJ9.out; omega
                            case rel => exact ⟨(wrap64 (x7_1 + 1)), (by first | rfl | (simp; done) | (simp [*]; done)), H', ⟨by have := HK1.out; have := HJ9.out; omega⟩, ⟨by (with_reducible repeat (first | apply Kd.R_alloc | apply Kd.R_drewN | apply Kd.R_drew)); exact HO_4.out⟩, ⟨by repeat (first | (with_reducible first | exact HB.out | apply below_alloc | apply pw_below_drewN | apply below_drew1) | exact HB.out)⟩⟩
                          · rw [if_neg c25] at H
                            have c25b0 : (x7_1 == (wrap64 ((t227.length : Int) - 1))) = false := by simpa using c25
                            (try (have c25b1 : decide (x7_1 = (wrap64 ((t227.length : Int) - 1))) = false := by simpa using c25))
                            (try (have c25b2 : (x7_1 == (wrap64 ((t227.length : Int) - 1))) = false := by simpa using c25))
                            (try (have c25b3 : ¬ (x7_1 = (wrap64 ((t227.length : Int) - 1))) := by simpa using c25))
                            clear c25
                            have H' := Aside0.mk H
                            clear H
                            have p238 : 0 ≤ (x7_1 : Int) := of_decide_eq_true (by first | (with_reducible assumption) | assumption)
                            have q238 : x7_1 < (t227.length : Int) := of_decide_eq_true (by first | (with_reducible assumption) | assumption)
                            obtain ⟨ad238, e238, hx238_0, hx238_1, hx238_2, hx238_3⟩ := at_T38 (Kd.R_reads' HO_4.out).2.2 x7_1 p238 q238
                            cases e238
                            replace p238 := eq_true p238
                            replace q238 := eq_true q238
                            have p239 : 0 ≤ (x7_1 : Int) := of_decide_eq_true (by first | (with_reducible assumption) | assumption)
                            have q239 : x7_1 < (t227.length : Int) := of_decide_eq_true (by first | (with_reducible assumption) | assumption)
                            obtain ⟨ad239, e239, hx239_0, hx239_1, hx239_2, hx239_3⟩ := at_T38 (Kd.R_reads' HO_4.out).2.2 x7_1 p239 q239
                            obtain rfl : ad238 = ad239 := (by injection e239)
                            replace p239 := eq_true p239
                            replace q239 := eq_true q239
                            go_wp2
                            repeat (go_quiet (fail); try go_wp2)
                            go_roundg kj9
                            case measure => have := HK1.out; have := HJ9.out; omega
                            case rel => exact ⟨(wrap64 (x7_1 + 1)), (by first | rfl | (simp; done) | (simp [*]; done)), H', ⟨by have := HK1.out; have := HJ9.out; omega⟩, ⟨by (with_reducible repeat (first | apply Kd.R_alloc | apply Kd.R_drewN | apply Kd.R_drew)); exact HO_4.out⟩, ⟨by repeat (first | (with_reducible first | exact HB.out | apply below_alloc | apply pw_below_drewN | apply below_drew1) | exact HB.out)⟩⟩
                        · rw [if_neg c24] at H
                          have c24b0 : (((rd_T38 t227 x7_1).f0) == 3) = false := beq_eq_false_iff_ne.mpr c24
                          have c24b1 : (((rd_T38 t227 x7_1).f0) != 3) = true := bne_iff_ne.mpr c24
                          by_cases c26 : (x7_1 == (wrap64 ((t227.length : Int) - 1))) = true
                          · rw [if_pos c26] at H
                            have c26b0 : (x7_1 == (wrap64 ((t227.length : Int) - 1))) = true := c26
                            (try (have c26b1 : decide (x7_1 = (wrap64 ((t227.length : Int) - 1))) = true := by simpa using c26))
                            (try (have c26b2 : (x7_1 == (wrap64 ((t227.length : Int) - 1))) = true := by simpa using c26))
                            clear c26
                            have H' := Aside0.mk H
                            clear H
                            have p238 : 0 ≤ (x7_1 : Int) := of_decide_eq_true (by first | (with_reducible assumption) | assumption)
                            have q238 : x7_1 < (t227.length : Int) := of_decide_eq_true (by first | (with_reducible assumption) | assumption)
                            obtain ⟨ad238, e238, hx238_0, hx238_1, hx238_2, hx238_3⟩ := at_T38 (Kd.R_reads' HO_4.out).2.2 x7_1 p238 q238
                            cases e238
                            replace p238 := eq_true p238
                            replace q238 := eq_true q238
                            have p239 : 0 ≤ (x7_1 : Int) := of_decide_eq_true (by first | (with_reducible assumption) | assumption)
                            have q239 : x7_1 < (t227.length : Int) := of_decide_eq_true (by first | (with_reducible assumption) | assumption)
                            obtain ⟨ad239, e239, hx239_0, hx239_1, hx239_2, hx239_3⟩ := at_T38 (Kd.R_reads' HO_4.out).2.2 x7_1 p239 q239
                            obtain rfl : ad238 = ad239 := (by injection e239)
                            replace p239 := eq_true p239
                            replace q239 := eq_true q239
                            have p241 : 0 ≤ (x7_1 : Int) := of_decide_eq_true (by first | (with_reducible assumption) | assumption)
                            have q241 : x7_1 < (t227.length : Int) := of_decide_eq_true (by first | (with_reducible assumption) | assumption)
                            obtain ⟨ad241, e241, hx241_0, hx241_1, hx241_2, hx241_3⟩ := at_T38 (Kd.R_reads' HO_4.out).2.2 x7_1 p241 q241
                            obtain rfl : ad238 = ad241 := (by injection e241)
                            replace p241 := eq_true p241
                            replace q241 := eq_true q241
                            go_wp2
                            repeat (go_quiet (fail); try go_wp2)
                            go_roundg kj9
                            case measure => have := HK1.out; have := HJ9.out; omega
                            case rel => exact ⟨(wrap64 (x7_1 + 1)), (by first | rfl | (simp; done) | (simp [*]; done)), H', ⟨by have := HK1.out; have := HJ9.out; omega⟩, ⟨by (with_reducible repeat (first | apply Kd.R_alloc | apply Kd.R_drewN | apply Kd.R_drew)); exact HO_4.out⟩, ⟨by repeat (first | (with_reducible first | exact HB.out | apply below_alloc | apply pw_below_drewN | apply below_drew1) | exact HB.out)⟩⟩
                          · rw [if_neg c26] at H
                            have c26b0 : (x7_1 == (wrap64 ((t227.length : Int) - 1))) = false := by simpa using c26
                            (try (have c26b1 : decide (x7_1 = (wrap64 ((t227.length : Int) - 1))) = false := by simpa using c26))
                            (try (have c26b2 : (x7_1 == (wrap64 ((t227.length : Int) - 1))) = false := by simpa using c26))
                            (try (have c26b3 : ¬ (x7_1 = (wrap64 ((t227.length : Int) - 1))) := by simpa using c26))
                            clear c26
                            obtain rfl := Option.some.inj H
                            have p238 : 0 ≤ (x7_1 : Int) := of_decide_eq_true (by first | (with_reducible assumption) | assumption)
                            have q238 : x7_1 < (t227.length : Int) := of_decide_eq_true (by first | (with_reducible assumption) | assumption)
                            obtain ⟨ad238, e238, hx238_0, hx238_1, hx238_2, hx238_3⟩ := at_T38 (Kd.R_reads' HO_4.out).2.2 x7_1 p238 q238
                            cases e238
                            replace p238 := eq_true p238
                            replace q238 := eq_true q238
                            have p239 : 0 ≤ (x7_1 : Int) := of_decide_eq_true (by first | (with_reducible assumption) | assumption)
                            have q239 : x7_1 < (t227.length : Int) := of_decide_eq_true (by first | (with_reducible assumption) | assumption)
                            obtain ⟨ad239, e239, hx239_0, hx239_1, hx239_2, hx239_3⟩ := at_T38 (Kd.R_reads' HO_4.out).2.2 x7_1 p239 q239
                            obtain rfl : ad238 = ad239 := (by injection e239)
                            replace p239 := eq_true p239
                            replace q239 := eq_true q239
                            go_wp2
                            repeat (go_quiet (fail); try go_wp2)
                            go_ret
                            exact ⟨by first | rfl | (simp [errW_none, errW_some] <;> rfl) | (simp [*, errW_none, errW_some] <;> rfl), by repeat (first | (with_reducible first | exact HB.out | apply below_alloc | apply pw_below_drewN | apply below_drew1) | exact HB.out)⟩
                      · rw [if_neg c23] at H
                        have c23b0 : (((rd_T38 t227 x7_1).f1).toList == ([] : List UInt8)) = false := beq_eq_false_iff_ne.mpr c23
                        have c23b1 : (((rd_T38 t227 x7_1).f1).toList != ([] : List UInt8)) = true := bne_iff_ne.mpr c23
                        by_cases c27 : (x7_1 == (wrap64 ((t227.length : Int) - 1))) = true
                        · rw [if_pos c27] at H
                          have c27b0 : (x7_1 == (wrap64 ((t227.length : Int) - 1))) = true := c27
                          (try (have c27b1 : decide (x7_1 = (wrap64 ((t227.length : Int) - 1))) = true := by simpa using c27))
                          (try (have c27b2 : (x7_1 == (wrap64 ((t227.length : Int) - 1))) = true := by simpa using c27))
                          clear c27
                          obtain rfl := Option.some.inj H
                          have p238 : 0 ≤ (x7_1 : Int) := of_decide_eq_true (by first | (with_reducible assumption) | assumption)
                          have q238 : x7_1 < (t227.length : Int) := of_decide_eq_true (by first | (with_reducible assumption) | assumption)
                          obtain ⟨ad238, e238, hx238_0, hx238_1, hx238_2, hx238_3⟩ := at_T38 (Kd.R_reads' HO_4.out).2.2 x7_1 p238 q238
                          cases e238
                          replace p238 := eq_true p238
                          replace q238 := eq_true q238
                          have p242 : 0 ≤ (x7_1 : Int) := of_decide_eq_true (by first | (with_reducible assumption) | assumption)
                          have q242 : x7_1 < (t227.length : Int) := of_decide_eq_true (by first | (with_reducible assumption) | assumption)
                          obtain ⟨ad242, e242, hx242_0, hx242_1, hx242_2, hx242_3⟩ := at_T38 (Kd.R_reads' HO_4.out).2.2 x7_1 p242 q242
                          obtain rfl : ad238 = ad242 := (by injection e242)
                          replace p242 := eq_true p242
                          replace q242 := eq_true q242
                          go_wp2
                          repeat (go_quiet (fail); try go_wp2)
                          go_ret
                          exact ⟨by first | rfl | (simp [errW_none, errW_some] <;> rfl) | (simp [*, errW_none, errW_some] <;> rfl), by repeat (first | (with_reducible first | exact HB.out | apply below_alloc | apply pw_below_drewN | apply below_drew1) | exact HB.out)⟩
                        · rw [if_neg c27] at H
                          have c27b0 : (x7_1 == (wrap64 ((t227.length : Int) - 1))) = false := by simpa using c27
                          (try (have c27b1 : decide (x7_1 = (wrap64 ((t227.length : Int) - 1))) = false := by simpa using c27))
                          (try (have c27b2 : (x7_1 == (wrap64 ((t227.length : Int) - 1))) = false := by simpa using c27))
                          (try (have c27b3 : ¬ (x7_1 = (wrap64 ((t227.length : Int) - 1))) := by simpa using c27))
                          clear c27
                          have H' := Aside0.mk H
                          clear H
                          have p238 : 0 ≤ (x7_1 : Int) := of_decide_eq_true (by first | (with_reducible assumption) | assumption)
                          have q238 : x7_1 < (t227.length : Int) := of_decide_eq_true (by first | (with_reducible assumption) | assumption)
                          obtain ⟨ad238, e238, hx238_0, hx238_1, hx238_2, hx238_3⟩ := at_T38 (Kd.R_reads' HO_4.out).2.2 x7_1 p238 q238
                          cases e238
                          replace p238 := eq_true p238
                          replace q238 := eq_true q238
                          go_wp2
                          repeat (go_quiet (fail); try go_wp2)
                          go_roundg kj9
                          case measure => have := HK1.out; have := HJ9.out; omega
                          case rel => exact ⟨(wrap64 (x7_1 + 1)), (by first | rfl | (simp; done) | (simp [*]; done)), H', ⟨by have := HK1.out; have := HJ9.out; omega⟩, ⟨by (with_reducible repeat (first | apply Kd.R_alloc | apply Kd.R_drewN | apply Kd.R_drew)); exact HO_4.out⟩, ⟨by repeat (first | (with_reducible first | exact HB.out | apply below_alloc | apply pw_below_drewN | apply below_drew1) | exact HB.out)⟩⟩
                    · rw [if_neg c22] at H
                      exact absurd H (by simp)
                  · rw [if_neg c21] at H
                    exact absurd H (by simp)
          · rw [if_neg c9] at H
            have c9b0 : decide (x7_1 < (t227.length : Int)) = false := decide_eq_false c9
            clear c9
            by_cases c28 : t226 = true
            · subst c28
              have H1 : (if (t227.length : Int) > 0 then (some (t229 == 0)) else (some false)) = some r := by rw [if_pos rfl] at H; exact H
              clear H
              have H := H1
              clear H1
              by_cases c29 : (t227.length : Int) > 0
              · rw [if_pos c29] at H
                have c29b0 : decide (0 < (t227.length : Int)) = true := decide_eq_true c29
                have c29b1 : decide (0 < t227.length) = true := decide_eq_true (by omega)
                clear c29
                obtain rfl := Option.some.inj H
                obtain ⟨Ao30, co30, eo30⟩ := Kd.R_slice HO_4.out
                subst eo30
                go_wp2
                repeat (go_quiet (fail); try go_wp2)
                go_ret
                exact ⟨by first | rfl | (simp [errW_none, errW_some] <;> rfl) | (simp [*, errW_none, errW_some] <;> rfl), by repeat (first | (with_reducible first | exact HB.out | apply below_alloc | apply pw_below_drewN | apply below_drew1) | exact HB.out)⟩
              · rw [if_neg c29] at H
                have c29b0 : decide (0 < (t227.length : Int)) = false := decide_eq_false c29
                have c29b1 : decide (0 < t227.length) = false := decide_eq_false (by omega)
                clear c29
                obtain rfl := Option.some.inj H
                obtain ⟨Ao31, co31, eo31⟩ := Kd.R_slice HO_4.out
                subst eo31
                go_wp2
                repeat (go_quiet (fail); try go_wp2)
                go_ret
                exact ⟨by first | rfl | (simp [errW_none, errW_some] <;> rfl) | (simp [*, errW_none, errW_some] <;> rfl), by repeat (first | (with_reducible first | exact HB.out | apply below_alloc | apply pw_below_drewN | apply below_drew1) | exact HB.out)⟩
            · replace c28 := Bool.eq_false_iff.mpr c28
              subst c28
              have H1 : (some false) = some r := by rw [if_neg (show ¬ (false = true) by decide)] at H; exact H
              clear H
              have H := H1
              clear H1
              obtain rfl := Option.some.inj H
              obtain ⟨Ao32, co32, eo32⟩ := Kd.R_slice HO_4.out
              subst eo32
              go_wp2
              repeat (go_quiet (fail); try go_wp2)
              go_ret
              exact ⟨by first | rfl | (simp [errW_none, errW_some] <;> rfl) | (simp [*, errW_none, errW_some] <;> rfl), by repeat (first | (with_reducible first | exact HB.out | apply below_alloc | apply pw_below_drewN | apply below_drew1) | exact HB.out)⟩
    · rw [if_neg c6] at H
      have c6b0 : (t228 == 0) = false := beq_eq_false_iff_ne.mpr c6
      have c6b1 : (t228 != 0) = true := bne_iff_ne.mpr c6
      by_cases c33 : t226 = true
      · subst c33
        have H1 : (if (t227.length : Int) = 0 then (if t229 ≥ 0 then (some (decide (t229 ≤ (a0.size : Int)))) else (some false)) else (some false)) = some r := by rw [if_pos rfl] at H; exact H
        clear H
        have H := H1
        clear H1
        by_cases c34 : (t227.length : Int) = 0
        · rw [if_pos c34] at H
          have c34b0 : ((t227.length : Int) == 0) = true := beq_iff_eq.mpr c34
          have c34b1 : ((t227.length : Int) != 0) = false := bne_eq_false_iff_eq.mpr c34
          clear c34
          by_cases c35 : t229 ≥ 0
          · rw [if_pos c35] at H
            have c35b0 : decide (0 ≤ t229) = true := decide_eq_true c35
            clear c35
            obtain rfl := Option.some.inj H
            go_enter Tryd.func7, Tryd.ntmps7
            go_wp2_with (first | (go_at_call 12; (with_reducible refine (malthouselaw01_awake.calls  true _ ?side1 A2.out).mono ?_); (case side1 => exact Tabs.below hT (by repeat (first | (with_reducible first | exact HB.out | apply below_alloc | apply pw_below_drewN | apply below_drew1) | exact HB.out))); rintro e w36 ⟨rfl, hb⟩; have n0_ := Aside0.mk (below_step (by repeat (first | (with_reducible first | exact HB.out | apply below_alloc | apply pw_below_drewN | apply below_drew1) | exact HB.out)) hb); clear HB; have HB := n0_; clear n0_; (try clear hb); (try clear hb2); (try clear hk); (try clear hi)) | (go_at_call 13; (with_reducible refine (lex_Cut.calls a0 t227 t228 t229 _ ?side1 A5.out).mono ?_); (case side1 => exact Tabs.below hT (by repeat (first | (with_reducible first | exact HB.out | apply below_alloc | apply pw_below_drewN | apply below_drew1) | exact HB.out))); rintro e w37 ⟨v230, rfl, ho0, hb⟩; have n0_ := Aside0.mk (Kd.R_lower ho0 (below_size (by repeat (first | (with_reducible first | exact HB.out | apply below_alloc | apply pw_below_drewN | apply below_drew1) | exact HB.out)))); have n1_ := Aside0.mk (below_step (by repeat (first | (with_reducible first | exact HB.out | apply below_alloc | apply pw_below_drewN | apply below_drew1) | exact HB.out)) hb); clear HB; have HO231 := n0_; have HB := n1_; clear n0_ n1_; (try clear hb); (try clear hb2); (try clear hk); (try clear hi); (try clear ho0); obtain ⟨Ao38, co38, eo38⟩ := Kd.R_slice HO231.out; subst eo38))
            repeat (go_quiet (first | (go_at_call 12; (with_reducible refine (malthouselaw01_awake.calls  true _ ?side1 A2.out).mono ?_); (case side1 => exact Tabs.below hT (by repeat (first | (with_reducible first | exact HB.out | apply below_alloc | apply pw_below_drewN | apply below_drew1) | exact HB.out))); rintro e w36 ⟨rfl, hb⟩; have n0_ := Aside0.mk (below_step (by repeat (first | (with_reducible first | exact HB.out | apply below_alloc | apply pw_below_drewN | apply below_drew1) | exact HB.out)) hb); clear HB; have HB := n0_; clear n0_; (try clear hb); (try clear hb2); (try clear hk); (try clear hi)) | (go_at_call 13; (with_reducible refine (lex_Cut.calls a0 t227 t228 t229 _ ?side1 A5.out).mono ?_); (case side1 => exact Tabs.below hT (by repeat (first | (with_reducible first | exact HB.out | apply below_alloc | apply pw_below_drewN | apply below_drew1) | exact HB.out))); rintro e w37 ⟨v230, rfl, ho0, hb⟩; have n0_ := Aside0.mk (Kd.R_lower ho0 (below_size (by repeat (first | (with_reducible first | exact HB.out | apply below_alloc | apply pw_below_drewN | apply below_drew1) | exact HB.out)))); have n1_ := Aside0.mk (below_step (by repeat (first | (with_reducible first | exact HB.out | apply below_alloc | apply pw_below_drewN | apply below_drew1) | exact HB.out)) hb); clear HB; have HO231 := n0_; have HB := n1_; clear n0_ n1_; (try clear hb); (try clear hb2); (try clear hk); (try clear hi); (try clear ho0); obtain ⟨Ao38, co38, eo38⟩ := Kd.R_slice HO231.out; subst eo38)); try go_wp2_with (first | (go_at_call 12; (with_reducible refine (malthouselaw01_awake.calls  true _ ?side1 A2.out).mono ?_); (case side1 => exact Tabs.below hT (by repeat (first | (with_reducible first | exact HB.out | apply below_alloc | apply pw_below_drewN | apply below_drew1) | exact HB.out))); rintro e w36 ⟨rfl, hb⟩; have n0_ := Aside0.mk (below_step (by repeat (first | (with_reducible first | exact HB.out | apply below_alloc | apply pw_below_drewN | apply below_drew1) | exact HB.out)) hb); clear HB; have HB := n0_; clear n0_; (try clear hb); (try clear hb2); (try clear hk); (try clear hi)) | (go_at_call 13; (with_reducible refine (lex_Cut.calls a0 t227 t228 t229 _ ?side1 A5.out).mono ?_); (case side1 => exact Tabs.below hT (by repeat (first | (with_reducible first | exact HB.out | apply below_alloc | apply pw_below_drewN | apply below_drew1) | exact HB.out))); rintro e w37 ⟨v230, rfl, ho0, hb⟩; have n0_ := Aside0.mk (Kd.R_lower ho0 (below_size (by repeat (first | (with_reducible first | exact HB.out | apply below_alloc | apply pw_below_drewN | apply below_drew1) | exact HB.out)))); have n1_ := Aside0.mk (below_step (by repeat (first | (with_reducible first | exact HB.out | apply below_alloc | apply pw_below_drewN | apply below_drew1) | exact HB.out)) hb); clear HB; have HO231 := n0_; have HB := n1_; clear n0_ n1_; (try clear hb); (try clear hb2); (try clear hk); (try clear hi); (try clear ho0); obtain ⟨Ao38, co38, eo38⟩ := Kd.R_slice HO231.out; subst eo38)))
            go_ret
            exact ⟨by first | rfl | (simp [errW_none, errW_some] <;> rfl) | (simp [*, errW_none, errW_some] <;> rfl), by repeat (first | (with_reducible first | exact HB.out | apply below_alloc | apply pw_below_drewN | apply below_drew1) | exact HB.out)⟩
          · rw [if_neg c35] at H
            have c35b0 : decide (0 ≤ t229) = false := decide_eq_false c35
            clear c35
            obtain rfl := Option.some.inj H
            go_enter Tryd.func7, Tryd.ntmps7
            go_wp2_with (first | (go_at_call 12; (with_reducible refine (malthouselaw01_awake.calls  true _ ?side1 A2.out).mono ?_); (case side1 => exact Tabs.below hT (by repeat (first | (with_reducible first | exact HB.out | apply below_alloc | apply pw_below_drewN | apply below_drew1) | exact HB.out))); rintro e w39 ⟨rfl, hb⟩; have n0_ := Aside0.mk (below_step (by repeat (first | (with_reducible first | exact HB.out | apply below_alloc | apply pw_below_drewN | apply below_drew1) | exact HB.out)) hb); clear HB; have HB := n0_; clear n0_; (try clear hb); (try clear hb2); (try clear hk); (try clear hi)) | (go_at_call 13; (with_reducible refine (lex_Cut.calls a0 t227 t228 t229 _ ?side1 A5.out).mono ?_); (case side1 => exact Tabs.below hT (by repeat (first | (with_reducible first | exact HB.out | apply below_alloc | apply pw_below_drewN | apply below_drew1) | exact HB.out))); rintro e w40 ⟨v230, rfl, ho0, hb⟩; have n0_ := Aside0.mk (Kd.R_lower ho0 (below_size (by repeat (first | (with_reducible first | exact HB.out | apply below_alloc | apply pw_below_drewN | apply below_drew1) | exact HB.out)))); have n1_ := Aside0.mk (below_step (by repeat (first | (with_reducible first | exact HB.out | apply below_alloc | apply pw_below_drewN | apply below_drew1) | exact HB.out)) hb); clear HB; have HO231 := n0_; have HB := n1_; clear n0_ n1_; (try clear hb); (try clear hb2); (try clear hk); (try clear hi); (try clear ho0); obtain ⟨Ao41, co41, eo41⟩ := Kd.R_slice HO231.out; subst eo41))
            repeat (go_quiet (first | (go_at_call 12; (with_reducible refine (malthouselaw01_awake.calls  true _ ?side1 A2.out).mono ?_); (case side1 => exact Tabs.below hT (by repeat (first | (with_reducible first | exact HB.out | apply below_alloc | apply pw_below_drewN | apply below_drew1) | exact HB.out))); rintro e w39 ⟨rfl, hb⟩; have n0_ := Aside0.mk (below_step (by repeat (first | (with_reducible first | exact HB.out | apply below_alloc | apply pw_below_drewN | apply below_drew1) | exact HB.out)) hb); clear HB; have HB := n0_; clear n0_; (try clear hb); (try clear hb2); (try clear hk); (try clear hi)) | (go_at_call 13; (with_reducible refine (lex_Cut.calls a0 t227 t228 t229 _ ?side1 A5.out).mono ?_); (case side1 => exact Tabs.below hT (by repeat (first | (with_reducible first | exact HB.out | apply below_alloc | apply pw_below_drewN | apply below_drew1) | exact HB.out))); rintro e w40 ⟨v230, rfl, ho0, hb⟩; have n0_ := Aside0.mk (Kd.R_lower ho0 (below_size (by repeat (first | (with_reducible first | exact HB.out | apply below_alloc | apply pw_below_drewN | apply below_drew1) | exact HB.out)))); have n1_ := Aside0.mk (below_step (by repeat (first | (with_reducible first | exact HB.out | apply below_alloc | apply pw_below_drewN | apply below_drew1) | exact HB.out)) hb); clear HB; have HO231 := n0_; have HB := n1_; clear n0_ n1_; (try clear hb); (try clear hb2); (try clear hk); (try clear hi); (try clear ho0); obtain ⟨Ao41, co41, eo41⟩ := Kd.R_slice HO231.out; subst eo41)); try go_wp2_with (first | (go_at_call 12; (with_reducible refine (malthouselaw01_awake.calls  true _ ?side1 A2.out).mono ?_); (case side1 => exact Tabs.below hT (by repeat (first | (with_reducible first | exact HB.out | apply below_alloc | apply pw_below_drewN | apply below_drew1) | exact HB.out))); rintro e w39 ⟨rfl, hb⟩; have n0_ := Aside0.mk (below_step (by repeat (first | (with_reducible first | exact HB.out | apply below_alloc | apply pw_below_drewN | apply below_drew1) | exact HB.out)) hb); clear HB; have HB := n0_; clear n0_; (try clear hb); (try clear hb2); (try clear hk); (try clear hi)) | (go_at_call 13; (with_reducible refine (lex_Cut.calls a0 t227 t228 t229 _ ?side1 A5.out).mono ?_); (case side1 => exact Tabs.below hT (by repeat (first | (with_reducible first | exact HB.out | apply below_alloc | apply pw_below_drewN | apply below_drew1) | exact HB.out))); rintro e w40 ⟨v230, rfl, ho0, hb⟩; have n0_ := Aside0.mk (Kd.R_lower ho0 (below_size (by repeat (first | (with_reducible first | exact HB.out | apply below_alloc | apply pw_below_drewN | apply below_drew1) | exact HB.out)))); have n1_ := Aside0.mk (below_step (by repeat (first | (with_reducible first | exact HB.out | apply below_alloc | apply pw_below_drewN | apply below_drew1) | exact HB.out)) hb); clear HB; have HO231 := n0_; have HB := n1_; clear n0_ n1_; (try clear hb); (try clear hb2); (try clear hk); (try clear hi); (try clear ho0); obtain ⟨Ao41, co41, eo41⟩ := Kd.R_slice HO231.out; subst eo41)))
            go_ret
            exact ⟨by first | rfl | (simp [errW_none, errW_some] <;> rfl) | (simp [*, errW_none, errW_some] <;> rfl), by repeat (first | (with_reducible first | exact HB.out | apply below_alloc | apply pw_below_drewN | apply below_drew1) | exact HB.out)⟩
        · rw [if_neg c34] at H
          have c34b0 : ((t227.length : Int) == 0) = false := beq_eq_false_iff_ne.mpr c34
          have c34b1 : ((t227.length : Int) != 0) = true := bne_iff_ne.mpr c34
          have c34b2 : ¬ (t227 = []) := fun h_ => c34 (by rw [h_]; rfl)
          obtain rfl := Option.some.inj H
          go_enter Tryd.func7, Tryd.ntmps7
          go_wp2_with (first | (go_at_call 12; (with_reducible refine (malthouselaw01_awake.calls  true _ ?side1 A2.out).mono ?_); (case side1 => exact Tabs.below hT (by repeat (first | (with_reducible first | exact HB.out | apply below_alloc | apply pw_below_drewN | apply below_drew1) | exact HB.out))); rintro e w42 ⟨rfl, hb⟩; have n0_ := Aside0.mk (below_step (by repeat (first | (with_reducible first | exact HB.out | apply below_alloc | apply pw_below_drewN | apply below_drew1) | exact HB.out)) hb); clear HB; have HB := n0_; clear n0_; (try clear hb); (try clear hb2); (try clear hk); (try clear hi)) | (go_at_call 13; (with_reducible refine (lex_Cut.calls a0 t227 t228 t229 _ ?side1 A5.out).mono ?_); (case side1 => exact Tabs.below hT (by repeat (first | (with_reducible first | exact HB.out | apply below_alloc | apply pw_below_drewN | apply below_drew1) | exact HB.out))); rintro e w43 ⟨v230, rfl, ho0, hb⟩; have n0_ := Aside0.mk (Kd.R_lower ho0 (below_size (by repeat (first | (with_reducible first | exact HB.out | apply below_alloc | apply pw_below_drewN | apply below_drew1) | exact HB.out)))); have n1_ := Aside0.mk (below_step (by repeat (first | (with_reducible first | exact HB.out | apply below_alloc | apply pw_below_drewN | apply below_drew1) | exact HB.out)) hb); clear HB; have HO231 := n0_; have HB := n1_; clear n0_ n1_; (try clear hb); (try clear hb2); (try clear hk); (try clear hi); (try clear ho0); obtain ⟨Ao44, co44, eo44⟩ := Kd.R_slice HO231.out; subst eo44))
          repeat (go_quiet (first | (go_at_call 12; (with_reducible refine (malthouselaw01_awake.calls  true _ ?side1 A2.out).mono ?_); (case side1 => exact Tabs.below hT (by repeat (first | (with_reducible first | exact HB.out | apply below_alloc | apply pw_below_drewN | apply below_drew1) | exact HB.out))); rintro e w42 ⟨rfl, hb⟩; have n0_ := Aside0.mk (below_step (by repeat (first | (with_reducible first | exact HB.out | apply below_alloc | apply pw_below_drewN | apply below_drew1) | exact HB.out)) hb); clear HB; have HB := n0_; clear n0_; (try clear hb); (try clear hb2); (try clear hk); (try clear hi)) | (go_at_call 13; (with_reducible refine (lex_Cut.calls a0 t227 t228 t229 _ ?side1 A5.out).mono ?_); (case side1 => exact Tabs.below hT (by repeat (first | (with_reducible first | exact HB.out | apply below_alloc | apply pw_below_drewN | apply below_drew1) | exact HB.out))); rintro e w43 ⟨v230, rfl, ho0, hb⟩; have n0_ := Aside0.mk (Kd.R_lower ho0 (below_size (by repeat (first | (with_reducible first | exact HB.out | apply below_alloc | apply pw_below_drewN | apply below_drew1) | exact HB.out)))); have n1_ := Aside0.mk (below_step (by repeat (first | (with_reducible first | exact HB.out | apply below_alloc | apply pw_below_drewN | apply below_drew1) | exact HB.out)) hb); clear HB; have HO231 := n0_; have HB := n1_; clear n0_ n1_; (try clear hb); (try clear hb2); (try clear hk); (try clear hi); (try clear ho0); obtain ⟨Ao44, co44, eo44⟩ := Kd.R_slice HO231.out; subst eo44)); try go_wp2_with (first | (go_at_call 12; (with_reducible refine (malthouselaw01_awake.calls  true _ ?side1 A2.out).mono ?_); (case side1 => exact Tabs.below hT (by repeat (first | (with_reducible first | exact HB.out | apply below_alloc | apply pw_below_drewN | apply below_drew1) | exact HB.out))); rintro e w42 ⟨rfl, hb⟩; have n0_ := Aside0.mk (below_step (by repeat (first | (with_reducible first | exact HB.out | apply below_alloc | apply pw_below_drewN | apply below_drew1) | exact HB.out)) hb); clear HB; have HB := n0_; clear n0_; (try clear hb); (try clear hb2); (try clear hk); (try clear hi)) | (go_at_call 13; (with_reducible refine (lex_Cut.calls a0 t227 t228 t229 _ ?side1 A5.out).mono ?_); (case side1 => exact Tabs.below hT (by repeat (first | (with_reducible first | exact HB.out | apply below_alloc | apply pw_below_drewN | apply below_drew1) | exact HB.out))); rintro e w43 ⟨v230, rfl, ho0, hb⟩; have n0_ := Aside0.mk (Kd.R_lower ho0 (below_size (by repeat (first | (with_reducible first | exact HB.out | apply below_alloc | apply pw_below_drewN | apply below_drew1) | exact HB.out)))); have n1_ := Aside0.mk (below_step (by repeat (first | (with_reducible first | exact HB.out | apply below_alloc | apply pw_below_drewN | apply below_drew1) | exact HB.out)) hb); clear HB; have HO231 := n0_; have HB := n1_; clear n0_ n1_; (try clear hb); (try clear hb2); (try clear hk); (try clear hi); (try clear ho0); obtain ⟨Ao44, co44, eo44⟩ := Kd.R_slice HO231.out; subst eo44)))
          go_ret
          exact ⟨by first | rfl | (simp [errW_none, errW_some] <;> rfl) | (simp [*, errW_none, errW_some] <;> rfl), by repeat (first | (with_reducible first | exact HB.out | apply below_alloc | apply pw_below_drewN | apply below_drew1) | exact HB.out)⟩
      · replace c33 := Bool.eq_false_iff.mpr c33
        subst c33
        have H1 : (some false) = some r := by rw [if_neg (show ¬ (false = true) by decide)] at H; exact H
        clear H
        have H := H1
        clear H1
        obtain rfl := Option.some.inj H
        go_enter Tryd.func7, Tryd.ntmps7
        go_wp2_with (first | (go_at_call 12; (with_reducible refine (malthouselaw01_awake.calls  false _ ?side1 A2.out).mono ?_); (case side1 => exact Tabs.below hT (by repeat (first | (with_reducible first | exact HB.out | apply below_alloc | apply pw_below_drewN | apply below_drew1) | exact HB.out))); rintro e w45 ⟨rfl, hb⟩; have n0_ := Aside0.mk (below_step (by repeat (first | (with_reducible first | exact HB.out | apply below_alloc | apply pw_below_drewN | apply below_drew1) | exact HB.out)) hb); clear HB; have HB := n0_; clear n0_; (try clear hb); (try clear hb2); (try clear hk); (try clear hi)) | (go_at_call 13; (with_reducible refine (lex_Cut.calls a0 t227 t228 t229 _ ?side1 A5.out).mono ?_); (case side1 => exact Tabs.below hT (by repeat (first | (with_reducible first | exact HB.out | apply below_alloc | apply pw_below_drewN | apply below_drew1) | exact HB.out))); rintro e w46 ⟨v230, rfl, ho0, hb⟩; have n0_ := Aside0.mk (Kd.R_lower ho0 (below_size (by repeat (first | (with_reducible first | exact HB.out | apply below_alloc | apply pw_below_drewN | apply below_drew1) | exact HB.out)))); have n1_ := Aside0.mk (below_step (by repeat (first | (with_reducible first | exact HB.out | apply below_alloc | apply pw_below_drewN | apply below_drew1) | exact HB.out)) hb); clear HB; have HO231 := n0_; have HB := n1_; clear n0_ n1_; (try clear hb); (try clear hb2); (try clear hk); (try clear hi); (try clear ho0)))
        repeat (go_quiet (first | (go_at_call 12; (with_reducible refine (malthouselaw01_awake.calls  false _ ?side1 A2.out).mono ?_); (case side1 => exact Tabs.below hT (by repeat (first | (with_reducible first | exact HB.out | apply below_alloc | apply pw_below_drewN | apply below_drew1) | exact HB.out))); rintro e w45 ⟨rfl, hb⟩; have n0_ := Aside0.mk (below_step (by repeat (first | (with_reducible first | exact HB.out | apply below_alloc | apply pw_below_drewN | apply below_drew1) | exact HB.out)) hb); clear HB; have HB := n0_; clear n0_; (try clear hb); (try clear hb2); (try clear hk); (try clear hi)) | (go_at_call 13; (with_reducible refine (lex_Cut.calls a0 t227 t228 t229 _ ?side1 A5.out).mono ?_); (case side1 => exact Tabs.below hT (by repeat (first | (with_reducible first | exact HB.out | apply below_alloc | apply pw_below_drewN | apply below_drew1) | exact HB.out))); rintro e w46 ⟨v230, rfl, ho0, hb⟩; have n0_ := Aside0.mk (Kd.R_lower ho0 (below_size (by repeat (first | (with_reducible first | exact HB.out | apply below_alloc | apply pw_below_drewN | apply below_drew1) | exact HB.out)))); have n1_ := Aside0.mk (below_step (by repeat (first | (with_reducible first | exact HB.out | apply below_alloc | apply pw_below_drewN | apply below_drew1) | exact HB.out)) hb); clear HB; have HO231 := n0_; have HB := n1_; clear n0_ n1_; (try clear hb); (try clear hb2); (try clear hk); (try clear hi); (try clear ho0))); try go_wp2_with (first | (go_at_call 12; (with_reducible refine (malthouselaw01_awake.calls  false _ ?side1 A2.out).mono ?_); (case side1 => exact Tabs.below hT (by repeat (first | (with_reducible first | exact HB.out | apply below_alloc | apply pw_below_drewN | apply below_drew1) | exact HB.out))); rintro e w45 ⟨rfl, hb⟩; have n0_ := Aside0.mk (below_step (by repeat (first | (with_reducible first | exact HB.out | apply below_alloc | apply pw_below_drewN | apply below_drew1) | exact HB.out)) hb); clear HB; have HB := n0_; clear n0_; (try clear hb); (try clear hb2); (try clear hk); (try clear hi)) | (go_at_call 13; (with_reducible refine (lex_Cut.calls a0 t227 t228 t229 _ ?side1 A5.out).mono ?_); (case side1 => exact Tabs.below hT (by repeat (first | (with_reducible first | exact HB.out | apply below_alloc | apply pw_below_drewN | apply below_drew1) | exact HB.out))); rintro e w46 ⟨v230, rfl, ho0, hb⟩; have n0_ := Aside0.mk (Kd.R_lower ho0 (below_size (by repeat (first | (with_reducible first | exact HB.out | apply below_alloc | apply pw_below_drewN | apply below_drew1) | exact HB.out)))); have n1_ := Aside0.mk (below_step (by repeat (first | (with_reducible first | exact HB.out | apply below_alloc | apply pw_below_drewN | apply below_drew1) | exact HB.out)) hb); clear HB; have HO231 := n0_; have HB := n1_; clear n0_ n1_; (try clear hb); (try clear hb2); (try clear hk); (try clear hi); (try clear ho0))))
        go_ret
        exact ⟨by first | rfl | (simp [errW_none, errW_some] <;> rfl) | (simp [*, errW_none, errW_some] <;> rfl), by repeat (first | (with_reducible first | exact HB.out | apply below_alloc | apply pw_below_drewN | apply below_drew1) | exact HB.out)⟩
end Go.Proofs.YtlikjknakplamaaDoor.Print
/-! ### LxCutP -/
namespace Go.Proofs.YtlikjknakplamaaDoor
open Go.Lib
set_option linter.unusedSimpArgs false
set_option linter.unusedVariables false
theorem takeWhile_len {α : Type} (p : α → Bool) (l : List α) : (l.takeWhile p).length ≤ l.length := (List.takeWhile_sublist _).length_le
theorem takeWhile_pos {α : Type} (p : α → Bool) (x : α) (l : List α) (h : p x = true) : 1 ≤ ((x :: l).takeWhile p).length := by
  rw [List.takeWhile_cons, if_pos h]
  simp
theorem wordy_two {r : Nat} (h : classZ (r : Int) = 2) : isW r = true := by
  show wordyZ (r : Int) = true
  unfold wordyZ
  rw [h]
  rfl
theorem wordy_three {r : Nat} (h : classZ (r : Int) = 3) : isW r = true := by
  show wordyZ (r : Int) = true
  unfold wordyZ
  rw [h]
  rfl
theorem signR_le (r : Nat) (t : List Nat) : 1 ≤ signR r t ∧ signR r t ≤ (r :: t).length := by
  unfold signR two
  cases t with
  | nil => simp
  | cons x t => split <;> simp
/-- A token takes something, and no more than there is; what it is. -/
theorem tokR_good (rs : List Nat) (he : (tokR rs).2.2 = 0) :
    1 ≤ (tokR rs).2.1 ∧ (tokR rs).2.1 ≤ rs.length ∧ (tokR rs).1.1 ≠ 0 ∧ ((tokR rs).1.2.1 = [] → (tokR rs).1.1 = 3) ∧ (∀ r ∈ (tokR rs).1.2.1, r ∈ rs) := by
  cases rs with
  | nil => cases he
  | cons r t =>
    have htw := takeWhile_len isW (r :: t)
    unfold tokR at he ⊢
    by_cases c2 : classZ r = 2
    · have hp := takeWhile_pos isW r t (wordy_two c2)
      simp only [if_pos c2] at he ⊢
      by_cases c : 12 < ((r :: t).takeWhile isW).length
      · rw [if_pos c] at he; cases he
      · simp only [if_neg c]
        refine ⟨hp, htw, by decide, fun h => ?_, takeWhile_sub _ _⟩
        rw [h] at hp
        simp at hp
    · simp only [if_neg c2] at he ⊢
      by_cases c3 : classZ r = 3
      · have hp := takeWhile_pos isW r t (wordy_three c3)
        simp only [if_pos c3] at he ⊢
        by_cases c : (numR ((r :: t).takeWhile isW)).2 = true
        · simp only [if_pos c]
          refine ⟨hp, htw, by decide, fun h => ?_, takeWhile_sub _ _⟩
          rw [h] at hp
          simp at hp
        · rw [if_neg c] at he; cases he
      · simp only [if_neg c3] at he ⊢
        by_cases c5 : classZ r = 5
        · simp only [if_pos c5] at he ⊢
          unfold textR at he ⊢
          by_cases d1 : 34 ∈ t.takeWhile (fun r => decide (r ≠ 10))
          · simp only [if_pos d1] at he ⊢
            by_cases d2 : ((t.takeWhile fun r => decide (r ≠ 10)).takeWhile fun r => decide (r ≠ 34)).any (fun r => decide (r < 32)) = true
            · rw [if_pos d2] at he; cases he
            · simp only [if_neg d2] at he ⊢
              by_cases d3 : 20 < ((t.takeWhile fun r => decide (r ≠ 10)).takeWhile fun r => decide (r ≠ 34)).length
              · rw [if_pos d3] at he; cases he
              · simp only [if_neg d3]
                refine ⟨by omega, ?_, by decide, fun _ => trivial, fun x hx => List.mem_cons_of_mem _ (takeWhile_sub _ _ _ (takeWhile_sub _ _ _ hx))⟩
                obtain ⟨u, hu⟩ := takeWhile_mark 34 _ d1
                have h1 := congrArg List.length hu
                have h2 := takeWhile_len (fun r : Nat => decide (r ≠ 10)) t
                simp only [List.length_append, List.length_cons] at h1 ⊢
                omega
          · rw [if_neg d1] at he; cases he
        · simp only [if_neg c5] at he ⊢
          by_cases c4 : classZ r = 4
          · simp only [if_pos c4]
            obtain ⟨h1, h2⟩ := signR_le r t
            refine ⟨h1, h2, by decide, fun h => ?_, fun x hx => List.mem_of_mem_take hx⟩
            obtain ⟨m, hm⟩ : ∃ m, signR r t = m + 1 := ⟨signR r t - 1, by omega⟩
            rw [hm, List.take_succ_cons] at h
            cases h
          · rw [if_neg c4] at he; cases he
theorem drop_blanks_len (rs : List Nat) : (rs.drop (blanksN false rs)).length + blanksN false rs = rs.length := by
  rw [List.length_drop]
  have := blanksN_le false rs
  omega
theorem lexR_fuel : ∀ (f g : Nat) (rs : List Nat) (n k : Nat), rs.length < f → rs.length < g → lexR f rs n k = lexR g rs n k := by
  intro f
  induction f with
  | zero => intro g rs n k h; omega
  | succ f ih =>
    intro g rs n k h1 h2
    obtain ⟨g, rfl⟩ : ∃ m, g = m + 1 := ⟨g - 1, by omega⟩
    unfold lexR
    by_cases h : rs.drop (blanksN false rs) = []
    · rw [if_pos h, if_pos h]
    · rw [if_neg h, if_neg h]
      by_cases hk : k = 2000
      · rw [if_pos hk, if_pos hk]
      · rw [if_neg hk, if_neg hk]
        by_cases he : (tokR (rs.drop (blanksN false rs))).2.2 ≠ 0
        · rw [if_pos he, if_pos he]
        · have hg := tokR_good _ (by simpa using he)
          have hd := drop_blanks_len rs
          rw [if_neg he, if_neg he, ih g _ _ _ (by rw [List.length_drop]; omega) (by rw [List.length_drop]; omega)]
def lex (rs : List Nat) (n k : Nat) : List (TokR × Nat) × Int × Int := lexR (rs.length + 1) rs n k
/-- What is left behind blanks. -/
def past (rs : List Nat) : List Nat := rs.drop (blanksN false rs)
theorem lex_eq (rs : List Nat) (n k : Nat) : lex rs n k =
    if past rs = [] then ([(noTokR, n + blanksN false rs)], 0, 0)
    else if k = 2000 then ([], 2, ((n + blanksN false rs : Nat) : Int))
    else if (tokR (past rs)).2.2 ≠ 0 then ([], (tokR (past rs)).2.2, ((n + blanksN false rs : Nat) : Int))
    else if (lex ((past rs).drop (tokR (past rs)).2.1) (n + blanksN false rs + (tokR (past rs)).2.1) (k + 1)).2.1 ≠ 0 then
      ([], (lex ((past rs).drop (tokR (past rs)).2.1) (n + blanksN false rs + (tokR (past rs)).2.1) (k + 1)).2)
    else (((tokR (past rs)).1, n + blanksN false rs) :: (lex ((past rs).drop (tokR (past rs)).2.1) (n + blanksN false rs + (tokR (past rs)).2.1) (k + 1)).1, 0, 0) := by
  unfold lex past
  conv => lhs; unfold lexR
  by_cases h : rs.drop (blanksN false rs) = []
  · rw [if_pos h, if_pos h]
  · rw [if_neg h, if_neg h]
    by_cases hk : k = 2000
    · rw [if_pos hk, if_pos hk]
    · rw [if_neg hk, if_neg hk]
      by_cases he : (tokR (rs.drop (blanksN false rs))).2.2 ≠ 0
      · rw [if_pos he, if_pos he]
      · have hg := tokR_good _ (by simpa using he)
        have hd := drop_blanks_len rs
        rw [if_neg he, if_neg he, lexR_fuel rs.length (((rs.drop (blanksN false rs)).drop (tokR (rs.drop (blanksN false rs))).2.1).length + 1) _ _ _ (by rw [List.length_drop]; omega) (by omega)]
theorem lex_end (rs : List Nat) (n k : Nat) (h : past rs = []) : lex rs n k = ([(noTokR, n + blanksN false rs)], 0, 0) := by rw [lex_eq, if_pos h]
theorem lex_full (rs : List Nat) (n : Nat) (h : past rs ≠ []) : lex rs n 2000 = ([], 2, ((n + blanksN false rs : Nat) : Int)) := by rw [lex_eq, if_neg h, if_pos rfl]
theorem lex_err (rs : List Nat) (n k : Nat) (h : past rs ≠ []) (hk : k ≠ 2000) (he : (tokR (past rs)).2.2 ≠ 0) : lex rs n k = ([], (tokR (past rs)).2.2, ((n + blanksN false rs : Nat) : Int)) := by
  rw [lex_eq, if_neg h, if_neg hk, if_pos he]
/-- What comes behind a token. -/
def rest (rs : List Nat) (n k : Nat) : List (TokR × Nat) × Int × Int := lex ((past rs).drop (tokR (past rs)).2.1) (n + blanksN false rs + (tokR (past rs)).2.1) (k + 1)
theorem lex_more (rs : List Nat) (n k : Nat) (h : past rs ≠ []) (hk : k ≠ 2000) (he : (tokR (past rs)).2.2 = 0) : lex rs n k = if (rest rs n k).2.1 ≠ 0 then ([], (rest rs n k).2) else (((tokR (past rs)).1, n + blanksN false rs) :: (rest rs n k).1, 0, 0) := by
  rw [lex_eq, if_neg h, if_neg hk, if_neg (by simpa using he)]
  rfl
theorem past_ok {rs : List Nat} (h : ∀ r ∈ rs, okR r) : ∀ r ∈ past rs, okR r := fun r hr => h r (List.mem_of_mem_drop hr)
theorem str_zero (rs : List Nat) : (str rs).size = 0 ↔ rs = [] := by
  rw [str_size]
  constructor
  · intro h
    have := txt_len rs
    exact List.eq_nil_of_length_eq_zero (by omega)
  · rintro rfl; rfl
theorem tokens_at (t : TokR × Nat) (n : Int) (h : n = t.2) : ((tokZ t.1).1, (tokZ t.1).2.1, (tokZ t.1).2.2.1, n) = tokAt t := by
  rw [h]
  rfl
theorem cutLoop_is : ∀ (f : Nat) (rs : List Nat) (n : Nat) (l : List Tok), (∀ r ∈ rs, okR r) → rs.length < f → l.length ≤ 2000 →
    cutLoop f (str rs, (n : Int)) l = if (lex rs n l.length).2.1 = 0 then (l ++ (lex rs n l.length).1.map tokAt, 0, 0) else ([], (lex rs n l.length).2) := by
  intro f
  induction f with
  | zero => intro rs n l _ h; omega
  | succ f ih =>
    intro rs n l hok hf hl
    have hb := blanks_is rs (n : Int) hok
    have hpl := drop_blanks_len rs
    rw [cutLoop, hb]
    show (if (str (past rs)).size = 0 then _ else _) = _
    by_cases h : past rs = []
    · rw [if_pos ((str_zero _).2 h), lex_end rs n _ h]
      simp only [if_true]
      rw [List.map_singleton]
      have e : tokAt (noTokR, n + blanksN false rs) = (0, ⟨#[]⟩, 0, (n : Int) + blanksN false rs) := by
        unfold tokAt noTokR
        simp only
        rw [str_nil]
        congr 3
      rw [e]
    · rw [if_neg (fun hz => h ((str_zero _).1 hz))]
      by_cases hk : l.length = 2000
      · rw [if_pos hk, hk, lex_full rs n h]
        simp only
        rw [if_neg (by omega)]
        congr 2
      · rw [if_neg hk]
        have ht := token_is (past rs) h (past_ok hok)
        show (if (tokenZ (str (past rs))).2.2 ≠ 0 then ([], (tokenZ (str (past rs))).2.2, (n : Int) + blanksN false rs) else cutLoop f (passZ (str (past rs), (n : Int) + blanksN false rs) (tokenZ (str (past rs))).2.1.toNat) (l ++ [((tokenZ (str (past rs))).1.1, (tokenZ (str (past rs))).1.2.1, (tokenZ (str (past rs))).1.2.2.1, (n : Int) + blanksN false rs)])) = _
        rw [ht]
        simp only [Int.toNat_natCast]
        by_cases he : (tokR (past rs)).2.2 = 0
        · obtain ⟨g1, g2, _⟩ := tokR_good _ he
          rw [if_neg (by simpa using he), lex_more rs n _ h hk he]
          have hps := pass_str ((past rs).take (tokR (past rs)).2.1) ((past rs).drop (tokR (past rs)).2.1) ((n : Int) + blanksN false rs) (fun r hr => past_ok hok r (List.mem_of_mem_take hr))
          rw [List.take_append_drop, List.length_take, Nat.min_eq_left g2] at hps
          rw [hps, tokens_at ((tokR (past rs)).1, n + blanksN false rs) _ (by simp)]
          have ih' := ih ((past rs).drop (tokR (past rs)).2.1) (n + blanksN false rs + (tokR (past rs)).2.1) (l ++ [tokAt ((tokR (past rs)).1, n + blanksN false rs)]) (fun r hr => past_ok hok r (List.mem_of_mem_drop hr)) (by rw [List.length_drop]; unfold past at *; omega) (by simp; omega)
          rw [show (n : Int) + (blanksN false rs : Int) + ((tokR (past rs)).2.1 : Int) = ((n + blanksN false rs + (tokR (past rs)).2.1 : Nat) : Int) by omega, ih', List.length_append, List.length_singleton]
          show (if (rest rs n l.length).2.1 = 0 then (l ++ [_] ++ (rest rs n l.length).1.map tokAt, 0, 0) else ([], (rest rs n l.length).2)) = _
          by_cases hr : (rest rs n l.length).2.1 = 0
          · have hr' : ¬ (rest rs n l.length).2.1 ≠ 0 := by simpa using hr
            rw [if_pos hr]
            simp only [if_neg hr']
            rw [if_pos trivial, List.append_assoc]
            rfl
          · rw [if_neg hr]
            simp only [if_pos (show (rest rs n l.length).2.1 ≠ 0 from hr)]
            rw [if_neg hr]
        · rw [if_pos (by simpa using he), lex_err rs n _ h hk he]
          simp only
          rw [if_neg he]
          congr 2
/-- What cutting valid runes tells. -/
def cutR (rs : List Nat) : List Tok × Int × Int := if (lex rs 0 0).2.1 = 0 then ((lex rs 0 0).1.map tokAt, 0, 0) else ([], (lex rs 0 0).2)
/-- A text of runes, and bytes behind them. -/
def strT (rs : List Nat) (t : List UInt8) : ByteArray := ⟨(txt rs ++ t).toArray⟩
theorem strT_list (rs : List Nat) (t : List UInt8) : (strT rs t).data.toList = txt rs ++ t := rfl
theorem strT_size (rs : List Nat) (t : List UInt8) : (strT rs t).size = (txt rs).length + t.length := by
  show Array.size _ = _
  simp [strT]
theorem strT_nil (rs : List Nat) : strT rs [] = str rs := by unfold strT str; rw [List.append_nil]
theorem of_list {s : ByteArray} {l : List UInt8} (h : s.data.toList = l) : s = ⟨l.toArray⟩ := by cases s with | mk d => rw [← h]
theorem bad_from : ∀ (b a : List Nat) (t : List UInt8) (f : Nat) (n : Int), (∀ r ∈ b, okR r) → (t = [] ∨ t ≠ [] ∧ (decodeL t).1 = 65533 ∧ (decodeL t).2 = 1) → (txt b).length + t.length ≤ f →
    badFrom (strT (a ++ b) t) f (txt a).length n = if t = [] then -1 else n + b.length
  | [], a, t, f, n, _, ht, hf => by
    rcases ht with rfl | ⟨hne, hd⟩
    · rw [badFrom_end _ _ _ _ (by rw [strT_size, List.append_nil]; simp), if_pos rfl]
    · have hl := List.length_pos_iff.2 hne
      obtain ⟨f, rfl⟩ : ∃ m, f = m + 1 := ⟨f - 1, by omega⟩
      unfold badFrom
      rw [if_pos (by rw [strT_size, List.append_nil]; omega), ← decodeL_drop, strT_list, List.append_nil, List.drop_left, if_pos hd, if_neg hne]
      simp
  | r :: b, a, t, f, n, h, ht, hf => by
    have hr := h r List.mem_cons_self
    have hl := (enc_len r).1
    rw [txt_len_cons] at hf
    obtain ⟨f, rfl⟩ : ∃ m, f = m + 1 := ⟨f - 1, by omega⟩
    have hdec : Utf8.decode (strT (a ++ r :: b) t) (txt a).length = (r, (enc r).length) := by
      rw [← decodeL_drop, strT_list, txt_append, List.append_assoc, List.drop_left, txt_cons, List.append_assoc, dec_app r hr]
    unfold badFrom
    rw [if_pos (by rw [strT_size, txt_len_append, txt_len_cons]; omega), hdec, if_neg hr.2]
    have := bad_from b (a ++ [r]) t f (n + 1) (fun r hr => h r (List.mem_cons_of_mem _ hr)) ht (by omega)
    rw [List.append_assoc, txt_len_append, txt_len_cons, txt_nil] at this
    simp only [List.length_nil, Nat.add_zero, List.singleton_append] at this
    rw [this, List.length_cons]
    split
    · rfl
    · omega
theorem bad_is (rs : List Nat) (t : List UInt8) (h : ∀ r ∈ rs, okR r) (ht : t = [] ∨ t ≠ [] ∧ (decodeL t).1 = 65533 ∧ (decodeL t).2 = 1) : badZ (strT rs t) = if t = [] then -1 else (rs.length : Int) := by
  have := bad_from rs [] t (strT rs t).size 0 h ht (by rw [strT_size]; exact Nat.le_refl _)
  rw [txt_nil, List.length_nil, List.nil_append] at this
  unfold badZ
  rw [this]
  simp
theorem cut_valid (rs : List Nat) (h : ∀ r ∈ rs, okR r) (hs : (str rs).size ≤ 8192) : cutZ (str rs) = cutR rs := by
  unfold cutZ cutR
  have hb := bad_is rs [] h (.inl rfl)
  rw [strT_nil, if_pos rfl] at hb
  rw [if_neg (by omega), hb, if_neg (by omega)]
  have := cutLoop_is ((str rs).size + 1) rs 0 [] h (by rw [str_size]; have := txt_len rs; omega) (by simp)
  simpa using this
theorem cut_bad (rs : List Nat) (t : List UInt8) (h : ∀ r ∈ rs, okR r) (ht : t ≠ [] ∧ (decodeL t).1 = 65533 ∧ (decodeL t).2 = 1) (hs : (strT rs t).size ≤ 8192) : cutZ (strT rs t) = ([], 10, (rs.length : Int)) := by
  unfold cutZ
  rw [if_neg (by omega), bad_is rs t h (.inr ht), if_neg ht.1, if_pos (by omega)]
/-- Any text: too long, with a bad byte, or of runes. -/
theorem text_cases (s : ByteArray) : (∃ rs, (∀ r ∈ rs, okR r) ∧ s = str rs) ∨ ∃ rs t, (∀ r ∈ rs, okR r) ∧ (t ≠ [] ∧ (decodeL t).1 = 65533 ∧ (decodeL t).2 = 1) ∧ s = strT rs t := by
  obtain ⟨rs, t, a, b, c⟩ := split_txt s.data.toList.length s.data.toList (Nat.le_refl _)
  rcases c with rfl | c
  · exact .inl ⟨rs, a, str_of (by rw [b, List.append_nil])⟩
  · exact .inr ⟨rs, t, a, c, of_list b⟩
end Go.Proofs.YtlikjknakplamaaDoor
/-! ### LxRise -/
namespace Go.Proofs.YtlikjknakplamaaDoor
open Go.Lib
set_option linter.unusedSimpArgs false
set_option linter.unusedVariables false
/-- Places rise from lo on up to hi; the last token is the end. -/
def Rising : Nat → Nat → List (TokR × Nat) → Prop
  | _, _, [] => False
  | lo, hi, x :: l => lo ≤ x.2 ∧ x.2 ≤ hi ∧ ((l = [] ∧ x.1 = noTokR) ∨ (l ≠ [] ∧ x.1.1 ≠ 0 ∧ (x.1.2.1 = [] → x.1.1 = 3) ∧ Rising (x.2 + 1) hi l))
theorem Rising.ne {lo hi : Nat} {l : List (TokR × Nat)} (h : Rising lo hi l) : l ≠ [] := by
  rintro rfl
  exact h
theorem Rising.lower {lo lo' hi : Nat} {l : List (TokR × Nat)} (h : Rising lo hi l) (hl : lo' ≤ lo) : Rising lo' hi l := by
  cases l with
  | nil => exact h
  | cons x l => exact ⟨Nat.le_trans hl h.1, h.2⟩
theorem lex_rising : ∀ (m : Nat) (rs : List Nat) (n k : Nat), rs.length ≤ m →
    ((lex rs n k).2.1 = 0 → (lex rs n k).2.2 = 0 ∧ Rising n (n + rs.length) (lex rs n k).1) ∧ ((lex rs n k).2.1 ≠ 0 → (lex rs n k).1 = [] ∧ ∃ j : Nat, (lex rs n k).2.2 = j ∧ j ≤ n + rs.length) := by
  intro m
  induction m with
  | zero =>
    intro rs n k hm
    obtain rfl := List.eq_nil_of_length_eq_zero (show rs.length = 0 by omega)
    rw [lex_end [] n k rfl]
    refine ⟨fun _ => ⟨rfl, ?_⟩, fun h => absurd rfl h⟩
    exact ⟨by simp [blanksN], by simp [blanksN], .inl ⟨rfl, rfl⟩⟩
  | succ m ih =>
    intro rs n k hm
    have hd := drop_blanks_len rs
    have hp : (past rs).length + blanksN false rs = rs.length := hd
    by_cases h : past rs = []
    · rw [lex_end rs n k h]
      refine ⟨fun _ => ⟨rfl, ?_⟩, fun h => absurd rfl h⟩
      exact ⟨by simp, by simp; omega, .inl ⟨rfl, rfl⟩⟩
    · by_cases hk : k = 2000
      · subst hk
        rw [lex_full rs n h]
        exact ⟨fun h => absurd (show (2 : Int) = 0 from h) (by decide), fun _ => ⟨rfl, _, rfl, by omega⟩⟩
      · by_cases he : (tokR (past rs)).2.2 = 0
        · obtain ⟨g1, g2, g3, g4, _⟩ := tokR_good _ he
          have ih' := ih ((past rs).drop (tokR (past rs)).2.1) (n + blanksN false rs + (tokR (past rs)).2.1) (k + 1) (by rw [List.length_drop]; omega)
          rw [List.length_drop] at ih'
          have ih2 : ((rest rs n k).2.1 = 0 → (rest rs n k).2.2 = 0 ∧ Rising (n + blanksN false rs + (tokR (past rs)).2.1) (n + blanksN false rs + (tokR (past rs)).2.1 + ((past rs).length - (tokR (past rs)).2.1)) (rest rs n k).1) ∧ ((rest rs n k).2.1 ≠ 0 → (rest rs n k).1 = [] ∧ ∃ j : Nat, (rest rs n k).2.2 = j ∧ j ≤ n + blanksN false rs + (tokR (past rs)).2.1 + ((past rs).length - (tokR (past rs)).2.1)) := ih'
          rw [lex_more rs n k h hk he]
          by_cases hr : (rest rs n k).2.1 = 0
          · have hr' : ¬ (rest rs n k).2.1 ≠ 0 := by simpa using hr
            rw [if_neg hr']
            obtain ⟨_, h2⟩ := ih2.1 hr
            refine ⟨fun _ => ⟨rfl, ?_⟩, fun h => absurd rfl h⟩
            refine ⟨by simp, by simp; omega, .inr ⟨h2.ne, g3, g4, ?_⟩⟩
            have h3 := h2.lower (lo' := n + blanksN false rs + 1) (by omega)
            rw [show n + blanksN false rs + (tokR (past rs)).2.1 + ((past rs).length - (tokR (past rs)).2.1) = n + rs.length by omega] at h3
            exact h3
          · rw [if_pos hr]
            refine ⟨fun h => absurd h hr, fun _ => ⟨rfl, ?_⟩⟩
            obtain ⟨_, j, hj, hj2⟩ := ih2.2 hr
            exact ⟨j, hj, by omega⟩
        · rw [lex_err rs n k h hk he]
          exact ⟨fun h => absurd h he, fun _ => ⟨rfl, _, rfl, by omega⟩⟩
theorem rising_at : ∀ (l : List (TokR × Nat)) (lo hi : Nat), Rising lo hi l → ∀ (i : Nat) (h : i < l.length),
    lo ≤ l[i].2 ∧ l[i].2 ≤ hi ∧ (i + 1 = l.length → l[i].1 = noTokR) ∧ (i + 1 < l.length → l[i].1.1 ≠ 0 ∧ (l[i].1.2.1 = [] → l[i].1.1 = 3)) ∧ (∀ j, i = j + 1 → ∀ hj : j < l.length, l[j].2 < l[i].2)
  | [], _, _, h, _, hi => by simp at hi
  | x :: l, lo, hi, ⟨h1, h2, h3⟩, i, hlt => by
    cases i with
    | zero =>
      refine ⟨h1, h2, fun hl => ?_, fun hl => ?_, fun j hj => by omega⟩
      · rcases h3 with ⟨_, h⟩ | ⟨h, _⟩
        · exact h
        · have := List.length_pos_iff.2 h
          simp at hl
          exact absurd hl h
      · rcases h3 with ⟨h, _⟩ | ⟨_, h4, h5, _⟩
        · subst h; simp at hl
        · exact ⟨h4, h5⟩
    | succ i =>
      rcases h3 with ⟨h, _⟩ | ⟨_, _, _, h6⟩
      · subst h; simp at hlt
      · obtain ⟨a, b, c, d, e⟩ := rising_at l (x.2 + 1) hi h6 i (by simpa using hlt)
        refine ⟨by simp only [List.getElem_cons_succ]; omega, b, fun hl => c (by simpa using hl), fun hl => d (by simpa using hl), fun j hj hjl => ?_⟩
        obtain rfl : i = j := by omega
        cases i with
        | zero => simp only [List.getElem_cons_zero, List.getElem_cons_succ]; omega
        | succ i => simp only [List.getElem_cons_succ]; exact e i rfl (by simp at hlt; omega)
/-- A word by itself is one token. -/
theorem takeWhile_whole {α : Type} (p : α → Bool) (l : List α) (h : l.all p = true) : l.takeWhile p = l := takeWhile_all p l (List.all_eq_true.1 h)
theorem lex_one (rs : List Nat) (h0 : blanksN false rs = 0) (hne : rs ≠ []) (he : (tokR rs).2.2 = 0) (hl : (tokR rs).2.1 = rs.length) : lex rs 0 0 = ([((tokR rs).1, 0), (noTokR, rs.length)], 0, 0) := by
  have hp : past rs = rs := by unfold past; rw [h0, List.drop_zero]
  have hr : rest rs 0 0 = ([(noTokR, rs.length)], 0, 0) := by
    unfold rest
    rw [hp, hl, List.drop_length, lex_end _ _ _ rfl, h0]
    simp [blanksN]
  rw [lex_more rs 0 0 (by rw [hp]; exact hne) (by omega) (by rw [hp]; exact he), hr, if_neg (by simp), hp, h0]
theorem no_blanks (r : Nat) (t : List Nat) (h1 : classZ r ≠ 1) (h6 : classZ r ≠ 6) : blanksN false (r :: t) = 0 := by
  rw [blanksN, if_neg (by simp), if_neg h1, if_neg h6]
end Go.Proofs.YtlikjknakplamaaDoor
/-! ### LxLaw4 -/
namespace Go.Proofs.YtlikjknakplamaaDoor.Print
open Go.RowKit Go.Proofs.YtlikjknakplamaaDoorW.PrintWords Go.Proofs.YtlikjknakplamaaDoorW.PrintLast Go.Proofs.YtlikjknakplamaaDoorW.PrintMore
set_option linter.unusedSimpArgs false
set_option linter.unusedVariables false
/-- A token as the print has it. -/
def sTok (x : TokR × Nat) : S38 := ⟨x.1.1, str x.1.2.1, x.1.2.2, (x.2 : Int)⟩
theorem toks_map (l : List (TokR × Nat)) : (l.map tokAt).map gTok = l.map sTok := by
  rw [List.map_map]
  rfl
theorem cut_some (s : ByteArray) (h : s.size ≤ 1000000000) : lex_Cut.f s = some ((cutZ s).1.map gTok, (cutZ s).2.1, (cutZ s).2.2) := if_pos h
theorem rd_tok (l : List (TokR × Nat)) (i : Nat) (h : i < l.length) : rd_T38 (l.map sTok) (i : Int) = sTok l[i] := by
  have := getD_at (l.map sTok) z38 i (by simpa using h)
  rw [List.getElem_map] at this
  exact this
theorem str_empty (rs : List Nat) : (str rs).toList = [] ↔ rs = [] := by
  rw [ByteArray.toList_eq, str_list]
  constructor
  · intro h
    have h1 := txt_len rs
    rw [h] at h1
    exact List.eq_nil_of_length_eq_zero (by simpa using h1)
  · rintro rfl; rfl
theorem places_loop (s : ByteArray) (l : List (TokR × Nat)) (hr : Rising 0 s.size l) (hs : s.size ≤ 1000000000) (hl : l.length ≤ 1000000000) : ∀ (f i k : Nat), l.length ≤ i + f → i ≤ l.length → 2 * f + 1 < k → malthouselaw01_LexPlaces.l0 k s true (l.map sTok) 0 (i : Int) = some true := by
  have hlen : (l.map sTok).length = l.length := by simp
  have hpos := List.length_pos_iff.2 hr.ne
  intro f
  induction f with
  | zero =>
    intro i k h1 h2 hk
    obtain ⟨k, rfl⟩ : ∃ m, k = m + 1 := ⟨k - 1, by omega⟩
    rw [malthouselaw01_LexPlaces.l0, hlen, if_neg (by omega), if_pos rfl, if_pos (by omega)]
    rfl
  | succ f ih =>
    intro i k h1 h2 hk
    obtain ⟨k, rfl⟩ : ∃ m, k = m + 1 + 1 := ⟨k - 2, by omega⟩
    by_cases hi : i < l.length
    · obtain ⟨a, b, c, d, e⟩ := rising_at l 0 s.size hr i hi
      have hlast : ((i : Int) == wrap64 ((l.length : Int) - 1)) = decide (i + 1 = l.length) := by
        rw [wrap_small _ (by omega) (by omega)]
        by_cases h : i + 1 = l.length
        · rw [decide_eq_true h]; simp; omega
        · rw [decide_eq_false h]; simp; omega
      have hkind : ((sTok l[i]).f0 == 0) = decide (i + 1 = l.length) := by
        by_cases h : i + 1 = l.length
        · rw [decide_eq_true h]
          show (l[i].1.1 == 0) = true
          rw [c h]
          rfl
        · rw [decide_eq_false h]
          have := (d (by omega)).1
          show (l[i].1.1 == 0) = false
          simpa using this
      have hj1 : malthouselaw01_LexPlaces.j1 (k + 1) s true (l.map sTok) 0 (i : Int) (decide (i + 1 = l.length)) false = some true := by
        rw [malthouselaw01_LexPlaces.j1, if_neg (by simp), if_pos (by omega), hlen, if_pos (by omega), rd_tok l i hi, wrap_small ((i : Int) + 1) (by omega) (by omega), show (i : Int) + 1 = ((i + 1 : Nat) : Int) by omega, ih (i + 1) k (by omega) (by omega) (by omega)]
        show (if (str l[i].1.2.1).toList = [] then (if l[i].1.1 = 3 then _ else _) else _) = _
        by_cases ht : l[i].1.2.1 = []
        · rw [if_pos ((str_empty _).2 ht)]
          by_cases h : i + 1 = l.length
          · rw [decide_eq_true h, if_pos rfl, if_pos rfl]
            split <;> rfl
          · rw [if_pos ((d (by omega)).2 ht)]
            split <;> rfl
        · rw [if_neg (fun h => ht ((str_empty _).1 h))]
          by_cases h : i + 1 = l.length
          · exact absurd (by rw [c h]; rfl) ht
          · rw [decide_eq_false h]
            rfl
      rw [malthouselaw01_LexPlaces.l0, hlen, if_pos (by omega), if_pos (by omega), rd_tok l i hi, hlast, hkind]
      have e3 : (sTok l[i]).f3 = (l[i].2 : Int) := rfl
      rw [e3, if_neg (by omega), if_neg (by omega)]
      have hb : (decide (i + 1 = l.length) != decide (i + 1 = l.length)) = false := by simp
      rw [hb, hj1]
      cases i with
      | zero => rw [if_neg (by omega)]
      | succ j =>
        have w1 : wrap64 (((j + 1 : Nat) : Int) - 1) = (j : Int) := by rw [wrap_small _ (by omega) (by omega)]; omega
        rw [if_pos (by omega), w1, if_pos (by omega), if_pos (by omega), rd_tok l j (by omega)]
        have e4 : (sTok l[j]).f3 = (l[j].2 : Int) := rfl
        rw [e4, if_neg (by have := e j rfl (by omega); omega)]
    · rw [malthouselaw01_LexPlaces.l0, hlen, if_neg (by omega), if_pos rfl, if_pos (by omega)]
      rfl
theorem lex_len : ∀ (m : Nat) (rs : List Nat) (n k : Nat), rs.length ≤ m → (lex rs n k).1.length ≤ rs.length + 1 := by
  intro m
  induction m with
  | zero =>
    intro rs n k hm
    obtain rfl := List.eq_nil_of_length_eq_zero (show rs.length = 0 by omega)
    rw [lex_end [] n k rfl]
    simp
  | succ m ih =>
    intro rs n k hm
    have hp : (past rs).length + blanksN false rs = rs.length := drop_blanks_len rs
    by_cases h : past rs = []
    · rw [lex_end rs n k h]; simp
    · by_cases hk : k = 2000
      · subst hk; rw [lex_full rs n h]; simp
      · by_cases he : (tokR (past rs)).2.2 = 0
        · obtain ⟨g1, g2, _⟩ := tokR_good _ he
          have ih' := ih ((past rs).drop (tokR (past rs)).2.1) (n + blanksN false rs + (tokR (past rs)).2.1) (k + 1) (by rw [List.length_drop]; omega)
          rw [List.length_drop] at ih'
          have ih2 : (rest rs n k).1.length ≤ (past rs).length - (tokR (past rs)).2.1 + 1 := ih'
          rw [lex_more rs n k h hk he]
          split
          · simp
          · simp only [List.length_cons]; omega
        · rw [lex_err rs n k h hk he]; simp
theorem lexPlaces_pure (a0 : ByteArray) : malthouselaw01_LexPlaces.f 20000 a0 = some true := by
  unfold malthouselaw01_LexPlaces.f malthouselaw01_awake.f
  simp only [Option.bind_some]
  by_cases hs : (a0.size : Int) > 3000
  · rw [if_pos hs]
  · rw [if_neg hs, cut_some a0 (by omega)]
    simp only [Option.bind_some, if_true]
    rcases text_cases a0 with ⟨rs, hok, rfl⟩ | ⟨rs, t, hok, ht, rfl⟩
    · have hsz := str_size rs
      have hle := txt_len rs
      obtain ⟨g1, g2⟩ := lex_rising rs.length rs 0 0 (Nat.le_refl _)
      have hll := lex_len rs.length rs 0 0 (Nat.le_refl _)
      rw [cut_valid rs hok (by omega)]
      unfold cutR
      by_cases he : (lex rs 0 0).2.1 = 0
      · obtain ⟨_, hr⟩ := g1 he
        rw [if_pos he]
        simp only
        rw [if_pos trivial, toks_map]
        have hr2 : Rising 0 (str rs).size (lex rs 0 0).1 := by
          have : ∀ (l : List (TokR × Nat)) (lo hi hi' : Nat), hi ≤ hi' → Rising lo hi l → Rising lo hi' l := by
            intro l
            induction l with
            | nil => intro _ _ _ _ h; exact h
            | cons x l ih =>
              intro lo hi hi' hh h
              refine ⟨h.1, Nat.le_trans h.2.1 hh, ?_⟩
              rcases h.2.2 with h | ⟨h1, h2, h3, h4⟩
              · exact .inl h
              · exact .inr ⟨h1, h2, h3, ih _ _ _ hh h4⟩
          exact this _ _ _ _ (by omega) hr
        exact places_loop (str rs) _ hr2 (by omega) (by omega) (lex rs 0 0).1.length 0 20000 (by omega) (by omega) (by omega)
      · obtain ⟨_, j, hj, hj2⟩ := g2 he
        rw [if_neg he]
        simp only
        rw [if_neg he, hj, if_pos (by simp), if_pos (by omega), decide_eq_true (by omega)]
    · have hsz := strT_size rs t
      have hle := txt_len rs
      rw [cut_bad rs t hok ht (by omega)]
      simp only
      rw [if_neg (by omega), if_pos (by simp), if_pos (by omega), decide_eq_true (by omega)]
end Go.Proofs.YtlikjknakplamaaDoor.Print
/-! ### LxAgain -/
namespace Go.Proofs.YtlikjknakplamaaDoor
open Go.Lib
set_option linter.unusedSimpArgs false
set_option linter.unusedVariables false
/-- What is written of a token. -/
def piece (t : TokR) : List Nat := if t.1 = 3 then 34 :: (t.2.1 ++ [34]) else t.2.1
theorem takeWhile_stop {α : Type} (p : α → Bool) : ∀ (a : List α) (x : α) (b : List α), a.all p = true → p x = false → (a ++ x :: b).takeWhile p = a
  | [], x, b, _, hx => by rw [List.nil_append, List.takeWhile_cons, if_neg (by rw [hx]; simp)]
  | y :: a, x, b, ha, hx => by
    rw [List.all_cons, Bool.and_eq_true] at ha
    rw [List.cons_append, List.takeWhile_cons, if_pos ha.1, takeWhile_stop p a x b ha.2 hx]
theorem takeWhile_all_p {α : Type} (p : α → Bool) : ∀ l : List α, (l.takeWhile p).all p = true
  | [] => rfl
  | x :: l => by
    rw [List.takeWhile_cons]
    by_cases h : p x = true
    · rw [if_pos h, List.all_cons, h, takeWhile_all_p p l]; rfl
    · rw [if_neg h]; rfl
theorem wordy32 : isW 32 = false := by decide
theorem tokR_cons (r : Nat) (t : List Nat) : tokR (r :: t) =
    if classZ r = 2 then (if 12 < ((r :: t).takeWhile isW).length then (noTokR, 0, 2) else ((1, (r :: t).takeWhile isW, 0), ((r :: t).takeWhile isW).length, 0))
    else if classZ r = 3 then (if (numR ((r :: t).takeWhile isW)).2 = true then ((2, (r :: t).takeWhile isW, (numR ((r :: t).takeWhile isW)).1), ((r :: t).takeWhile isW).length, 0) else (noTokR, 0, 11))
    else if classZ r = 5 then textR t
    else if classZ r = 4 then ((4, (r :: t).take (signR r t), 0), signR r t, 0)
    else (noTokR, 0, 11) := rfl
/-- The parts of a text in quotes. -/
theorem text_parts (t : List Nat) (h : (textR t).2.2 = 0) :
    ∃ ins u, t = ins ++ 34 :: u ∧ (textR t) = ((3, ins, 0), ins.length + 2, 0) ∧ ins.all (fun r => decide (r ≠ 10)) = true ∧ ins.all (fun r => decide (r ≠ 34)) = true ∧ ins.any (fun r => decide (r < 32)) = false ∧ ins.length ≤ 20 := by
  unfold textR at h ⊢
  by_cases d1 : 34 ∈ t.takeWhile (fun r => decide (r ≠ 10))
  · simp only [if_pos d1] at h ⊢
    obtain ⟨u, hu⟩ := takeWhile_mark 34 _ d1
    have hsplit := take_drop_while (fun r : Nat => decide (r ≠ 10)) t
    have h10 := takeWhile_all_p (fun r : Nat => decide (r ≠ 10)) t
    have h34 := takeWhile_all_p (fun r : Nat => decide (r ≠ 34)) (t.takeWhile fun r => decide (r ≠ 10))
    generalize t.dropWhile (fun r => decide (r ≠ 10)) = v at *
    generalize t.takeWhile (fun r => decide (r ≠ 10)) = line at *
    generalize line.takeWhile (fun r => decide (r ≠ 34)) = ins at *
    by_cases d2 : ins.any (fun r => decide (r < 32)) = true
    · rw [if_pos d2] at h; cases h
    · simp only [if_neg d2] at h ⊢
      by_cases d3 : 20 < ins.length
      · rw [if_pos d3] at h; cases h
      · simp only [if_neg d3]
        refine ⟨ins, u ++ v, ?_, rfl, ?_, h34, by simpa using d2, by omega⟩
        · rw [hsplit, hu, List.append_assoc]; rfl
        · rw [hu, List.all_append, Bool.and_eq_true] at h10
          exact h10.1
  · rw [if_neg d1] at h; cases h
theorem textR_of (ins u : List Nat) (h10 : ins.all (fun r => decide (r ≠ 10)) = true) (h34 : ins.all (fun r => decide (r ≠ 34)) = true) (hlow : ins.any (fun r => decide (r < 32)) = false) (hl : ins.length ≤ 20) :
    textR (ins ++ 34 :: u) = ((3, ins, 0), ins.length + 2, 0) := by
  have e : ∀ (a : List Nat), a.all (fun r => decide (r ≠ 10)) = true → (a ++ 34 :: u).takeWhile (fun r => decide (r ≠ 10)) = a ++ 34 :: u.takeWhile (fun r => decide (r ≠ 10)) := by
    intro a
    induction a with
    | nil => intro _; rw [List.nil_append, List.takeWhile_cons, if_pos (by decide)]; rfl
    | cons x a ih =>
      intro ha
      rw [List.all_cons, Bool.and_eq_true] at ha
      rw [List.cons_append, List.takeWhile_cons, if_pos ha.1, ih ha.2]
      rfl
  unfold textR
  rw [e ins h10, takeWhile_stop _ ins 34 _ h34 (by decide), if_pos (by simp), if_neg (by rw [hlow]; simp), if_neg (by omega)]
/-- What a token took is what is written of it; and it is cut again, whatever comes behind a blank. -/
theorem tok_again (rs : List Nat) (he : (tokR rs).2.2 = 0) : rs.take (tokR rs).2.1 = piece (tokR rs).1 ∧ (∀ u, tokR (piece (tokR rs).1 ++ 32 :: u) = tokR rs) ∧ (∀ u, blanksN false (piece (tokR rs).1 ++ 32 :: u) = 0) := by
  cases rs with
  | nil => cases he
  | cons r t =>
    have hW : ∀ (p : (r :: t).takeWhile isW = r :: (t.takeWhile isW)) (u : List Nat), ((r :: t).takeWhile isW ++ 32 :: u).takeWhile isW = (r :: t).takeWhile isW := fun p u =>
      takeWhile_stop isW _ 32 u (takeWhile_all_p isW _) wordy32
    by_cases c2 : classZ r = 2
    · have hp : (r :: t).takeWhile isW = r :: t.takeWhile isW := by rw [List.takeWhile_cons, if_pos (wordy_two c2)]
      have e : tokR (r :: t) = ((1, (r :: t).takeWhile isW, 0), ((r :: t).takeWhile isW).length, 0) := by
        rw [tokR_cons] at he ⊢
        simp only [if_pos c2] at he ⊢
        by_cases c : 12 < ((r :: t).takeWhile isW).length
        · rw [if_pos c] at he; cases he
        · rw [if_neg c]
      have hlen : ¬ 12 < ((r :: t).takeWhile isW).length := by
        intro c
        rw [tokR_cons] at he
        simp only [if_pos c2] at he
        rw [if_pos c] at he
        cases he
      rw [e]
      have hpc : piece (1, (r :: t).takeWhile isW, 0) = (r :: t).takeWhile isW := if_neg (by show ¬ (1 : Int) = 3; decide)
      simp only [hpc]
      refine ⟨take_takeWhile isW _, fun u => ?_, fun u => ?_⟩
      · have hw := hW hp u
        rw [hp] at hw hlen ⊢
        rw [List.cons_append] at hw ⊢
        rw [tokR_cons]
        rw [if_pos c2, hw, if_neg hlen]
      · rw [hp, List.cons_append]
        exact no_blanks r _ (by rw [c2]; decide) (by rw [c2]; decide)
    · by_cases c3 : classZ r = 3
      · have hp : (r :: t).takeWhile isW = r :: t.takeWhile isW := by rw [List.takeWhile_cons, if_pos (wordy_three c3)]
        have hn : (numR ((r :: t).takeWhile isW)).2 = true := by
          rw [tokR_cons] at he
          simp only [if_neg c2, if_pos c3] at he
          by_cases c : (numR ((r :: t).takeWhile isW)).2 = true
          · exact c
          · rw [if_neg c] at he; cases he
        have e : tokR (r :: t) = ((2, (r :: t).takeWhile isW, (numR ((r :: t).takeWhile isW)).1), ((r :: t).takeWhile isW).length, 0) := by
          rw [tokR_cons]
          rw [if_neg c2, if_pos c3, if_pos hn]
        rw [e]
        have hpc : piece (2, (r :: t).takeWhile isW, (numR ((r :: t).takeWhile isW)).1) = (r :: t).takeWhile isW := if_neg (by show ¬ (2 : Int) = 3; decide)
        simp only [hpc]
        refine ⟨take_takeWhile isW _, fun u => ?_, fun u => ?_⟩
        · have hw := hW hp u
          rw [hp] at hw hn ⊢
          rw [List.cons_append] at hw ⊢
          rw [tokR_cons]
          rw [if_neg c2, if_pos c3, hw, if_pos hn]
        · rw [hp, List.cons_append]
          exact no_blanks r _ (by rw [c3]; decide) (by rw [c3]; decide)
      · by_cases c5 : classZ r = 5
        · have hr : r = 34 := by have := class_five c5; omega
          subst hr
          have et : tokR (34 :: t) = textR t := by rw [tokR_cons, if_neg c2, if_neg c3, if_pos c5]
          rw [et] at he ⊢
          obtain ⟨ins, u0, h1, h2, h3, h4, h5, h6⟩ := text_parts t he
          rw [h2]
          have hpc : piece (3, ins, 0) = 34 :: (ins ++ [34]) := if_pos rfl
          simp only [hpc]
          refine ⟨?_, fun u => ?_, fun u => ?_⟩
          · rw [h1, List.take_succ_cons, List.take_append, List.take_of_length_le (by omega), show ins.length + 1 - ins.length = 1 by omega]
            rfl
          · have e2 : tokR (34 :: (ins ++ [34]) ++ 32 :: u) = textR (ins ++ 34 :: 32 :: u) := by
              rw [List.cons_append, List.append_assoc]
              rw [tokR_cons]
              rw [if_neg c2, if_neg c3, if_pos c5]
              rfl
            rw [e2, textR_of ins _ h3 h4 h5 h6]
          · rw [List.cons_append]
            exact no_blanks 34 _ (by decide) (by decide)
        · by_cases c4 : classZ r = 4
          · have e : ∀ t, tokR (r :: t) = ((4, (r :: t).take (signR r t), 0), signR r t, 0) := by
              intro t
              rw [tokR_cons]
              rw [if_neg c2, if_neg c3, if_neg c5, if_pos c4]
            rw [e t]
            have hpc : piece (4, (r :: t).take (signR r t), 0) = (r :: t).take (signR r t) := if_neg (by show ¬ (4 : Int) = 3; decide)
            simp only [hpc]
            refine ⟨trivial, fun u => ?_, fun u => ?_⟩
            · by_cases hb : two r t = true
              · have hs : signR r t = 2 := by unfold signR; rw [if_pos hb]
                rw [hs]
                cases t with
                | nil => unfold two at hb; simp at hb
                | cons x t =>
                  have hx : x = 61 ∧ (r == 60 || r == 62 || r == 61 || r == 33 || r == 58) = true := by
                    unfold two at hb
                    simp only [List.head?_cons, Bool.and_eq_true] at hb
                    exact ⟨by simpa using hb.1, hb.2⟩
                  have hb2 : two r (61 :: 32 :: u) = true := by unfold two; rw [hx.2]; rfl
                  have hs2 : signR r (61 :: 32 :: u) = 2 := by unfold signR; rw [if_pos hb2]
                  rw [hx.1]
                  show tokR (r :: 61 :: 32 :: u) = _
                  rw [e, hs2]
                  rfl
              · have hs : signR r t = 1 := by unfold signR; rw [if_neg hb]
                rw [hs]
                have hb2 : two r (32 :: u) = false := by unfold two; simp
                have hs2 : signR r (32 :: u) = 1 := by unfold signR; rw [hb2]; rfl
                show tokR (r :: 32 :: u) = _
                rw [e, hs2]
                rfl
            · obtain ⟨m, hm⟩ : ∃ m, signR r t = m + 1 := ⟨signR r t - 1, by have := (signR_le r t).1; omega⟩
              rw [hm, List.take_succ_cons, List.cons_append]
              exact no_blanks r _ (by rw [c4]; decide) (by rw [c4]; decide)
          · exfalso
            rw [tokR_cons] at he
            rw [if_neg c2, if_neg c3, if_neg c5, if_neg c4] at he
            cases he
/-- Tokens as a text. -/
def joinR (l : List (TokR × Nat)) : List Nat := l.flatMap fun x => piece x.1 ++ [32]
theorem joinR_cons (x : TokR × Nat) (l : List (TokR × Nat)) : joinR (x :: l) = piece x.1 ++ 32 :: joinR l := by
  unfold joinR
  rw [List.flatMap_cons, List.append_assoc]
  rfl
theorem lex_blank (u : List Nat) (n k : Nat) : lex (32 :: u) n k = lex u (n + 1) k := by
  have hb : blanksN false (32 :: u) = 1 + blanksN false u := by rw [blanksN, if_neg (by simp), if_pos (show classZ ((32 : Nat) : Int) = 1 from by decide)]
  have hp : past (32 :: u) = past u := by
    unfold past
    rw [hb, Nat.add_comm, List.drop_succ_cons]
  rw [lex_eq (32 :: u), lex_eq u, hp, hb, show n + (1 + blanksN false u) = n + 1 + blanksN false u by omega]
theorem lex_joined : ∀ (m : Nat) (rs : List Nat) (n k n' : Nat), rs.length ≤ m → (lex rs n k).2.1 = 0 →
    (lex (joinR (lex rs n k).1) n' k).2.1 = 0 ∧ (lex (joinR (lex rs n k).1) n' k).1.map Prod.fst = (lex rs n k).1.map Prod.fst := by
  have hend : ∀ (a n' k : Nat), (lex (joinR [(noTokR, a)]) n' k).2.1 = 0 ∧ (lex (joinR [(noTokR, a)]) n' k).1.map Prod.fst = [noTokR] := by
    intro a n' k
    have e : joinR [(noTokR, a)] = [32] := rfl
    rw [e, lex_blank, lex_end _ _ _ rfl]
    exact ⟨rfl, rfl⟩
  intro m
  induction m with
  | zero =>
    intro rs n k n' hm he
    obtain rfl := List.eq_nil_of_length_eq_zero (show rs.length = 0 by omega)
    rw [lex_end [] n k rfl]
    exact hend _ _ _
  | succ m ih =>
    intro rs n k n' hm he
    have hp : (past rs).length + blanksN false rs = rs.length := drop_blanks_len rs
    by_cases h : past rs = []
    · rw [lex_end rs n k h]
      exact hend _ _ _
    · by_cases hk : k = 2000
      · subst hk
        rw [lex_full rs n h] at he
        cases he
      · by_cases ht : (tokR (past rs)).2.2 = 0
        · obtain ⟨g1, g2, _⟩ := tokR_good _ ht
          obtain ⟨a1, a2, a3⟩ := tok_again _ ht
          rw [lex_more rs n k h hk ht] at he ⊢
          by_cases hr : (rest rs n k).2.1 = 0
          · have hr' : ¬ (rest rs n k).2.1 ≠ 0 := by simpa using hr
            rw [if_neg hr', joinR_cons]
            obtain ⟨i1, i2⟩ := ih ((past rs).drop (tokR (past rs)).2.1) (n + blanksN false rs + (tokR (past rs)).2.1) (k + 1) (n' + (tokR (past rs)).2.1 + 1) (by rw [List.length_drop]; omega) hr
            have i1' : (lex (joinR (rest rs n k).1) (n' + (tokR (past rs)).2.1 + 1) (k + 1)).2.1 = 0 := i1
            have i2' : (lex (joinR (rest rs n k).1) (n' + (tokR (past rs)).2.1 + 1) (k + 1)).1.map Prod.fst = (rest rs n k).1.map Prod.fst := i2
            have hpl : (piece (tokR (past rs)).1).length = (tokR (past rs)).2.1 := by rw [← a1, List.length_take]; omega
            have hb := a3 (joinR (rest rs n k).1)
            have hpast : past (piece (tokR (past rs)).1 ++ 32 :: joinR (rest rs n k).1) = piece (tokR (past rs)).1 ++ 32 :: joinR (rest rs n k).1 := by
              unfold past
              unfold past at hb
              rw [hb, List.drop_zero]
            have ht2 := a2 (joinR (rest rs n k).1)
            generalize hX : piece (tokR (past rs)).1 ++ 32 :: joinR (rest rs n k).1 = X at *
            have hrest : rest X n' k = lex (joinR (rest rs n k).1) (n' + (tokR (past rs)).2.1 + 1) (k + 1) := by
              have hdrop : X.drop (tokR (past rs)).2.1 = 32 :: joinR (rest rs n k).1 := by
                rw [← hX, ← hpl]
                exact List.drop_left
              show lex ((past X).drop (tokR (past X)).2.1) (n' + blanksN false X + (tokR (past X)).2.1) (k + 1) = _
              rw [hpast, ht2, hdrop, lex_blank, hb]
              rfl
            have hne : past X ≠ [] := by rw [hpast, ← hX]; simp
            rw [lex_more X n' k hne hk (by rw [hpast, ht2]; exact ht), hrest]
            have i1'' : ¬ (lex (joinR (rest rs n k).1) (n' + (tokR (past rs)).2.1 + 1) (k + 1)).2.1 ≠ 0 := by simpa using i1'
            rw [if_neg i1'']
            refine ⟨rfl, ?_⟩
            rw [List.map_cons, List.map_cons, i2', hpast, ht2]
          · rw [if_pos hr] at he
            exact absurd he hr
        · rw [lex_err rs n k h hk ht] at he
          exact absurd he ht
/-- How long such a text is. -/
theorem joined_len : ∀ (m : Nat) (rs : List Nat) (n k : Nat), rs.length ≤ m → (lex rs n k).2.1 = 0 → (txt (joinR (lex rs n k).1)).length ≤ (txt rs).length + (lex rs n k).1.length := by
  have hend : ∀ a : Nat, (txt (joinR [(noTokR, a)])).length = 1 := by
    intro a
    have e : joinR [(noTokR, a)] = [32] := rfl
    rw [e, txt_small [32] (by simp)]
    rfl
  intro m
  induction m with
  | zero =>
    intro rs n k hm he
    obtain rfl := List.eq_nil_of_length_eq_zero (show rs.length = 0 by omega)
    rw [lex_end [] n k rfl, hend]
    simp
  | succ m ih =>
    intro rs n k hm he
    have hp : (past rs).length + blanksN false rs = rs.length := drop_blanks_len rs
    by_cases h : past rs = []
    · rw [lex_end rs n k h, hend]
      simp
    · by_cases hk : k = 2000
      · subst hk
        rw [lex_full rs n h] at he
        cases he
      · by_cases ht : (tokR (past rs)).2.2 = 0
        · obtain ⟨g1, g2, _⟩ := tokR_good _ ht
          obtain ⟨a1, _, _⟩ := tok_again _ ht
          rw [lex_more rs n k h hk ht] at he ⊢
          by_cases hr : (rest rs n k).2.1 = 0
          · have hr' : ¬ (rest rs n k).2.1 ≠ 0 := by simpa using hr
            rw [if_neg hr', joinR_cons]
            have i1 : (txt (joinR (rest rs n k).1)).length ≤ (txt ((past rs).drop (tokR (past rs)).2.1)).length + (rest rs n k).1.length := ih ((past rs).drop (tokR (past rs)).2.1) (n + blanksN false rs + (tokR (past rs)).2.1) (k + 1) (by rw [List.length_drop]; omega) hr
            have e1 : (txt (past rs)).length = (txt (piece (tokR (past rs)).1)).length + (txt ((past rs).drop (tokR (past rs)).2.1)).length := by
              rw [← a1, ← txt_len_append, List.take_append_drop]
            have e2 : (txt rs).length = (txt (rs.take (blanksN false rs))).length + (txt (past rs)).length := by
              unfold past
              rw [← txt_len_append, List.take_append_drop]
            rw [txt_len_append, txt_len_cons, enc_small 32 (by omega), List.length_singleton, List.length_cons]
            simp only
            omega
          · rw [if_pos hr] at he
            exact absurd he hr
        · rw [lex_err rs n k h hk ht] at he
          exact absurd he ht
theorem joined_ok : ∀ (m : Nat) (rs : List Nat) (n k : Nat), rs.length ≤ m → (∀ r ∈ rs, okR r) → (∀ r ∈ joinR (lex rs n k).1, okR r) ∧ (∀ x ∈ (lex rs n k).1, (txt x.1.2.1).length ≤ (txt rs).length) := by
  have hend : ∀ a : Nat, (∀ r ∈ joinR [(noTokR, a)], okR r) := by
    intro a r hr
    have e : joinR [(noTokR, a)] = [32] := rfl
    rw [e] at hr
    obtain rfl := List.mem_singleton.1 hr
    exact ok_small 32 (by omega)
  intro m
  induction m with
  | zero =>
    intro rs n k hm hok
    obtain rfl := List.eq_nil_of_length_eq_zero (show rs.length = 0 by omega)
    rw [lex_end [] n k rfl]
    refine ⟨hend _, fun x hx => ?_⟩
    obtain rfl := List.mem_singleton.1 hx
    exact Nat.le_refl _
  | succ m ih =>
    intro rs n k hm hok
    have hp : (past rs).length + blanksN false rs = rs.length := drop_blanks_len rs
    have e2 : (txt rs).length = (txt (rs.take (blanksN false rs))).length + (txt (past rs)).length := by
      unfold past
      rw [← txt_len_append, List.take_append_drop]
    by_cases h : past rs = []
    · rw [lex_end rs n k h]
      refine ⟨hend _, fun x hx => ?_⟩
      obtain rfl := List.mem_singleton.1 hx
      exact Nat.zero_le _
    · by_cases hk : k = 2000
      · subst hk
        rw [lex_full rs n h]
        exact ⟨fun r hr => by simp [joinR] at hr, fun x hx => by simp at hx⟩
      · by_cases ht : (tokR (past rs)).2.2 = 0
        · obtain ⟨g1, g2, _, _, g5⟩ := tokR_good _ ht
          obtain ⟨a1, _, _⟩ := tok_again _ ht
          rw [lex_more rs n k h hk ht]
          by_cases hr : (rest rs n k).2.1 = 0
          · have hr' : ¬ (rest rs n k).2.1 ≠ 0 := by simpa using hr
            rw [if_neg hr', joinR_cons]
            have i0 := ih ((past rs).drop (tokR (past rs)).2.1) (n + blanksN false rs + (tokR (past rs)).2.1) (k + 1) (by rw [List.length_drop]; omega) (fun r hr => past_ok hok r (List.mem_of_mem_drop hr))
            have i1 : ∀ r ∈ joinR (rest rs n k).1, okR r := i0.1
            have i2 : ∀ x ∈ (rest rs n k).1, (txt x.1.2.1).length ≤ (txt ((past rs).drop (tokR (past rs)).2.1)).length := i0.2
            have e1 : (txt (past rs)).length = (txt ((past rs).take (tokR (past rs)).2.1)).length + (txt ((past rs).drop (tokR (past rs)).2.1)).length := by
              rw [← txt_len_append, List.take_append_drop]
            refine ⟨fun r hr => ?_, fun x hx => ?_⟩
            · rcases List.mem_append.1 hr with hr | hr
              · rw [← a1] at hr
                exact past_ok hok r (List.mem_of_mem_take hr)
              · rcases List.mem_cons.1 hr with rfl | hr
                · exact ok_small 32 (by omega)
                · exact i1 r hr
            · rcases List.mem_cons.1 hx with rfl | hx
              · show (txt (tokR (past rs)).1.2.1).length ≤ _
                have hle : (txt (tokR (past rs)).1.2.1).length ≤ (txt (piece (tokR (past rs)).1)).length := by
                  unfold piece
                  split
                  · rw [txt_len_cons, txt_len_append]; omega
                  · exact Nat.le_refl _
                rw [← a1] at hle
                omega
              · have := i2 x hx
                omega
          · rw [if_pos hr]
            exact ⟨fun r hr => by simp [joinR] at hr, fun x hx => by simp at hx⟩
        · rw [lex_err rs n k h hk ht]
          exact ⟨fun r hr => by simp [joinR] at hr, fun x hx => by simp at hx⟩
end Go.Proofs.YtlikjknakplamaaDoor
