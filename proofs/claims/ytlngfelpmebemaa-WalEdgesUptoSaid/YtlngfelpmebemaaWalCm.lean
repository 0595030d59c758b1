/-
  The log's Commit.
-/
import Derived.Test.YtlngfelpmebemaaWalLy
namespace Go.Proofs.Ytlngfelpmebemaa
open Go Go.RowKit
set_option linter.unusedSimpArgs false
set_option linter.unusedVariables false
theorem WritesF.plain {S : List Nat} {w : World} {A : Option Addr} {xs : List Wr} (h : WritesF S w A xs) : WritesAt w A xs := fun i x hx => by
  obtain ⟨ad, B, cap, h1, _, h3, h4, h5⟩ := h i x hx
  exact ⟨ad, B, cap, h1, h3, h4, fun h6 => by obtain ⟨bd, k1, _, k3⟩ := h5 (List.ne_nil_of_length_pos h6); exact ⟨bd, k1, k3⟩⟩
/-- What Commit answers, what becomes of the disk, is the log dead behind it. -/
def commitP (nm p : Nat) (dead : Bool) (xs : List Wr) (D : Dk) : Int × Dk × Bool :=
  if dead = true ∨ D.off = true then (6, D, dead) else if ¬ RightP p xs then (1, D, dead) else if xs.length = 0 then (0, D, dead) else
  ((layP nm p xs D).1, (layP nm p xs D).2, decide ((layP nm p xs D).1 ≠ 0))
theorem IsLg.set {w : World} {q g nm p : Nat} {dead : Bool} (h : IsLg w q g nm p dead) (b : Bool) : IsLg (w.setCell ⟨q, 3, none⟩ (.bool b)) q g nm p b := ⟨heap_setCell_same w q 3 _ _ _ h.hd⟩
set_option maxHeartbeats 8000000 in
set_option maxRecDepth 100000 in
theorem commit_any (q g s cp nm p : Nat) (r : List Value) (dead : Bool) (D : Dk) (A : Option Addr) (ca : Nat) (xs : List Wr) (w : World) (hlx : xs.length ≤ 1000000) (hi : ∀ x ∈ xs, x.1 ≤ 9223372036854775807) (hp : p ≤ 1000000) (hnm : nm ≤ 1000000) (hls : ∀ n, n ≤ p → listsN n ≤ nm)
    (hD : D.Ok) (hwr : D.writes < 800000000) (hroom : 1 + nm + 2 * p ≤ D.L.length) (hd : IsDk w g s cp r D) (hlg : IsLg w q g nm p dead) (hqg : q ≠ g) (hqs : q ≠ s) (hA : WritesF [g, s] w A xs) (hrl : RightP p xs → xs.length ≤ p) :
    Calls Try.prog 17 #[.pointer (some ⟨q, 0, none⟩), .slice A xs.length ca] w fun e w' => e = .returned (.int .i64 (commitP nm p dead xs D).1) ∧ IsDk w' g s cp r (commitP nm p dead xs D).2.1 ∧ IsLg w' q g nm p (commitP nm p dead xs D).2.2 ∧ Only [q, g, s] w w' := by
  obtain ⟨v, E, b, hV⟩ : ∃ v E b, (v, E, b) = commitP nm p dead xs D := ⟨_, _, _, rfl⟩
  rw [← hV]
  show Calls _ _ _ _ fun e w' => e = .returned (.int .i64 v) ∧ IsDk w' g s cp r E ∧ IsLg w' q g nm p b ∧ Only [q, g, s] w w'
  unfold commitP at hV
  have HV := Lib.hid hV
  have HA := Lib.hid hA
  have HLG := Lib.hid hlg
  have HDK := Lib.hid hd
  have HDO := Lib.hid hD
  have HI := Lib.hid hi
  have HRL := Lib.hid hrl
  have HLS := Lib.hid hls
  have c0 := hlg.c0
  have c3 := hlg.c3
  clear hV hA hlg hd hD hi hrl hls
  go_enter Try.func17, Try.ntmps17
  cases dead with
  | true =>
    have hv := HV.out
    rw [if_pos (.inl rfl)] at hv
    simp only [Prod.mk.injEq] at hv
    have HV1 := Lib.hid hv
    clear HV hv
    go_wp2
    go_ret
    exact ⟨by rw [HV1.out.1]; rfl, by rw [HV1.out.2.1]; exact HDK.out, by rw [HV1.out.2.2]; exact HLG.out, Only.refl _ _⟩
  | false =>
    by_cases hoff : D.off = true
    · have hv := HV.out
      rw [if_pos (.inr hoff)] at hv
      simp only [Prod.mk.injEq] at hv
      have HV1 := Lib.hid hv
      clear HV hv
      go_wp2_with (go_at_call 32; refine (on_any g s cp r D _ HDK.out).mono ?_; rw [hoff]; rintro e w1 ⟨rfl, rfl⟩)
      go_ret
      exact ⟨by rw [HV1.out.1]; rfl, by rw [HV1.out.2.1]; exact HDK.out, by rw [HV1.out.2.2]; exact HLG.out, Only.refl _ _⟩
    · have hoff' : D.off = false := by simpa using hoff
      have hv := HV.out
      rw [if_neg (by rw [hoff']; simp)] at hv
      by_cases hr : RightP p xs
      · rw [if_neg (fun h => h hr)] at hv
        have HVV := Lib.hid hv
        have HRR := Lib.hid hr
        clear hv HV hoff
        go_wp2_with (first
          | (go_at_call 32; refine (on_any g s cp r D _ HDK.out).mono ?_; rw [hoff']; rintro e w1 ⟨rfl, rfl⟩)
          | (go_at_call 33; refine (right_any q g nm p false A ca xs _ hlx HI.out hp HLG.out HA.out.plain).mono ?_; rw [decide_eq_true hr]; rintro e w2 ⟨rfl, ho2⟩; have HO2 := Lib.hid ho2; clear ho2; refine (fun (h : Hid _) => h.out) ?_))
        refine Lib.hid ?_
        have HDK2 := Lib.hid (HDK.out.only HO2.out (by simp) (by simp))
        have HLG2 := Lib.hid (HLG.out.only HO2.out (by simp))
        by_cases h0 : xs.length = 0
        · have hv := HVV.out
          rw [if_pos h0] at hv
          simp only [Prod.mk.injEq] at hv
          have HV1 := Lib.hid hv
          have h0' : ((xs.length : Int) == 0) = true := by rw [h0]; rfl
          clear HVV hv h0
          go_wp2
          go_ret
          exact ⟨by rw [HV1.out.1]; rfl, by rw [HV1.out.2.1]; exact HDK2.out, by rw [HV1.out.2.2]; exact HLG2.out, HO2.out.mono (by simp)⟩
        · have hv := HVV.out
          rw [if_neg h0] at hv
          simp only [Prod.mk.injEq] at hv
          have HV1 := Lib.hid hv
          have h0' : ((xs.length : Int) == 0) = false := by rw [beq_eq_false_iff_ne]; omega
          clear HVV hv
          go_wp2_with (go_at_call 34; refine (lay_any q g s cp nm p r false D A ca xs w2 hr (HRL.out hr) hp hnm (HLS.out _ (HRL.out hr)) HDO.out hwr hroom HDK2.out HLG2.out hqg hqs (HA.out.only (HO2.out.mono (by simp)))).mono ?_; rw [← HV1.out.1, ← HV1.out.2.1]; rintro e w3 ⟨rfl, hd3, ho3⟩; have HDK3 := Lib.hid hd3; have HO3 := Lib.hid ((HO2.out.mono (T := [g, s]) (by simp)).trans ho3); clear hd3 ho3; refine (fun (h : Hid _) => h.out) ?_)
          refine Lib.hid ?_
          have HLG3 := Lib.hid (HLG.out.only HO3.out (by simp [hqg, hqs]))
          have d3 := HLG3.out.c3
          have z3 := HLG3.out.fz 3
          go_wp2
          go_ret
          have hb : b = (v != 0) := by
            rw [HV1.out.2.2, ← HV1.out.1]
            by_cases h : v = 0 <;> simp [h]
          have hset := (Only.refl [q] w3).setCell (p := ⟨q, 3, none⟩) (by simp) (.bool (v != 0))
          exact ⟨rfl, HDK3.out.only hset (by simp; exact fun h => hqg h.symm) (by simp; exact fun h => hqs h.symm), by rw [hb]; exact HLG3.out.set _, (HO3.out.mono (by simp)).trans (hset.mono (by simp))⟩
      · have hv := HV.out
        rw [if_neg (by rw [hoff']; simp), if_pos hr] at hv
        simp only [Prod.mk.injEq] at hv
        have HV1 := Lib.hid hv
        clear hv HV hoff
        go_wp2_with (first
          | (go_at_call 32; refine (on_any g s cp r D _ HDK.out).mono ?_; rw [hoff']; rintro e w1 ⟨rfl, rfl⟩)
          | (go_at_call 33; refine (right_any q g nm p false A ca xs _ hlx HI.out hp HLG.out HA.out.plain).mono ?_; rw [decide_eq_false hr]; rintro e w2 ⟨rfl, ho2⟩; have HO2 := Lib.hid ho2; clear ho2; refine (fun (h : Hid _) => h.out) ?_))
        refine Lib.hid ?_
        go_wp2
        go_ret
        exact ⟨by rw [HV1.out.1]; rfl, by rw [HV1.out.2.1]; exact HDK.out.only HO2.out (by simp) (by simp), by rw [HV1.out.2.2]; exact HLG.out.only HO2.out (by simp), HO2.out.mono (by simp)⟩
end Go.Proofs.Ytlngfelpmebemaa
