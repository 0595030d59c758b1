/-
  The law PageLays, walked.
-/
import Derived.Test.YthkgpnkbbdpldaaPgAwake
import Derived.Test.YthkgpnkbbdpldaaPgIn
namespace Go.Proofs.Ythkgpnkbbdpldaa
open Go.RowKit
set_option linter.unusedSimpArgs false
set_option linter.unusedVariables false
theorem lay_bytes (A : Option Addr) (cp : Nat) (xs : List Rec) (w : World) (hl : xs.length ≤ 1000000) (hF : Fit xs) (hA : PairsAt w A xs) :
    Calls Try.prog 11 #[.slice A xs.length cp] w fun e w' => ∃ Av nv, e = .returned (.tuple #[.slice Av nv nv, .int .i64 (layE xs)]) ∧ (layB xs).length = nv ∧ BytesAt w' Av (layB xs) ∧ Only [] w w' := by
  refine (lay_any A cp xs w hl hF hA).mono ?_
  rintro e w' ⟨v, rfl, h1, h2, ho⟩
  by_cases h : layE xs = 0
  · obtain ⟨g, rfl, hg, _⟩ := h2 h
    exact ⟨_, _, rfl, layB_length h, fun _ => ⟨_, rfl, cellsAt_row hg⟩, ho⟩
  · obtain rfl := h1 h
    have e : layB xs = [] := by unfold layB; rw [if_neg h]
    exact ⟨_, _, rfl, by rw [e]; rfl, fun h => by rw [e] at h; simp at h, ho⟩
theorem smallB_len {xs : List Rec} (h : smallB xs = true) : xs.length ≤ 1000 := by
  unfold smallB at h
  rw [Bool.and_eq_true] at h
  exact of_decide_eq_true h.1
set_option maxHeartbeats 4000000 in
set_option maxRecDepth 100000 in
theorem lays_any (A : Option Addr) (cap : Nat) (ys : List Rec) (w : World) (hl : ys.length ≤ 4611686018427387903) (hF : Fit ys) (hA : PairsAt w A ys) :
    Calls Try.prog 3 #[.slice A ys.length cap] w fun e w' => e = .returned (.bool true) ∧ Only [] w w' := by
  have HA := Lib.hid hA
  have HF := Lib.hid hF
  clear hA hF
  obtain ⟨V, hV⟩ : ∃ V, V = smallB ys := ⟨_, rfl⟩
  have HV := Lib.hid hV
  clear hV
  go_enter Try.func3, Try.ntmps3
  go_wp2_with (first
    | (go_at_call 9; refine (awake_any w).mono ?_; rintro e w1 ⟨rfl, ho1⟩; have HO1 := Lib.hid ho1; clear ho1)
    | (go_at_call 10; refine (small_any A cap ys w1 hl HF.out (HA.out.only HO1.out)).mono ?_; rw [← HV.out]; rintro e w2 ⟨rfl, ho2⟩; have HO2 := Lib.hid (HO1.out.trans ho2); clear ho2; refine (fun (h : Hid _) => h.out) ?_))
  refine Lib.hid ?_
  cases V with
  | false =>
    go_wp2
    go_ret
    exact ⟨rfl, HO2.out⟩
  | true =>
    have hl2 : ys.length ≤ 1000000 := by have := smallB_len HV.out.symm; omega
    go_wp2_with (first
      | (go_at_call 11; refine (lay_bytes A cap ys w2 hl2 HF.out (HA.out.only HO2.out)).mono ?_; rintro e w3 ⟨Av, nv, rfl, hnv, hby, ho3⟩; have HNV := Lib.hid hnv; have HBY := Lib.hid hby; have HO3 := Lib.hid (HO2.out.trans ho3); clear hnv hby ho3)
      | (go_at_call 12; refine (rlay_any A cap ys w3 hl2 HF.out (HA.out.only HO3.out)).mono ?_; rintro e w4 ⟨rfl, ho4⟩; have HBY2 := Lib.hid (HBY.out.only ho4); have HO4 := Lib.hid (HO3.out.trans ho4); clear ho4; refine (fun (h : Hid _) => h.out) ?_))
    refine Lib.hid ?_
    have hcp := run_bytes_string w4 25 9 5 Try.underlying25 Try.underlying5 Try.underlying9 Av nv nv (layB ys) HNV.out HBY2.out
    generalize (⟨(layB ys).toArray⟩ : ByteArray) = s1 at *
    go_wp2_with (first
      | (go_at_call 13; refine (free_any A cap ys w4 hl2 HF.out (HA.out.only HO4.out)).mono ?_; rintro e w5 ⟨rfl, ho5⟩; have HO5 := Lib.hid (HO4.out.trans ho5); clear ho5)
      | (go_at_call 14; refine (rfree_any A cap ys w5 hl2 HF.out (HA.out.only HO5.out)).mono ?_; rintro e w6 ⟨rfl, ho6⟩; have HO6 := Lib.hid (HO5.out.trans ho6); clear ho6))
    go_ret
    exact ⟨rfl, HO6.out⟩
theorem pageLays_walk (A : Option Addr) (cap : Nat) (xs : List (ByteArray × List Int × Unit)) (w : World) (hl : xs.length ≤ cap) (hb : cap * 40 ≤ 140737488351232) (hr : rdRow 2 rdRec w A xs) :
    Calls Try.prog 3 #[.slice A xs.length cap] w fun e w' => e = .returned (.bool true) ∧ Only [] w w' := by
  obtain ⟨ys, h1, h2, h3⟩ := recs_in hr
  rw [← h1]
  exact lays_any A cap ys w (by omega) h3 h2
end Go.Proofs.Ythkgpnkbbdpldaa
