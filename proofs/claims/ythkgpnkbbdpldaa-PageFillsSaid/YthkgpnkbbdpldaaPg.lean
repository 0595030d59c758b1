/-
  Records in memory; how many slots one needs: the page's Slots, the document's.
-/
import Derived.Test.YthkgpnkbbdpldaaProg
import Derived.Test.YthkgpnkbbdpldaaPgPure
import Derived.Test.YthkgpnkbbdpldaaRd
namespace Go.Proofs.Ythkgpnkbbdpldaa
open Go.RowKit
set_option linter.unusedSimpArgs false
set_option linter.unusedVariables false
/-- The records that a slice shows. -/
def PairsAt (w : World) (A : Option Addr) (xs : List Rec) : Prop :=
  ∀ i x, xs[i]? = some x → ∃ ad B cap, A = some ad ∧ CellsAt w (ad.add (i * 2)) [.string x.1, .slice B x.2.length cap] ∧ x.2.length ≤ cap ∧ BytesAt w B x.2
theorem PairsAt.only {w w' : World} {A : Option Addr} {xs : List Rec} (h : PairsAt w A xs) (ho : Only [] w w') : PairsAt w' A xs := fun i x hx => by
  obtain ⟨ad, B, cap, h1, h2, h3, h4⟩ := h i x hx
  exact ⟨ad, B, cap, h1, h2.only ho (by simp), h3, h4.only ho⟩
theorem slots_any (k : ByteArray) (B : Option Addr) (n cap : Nat) (w : World) (hk : k.size ≤ 140737488351232) (hn : n ≤ 140737488351232) :
    Calls Try.prog 18 #[.agg #[.string k, .slice B n cap]] w fun e w' => e = .returned (.int .i64 (slotsN k.size n)) ∧ Only [] w w' := by
  obtain ⟨v, hv⟩ : ∃ v, v = slotsN k.size n := ⟨_, rfl⟩
  rw [← hv]
  have HV := Lib.hid hv
  clear hv
  by_cases h1 : k.size < 1
  · have h1' : (k.size : Int) < 1 := by omega
    go_enter Try.func18, Try.ntmps18
    go_wp2
    go_ret
    exact ⟨by rw [HV.out, slotsN, if_pos (by omega)]; rfl, (Only.refl _ _).alloc _⟩
  by_cases h2 : 20 < k.size
  · have h2' : (20 : Int) < k.size := by omega
    go_enter Try.func18, Try.ntmps18
    go_wp2
    go_ret
    exact ⟨by rw [HV.out, slotsN, if_pos (by omega)]; rfl, (Only.refl _ _).alloc _⟩
  have h1' : (1 : Int) ≤ k.size := by omega
  have h2' : (k.size : Int) ≤ 20 := by omega
  have hs : IntKind.i64.wrap (126 - (k.size : Int)) = 126 - (k.size : Int) := IntWalk.i64_in _ (by omega)
  by_cases h3 : 126 < n + k.size
  · have h3' : (126 : Int) - k.size < n := by omega
    go_enter Try.func18, Try.ntmps18
    go_wp2
    go_ret
    exact ⟨by rw [HV.out, slotsN, if_pos (by omega)]; rfl, (Only.refl _ _).alloc _⟩
  · have h3' : (n : Int) ≤ 126 - k.size := by omega
    go_enter Try.func18, Try.ntmps18
    go_wp2
    go_ret
    refine ⟨?_, (Only.refl _ _).alloc _⟩
    have e : ((2 + (k.size : Int) + n + 32 - 1) / 32) = (v : Int) := by rw [HV.out, slotsN, if_neg (by omega)]; omega
    rw [← e]
    rfl
theorem rslots_any (k : ByteArray) (B : Option Addr) (n cap : Nat) (w : World) (hk : k.size ≤ 140737488351232) (hn : n ≤ 140737488351232) :
    Calls Try.prog 19 #[.agg #[.string k, .slice B n cap]] w fun e w' => e = .returned (.int .i64 (slotsN k.size n)) ∧ Only [] w w' := by
  obtain ⟨v, hv⟩ : ∃ v, v = slotsN k.size n := ⟨_, rfl⟩
  rw [← hv]
  have HV := Lib.hid hv
  clear hv
  by_cases h1 : k.size = 0
  · have h1' : ((k.size : Int) == 0) = true := by simpa using h1
    have h1'' : (k.size : Int) = 0 := by omega
    rw [h1''] at h1'
    go_enter Try.func19, Try.ntmps19
    go_wp2
    go_ret
    exact ⟨by rw [HV.out, slotsN, if_pos (by omega)]; rfl, (Only.refl _ _).alloc _⟩
  have h1' : ((k.size : Int) == 0) = false := by rw [beq_eq_false_iff_ne]; omega
  by_cases h2 : 20 < k.size
  · have h2' : (20 : Int) < k.size := by omega
    go_enter Try.func19, Try.ntmps19
    go_wp2
    go_ret
    exact ⟨by rw [HV.out, slotsN, if_pos (by omega)]; rfl, (Only.refl _ _).alloc _⟩
  have h2' : (k.size : Int) ≤ 20 := by omega
  by_cases h3 : 126 < n
  · have h3' : (126 : Int) < n := by omega
    go_enter Try.func19, Try.ntmps19
    go_wp2
    go_ret
    exact ⟨by rw [HV.out, slotsN, if_pos (by omega)]; rfl, (Only.refl _ _).alloc _⟩
  have h3' : (n : Int) ≤ 126 := by omega
  obtain ⟨m, hm⟩ : ∃ m : Nat, m = 2 + k.size + n := ⟨_, rfl⟩
  have HM := Lib.hid hm
  have hm2 : (2 : Int) + k.size + n = m := by omega
  have hm3 : m ≤ 148 := by omega
  clear hm
  go_enter Try.func19, Try.ntmps19
  go_wp2
  clear hm2
  go_loopw [4] (fun i wr => ∃ j : Nat, 1 ≤ j ∧ j ≤ 5 ∧ i = .int .i64 j ∧ Hid (32 * (j - 1) < m) ∧ Hid (Only [] w wr)) (fun i _ => 5 - (intOf i).toNat)
  case atStart => exact ⟨1, by omega, by omega, rfl, show _ < _ by have := HM.out; omega, (Only.refl _ _).alloc _⟩
  case round =>
    obtain ⟨j, hj1, hj5, rfl, hlo, hO⟩ := hrel
    by_cases hlt : j ≤ 4
    · have hlt' : (j : Int) ≤ 4 := by omega
      by_cases hmj : m ≤ j * 32
      · have hmj' : (m : Int) ≤ (j : Int) * 32 := by omega
        go_wp2
        go_ret
        refine ⟨?_, hO.out⟩
        have e : (j : Int) = (v : Int) := by
          have h1 := HM.out
          have h2 := hlo.out
          rw [HV.out, slotsN, if_neg (by omega)]
          omega
        rw [← e]
        rfl
      · have hmj' : (j : Int) * 32 < (m : Int) := by omega
        go_wp2
        go_roundw
        case rel => exact ⟨j + 1, by omega, by omega, by go_num, show _ < _ by omega, hO⟩
        case measure => simp [intOf]; omega
    · have hlt' : (4 : Int) < (j : Int) := by omega
      go_wp2
      go_ret
      refine ⟨?_, hO.out⟩
      have e : v = 0 := by
        have h1 := HM.out
        have h2 := hlo.out
        rw [HV.out, slotsN, if_pos (by omega)]
      rw [e]
      rfl
end Go.Proofs.Ythkgpnkbbdpldaa
