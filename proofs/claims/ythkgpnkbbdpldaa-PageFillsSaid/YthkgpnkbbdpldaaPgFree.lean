/-
  How many slots are left; are all taken: the page's, the document's.
-/
import Derived.Test.YthkgpnkbbdpldaaPg
namespace Go.Proofs.Ythkgpnkbbdpldaa
open Go.RowKit
set_option linter.unusedSimpArgs false
set_option linter.unusedVariables false
theorem infoPair : (Try.prog.info? 37).map (fun i => (i.zero, i.size, i.bytes)) = some (some (.agg #[.string ⟨#[]⟩, .slice none 0 0]), 2, 40) := by kernel_rfl
theorem sizePair : (Try.prog.info? 37).map (·.size) = some 2 := by kernel_rfl
/-- Keys and bytes no longer than memory is wide. -/
def Fit (xs : List Rec) : Prop := ∀ x ∈ xs, x.1.size ≤ 140737488351232 ∧ x.2.length ≤ 140737488351232
theorem Fit.at {xs : List Rec} (h : Fit xs) (k : Nat) (hk : k < xs.length) : xs[k].1.size ≤ 140737488351232 ∧ xs[k].2.length ≤ 140737488351232 := h _ (List.getElem_mem hk)
theorem PairsAt.row {w : World} {A : Option Addr} {xs : List Rec} (h : PairsAt w A xs) (k : Nat) (hk : k < xs.length) :
    ∃ ad B cap, A = some ad ∧ CellsAt w (ad.add (k * 2)) [.string xs[k].1, .slice B xs[k].2.length cap] ∧ xs[k].2.length ≤ cap ∧ BytesAt w B xs[k].2 := h k _ (List.getElem?_eq_getElem hk)
set_option maxHeartbeats 4000000 in
set_option maxRecDepth 100000 in
theorem free_any (A : Option Addr) (cp : Nat) (xs : List Rec) (w : World) (hl : xs.length ≤ 1000000) (hF : Fit xs) (hA : PairsAt w A xs) :
    Calls Try.prog 13 #[.slice A xs.length cp] w fun e w' => e = .returned (.int .i64 (free xs)) ∧ Only [] w w' := by
  obtain ⟨v, hv⟩ : ∃ v, v = free xs := ⟨_, rfl⟩
  rw [← hv]
  have HV := Lib.hid hv
  have HA := Lib.hid hA
  have HF := Lib.hid hF
  clear hv hA hF
  go_enter Try.func13, Try.ntmps13
  go_wp2
  go_loopw [3, 5, 6, 9] (fun l _ _ i wr => ∃ k : Nat, k ≤ xs.length ∧ i = .int .i64 k ∧ l = .int .i64 (7 - (tot (xs.take k) : Int)) ∧ Hid (bad (xs.take k) = false) ∧ tot (xs.take k) ≤ 7 ∧ Hid (Only [] w wr)) (fun _ _ _ i _ => xs.length - (intOf i).toNat)
  case atStart => exact ⟨0, by omega, rfl, rfl, show _ = _ from rfl, by simp [tot], Only.refl _ _⟩
  case round =>
    obtain ⟨k, hk, rfl, rfl, hbd, htl, hO⟩ := hrel
    by_cases hlt : k < xs.length
    · have hlt' : (k : Int) < xs.length := by omega

      obtain ⟨ad, B, cap, rfl, hcs, hcap, hby⟩ := (HA.out.only hO.out).row k hlt
      have hfit := HF.out.at k hlt
      have hsl : slots xs[k] = slotsN xs[k].1.size xs[k].2.length := rfl
      have hbt := bad_take xs k hlt
      have htt := tot_take xs k hlt
      have HC := Lib.hid hcs
      have hle := slots_le xs[k]
      clear hcs hcap hby
      generalize xs[k] = x at *

      go_wp2_with (with_reducible refine wpList_load_at rfl 37 (.tmp 11) rfl (ad.add (k * 2)) rfl _ _ HC.out Try.underlying37 rfl (by kernel_rfl) ?_)
      refine (slots_any x.1 B x.2.length cap _ hfit.1 hfit.2).mono ?_
      rw [← hsl]
      rintro e w3 ⟨rfl, ho3⟩
      have HO := Lib.hid (hO.out.trans (((Only.refl [] wr).alloc _).trans ho3))
      clear ho3 HC hsl
      generalize slots x = n at *
      by_cases hn : n = 0
      · subst hn
        go_wp2
        go_ret
        refine ⟨?_, HO.out⟩
        have e : v = 0 := by rw [HV.out, free, if_pos (.inl (bad_of_take (k := k + 1) (by rw [hbt]; simp)))]
        rw [e]
        rfl
      · have hnb : ((n : Int) == 0) = false := by rw [beq_eq_false_iff_ne]; omega
        by_cases hgt : 7 - tot (xs.take k) < n
        · have hgt' : (7 : Int) - (tot (xs.take k) : Int) < n := by omega
          go_wp2
          go_ret
          refine ⟨?_, HO.out⟩
          have e : v = 0 := by
            have := tot_of_take xs (k + 1)
            rw [HV.out, free, if_pos (.inr (by omega))]
          rw [e]
          rfl
        · have hgt' : (n : Int) ≤ (7 : Int) - (tot (xs.take k) : Int) := by omega
          have hBD := hbd.out
          go_wp2
          go_roundw
          case rel => exact ⟨k + 1, by omega, by go_num, by rw [htt]; go_num, show _ = _ by rw [hbt, hBD]; simpa using hn, by omega, HO⟩
          case measure => simp [intOf]; omega
    · obtain rfl : k = xs.length := by omega
      go_wp2
      go_ret
      refine ⟨?_, hO.out⟩
      have h1 := hbd.out
      rw [List.take_length] at h1 htl ⊢
      have e : (7 : Int) - (tot xs : Int) = (v : Int) := by
        rw [HV.out, free, if_neg (by rw [h1]; simp; omega)]
        omega
      rw [← e]
      rfl
set_option maxHeartbeats 4000000 in
set_option maxRecDepth 100000 in
theorem filled_any (A : Option Addr) (cp : Nat) (xs : List Rec) (w : World) (hl : xs.length ≤ 1000000) (hF : Fit xs) (hA : PairsAt w A xs) :
    Calls Try.prog 20 #[.slice A xs.length cp] w fun e w' => e = .returned (.bool (decide (tot xs = 7))) ∧ Only [] w w' := by
  obtain ⟨v, hv⟩ : ∃ v, v = decide (tot xs = 7) := ⟨_, rfl⟩
  rw [← hv]
  have HV := Lib.hid hv
  have HA := Lib.hid hA
  have HF := Lib.hid hF
  clear hv hA hF
  go_enter Try.func20, Try.ntmps20
  go_wp2
  go_loopw [3, 5, 8] (fun l _ i wr => ∃ k : Nat, k ≤ xs.length ∧ i = .int .i64 k ∧ l = .int .i64 (tot (xs.take k)) ∧ Hid (tot (xs.take k) ≤ 4 * k) ∧ Hid (Only [] w wr)) (fun _ _ i _ => xs.length - (intOf i).toNat)
  case atStart => exact ⟨0, by omega, rfl, rfl, show _ ≤ _ by simp [tot], Only.refl _ _⟩
  case round =>
    obtain ⟨k, hk, rfl, rfl, htl, hO⟩ := hrel
    by_cases hlt : k < xs.length
    · have hlt' : (k : Int) < xs.length := by omega

      obtain ⟨ad, B, cap, rfl, hcs, hcap, hby⟩ := (HA.out.only hO.out).row k hlt
      have hfit := HF.out.at k hlt
      have hsl : slots xs[k] = slotsN xs[k].1.size xs[k].2.length := rfl
      have hbt := bad_take xs k hlt
      have htt := tot_take xs k hlt
      have HC := Lib.hid hcs
      have hle := slots_le xs[k]
      clear hcs hcap hby
      generalize xs[k] = x at *

      go_wp2_with (with_reducible refine wpList_load_at rfl 37 (.tmp 10) rfl (ad.add (k * 2)) rfl _ _ HC.out Try.underlying37 rfl (by kernel_rfl) ?_)
      refine (slots_any x.1 B x.2.length cap _ hfit.1 hfit.2).mono ?_
      rw [← hsl]
      rintro e w3 ⟨rfl, ho3⟩
      have HO := Lib.hid (hO.out.trans (((Only.refl [] wr).alloc _).trans ho3))
      clear ho3 HC hsl hbt
      generalize slots x = n at *
      have htl2 := htl.out
      have hw : IntKind.i64.wrap ((tot (xs.take k) : Int) + (n : Int)) = (tot (xs.take k) : Int) + n := IntWalk.i64_in _ (by omega)
      go_wp2
      go_roundw
      case rel => exact ⟨k + 1, by omega, by go_num, by rw [htt]; go_num, show _ ≤ _ by omega, HO⟩
      case measure => simp [intOf]; omega
    · obtain rfl : k = xs.length := by omega
      rw [List.take_length]
      obtain ⟨b, hb⟩ : ∃ b, b = ((tot xs : Int) == 7) := ⟨_, rfl⟩
      have e : b = v := by
        rw [HV.out, hb]
        by_cases h : tot xs = 7
        · simp [h]
        · have h' : ((tot xs : Int) == 7) = false := by rw [beq_eq_false_iff_ne]; omega
          rw [h', decide_eq_false h]
      go_wp2
      go_ret
      refine ⟨?_, hO.out⟩
      rw [← e, hb]
      rfl
set_option maxHeartbeats 4000000 in
set_option maxRecDepth 100000 in
theorem sum_any (A : Option Addr) (cp : Nat) (xs : List Rec) (w : World) (hl : xs.length ≤ 1000000) (hF : Fit xs) (hA : PairsAt w A xs) :
    Calls Try.prog 21 #[.slice A xs.length cp] w fun e w' => (∃ S : Int, e = .returned (.int .i64 S) ∧ ((bad xs = true ∧ S = -1) ∨ (bad xs = false ∧ 0 ≤ S ∧ S ≤ 11 ∧ (tot xs ≤ 7 → S = tot xs) ∧ (7 < tot xs → 7 < S)))) ∧ Only [] w w' := by
  have HA := Lib.hid hA
  have HF := Lib.hid hF
  clear hA hF
  go_enter Try.func21, Try.ntmps21
  go_wp2
  go_loopw [3, 4, 5] (fun l i _ wr => ∃ k s : Nat, k ≤ xs.length ∧ i = .int .i64 k ∧ l = .int .i64 s ∧ Hid (bad (xs.take k) = false) ∧ s ≤ 11 ∧ Hid ((tot (xs.take k) ≤ 7 → s = tot (xs.take k)) ∧ (7 < tot (xs.take k) → 7 < s)) ∧ Hid (Only [] w wr)) (fun _ i _ _ => xs.length - (intOf i).toNat)
  case atStart => exact ⟨0, 0, by omega, rfl, rfl, show _ = _ from rfl, by omega, ⟨by simp [tot], by simp [tot]⟩, Only.refl _ _⟩
  case round =>
    obtain ⟨k, s, hk, rfl, rfl, hbd, hs, htl, hO⟩ := hrel
    by_cases hlt : k < xs.length
    · have hlt' : (k : Int) < xs.length := by omega

      obtain ⟨ad, B, cap, rfl, hcs, hcap, hby⟩ := (HA.out.only hO.out).row k hlt
      have hfit := HF.out.at k hlt
      have hsl : slots xs[k] = slotsN xs[k].1.size xs[k].2.length := rfl
      have hbt := bad_take xs k hlt
      have htt := tot_take xs k hlt
      have HC := Lib.hid hcs
      have hle := slots_le xs[k]
      clear hcs hcap hby
      generalize xs[k] = x at *

      go_wp2_with (with_reducible refine wpList_load_at rfl 37 (.tmp 14) rfl (ad.add (k * 2)) rfl _ _ HC.out Try.underlying37 rfl (by kernel_rfl) ?_)
      refine (rslots_any x.1 B x.2.length cap _ hfit.1 hfit.2).mono ?_
      rw [← hsl]
      rintro e w3 ⟨rfl, ho3⟩
      have HO := Lib.hid (hO.out.trans ho3)
      have HBT := Lib.hid hbt
      have HTT := Lib.hid htt
      clear ho3 HC hsl hbt htt
      generalize slots x = n at *
      by_cases hn : n = 0
      · subst hn
        go_wp2
        go_ret
        exact ⟨⟨_, rfl, .inl ⟨bad_of_take (k := k + 1) (by rw [HBT.out]; simp), rfl⟩⟩, HO.out⟩
      · have hnb : ((n : Int) == 0) = false := by rw [beq_eq_false_iff_ne]; omega
        have hbd2 : bad (xs.take (k + 1)) = false := by rw [HBT.out, hbd.out]; simpa using hn
        have HB2 := Lib.hid hbd2
        clear hbd2 HBT
        by_cases h8 : s < 8
        · have h8' : (s : Int) < 8 := by omega
          go_wp2
          go_roundw
          case rel => exact ⟨k + 1, s + n, by omega, by go_num, by go_num, HB2, by omega, by have := htl.out; have := HTT.out; exact ⟨by omega, by omega⟩, HO⟩
          case measure => simp [intOf]; omega
        · have h8' : (8 : Int) ≤ s := by omega
          go_wp2
          go_roundw
          case rel => exact ⟨k + 1, s, by omega, by go_num, rfl, HB2, by omega, by have := htl.out; have := HTT.out; exact ⟨by omega, by omega⟩, HO⟩
          case measure => simp [intOf]; omega
    · obtain rfl : k = xs.length := by omega
      have h1 := htl.out
      have h2 := hbd.out
      rw [List.take_length] at h1 h2
      have H1 := Lib.hid h1
      have H2 := Lib.hid h2
      clear h1 h2
      go_wp2
      go_ret
      exact ⟨⟨s, rfl, .inr ⟨H2.out, by omega, by omega, fun h => by have := H1.out.1 h; omega, fun h => by have := H1.out.2 h; omega⟩⟩, hO.out⟩
theorem rfree_any (A : Option Addr) (cp : Nat) (xs : List Rec) (w : World) (hl : xs.length ≤ 1000000) (hF : Fit xs) (hA : PairsAt w A xs) :
    Calls Try.prog 14 #[.slice A xs.length cp] w fun e w' => e = .returned (.int .i64 (free xs)) ∧ Only [] w w' := by
  obtain ⟨v, hv⟩ : ∃ v, v = free xs := ⟨_, rfl⟩
  rw [← hv]
  have HV := Lib.hid hv
  have HA := Lib.hid hA
  have HF := Lib.hid hF
  clear hv hA hF
  go_enter Try.func14, Try.ntmps14
  go_wp2_with fail
  refine (sum_any A cp xs w hl HF.out HA.out).mono ?_
  rintro e w1 ⟨⟨S, rfl, hS⟩, ho⟩
  have HO := Lib.hid ho
  clear ho
  rcases hS with ⟨hb, rfl⟩ | ⟨hb, h0, h11, h7, h8⟩
  · have HB := Lib.hid hb
    clear hb
    go_wp2
    go_ret
    exact ⟨by rw [HV.out, free, if_pos (.inl HB.out)]; rfl, HO.out⟩
  · have HB := Lib.hid hb
    have H7 := Lib.hid h7
    have H8 := Lib.hid h8
    clear hb h7 h8
    by_cases hgt : 7 < S
    · go_wp2
      go_ret
      refine ⟨?_, HO.out⟩
      have : 7 < tot xs := by
        rcases Nat.lt_or_ge 7 (tot xs) with h | h
        · exact h
        · have := H7.out h; omega
      rw [HV.out, free, if_pos (.inr this)]
      rfl
    · have hgt' : S ≤ 7 := by omega
      go_wp2
      go_ret
      refine ⟨?_, HO.out⟩
      have h9 : tot xs ≤ 7 := by
        rcases Nat.lt_or_ge 7 (tot xs) with h | h
        · have := H8.out h; omega
        · exact h
      have e : (7 : Int) - S = (v : Int) := by
        rw [HV.out, free, if_neg (by rw [HB.out]; simp; omega), H7.out h9]
        omega
      rw [← e]
      rfl
end Go.Proofs.Ythkgpnkbbdpldaa
