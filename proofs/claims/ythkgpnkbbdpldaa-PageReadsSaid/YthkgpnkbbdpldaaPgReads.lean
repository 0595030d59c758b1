/-
  The law PageReads, walked.
-/
import Derived.Test.YthkgpnkbbdpldaaPgAwake
import Derived.Test.YthkgpnkbbdpldaaPgRRead
import Derived.Test.YthkgpnkbbdpldaaPgSame
import Derived.Test.YthkgpnkbbdpldaaOwn8
import Derived.Test.YthkgpnkbbdpldaaPgIn
namespace Go.Proofs.Ythkgpnkbbdpldaa
open Go.RowKit
set_option linter.unusedSimpArgs false
set_option linter.unusedVariables false
theorem rread_n (A : Option Addr) (n cp : Nat) (b : List UInt8) (w : World) (hn : b.length = n) (hl : n ≤ 1000000) (hcp : n ≤ cp) (hcp2 : cp ≤ 9223372036854775807) (hA : BytesAt w A b) :
    Calls Try.prog 16 #[.slice A n cp] w fun e w' => ∃ v us, e = .returned (.tuple #[v, .int .i64 (readE b)]) ∧ RecsOwn w.heap.size 37 5 w' v (readR b) us ∧ Only [] w w' := by
  subst hn
  exact rread_any A cp b w hl hcp hcp2 hA
theorem same_n (A B : Option Addr) (n m ca cb : Nat) (xs ys : List Rec) (w : World) (hn : xs.length = n) (hm : ys.length = m) (hl : n ≤ 1000000) (hl2 : m ≤ 1000000) (hA : PairsAt w A xs) (hB : PairsAt w B ys) :
    Calls Try.prog 17 #[.slice A n ca, .slice B m cb] w fun e w' => e = .returned (.bool (decide (xs = ys))) ∧ Only [] w w' := by
  subst hn hm
  exact same_any A B ca cb xs ys w hl hl2 hA hB
theorem ownsRow_cap {w : World} {base : Nat} {e : TypeId} {size n m c : Nat} {A : Option Addr} {xs : List Value} (h : w.ownsRow base e size (.slice A n c) m xs) : c ≤ 9223372036854775807 := by
  rcases h.2 with ⟨h9, _⟩ | ⟨_, cap9, _, h9, _, _, _, h10, _⟩
  · simp at h9
    omega
  · simp at h9
    unfold maxLen at h10
    omega
set_option maxHeartbeats 4000000 in
set_option maxRecDepth 100000 in
theorem reads_any (A : Option Addr) (n cap : Nat) (b : List UInt8) (w : World) (hn : b.length = n) (hl : n ≤ cap) (hb : cap ≤ 140737488351232) (hA : BytesAt w A b) :
    Calls Try.prog 4 #[.slice A n cap] w fun e w' => e = .returned (.bool true) ∧ Only [] w w' := by
  have HA := Lib.hid hA
  have HN := Lib.hid hn
  clear hA hn
  go_enter Try.func4, Try.ntmps4
  by_cases h3 : n ≤ 3000
  · have h3' : (n : Int) ≤ 3000 := by omega
    go_wp2_with (first
      | (go_at_call 9; refine (awake_any w).mono ?_; rintro e w1 ⟨rfl, ho1⟩; have HO1 := Lib.hid ho1; clear ho1)
      | (at_builtin; refine wpList_append_row rfl _ _ 25 rfl w1.heap.size 5 1 1 (.int .u8 0) Try.underlying25 infoU8 rfl (by omega) (.slice none 0 0) 0 [] rfl (ownsRow_nil _ _ _ _) A n cap (bcells b) rfl (by rw [bcells_length, HN.out]; omega) (fun h => HA.out.only HO1.out (by rw [HN.out]; exact h)) (bcells_one b) (by unfold maxLen; omega) (by omega) (Nat.le_refl _) ?_; intro A2 c2 w2 hown2 ho2 _; rw [Nat.zero_add, List.nil_append] at hown2; have HOWN2 := Lib.hid hown2; have HO12 := Lib.hid (ho2.mono (T := []) (by simp [Value.ownBlock])); have HO2 := Lib.hid (HO1.out.trans HO12.out); clear hown2 ho2)
      | (go_at_call 15; obtain ⟨A2', c2', hv2, hnc2, hby2⟩ := ownsRow_slice HOWN2.out; obtain ⟨rfl, rfl⟩ : A2 = A2' ∧ c2 = c2' := (by simpa using hv2); have hc2 := ownsRow_cap HOWN2.out; refine (read_n A2 n c2 b w2 HN.out (by omega) hnc2 hc2 (fun h => hby2 (by rw [← HN.out]; exact h))).mono ?_; rintro e w3 ⟨v, us, rfl, hr3, ho3⟩; have HR3 := Lib.hid hr3; have HO3 := Lib.hid (HO2.out.trans ho3); have HW3 := Lib.hid (Own8.only (Own8.owns HOWN2.out (Nat.le_refl w1.heap.size)) ho3 (by simp)); have HQ := Lib.hid (show ∀ k, (Value.slice A2 n c2).ownBlock = some k → k < w2.heap.size from fun k hk => (ownsRow_lt HOWN2.out hk).2); clear hr3 ho3 hv2 hby2 hc2; refine (fun (h : Hid _) => h.out) ?_))
    refine Lib.hid ?_
    obtain ⟨Av, cv, rfl, _, _⟩ := ownsRow_slice HR3.out.row
    have hz1 : w.heap.size ≤ w1.heap.size := HO1.out.size
    have hrl := readR_le b
    clear HO12 HOWN2
    go_wp2
    go_loopw [7] (fun i wr => ∃ j : Nat, j ≤ n ∧ i = .int .i64 j ∧ Hid (Own8 wr A2 n w1.heap.size) ∧ Hid (RecsOwn w2.heap.size 37 5 wr (.slice Av (readR b).length cv) (readR b) us) ∧ Hid (Only [] w wr)) (fun i _ => n - (intOf i).toNat)
    case atStart => exact ⟨0, by omega, rfl, HW3, HR3, HO3⟩
    case round =>
      clear HR3 HW3 HO3
      obtain ⟨j, hj, rfl, hW, hR, hO⟩ := hrel
      by_cases hlt : j < n
      · have hlt' : (j : Int) < n := by omega
        obtain ⟨q, u, hqq, hq', hcell, hfz⟩ := hW.out.cell j hlt
        subst hqq
        have hq2 := HQ.out q rfl
        have HQ2 := Lib.hid hq2
        clear hq2
        go_wp2
        go_roundw
        case rel =>
          refine ⟨j + 1, by omega, by go_num, hW.out.set _, hR.out.onlyS ((Only.refl [q] _).setCell (by simp) _) (fun k hk => ?_), hO.out.setCell (.inr (by show _ ≤ q; omega)) _⟩
          have := HQ2.out
          simp at hk
          omega
        case measure => simp [intOf]; omega
      · obtain rfl : j = n := by omega
        go_wp2_with (first
          | (go_at_call 16; refine (rread_n A j cap b wr HN.out (by omega) hl (by omega) (HA.out.only hO.out)).mono ?_; rintro e w5 ⟨v5, us5, rfl, hr5, ho5⟩; have HR5 := Lib.hid hr5; have HR6 := Lib.hid (hR.out.only ho5); have HO5 := Lib.hid (hO.out.trans ho5); clear hr5 ho5; obtain ⟨A5, c5, rfl, _, _⟩ := ownsRow_slice HR5.out.row)
          | (go_at_call 17; refine (same_any Av A5 cv c5 (readR b) (readR b) w5 (by omega) (by omega) HR6.out.pairs HR5.out.pairs).mono ?_; rw [decide_eq_true rfl]; rintro e w6 ⟨rfl, ho6⟩; have HO6 := Lib.hid (HO5.out.trans ho6); clear ho6))
        go_ret
        exact ⟨rfl, HO6.out⟩
  · have h3' : (3000 : Int) < n := by omega
    go_wp2_with (go_at_call 9; refine (awake_any w).mono ?_; rintro e w1 ⟨rfl, ho1⟩; have HO1 := Lib.hid ho1; clear ho1)
    go_ret
    exact ⟨rfl, HO1.out⟩
theorem pageReads_walk (A : Option Addr) (cap : Nat) (xs : List Int) (w : World) (hl : xs.length ≤ cap) (hb : cap * 1 ≤ 140737488351232) (hr : rdRow 1 (rdInt .u8) w A xs) :
    Calls Try.prog 4 #[.slice A xs.length cap] w fun e w' => e = .returned (.bool true) ∧ Only [] w w' := by
  obtain ⟨b, h1, h2⟩ := bytes_in hr
  exact reads_any A xs.length cap b w h1 hl (by omega) h2
end Go.Proofs.Ythkgpnkbbdpldaa
