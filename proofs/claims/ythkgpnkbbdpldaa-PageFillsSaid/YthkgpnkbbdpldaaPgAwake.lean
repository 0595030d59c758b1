/-
  The chapter's examples; are records few and short.
-/
import Derived.Test.YthkgpnkbbdpldaaPgRead
namespace Go.Proofs.Ythkgpnkbbdpldaa
open Go.RowKit
set_option linter.unusedSimpArgs false
set_option linter.unusedVariables false
def smallB (xs : List Rec) : Bool := decide (xs.length ≤ 1000) && xs.all fun x => decide (x.1.size ≤ 10000) && decide (x.2.length ≤ 10000)
theorem smallB_bad {xs : List Rec} {k : Nat} {x : Rec} (hx : xs[k]? = some x) (h : 10000 < x.1.size ∨ 10000 < x.2.length) : smallB xs = false := by
  unfold smallB
  rw [Bool.and_eq_false_iff]
  right
  rw [List.all_eq_false]
  refine ⟨x, List.mem_of_getElem? hx, ?_⟩
  simp only [Bool.and_eq_true, decide_eq_true_eq]
  omega
theorem smallB_all {xs : List Rec} (h : xs.length ≤ 1000) (h2 : xs.all (fun x => decide (x.1.size ≤ 10000) && decide (x.2.length ≤ 10000)) = true) : smallB xs = true := by
  unfold smallB
  rw [h2, decide_eq_true h]
  rfl
theorem smallB_take {xs : List Rec} {k : Nat} {x : Rec} (hx : xs[k]? = some x) (h1 : x.1.size ≤ 10000) (h2 : x.2.length ≤ 10000) (h : (xs.take k).all (fun x => decide (x.1.size ≤ 10000) && decide (x.2.length ≤ 10000)) = true) :
    (xs.take (k + 1)).all (fun x => decide (x.1.size ≤ 10000) && decide (x.2.length ≤ 10000)) = true := by
  rw [List.take_add_one, hx, List.all_append, h]
  simp [h1, h2]
set_option maxHeartbeats 8000000 in
set_option maxRecDepth 100000 in
theorem small_any (A : Option Addr) (cp : Nat) (xs : List Rec) (w : World) (hl : xs.length ≤ 4611686018427387903) (hF : Fit xs) (hA : PairsAt w A xs) :
    Calls Try.prog 10 #[.slice A xs.length cp] w fun e w' => e = .returned (.bool (smallB xs)) ∧ Only [] w w' := by
  have HA := Lib.hid hA
  have HF := Lib.hid hF
  clear hA hF
  obtain ⟨V, hV⟩ : ∃ V, V = smallB xs := ⟨_, rfl⟩
  rw [← hV]
  have HV := Lib.hid hV
  clear hV
  go_enter Try.func10, Try.ntmps10
  by_cases h1000 : xs.length ≤ 1000
  · have h1000' : (xs.length : Int) ≤ 1000 := by omega
    go_wp2
    go_loopw [3] (fun i wr => ∃ k : Nat, k ≤ xs.length ∧ i = .int .i64 k ∧ Hid ((xs.take k).all (fun x => decide (x.1.size ≤ 10000) && decide (x.2.length ≤ 10000)) = true) ∧ Hid (Only [] w wr)) (fun i _ => xs.length - (intOf i).toNat)
    case atStart => exact ⟨0, by omega, rfl, Lib.hid rfl, Only.refl _ _⟩
    case round =>
      obtain ⟨k, hk, rfl, ht, hO⟩ := hrel
      by_cases hlt : k < xs.length
      · have hlt' : (k : Int) < xs.length := by omega
        obtain ⟨ad, BX, cx, rfl, hxc, _, hbx⟩ := (HA.out.only hO.out).row k hlt
        have hfit := HF.out.at k hlt
        have HX := Lib.hid (List.getElem?_eq_getElem hlt)
        have hx0 := cellsAt_head hxc rfl
        have hx1 := cellsAt_field hxc 1 (by omega) rfl
        clear hxc hbx
        generalize xs[k] = x at *
        by_cases h1 : x.1.size ≤ 10000
        · have h1' : (x.1.size : Int) ≤ 10000 := by omega
          by_cases h2 : x.2.length ≤ 10000
          · have h2' : (x.2.length : Int) ≤ 10000 := by omega
            have HT := Lib.hid (smallB_take HX.out h1 h2 ht.out)
            go_wp2
            go_roundw
            case rel => exact ⟨k + 1, by omega, by go_num, HT, hO⟩
            case measure => simp [intOf]; omega
          · have h2' : (10000 : Int) < x.2.length := by omega
            have HT := Lib.hid (smallB_bad HX.out (.inr (by omega)))
            go_wp2
            go_ret
            exact ⟨by rw [HV.out, HT.out]; rfl, hO.out⟩
        · have h1' : (10000 : Int) < x.1.size := by omega
          have HT := Lib.hid (smallB_bad HX.out (.inl (by omega)))
          go_wp2
          go_ret
          exact ⟨by rw [HV.out, HT.out]; rfl, hO.out⟩
      · obtain rfl : k = xs.length := by omega
        have ht := ht.out
        rw [List.take_length] at ht
        have HT := Lib.hid (smallB_all h1000 ht)
        clear ht
        go_wp2
        go_ret
        exact ⟨by rw [HV.out, HT.out]; rfl, hO.out⟩
  · have h1000' : (1000 : Int) < xs.length := by omega
    have HT : Hid (smallB xs = false) := by
      refine Lib.hid ?_
      unfold smallB
      rw [decide_eq_false h1000]
      rfl
    go_wp2
    go_ret
    exact ⟨by rw [HV.out, HT.out]; rfl, Only.refl _ _⟩
theorem read_n (A : Option Addr) (n cp : Nat) (b : List UInt8) (w : World) (hn : b.length = n) (hl : n ≤ 1000000) (hcp : n ≤ cp) (hcp2 : cp ≤ 9223372036854775807) (hA : BytesAt w A b) :
    Calls Try.prog 15 #[.slice A n cp] w fun e w' => ∃ v us, e = .returned (.tuple #[v, .int .i64 (readE b)]) ∧ RecsOwn w.heap.size 37 5 w' v (readR b) us ∧ Only [] w w' := by
  subst hn
  exact read_any A cp b w hl hcp hcp2 hA
/-- The example's record. -/
def ex1 : List Rec := [(⟨#[97]⟩, [7])]
theorem ex1_lay : layE ex1 = 0 := by kernel_rfl
theorem ex1_read : readL (layB ex1) = some ex1 := by kernel_rfl
theorem ex1_free : free ex1 = 6 := by kernel_rfl
theorem ex1_c0 : (bcells (layB ex1))[0]? = some (.int .u8 1) := by kernel_rfl
theorem ex1_c3 : (bcells (layB ex1))[3]? = some (.int .u8 97) := by kernel_rfl
theorem ex1_c4 : (bcells (layB ex1))[4]? = some (.int .u8 7) := by kernel_rfl
theorem ex1_fit : Fit ex1 := by
  intro x hx
  obtain rfl : x = (⟨#[97]⟩, [7]) := by simpa [ex1] using hx
  exact ⟨by decide, by decide⟩
theorem ex1_pairs (w : World) : PairsAt ((w.alloc (.cells #[.int .u8 7] 5)).alloc (.cells #[.string ⟨#[97]⟩, .slice (some ⟨w.heap.size, 0, none⟩) 1 1] 37)) (some ⟨w.heap.size + 1, 0, none⟩) ex1 := by
  have h1 := heap_alloc_new w (.cells #[.int .u8 7] 5)
  have h2 := heap_alloc_new (w.alloc (.cells #[.int .u8 7] 5)) (.cells #[.string ⟨#[97]⟩, .slice (some ⟨w.heap.size, 0, none⟩) 1 1] 37)
  rw [show (w.alloc (.cells #[.int .u8 7] 5)).heap.size = w.heap.size + 1 by simp] at h2
  intro i x hx
  match i, hx with
  | 0, hx =>
    obtain rfl : (⟨#[97]⟩, [7]) = x := by simpa [ex1] using hx
    refine ⟨_, some ⟨w.heap.size, 0, none⟩, 1, rfl, cellsAt_row h2, Nat.le_refl _, fun _ => ⟨_, rfl, ?_⟩⟩
    exact (cellsAt_row (cs := bcells [7]) h1).only (S := []) ((Only.refl [] _).alloc _) (by simp)
set_option maxHeartbeats 8000000 in
set_option maxRecDepth 100000 in
theorem awake_any (w : World) : Calls Try.prog 9 #[] w fun e w' => e = .returned (.bool true) ∧ Only [] w w' := by
  go_enter Try.func9, Try.ntmps9
  go_wp2_with (first
    | (go_at_call 11; refine (lay_any _ 1 ex1 _ (by decide) ex1_fit (ex1_pairs w)).mono ?_; rintro e w1 ⟨v, rfl, _, hv, ho1⟩; obtain ⟨g, rfl, hg, hgz⟩ := hv ex1_lay; rw [ex1_lay]; have HO1 := Lib.hid ((((Only.refl [] w).alloc _).alloc _).trans ho1); have HG := Lib.hid hg; clear ho1 hg hv)
    | (go_at_call 15; refine (read_n (some ⟨g, 0, none⟩) 256 256 (layB ex1) w1 (layB_length ex1_lay) (by omega) (by omega) (by omega) (fun _ => ⟨_, rfl, cellsAt_row HG.out⟩)).mono ?_; rintro e w2 ⟨v, us, rfl, hown, ho2⟩; rw [readE_some ex1_read]; rw [readR_some ex1_read] at hown; have HO2 := Lib.hid (HO1.out.trans ho2); have c0 := (cellsAt_row HG.out 0 _ ex1_c0); have c3 := (cellsAt_row HG.out 3 _ ex1_c3); have c4 := (cellsAt_row HG.out 4 _ ex1_c4); have d0 := ho2.cell c0 (by simp [add_block]); have d3 := ho2.cell c3 (by simp [add_block]); have d4 := ho2.cell c4 (by simp [add_block]); obtain ⟨A2, cp2, rfl, _, _⟩ := ownsRow_slice hown.row; have HP := Lib.hid hown.pairs; clear ho2 c0 c3 c4 hown; refine (fun (h : Hid _) => h.out) ?_))
  refine Lib.hid ?_
  obtain ⟨ad, BX, cx, rfl, hxc, _, _⟩ := HP.out.row 0 (by decide)
  have hx0 := cellsAt_head hxc rfl
  have hx9 : w2.cell? ad = some (.string ⟨#[97]⟩) := by have h := hx0; rw [show ex1[0].1 = (⟨#[97]⟩ : ByteArray) from rfl] at h; simpa [Addr.add] using h
  have f0 : w2.cell? ⟨g, 0, none⟩ = some (.int .u8 1) := by simpa [Addr.add] using d0
  have f3 : w2.cell? ⟨g, 3, none⟩ = some (.int .u8 97) := by simpa [Addr.add] using d3
  have f4 : w2.cell? ⟨g, 4, none⟩ = some (.int .u8 7) := by simpa [Addr.add] using d4
  clear d0 d3 d4 hx0 hxc
  rw [show (ex1.length : Nat) = 1 from rfl]
  go_wp2_with (go_at_call 13; refine (free_any (some ad) cp2 ex1 w2 (by decide) ex1_fit HP.out).mono ?_; rw [ex1_free]; rintro e w3 ⟨rfl, ho3⟩; have HO3 := Lib.hid (HO2.out.trans ho3); clear ho3)
  go_ret
  exact ⟨rfl, HO3.out⟩
end Go.Proofs.Ythkgpnkbbdpldaa
