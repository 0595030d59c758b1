/-
  WalClosed over what came in.
-/
import Derived.Test.YtlngfelpmebemaaWalAk
namespace Go.Proofs.Ytlngfelpmebemaa
open Go Go.RowKit
set_option linter.unusedSimpArgs false
set_option linter.unusedVariables false
/-- The disk whose power went at its first write. -/
def downD (n : Nat) : Dk := { (Dk.new n).cut 0 with off := true }
theorem down_write (n : Nat) (h : 1 ≤ n) : ((Dk.new n).cut 0).write 0 (sec 0) = (6, downD n) := by
  unfold Dk.write downD
  rw [if_neg (by simp [Dk.new, Dk.cut]), if_neg (by simp [Dk.new, Dk.cut]; omega), if_neg (by rw [sec_length]; simp), if_pos (by simp [Dk.cut])]
theorem down_len (n : Nat) : (downD n).L.length = n := by simp [downD, Dk.new, Dk.cut]
theorem down_ok (n : Nat) (h : n ≤ 2048) : (downD n).Ok := by
  have := Dk.new_ok n h
  exact ⟨this.secs, this.len, by simp [downD, Dk.cut], by simp [downD, Dk.cut], this.wr⟩
theorem down_up (n : Nat) : (downD n).up = Dk.new n := by simp [downD, Dk.up, Dk.cut, Dk.new]
theorem down_open (n : Nat) : openP (downD n) = (if roomN n = 0 then 1 else 6, downD n) := by
  unfold openP
  rw [down_len]
  split
  · rfl
  · rw [if_pos (by simp [downD])]
theorem made_noughts : madeCells (Value.cells (.int .u8 0)) (256 * 1) = (bcells (sec 0)).toArray := by
  show madeCells #[_] (256 * 1) = _
  rw [madeCells_one]
  unfold sec bcells
  rw [List.map_replicate]
  rfl
set_option maxHeartbeats 8000000 in
set_option maxRecDepth 100000 in
theorem walClosed_walk (a0 : Int) (w : World) (w0 : (Lit.int .i64 a0).wf = true) : Calls Try.prog 5 #[.int .i64 a0] w fun e w' => e = .returned (.bool true) ∧ Only [] w w' := by
  have hw := wf_i64 w0
  have HW := Lib.hid hw
  clear w0 hw
  go_enter Try.func5, Try.ntmps5
  go_wp2_with (go_at_call 8; refine (awake_any w).mono ?_; rintro e w1 ⟨rfl, ho⟩; have HO1 := Lib.hid ho; clear ho; refine (fun (h : Hid _) => h.out) ?_)
  refine Lib.hid ?_
  go_wp2_with (go_at_call 23; refine (open_nil w1).mono ?_; rintro e w2 ⟨rfl, ho⟩; have HO2 := Lib.hid (HO1.out.trans ho); clear ho; refine (fun (h : Hid _) => h.out) ?_)
  refine Lib.hid ?_
  clear HO1
  by_cases hbad : a0 < 1 ∨ 2048 < a0
  · go_wp2_with (go_at_call 24; refine (new_no a0 hbad w2).mono ?_; rintro e w3 ⟨rfl, rfl⟩)
    go_ret
    exact ⟨rfl, HO2.out⟩
  obtain ⟨n, rfl⟩ : ∃ n : Nat, a0 = n := ⟨a0.toNat, by omega⟩
  have hn1 : 1 ≤ n := by omega
  have hn2 : n ≤ 2048 := by omega
  clear hbad
  go_wp2_with (go_at_call 24; refine (new_yes n hn1 hn2 w2).mono ?_; rintro e w3 ⟨g, s, rfl, hd, hg, hs, ho⟩; have HD3 := Lib.hid hd; have HGE := Lib.hid (show w.heap.size ≤ g ∧ w.heap.size ≤ s from ⟨Nat.le_trans HO2.out.size hg, Nat.le_trans HO2.out.size hs⟩); have HO3 := Lib.hid (HO2.out.trans ho); clear hd hg hs ho; refine (fun (h : Hid _) => h.out) ?_)
  refine Lib.hid ?_
  clear HO2
  go_wp2_with (go_at_call 16; refine (cut_any g s n [] (Dk.new n) 0 w3 HD3.out).mono ?_; rintro e w4 ⟨rfl, hd, ho⟩; have HD4 := Lib.hid hd; have HO4 := Lib.hid (HO3.out.then ho (by intro i hi; right; simp at hi; have := HGE.out; omega)); clear hd ho; refine (fun (h : Hid _) => h.out) ?_)
  refine Lib.hid ?_
  clear HD3 HO3
  go_wp2_with (first
    | (at_make; refine wpList_make_new rfl _ _ 43 rfl 5 (.int .u8 0) 1 1 Try.underlying43 infoU8 _ _ _ _ 256 rfl rfl (by rfl) (by rfl) (by omega) (by omega) ?_; intro w5 hh hs ho; have HH := Lib.hid (show w5.heap[w4.heap.size]? = some (.cells (bcells (sec 0)).toArray 5 (0, 0)) from by rw [← made_noughts]; exact hh.out); have HD5 := Lib.hid (HD4.out.only (show Only [] w4 w5 from ho) (by simp) (by simp)); have HO5 := Lib.hid (HO4.out.trans (show Only [] w4 w5 from ho)); clear hh hs ho)
    | (go_at_call 25; refine (write_is g s n [] ((Dk.new n).cut 0) (downD n) 6 0 w4.heap.size 256 (sec 0) 5 w5 HD5.out (Dk.cut_ok (Dk.new_ok n hn2) 0 (by omega)) (by simp [Dk.cut, Dk.new]) HH.out 256 (sec_length 0) (down_write n hn1)).mono ?_; rintro e w6 ⟨rfl, hd, ho⟩; have HD6 := Lib.hid hd; have HO6 := Lib.hid (HO5.out.then ho (by intro i hi; right; simp at hi; have := HGE.out; omega)); clear hd ho; refine (fun (h : Hid _) => h.out) ?_))
  refine Lib.hid ?_
  clear HD4 HO4 HD5 HO5 HH
  by_cases h4 : n < 4
  · have h4' : (n : Int) < 4 := by omega
    have HR := Lib.hid (room_zero h4)
    go_wp2_with (go_at_call 23; refine (open_any g s n [] (downD n) w6 (down_ok n hn2) (by simp [downD, Dk.cut, Dk.new]) HD6.out).mono ?_; rw [down_open, HR.out]; rintro e w7 ⟨v, rfl, hv, _, hd, ho⟩; obtain rfl := hv.out (by simp); have HO7 := Lib.hid (HO6.out.then ho (by intro i hi; right; simp at hi; have := HGE.out; omega)); clear hd ho hv)
    go_ret
    exact ⟨rfl, HO7.out⟩
  have h4' : (4 : Int) ≤ n := by omega
  have HR := Lib.hid (show ¬ roomN n = 0 from by have := (room_fits (S := n) (by omega)).2; omega)
  go_wp2_with (go_at_call 23; refine (open_any g s n [] (downD n) w6 (down_ok n hn2) (by simp [downD, Dk.cut, Dk.new]) HD6.out).mono ?_; rw [down_open, if_neg HR.out]; rintro e w7 ⟨v, rfl, hv, _, hd, ho⟩; obtain rfl := hv.out (by simp); have HD7 := Lib.hid hd; have HO7 := Lib.hid (HO6.out.then ho (by intro i hi; right; simp at hi; have := HGE.out; omega)); clear hd ho hv; refine (fun (h : Hid _) => h.out) ?_)
  refine Lib.hid ?_
  clear HD6 HO6
  go_wp2_with (go_at_call 20; refine (up_any g s n [] (downD n) w7 HD7.out).mono ?_; rw [down_up]; rintro e w8 ⟨rfl, hd, ho⟩; have HD8 := Lib.hid hd; have HO8 := Lib.hid (HO7.out.then ho (by intro i hi; right; simp at hi; have := HGE.out; omega)); clear hd ho; refine (fun (h : Hid _) => h.out) ?_)
  refine Lib.hid ?_
  clear HD7 HO7
  go_wp2_with (go_at_call 23; refine (open_any g s n [] (Dk.new n) w8 (Dk.new_ok n hn2) (by simp [Dk.new]) HD8.out).mono ?_; rw [new_open n (by omega), new_len]; rintro e w9 ⟨v, rfl, _, hv, hd, ho⟩; obtain ⟨q, rfl, hq, hlg⟩ := hv.out rfl; have HLG := Lib.hid hlg; have HO9 := Lib.hid (HO8.out.then ho (by intro i hi; right; simp at hi; have := HGE.out; omega)); clear hd ho hv hq hlg; refine (fun (h : Hid _) => h.out) ?_)
  refine Lib.hid ?_
  obtain ⟨r, hr⟩ : ∃ r : Nat, r = roomN n := ⟨_, rfl⟩
  rw [← hr] at HLG
  have HRM := Lib.hid (show ∀ W, Calls Try.prog 9 #[.int .i64 (n : Int)] W fun e w' => e = .returned (.int .i64 r) ∧ w' = W from fun W => by
    have := room_any (n : Int) (by omega) (by omega) W
    rw [Int.toNat_natCast, ← hr] at this
    exact this)
  clear hr HR
  go_wp2_with (first
    | (go_at_call 26; refine (lsectors_any q g _ r false w9 HLG.out).mono ?_; rintro e w10 ⟨rfl, rfl⟩)
    | (go_at_call 9; refine (HRM.out _).mono ?_; rintro e w11 ⟨rfl, rfl⟩))
  go_ret
  exact ⟨rfl, HO9.out⟩
end Go.Proofs.Ytlngfelpmebemaa
