import Derived.Test.YtghpmpjoedbpcaaDoorJn3
import Derived.Below
import Derived.ChangeOld
import Derived.LaidLaws
import Derived.LaidOnce
import Derived.Lay
import Derived.Lib.LaidU8T
import Derived.OpenShut
import Derived.PinnedBridge
import Derived.ProofKit
import Derived.SevenTiedAt
import Derived.Shelf.Lay
import Derived.ShutString
import Derived.SizedLaws
import Derived.Test.YtghpmpjoedbpcaaDoorCards
import Derived.Test.YtghpmpjoedbpcaaDoorRows
import Derived.Test.YtghpmpjoedbpcaaDoorTie
import Derived.WalkKit
set_option linter.unusedVariables false
set_option linter.unusedSimpArgs false
namespace Go.Proofs.YtghpmpjoedbpcaaDoorW.PrintWords
end Go.Proofs.YtghpmpjoedbpcaaDoorW.PrintWords
namespace Go.Proofs.YtghpmpjoedbpcaaDoorW.PrintLast
end Go.Proofs.YtghpmpjoedbpcaaDoorW.PrintLast
namespace Go.Proofs.YtghpmpjoedbpcaaDoorW.PrintMore
end Go.Proofs.YtghpmpjoedbpcaaDoorW.PrintMore
/-! ### EJDone -/
namespace Go.Proofs.YtghpmpjoedbpcaaDoor.Print
open Go.RowKit Go.Proofs.YtghpmpjoedbpcaaDoorW.PrintWords Go.Proofs.YtghpmpjoedbpcaaDoorW.PrintLast Go.Proofs.YtghpmpjoedbpcaaDoorW.PrintMore
set_option linter.unusedSimpArgs false
set_option linter.unusedVariables false
/-- A journal that one owns, from a block on. -/
structure Own (w : World) (base : Nat) (A0 : Option Addr) (c0 : Nat) (A1 : Option Addr) (c1 : Nat) (j : Jn) : Prop where
  l : w.ownsRow base 27 6 (.slice A0 j.l.length c0) j.l.length (eRow j.l)
  q : w.ownsRow base 35 3 (.slice A1 j.q.length c1) j.q.length (qRow j.q)
theorem Own.only {S : List Nat} {w w' : World} {base : Nat} {A0 : Option Addr} {c0 : Nat} {A1 : Option Addr} {c1 : Nat} {j : Jn} (h : Own w base A0 c0 A1 c1 j) (ho : Only S w w') (hS : ∀ k, k ∈ S → k < base ∨ w.heap.size ≤ k) : Own w' base A0 c0 A1 c1 j :=
  ⟨ownsRow_only h.l ho (fun k hk hs => by have := ownsRow_lt h.l hk; rcases hS k hs with h | h <;> omega), ownsRow_only h.q ho (fun k hk hs => by have := ownsRow_lt h.q hk; rcases hS k hs with h | h <;> omega)⟩
theorem Own.rl {w : World} {base : Nat} {A0 : Option Addr} {c0 : Nat} {A1 : Option Addr} {c1 : Nat} {j : Jn} (h : Own w base A0 c0 A1 c1 j) : j.l.length ≤ c0 ∧ Kd.C k27 w A0 j.l.length j.l := own_e_reads h.l
theorem Own.rq {w : World} {base : Nat} {A0 : Option Addr} {c0 : Nat} {A1 : Option Addr} {c1 : Nat} {j : Jn} (h : Own w base A0 c0 A1 c1 j) : j.q.length ≤ c1 ∧ Kd.C k35 w A1 j.q.length j.q := own_q_reads h.q
theorem Own.mono {w : World} {base base' : Nat} {A0 : Option Addr} {c0 : Nat} {A1 : Option Addr} {c1 : Nat} {j : Jn} (h : Own w base A0 c0 A1 c1 j) (hb : base' ≤ base) : Own w base' A0 c0 A1 c1 j := ⟨ownsRow_mono h.l hb, ownsRow_mono h.q hb⟩
theorem Own.jr {w : World} {base : Nat} {A0 : Option Addr} {c0 : Nat} {A1 : Option Addr} {c1 : Nat} {j : Jn} (h : Own w base A0 c0 A1 c1 j) : JR w base (.agg #[.slice A0 j.l.length c0, .slice A1 j.q.length c1, .int .i64 j.g]) j.l j.q j.g := ⟨A0, c0, A1, c1, rfl, h.l, h.q⟩
set_option maxHeartbeats 8000000 in
set_option maxRecDepth 100000 in
theorem done_open (base : Nat) (A0 : Option Addr) (c0 : Nat) (A1 : Option Addr) (c1 : Nat) (j : Jn) (on : Int) (oe : S27) (w : World) (ho : Own w base A0 c0 A1 c1 j) (hb : base ≤ w.heap.size) (hT : Tabs w) (hj : Jok j) (he : oe.f3.size ≤ 200) :
    Calls Tryd.prog 17 #[.agg #[.slice A0 j.l.length c0, .slice A1 j.q.length c1, .int .i64 j.g], .agg #[.int .i64 0, .int .i64 on, .int .i64 oe.f0, .int .i64 oe.f1, .int .i64 oe.f2, .string oe.f3, .int .i64 oe.f4, .int .i64 oe.f5]] w fun x w' => ∃ v, x = .returned (.tuple #[v, .int .i64 (if (openJ j oe.f1 on).2 = 0 then (0 : Int) else (openJ j oe.f1 on).2)]) ∧ ((openJ j oe.f1 on).2 = 0 → JR w' base v (openJ j oe.f1 on).1.l (openJ j oe.f1 on).1.q (openJ j oe.f1 on).1.g) ∧ ((openJ j oe.f1 on).2 ≠ 0 → JR w' base v j.l j.q j.g) ∧ Below w.heap.size w w' := by
  obtain ⟨R, hR⟩ : ∃ R, R = openJ j oe.f1 on := ⟨_, rfl⟩
  rw [← hR]
  have HRR := Lib.hid hR
  clear hR
  have HOW := Lib.hid ho
  have HT := Lib.hid hT
  have HJ := Lib.hid hj
  have HE := Lib.hid he
  have HBS := Lib.hid hb
  clear ho hT hj he hb
  go_enter Tryd.func17, Tryd.ntmps17
  go_wp2_with (go_at_call 19; refine (fun (h : Hid _) => h.out) ?_)
  refine Lib.hid ?_
  have ha1 : Only [] w (w.alloc (.cells #[.slice A0 j.l.length c0, .slice A1 j.q.length c1, .int .i64 j.g] 25)) := (Only.refl [] w).alloc _
  have s1 : (w.alloc (.cells #[.slice A0 j.l.length c0, .slice A1 j.q.length c1, .int .i64 j.g] 25)).heap.size = w.heap.size + 1 := by simp
  have s2 : ((w.alloc (.cells #[.slice A0 j.l.length c0, .slice A1 j.q.length c1, .int .i64 j.g] 25)).alloc (.cells #[.int .i64 0, .int .i64 on, .int .i64 oe.f0, .int .i64 oe.f1, .int .i64 oe.f2, .string oe.f3, .int .i64 oe.f4, .int .i64 oe.f5] 43)).heap.size = w.heap.size + 2 := by simp
  have s3 : (((w.alloc (.cells #[.slice A0 j.l.length c0, .slice A1 j.q.length c1, .int .i64 j.g] 25)).alloc (.cells #[.int .i64 0, .int .i64 on, .int .i64 oe.f0, .int .i64 oe.f1, .int .i64 oe.f2, .string oe.f3, .int .i64 oe.f4, .int .i64 oe.f5] 43)).alloc (.cells #[.slice none 0 0, .slice none 0 0, .int .i64 0] 25)).heap.size = w.heap.size + 3 := by simp
  have HX0 := Lib.hid (show ((((w.alloc (.cells #[.slice A0 j.l.length c0, .slice A1 j.q.length c1, .int .i64 j.g] 25)).alloc (.cells #[.int .i64 0, .int .i64 on, .int .i64 oe.f0, .int .i64 oe.f1, .int .i64 oe.f2, .string oe.f3, .int .i64 oe.f4, .int .i64 oe.f5] 43)).alloc (.cells #[.slice none 0 0, .slice none 0 0, .int .i64 0] 25)).alloc (.cells #[.slice A0 j.l.length c0, .slice A1 j.q.length c1, .int .i64 j.g] 25)).heap[w.heap.size]? = some (.cells #[.slice A0 j.l.length c0, .slice A1 j.q.length c1, .int .i64 j.g] 25 (0, 0)) from (Below.heap_alloc _ _ _ (by rw [s3]; omega)).trans ((Below.heap_alloc _ _ _ (by rw [s2]; omega)).trans ((Below.heap_alloc _ _ _ (by rw [s1]; omega)).trans (heap_alloc_new _ _))))
  have HX1 := Lib.hid (show ((((w.alloc (.cells #[.slice A0 j.l.length c0, .slice A1 j.q.length c1, .int .i64 j.g] 25)).alloc (.cells #[.int .i64 0, .int .i64 on, .int .i64 oe.f0, .int .i64 oe.f1, .int .i64 oe.f2, .string oe.f3, .int .i64 oe.f4, .int .i64 oe.f5] 43)).alloc (.cells #[.slice none 0 0, .slice none 0 0, .int .i64 0] 25)).alloc (.cells #[.slice A0 j.l.length c0, .slice A1 j.q.length c1, .int .i64 j.g] 25)).heap[w.heap.size + 1]? = some (.cells #[.int .i64 0, .int .i64 on, .int .i64 oe.f0, .int .i64 oe.f1, .int .i64 oe.f2, .string oe.f3, .int .i64 oe.f4, .int .i64 oe.f5] 43 (0, 0)) from by
    have := heap_alloc_new (w.alloc (.cells #[.slice A0 j.l.length c0, .slice A1 j.q.length c1, .int .i64 j.g] 25)) (.cells #[.int .i64 0, .int .i64 on, .int .i64 oe.f0, .int .i64 oe.f1, .int .i64 oe.f2, .string oe.f3, .int .i64 oe.f4, .int .i64 oe.f5] 43)
    rw [s1] at this
    exact (Below.heap_alloc _ _ _ (by rw [s3]; omega)).trans ((Below.heap_alloc _ _ _ (by rw [s2]; omega)).trans this))
  have HX2 := Lib.hid (show ((((w.alloc (.cells #[.slice A0 j.l.length c0, .slice A1 j.q.length c1, .int .i64 j.g] 25)).alloc (.cells #[.int .i64 0, .int .i64 on, .int .i64 oe.f0, .int .i64 oe.f1, .int .i64 oe.f2, .string oe.f3, .int .i64 oe.f4, .int .i64 oe.f5] 43)).alloc (.cells #[.slice none 0 0, .slice none 0 0, .int .i64 0] 25)).alloc (.cells #[.slice A0 j.l.length c0, .slice A1 j.q.length c1, .int .i64 j.g] 25)).heap[w.heap.size + 2]? = some (.cells #[.slice none 0 0, .slice none 0 0, .int .i64 0] 25 (0, 0)) from by
    have := heap_alloc_new ((w.alloc (.cells #[.slice A0 j.l.length c0, .slice A1 j.q.length c1, .int .i64 j.g] 25)).alloc (.cells #[.int .i64 0, .int .i64 on, .int .i64 oe.f0, .int .i64 oe.f1, .int .i64 oe.f2, .string oe.f3, .int .i64 oe.f4, .int .i64 oe.f5] 43)) (.cells #[.slice none 0 0, .slice none 0 0, .int .i64 0] 25)
    rw [s2] at this
    exact (Below.heap_alloc _ _ _ (by rw [s3]; omega)).trans this)
  have HX3 := Lib.hid (show ((((w.alloc (.cells #[.slice A0 j.l.length c0, .slice A1 j.q.length c1, .int .i64 j.g] 25)).alloc (.cells #[.int .i64 0, .int .i64 on, .int .i64 oe.f0, .int .i64 oe.f1, .int .i64 oe.f2, .string oe.f3, .int .i64 oe.f4, .int .i64 oe.f5] 43)).alloc (.cells #[.slice none 0 0, .slice none 0 0, .int .i64 0] 25)).alloc (.cells #[.slice A0 j.l.length c0, .slice A1 j.q.length c1, .int .i64 j.g] 25)).heap[w.heap.size + 3]? = some (.cells #[.slice A0 j.l.length c0, .slice A1 j.q.length c1, .int .i64 j.g] 25 (0, 0)) from by
    have := heap_alloc_new (((w.alloc (.cells #[.slice A0 j.l.length c0, .slice A1 j.q.length c1, .int .i64 j.g] 25)).alloc (.cells #[.int .i64 0, .int .i64 on, .int .i64 oe.f0, .int .i64 oe.f1, .int .i64 oe.f2, .string oe.f3, .int .i64 oe.f4, .int .i64 oe.f5] 43)).alloc (.cells #[.slice none 0 0, .slice none 0 0, .int .i64 0] 25)) (.cells #[.slice A0 j.l.length c0, .slice A1 j.q.length c1, .int .i64 j.g] 25)
    rw [s3] at this
    exact this)
  have HO0 := Lib.hid (((((Only.refl [] w).alloc (.cells #[.slice A0 j.l.length c0, .slice A1 j.q.length c1, .int .i64 j.g] 25)).alloc (.cells #[.int .i64 0, .int .i64 on, .int .i64 oe.f0, .int .i64 oe.f1, .int .i64 oe.f2, .string oe.f3, .int .i64 oe.f4, .int .i64 oe.f5] 43)).alloc (.cells #[.slice none 0 0, .slice none 0 0, .int .i64 0] 25)).alloc (.cells #[.slice A0 j.l.length c0, .slice A1 j.q.length c1, .int .i64 j.g] 25))
  clear ha1 s1 s2 s3
  generalize (((w.alloc (.cells #[.slice A0 j.l.length c0, .slice A1 j.q.length c1, .int .i64 j.g] 25)).alloc (.cells #[.int .i64 0, .int .i64 on, .int .i64 oe.f0, .int .i64 oe.f1, .int .i64 oe.f2, .string oe.f3, .int .i64 oe.f4, .int .i64 oe.f5] 43)).alloc (.cells #[.slice none 0 0, .slice none 0 0, .int .i64 0] 25)).alloc (.cells #[.slice A0 j.l.length c0, .slice A1 j.q.length c1, .int .i64 j.g] 25) = W0 at *
  generalize hwb : w.heap.size = wb at *
  have HBB := Lib.hid hwb
  clear hwb
  have HOW0 := Lib.hid (HOW.out.only HO0.out (by simp))
  have hri := open_calls A0 c0 A1 c1 j oe.f1 on W0 HOW0.out.rl HOW0.out.rq (HT.out.below HO0.out.nil_below) HJ.out
  rw [← HRR.out] at hri
  refine hri.mono ?_
  rintro x W1 ⟨v, rfl, hjr, hb1⟩
  have HB1 := Lib.hid (Only.of_below hb1)
  have HJR := Lib.hid (hjr.mono (show base ≤ W0.heap.size from Nat.le_trans HBS.out (by have := HO0.out.size; rw [← HBB.out]; exact this)))
  have HW0S := Lib.hid (show wb + 3 < W0.heap.size from heap_lt HX3.out)
  have HJN := Lib.hid (show JR W1 W0.heap.size v _ _ _ from hjr)
  clear hjr hb1 hri HRR
  have HY0 := Lib.hid (HB1.out.heap HX0.out (by simp))
  have HY2 := Lib.hid (HB1.out.heap HX2.out (by simp))
  have HY3 := Lib.hid (HB1.out.heap HX3.out (by simp))
  have HW1 := Lib.hid (HO0.out.trans HB1.out)
  clear HX0 HX1 HX2 HX3 HO0 HOW0 HB1
  obtain ⟨⟨rl, rq, rg⟩, re⟩ := R
  have hjr : JR W1 W0.heap.size v rl rq rg := HJN.out
  clear HJN HJR
  obtain ⟨E0, k0, E1, k1, rfl, hE0, hE1⟩ := hjr
  have HEO := Lib.hid (show Own W1 W0.heap.size E0 k0 E1 k1 ⟨rl, rq, rg⟩ from ⟨hE0, hE1⟩)
  clear hE0 hE1
  go_wp2_with (first
    | (with_reducible refine wpList_store_new rfl 25 (.tmp 6) (.tmp 21) rfl (wb + 3) #[.slice E0 rl.length k0, .slice E1 rq.length k1, .int .i64 rg] rfl rfl 25 _ HY3.out (size3_25 _ _ _) rfl (by simp [Value.oneCell']) ?_; intro W2 hh ho; have HV := Lib.hid hh.out; have HOs := Lib.hid ho; clear hh ho; refine (fun (h : Hid _) => h.out) ?_))
  refine Lib.hid ?_
  have HZ0 := Lib.hid (HOs.out.heap HY0.out (by simp))
  have HZ2 := Lib.hid (HOs.out.heap HY2.out (by simp))
  have HEO2 := Lib.hid (HEO.out.only HOs.out (fun k hk => .inl (by simp at hk; subst hk; exact HW0S.out)))
  have HW2 := Lib.hid (HW1.out.then HOs.out (fun k hk => .inr (by simp at hk; subst hk; have := HBB.out; omega)))
  clear HOs HY0 HY2 HY3 HEO HW1
  by_cases h0 : re = 0
  · subst h0
    go_wp2_with (first
      | (with_reducible refine wpList_load_at rfl 25 (.tmp 6) rfl ⟨wb + 3, 0, none⟩ rfl _ _ (cellsAt_row HV.out) Tryd.underlying25 rfl (by kernel_rfl) ?_)
      | (with_reducible refine wpList_store_new rfl 25 (.tmp 4) (.tmp 64) rfl (wb + 2) #[.slice E0 rl.length k0, .slice E1 rq.length k1, .int .i64 rg] rfl rfl 25 _ HZ2.out (size3_25 _ _ _) rfl (by simp [Value.oneCell']) ?_; intro w9 hh9 ho9))
    refine bodyPost_ret (results_row rfl _ _ (wb + 2) _ _ _ _ rfl hh9.out Tryd.underlying25 rfl (size3_25 _ _ _)) rfl ?_
    have hz9 := ((HW2.out.mono (T := [wb + 2]) (by simp)).trans ho9).pop (show w.heap.size ≤ wb + 2 by rw [HBB.out]; omega)
    refine ⟨_, rfl, ?_, hz9.nil_below⟩
    exact ((HEO2.out.only ho9 (fun k hk => .inl (by simp at hk; subst hk; have := HW0S.out; omega))).mono (by have := HBS.out; have := HBB.out; have := HW0S.out; omega)).jr
  · have h0' : (re == 0) = false := by rw [beq_eq_false_iff_ne]; exact h0
    go_wp2_with (first
      | (with_reducible refine wpList_load_at rfl 25 (.tmp 2) rfl ⟨wb, 0, none⟩ rfl _ _ (cellsAt_row HZ0.out) Tryd.underlying25 rfl (by kernel_rfl) ?_)
      | (with_reducible refine wpList_store_new rfl 25 (.tmp 4) (.tmp 62) rfl (wb + 2) #[.slice A0 j.l.length c0, .slice A1 j.q.length c1, .int .i64 j.g] rfl rfl 25 _ HZ2.out (size3_25 _ _ _) rfl (by simp [Value.oneCell']) ?_; intro w9 hh9 ho9))
    refine bodyPost_ret (results_row rfl _ _ (wb + 2) _ _ _ _ rfl hh9.out Tryd.underlying25 rfl (size3_25 _ _ _)) rfl ?_
    have hz9 := ((HW2.out.mono (T := [wb + 2]) (by simp)).trans ho9).pop (show w.heap.size ≤ wb + 2 by rw [HBB.out]; omega)
    refine ⟨_, rfl, (HOW.out.only hz9 (by simp)).jr, hz9.nil_below⟩
set_option maxHeartbeats 8000000 in
set_option maxRecDepth 100000 in
theorem done_close (base : Nat) (A0 : Option Addr) (c0 : Nat) (A1 : Option Addr) (c1 : Nat) (j : Jn) (on : Int) (oe : S27) (w : World) (ho : Own w base A0 c0 A1 c1 j) (hb : base ≤ w.heap.size) (hT : Tabs w) (hj : Jok j) (he : oe.f3.size ≤ 200) :
    Calls Tryd.prog 17 #[.agg #[.slice A0 j.l.length c0, .slice A1 j.q.length c1, .int .i64 j.g], .agg #[.int .i64 1, .int .i64 on, .int .i64 oe.f0, .int .i64 oe.f1, .int .i64 oe.f2, .string oe.f3, .int .i64 oe.f4, .int .i64 oe.f5]] w fun x w' => ∃ v, x = .returned (.tuple #[v, .int .i64 (if (closeJ j oe.f1).2 = 0 then (0 : Int) else (closeJ j oe.f1).2)]) ∧ ((closeJ j oe.f1).2 = 0 → JR w' base v (closeJ j oe.f1).1.l (closeJ j oe.f1).1.q (closeJ j oe.f1).1.g) ∧ ((closeJ j oe.f1).2 ≠ 0 → JR w' base v j.l j.q j.g) ∧ Below w.heap.size w w' := by
  obtain ⟨R, hR⟩ : ∃ R, R = closeJ j oe.f1 := ⟨_, rfl⟩
  rw [← hR]
  have HRR := Lib.hid hR
  clear hR
  have HOW := Lib.hid ho
  have HT := Lib.hid hT
  have HJ := Lib.hid hj
  have HE := Lib.hid he
  have HBS := Lib.hid hb
  clear ho hT hj he hb
  go_enter Tryd.func17, Tryd.ntmps17
  go_wp2_with (go_at_call 21; refine (fun (h : Hid _) => h.out) ?_)
  refine Lib.hid ?_
  have ha1 : Only [] w (w.alloc (.cells #[.slice A0 j.l.length c0, .slice A1 j.q.length c1, .int .i64 j.g] 25)) := (Only.refl [] w).alloc _
  have s1 : (w.alloc (.cells #[.slice A0 j.l.length c0, .slice A1 j.q.length c1, .int .i64 j.g] 25)).heap.size = w.heap.size + 1 := by simp
  have s2 : ((w.alloc (.cells #[.slice A0 j.l.length c0, .slice A1 j.q.length c1, .int .i64 j.g] 25)).alloc (.cells #[.int .i64 1, .int .i64 on, .int .i64 oe.f0, .int .i64 oe.f1, .int .i64 oe.f2, .string oe.f3, .int .i64 oe.f4, .int .i64 oe.f5] 43)).heap.size = w.heap.size + 2 := by simp
  have s3 : (((w.alloc (.cells #[.slice A0 j.l.length c0, .slice A1 j.q.length c1, .int .i64 j.g] 25)).alloc (.cells #[.int .i64 1, .int .i64 on, .int .i64 oe.f0, .int .i64 oe.f1, .int .i64 oe.f2, .string oe.f3, .int .i64 oe.f4, .int .i64 oe.f5] 43)).alloc (.cells #[.slice none 0 0, .slice none 0 0, .int .i64 0] 25)).heap.size = w.heap.size + 3 := by simp
  have HX0 := Lib.hid (show ((((w.alloc (.cells #[.slice A0 j.l.length c0, .slice A1 j.q.length c1, .int .i64 j.g] 25)).alloc (.cells #[.int .i64 1, .int .i64 on, .int .i64 oe.f0, .int .i64 oe.f1, .int .i64 oe.f2, .string oe.f3, .int .i64 oe.f4, .int .i64 oe.f5] 43)).alloc (.cells #[.slice none 0 0, .slice none 0 0, .int .i64 0] 25)).alloc (.cells #[.slice A0 j.l.length c0, .slice A1 j.q.length c1, .int .i64 j.g] 25)).heap[w.heap.size]? = some (.cells #[.slice A0 j.l.length c0, .slice A1 j.q.length c1, .int .i64 j.g] 25 (0, 0)) from (Below.heap_alloc _ _ _ (by rw [s3]; omega)).trans ((Below.heap_alloc _ _ _ (by rw [s2]; omega)).trans ((Below.heap_alloc _ _ _ (by rw [s1]; omega)).trans (heap_alloc_new _ _))))
  have HX1 := Lib.hid (show ((((w.alloc (.cells #[.slice A0 j.l.length c0, .slice A1 j.q.length c1, .int .i64 j.g] 25)).alloc (.cells #[.int .i64 1, .int .i64 on, .int .i64 oe.f0, .int .i64 oe.f1, .int .i64 oe.f2, .string oe.f3, .int .i64 oe.f4, .int .i64 oe.f5] 43)).alloc (.cells #[.slice none 0 0, .slice none 0 0, .int .i64 0] 25)).alloc (.cells #[.slice A0 j.l.length c0, .slice A1 j.q.length c1, .int .i64 j.g] 25)).heap[w.heap.size + 1]? = some (.cells #[.int .i64 1, .int .i64 on, .int .i64 oe.f0, .int .i64 oe.f1, .int .i64 oe.f2, .string oe.f3, .int .i64 oe.f4, .int .i64 oe.f5] 43 (0, 0)) from by
    have := heap_alloc_new (w.alloc (.cells #[.slice A0 j.l.length c0, .slice A1 j.q.length c1, .int .i64 j.g] 25)) (.cells #[.int .i64 1, .int .i64 on, .int .i64 oe.f0, .int .i64 oe.f1, .int .i64 oe.f2, .string oe.f3, .int .i64 oe.f4, .int .i64 oe.f5] 43)
    rw [s1] at this
    exact (Below.heap_alloc _ _ _ (by rw [s3]; omega)).trans ((Below.heap_alloc _ _ _ (by rw [s2]; omega)).trans this))
  have HX2 := Lib.hid (show ((((w.alloc (.cells #[.slice A0 j.l.length c0, .slice A1 j.q.length c1, .int .i64 j.g] 25)).alloc (.cells #[.int .i64 1, .int .i64 on, .int .i64 oe.f0, .int .i64 oe.f1, .int .i64 oe.f2, .string oe.f3, .int .i64 oe.f4, .int .i64 oe.f5] 43)).alloc (.cells #[.slice none 0 0, .slice none 0 0, .int .i64 0] 25)).alloc (.cells #[.slice A0 j.l.length c0, .slice A1 j.q.length c1, .int .i64 j.g] 25)).heap[w.heap.size + 2]? = some (.cells #[.slice none 0 0, .slice none 0 0, .int .i64 0] 25 (0, 0)) from by
    have := heap_alloc_new ((w.alloc (.cells #[.slice A0 j.l.length c0, .slice A1 j.q.length c1, .int .i64 j.g] 25)).alloc (.cells #[.int .i64 1, .int .i64 on, .int .i64 oe.f0, .int .i64 oe.f1, .int .i64 oe.f2, .string oe.f3, .int .i64 oe.f4, .int .i64 oe.f5] 43)) (.cells #[.slice none 0 0, .slice none 0 0, .int .i64 0] 25)
    rw [s2] at this
    exact (Below.heap_alloc _ _ _ (by rw [s3]; omega)).trans this)
  have HX3 := Lib.hid (show ((((w.alloc (.cells #[.slice A0 j.l.length c0, .slice A1 j.q.length c1, .int .i64 j.g] 25)).alloc (.cells #[.int .i64 1, .int .i64 on, .int .i64 oe.f0, .int .i64 oe.f1, .int .i64 oe.f2, .string oe.f3, .int .i64 oe.f4, .int .i64 oe.f5] 43)).alloc (.cells #[.slice none 0 0, .slice none 0 0, .int .i64 0] 25)).alloc (.cells #[.slice A0 j.l.length c0, .slice A1 j.q.length c1, .int .i64 j.g] 25)).heap[w.heap.size + 3]? = some (.cells #[.slice A0 j.l.length c0, .slice A1 j.q.length c1, .int .i64 j.g] 25 (0, 0)) from by
    have := heap_alloc_new (((w.alloc (.cells #[.slice A0 j.l.length c0, .slice A1 j.q.length c1, .int .i64 j.g] 25)).alloc (.cells #[.int .i64 1, .int .i64 on, .int .i64 oe.f0, .int .i64 oe.f1, .int .i64 oe.f2, .string oe.f3, .int .i64 oe.f4, .int .i64 oe.f5] 43)).alloc (.cells #[.slice none 0 0, .slice none 0 0, .int .i64 0] 25)) (.cells #[.slice A0 j.l.length c0, .slice A1 j.q.length c1, .int .i64 j.g] 25)
    rw [s3] at this
    exact this)
  have HO0 := Lib.hid (((((Only.refl [] w).alloc (.cells #[.slice A0 j.l.length c0, .slice A1 j.q.length c1, .int .i64 j.g] 25)).alloc (.cells #[.int .i64 1, .int .i64 on, .int .i64 oe.f0, .int .i64 oe.f1, .int .i64 oe.f2, .string oe.f3, .int .i64 oe.f4, .int .i64 oe.f5] 43)).alloc (.cells #[.slice none 0 0, .slice none 0 0, .int .i64 0] 25)).alloc (.cells #[.slice A0 j.l.length c0, .slice A1 j.q.length c1, .int .i64 j.g] 25))
  clear ha1 s1 s2 s3
  generalize (((w.alloc (.cells #[.slice A0 j.l.length c0, .slice A1 j.q.length c1, .int .i64 j.g] 25)).alloc (.cells #[.int .i64 1, .int .i64 on, .int .i64 oe.f0, .int .i64 oe.f1, .int .i64 oe.f2, .string oe.f3, .int .i64 oe.f4, .int .i64 oe.f5] 43)).alloc (.cells #[.slice none 0 0, .slice none 0 0, .int .i64 0] 25)).alloc (.cells #[.slice A0 j.l.length c0, .slice A1 j.q.length c1, .int .i64 j.g] 25) = W0 at *
  generalize hwb : w.heap.size = wb at *
  have HBB := Lib.hid hwb
  clear hwb
  have HOW0 := Lib.hid (HOW.out.only HO0.out (by simp))
  have hri := close_calls A0 c0 A1 c1 j oe.f1 W0 HOW0.out.rl HOW0.out.rq (HT.out.below HO0.out.nil_below) HJ.out
  rw [← HRR.out] at hri
  refine hri.mono ?_
  rintro x W1 ⟨v, rfl, hjr, hb1⟩
  have HB1 := Lib.hid (Only.of_below hb1)
  have HJR := Lib.hid (hjr.mono (show base ≤ W0.heap.size from Nat.le_trans HBS.out (by have := HO0.out.size; rw [← HBB.out]; exact this)))
  have HW0S := Lib.hid (show wb + 3 < W0.heap.size from heap_lt HX3.out)
  have HJN := Lib.hid (show JR W1 W0.heap.size v _ _ _ from hjr)
  clear hjr hb1 hri HRR
  have HY0 := Lib.hid (HB1.out.heap HX0.out (by simp))
  have HY2 := Lib.hid (HB1.out.heap HX2.out (by simp))
  have HY3 := Lib.hid (HB1.out.heap HX3.out (by simp))
  have HW1 := Lib.hid (HO0.out.trans HB1.out)
  clear HX0 HX1 HX2 HX3 HO0 HOW0 HB1
  obtain ⟨⟨rl, rq, rg⟩, re⟩ := R
  have hjr : JR W1 W0.heap.size v rl rq rg := HJN.out
  clear HJN HJR
  obtain ⟨E0, k0, E1, k1, rfl, hE0, hE1⟩ := hjr
  have HEO := Lib.hid (show Own W1 W0.heap.size E0 k0 E1 k1 ⟨rl, rq, rg⟩ from ⟨hE0, hE1⟩)
  clear hE0 hE1
  go_wp2_with (first
    | (with_reducible refine wpList_store_new rfl 25 (.tmp 6) (.tmp 31) rfl (wb + 3) #[.slice E0 rl.length k0, .slice E1 rq.length k1, .int .i64 rg] rfl rfl 25 _ HY3.out (size3_25 _ _ _) rfl (by simp [Value.oneCell']) ?_; intro W2 hh ho; have HV := Lib.hid hh.out; have HOs := Lib.hid ho; clear hh ho; refine (fun (h : Hid _) => h.out) ?_))
  refine Lib.hid ?_
  have HZ0 := Lib.hid (HOs.out.heap HY0.out (by simp))
  have HZ2 := Lib.hid (HOs.out.heap HY2.out (by simp))
  have HEO2 := Lib.hid (HEO.out.only HOs.out (fun k hk => .inl (by simp at hk; subst hk; exact HW0S.out)))
  have HW2 := Lib.hid (HW1.out.then HOs.out (fun k hk => .inr (by simp at hk; subst hk; have := HBB.out; omega)))
  clear HOs HY0 HY2 HY3 HEO HW1
  by_cases h0 : re = 0
  · subst h0
    go_wp2_with (first
      | (with_reducible refine wpList_load_at rfl 25 (.tmp 6) rfl ⟨wb + 3, 0, none⟩ rfl _ _ (cellsAt_row HV.out) Tryd.underlying25 rfl (by kernel_rfl) ?_)
      | (with_reducible refine wpList_store_new rfl 25 (.tmp 4) (.tmp 64) rfl (wb + 2) #[.slice E0 rl.length k0, .slice E1 rq.length k1, .int .i64 rg] rfl rfl 25 _ HZ2.out (size3_25 _ _ _) rfl (by simp [Value.oneCell']) ?_; intro w9 hh9 ho9))
    refine bodyPost_ret (results_row rfl _ _ (wb + 2) _ _ _ _ rfl hh9.out Tryd.underlying25 rfl (size3_25 _ _ _)) rfl ?_
    have hz9 := ((HW2.out.mono (T := [wb + 2]) (by simp)).trans ho9).pop (show w.heap.size ≤ wb + 2 by rw [HBB.out]; omega)
    refine ⟨_, rfl, ?_, hz9.nil_below⟩
    exact ((HEO2.out.only ho9 (fun k hk => .inl (by simp at hk; subst hk; have := HW0S.out; omega))).mono (by have := HBS.out; have := HBB.out; have := HW0S.out; omega)).jr
  · have h0' : (re == 0) = false := by rw [beq_eq_false_iff_ne]; exact h0
    go_wp2_with (first
      | (with_reducible refine wpList_load_at rfl 25 (.tmp 2) rfl ⟨wb, 0, none⟩ rfl _ _ (cellsAt_row HZ0.out) Tryd.underlying25 rfl (by kernel_rfl) ?_)
      | (with_reducible refine wpList_store_new rfl 25 (.tmp 4) (.tmp 62) rfl (wb + 2) #[.slice A0 j.l.length c0, .slice A1 j.q.length c1, .int .i64 j.g] rfl rfl 25 _ HZ2.out (size3_25 _ _ _) rfl (by simp [Value.oneCell']) ?_; intro w9 hh9 ho9))
    refine bodyPost_ret (results_row rfl _ _ (wb + 2) _ _ _ _ rfl hh9.out Tryd.underlying25 rfl (size3_25 _ _ _)) rfl ?_
    have hz9 := ((HW2.out.mono (T := [wb + 2]) (by simp)).trans ho9).pop (show w.heap.size ≤ wb + 2 by rw [HBB.out]; omega)
    refine ⟨_, rfl, (HOW.out.only hz9 (by simp)).jr, hz9.nil_below⟩
set_option maxHeartbeats 8000000 in
set_option maxRecDepth 100000 in
theorem done_add (base : Nat) (A0 : Option Addr) (c0 : Nat) (A1 : Option Addr) (c1 : Nat) (j : Jn) (on : Int) (oe : S27) (w : World) (ho : Own w base A0 c0 A1 c1 j) (hb : base ≤ w.heap.size) (hT : Tabs w) (hj : Jok j) (he : oe.f3.size ≤ 200) :
    Calls Tryd.prog 17 #[.agg #[.slice A0 j.l.length c0, .slice A1 j.q.length c1, .int .i64 j.g], .agg #[.int .i64 2, .int .i64 on, .int .i64 oe.f0, .int .i64 oe.f1, .int .i64 oe.f2, .string oe.f3, .int .i64 oe.f4, .int .i64 oe.f5]] w fun x w' => ∃ v, x = .returned (.tuple #[v, .int .i64 (if (addJ j oe).2 = 0 then (0 : Int) else (addJ j oe).2)]) ∧ ((addJ j oe).2 = 0 → JR w' base v (addJ j oe).1.l (addJ j oe).1.q (addJ j oe).1.g) ∧ ((addJ j oe).2 ≠ 0 → JR w' base v j.l j.q j.g) ∧ Below w.heap.size w w' := by
  obtain ⟨R, hR⟩ : ∃ R, R = addJ j oe := ⟨_, rfl⟩
  rw [← hR]
  have HRR := Lib.hid hR
  clear hR
  have HOW := Lib.hid ho
  have HT := Lib.hid hT
  have HJ := Lib.hid hj
  have HE := Lib.hid he
  have HBS := Lib.hid hb
  clear ho hT hj he hb
  go_enter Tryd.func17, Tryd.ntmps17
  go_wp2_with (go_at_call 10; refine (fun (h : Hid _) => h.out) ?_)
  refine Lib.hid ?_
  have ha1 : Only [] w (w.alloc (.cells #[.slice A0 j.l.length c0, .slice A1 j.q.length c1, .int .i64 j.g] 25)) := (Only.refl [] w).alloc _
  have s1 : (w.alloc (.cells #[.slice A0 j.l.length c0, .slice A1 j.q.length c1, .int .i64 j.g] 25)).heap.size = w.heap.size + 1 := by simp
  have s2 : ((w.alloc (.cells #[.slice A0 j.l.length c0, .slice A1 j.q.length c1, .int .i64 j.g] 25)).alloc (.cells #[.int .i64 2, .int .i64 on, .int .i64 oe.f0, .int .i64 oe.f1, .int .i64 oe.f2, .string oe.f3, .int .i64 oe.f4, .int .i64 oe.f5] 43)).heap.size = w.heap.size + 2 := by simp
  have s3 : (((w.alloc (.cells #[.slice A0 j.l.length c0, .slice A1 j.q.length c1, .int .i64 j.g] 25)).alloc (.cells #[.int .i64 2, .int .i64 on, .int .i64 oe.f0, .int .i64 oe.f1, .int .i64 oe.f2, .string oe.f3, .int .i64 oe.f4, .int .i64 oe.f5] 43)).alloc (.cells #[.slice none 0 0, .slice none 0 0, .int .i64 0] 25)).heap.size = w.heap.size + 3 := by simp
  have HX0 := Lib.hid (show ((((w.alloc (.cells #[.slice A0 j.l.length c0, .slice A1 j.q.length c1, .int .i64 j.g] 25)).alloc (.cells #[.int .i64 2, .int .i64 on, .int .i64 oe.f0, .int .i64 oe.f1, .int .i64 oe.f2, .string oe.f3, .int .i64 oe.f4, .int .i64 oe.f5] 43)).alloc (.cells #[.slice none 0 0, .slice none 0 0, .int .i64 0] 25)).alloc (.cells #[.slice A0 j.l.length c0, .slice A1 j.q.length c1, .int .i64 j.g] 25)).heap[w.heap.size]? = some (.cells #[.slice A0 j.l.length c0, .slice A1 j.q.length c1, .int .i64 j.g] 25 (0, 0)) from (Below.heap_alloc _ _ _ (by rw [s3]; omega)).trans ((Below.heap_alloc _ _ _ (by rw [s2]; omega)).trans ((Below.heap_alloc _ _ _ (by rw [s1]; omega)).trans (heap_alloc_new _ _))))
  have HX1 := Lib.hid (show ((((w.alloc (.cells #[.slice A0 j.l.length c0, .slice A1 j.q.length c1, .int .i64 j.g] 25)).alloc (.cells #[.int .i64 2, .int .i64 on, .int .i64 oe.f0, .int .i64 oe.f1, .int .i64 oe.f2, .string oe.f3, .int .i64 oe.f4, .int .i64 oe.f5] 43)).alloc (.cells #[.slice none 0 0, .slice none 0 0, .int .i64 0] 25)).alloc (.cells #[.slice A0 j.l.length c0, .slice A1 j.q.length c1, .int .i64 j.g] 25)).heap[w.heap.size + 1]? = some (.cells #[.int .i64 2, .int .i64 on, .int .i64 oe.f0, .int .i64 oe.f1, .int .i64 oe.f2, .string oe.f3, .int .i64 oe.f4, .int .i64 oe.f5] 43 (0, 0)) from by
    have := heap_alloc_new (w.alloc (.cells #[.slice A0 j.l.length c0, .slice A1 j.q.length c1, .int .i64 j.g] 25)) (.cells #[.int .i64 2, .int .i64 on, .int .i64 oe.f0, .int .i64 oe.f1, .int .i64 oe.f2, .string oe.f3, .int .i64 oe.f4, .int .i64 oe.f5] 43)
    rw [s1] at this
    exact (Below.heap_alloc _ _ _ (by rw [s3]; omega)).trans ((Below.heap_alloc _ _ _ (by rw [s2]; omega)).trans this))
  have HX2 := Lib.hid (show ((((w.alloc (.cells #[.slice A0 j.l.length c0, .slice A1 j.q.length c1, .int .i64 j.g] 25)).alloc (.cells #[.int .i64 2, .int .i64 on, .int .i64 oe.f0, .int .i64 oe.f1, .int .i64 oe.f2, .string oe.f3, .int .i64 oe.f4, .int .i64 oe.f5] 43)).alloc (.cells #[.slice none 0 0, .slice none 0 0, .int .i64 0] 25)).alloc (.cells #[.slice A0 j.l.length c0, .slice A1 j.q.length c1, .int .i64 j.g] 25)).heap[w.heap.size + 2]? = some (.cells #[.slice none 0 0, .slice none 0 0, .int .i64 0] 25 (0, 0)) from by
    have := heap_alloc_new ((w.alloc (.cells #[.slice A0 j.l.length c0, .slice A1 j.q.length c1, .int .i64 j.g] 25)).alloc (.cells #[.int .i64 2, .int .i64 on, .int .i64 oe.f0, .int .i64 oe.f1, .int .i64 oe.f2, .string oe.f3, .int .i64 oe.f4, .int .i64 oe.f5] 43)) (.cells #[.slice none 0 0, .slice none 0 0, .int .i64 0] 25)
    rw [s2] at this
    exact (Below.heap_alloc _ _ _ (by rw [s3]; omega)).trans this)
  have HX3 := Lib.hid (show ((((w.alloc (.cells #[.slice A0 j.l.length c0, .slice A1 j.q.length c1, .int .i64 j.g] 25)).alloc (.cells #[.int .i64 2, .int .i64 on, .int .i64 oe.f0, .int .i64 oe.f1, .int .i64 oe.f2, .string oe.f3, .int .i64 oe.f4, .int .i64 oe.f5] 43)).alloc (.cells #[.slice none 0 0, .slice none 0 0, .int .i64 0] 25)).alloc (.cells #[.slice A0 j.l.length c0, .slice A1 j.q.length c1, .int .i64 j.g] 25)).heap[w.heap.size + 3]? = some (.cells #[.slice A0 j.l.length c0, .slice A1 j.q.length c1, .int .i64 j.g] 25 (0, 0)) from by
    have := heap_alloc_new (((w.alloc (.cells #[.slice A0 j.l.length c0, .slice A1 j.q.length c1, .int .i64 j.g] 25)).alloc (.cells #[.int .i64 2, .int .i64 on, .int .i64 oe.f0, .int .i64 oe.f1, .int .i64 oe.f2, .string oe.f3, .int .i64 oe.f4, .int .i64 oe.f5] 43)).alloc (.cells #[.slice none 0 0, .slice none 0 0, .int .i64 0] 25)) (.cells #[.slice A0 j.l.length c0, .slice A1 j.q.length c1, .int .i64 j.g] 25)
    rw [s3] at this
    exact this)
  have HO0 := Lib.hid (((((Only.refl [] w).alloc (.cells #[.slice A0 j.l.length c0, .slice A1 j.q.length c1, .int .i64 j.g] 25)).alloc (.cells #[.int .i64 2, .int .i64 on, .int .i64 oe.f0, .int .i64 oe.f1, .int .i64 oe.f2, .string oe.f3, .int .i64 oe.f4, .int .i64 oe.f5] 43)).alloc (.cells #[.slice none 0 0, .slice none 0 0, .int .i64 0] 25)).alloc (.cells #[.slice A0 j.l.length c0, .slice A1 j.q.length c1, .int .i64 j.g] 25))
  clear ha1 s1 s2 s3
  generalize (((w.alloc (.cells #[.slice A0 j.l.length c0, .slice A1 j.q.length c1, .int .i64 j.g] 25)).alloc (.cells #[.int .i64 2, .int .i64 on, .int .i64 oe.f0, .int .i64 oe.f1, .int .i64 oe.f2, .string oe.f3, .int .i64 oe.f4, .int .i64 oe.f5] 43)).alloc (.cells #[.slice none 0 0, .slice none 0 0, .int .i64 0] 25)).alloc (.cells #[.slice A0 j.l.length c0, .slice A1 j.q.length c1, .int .i64 j.g] 25) = W0 at *
  generalize hwb : w.heap.size = wb at *
  have HBB := Lib.hid hwb
  clear hwb
  have HOW0 := Lib.hid (HOW.out.only HO0.out (by simp))
  have hri := add_calls A0 c0 A1 c1 j oe W0 HOW0.out.rl HOW0.out.rq (HT.out.below HO0.out.nil_below) HJ.out (by have := HE.out; omega)
  rw [← HRR.out] at hri
  refine hri.mono ?_
  rintro x W1 ⟨v, rfl, hjr, hb1⟩
  have HB1 := Lib.hid (Only.of_below hb1)
  have HJR := Lib.hid (hjr.mono (show base ≤ W0.heap.size from Nat.le_trans HBS.out (by have := HO0.out.size; rw [← HBB.out]; exact this)))
  have HW0S := Lib.hid (show wb + 3 < W0.heap.size from heap_lt HX3.out)
  have HJN := Lib.hid (show JR W1 W0.heap.size v _ _ _ from hjr)
  clear hjr hb1 hri HRR
  have HY0 := Lib.hid (HB1.out.heap HX0.out (by simp))
  have HY2 := Lib.hid (HB1.out.heap HX2.out (by simp))
  have HY3 := Lib.hid (HB1.out.heap HX3.out (by simp))
  have HW1 := Lib.hid (HO0.out.trans HB1.out)
  clear HX0 HX1 HX2 HX3 HO0 HOW0 HB1
  obtain ⟨⟨rl, rq, rg⟩, re⟩ := R
  have hjr : JR W1 W0.heap.size v rl rq rg := HJN.out
  clear HJN HJR
  obtain ⟨E0, k0, E1, k1, rfl, hE0, hE1⟩ := hjr
  have HEO := Lib.hid (show Own W1 W0.heap.size E0 k0 E1 k1 ⟨rl, rq, rg⟩ from ⟨hE0, hE1⟩)
  clear hE0 hE1
  go_wp2_with (first
    | (with_reducible refine wpList_store_new rfl 25 (.tmp 6) (.tmp 40) rfl (wb + 3) #[.slice E0 rl.length k0, .slice E1 rq.length k1, .int .i64 rg] rfl rfl 25 _ HY3.out (size3_25 _ _ _) rfl (by simp [Value.oneCell']) ?_; intro W2 hh ho; have HV := Lib.hid hh.out; have HOs := Lib.hid ho; clear hh ho; refine (fun (h : Hid _) => h.out) ?_))
  refine Lib.hid ?_
  have HZ0 := Lib.hid (HOs.out.heap HY0.out (by simp))
  have HZ2 := Lib.hid (HOs.out.heap HY2.out (by simp))
  have HEO2 := Lib.hid (HEO.out.only HOs.out (fun k hk => .inl (by simp at hk; subst hk; exact HW0S.out)))
  have HW2 := Lib.hid (HW1.out.then HOs.out (fun k hk => .inr (by simp at hk; subst hk; have := HBB.out; omega)))
  clear HOs HY0 HY2 HY3 HEO HW1
  by_cases h0 : re = 0
  · subst h0
    go_wp2_with (first
      | (with_reducible refine wpList_load_at rfl 25 (.tmp 6) rfl ⟨wb + 3, 0, none⟩ rfl _ _ (cellsAt_row HV.out) Tryd.underlying25 rfl (by kernel_rfl) ?_)
      | (with_reducible refine wpList_store_new rfl 25 (.tmp 4) (.tmp 64) rfl (wb + 2) #[.slice E0 rl.length k0, .slice E1 rq.length k1, .int .i64 rg] rfl rfl 25 _ HZ2.out (size3_25 _ _ _) rfl (by simp [Value.oneCell']) ?_; intro w9 hh9 ho9))
    refine bodyPost_ret (results_row rfl _ _ (wb + 2) _ _ _ _ rfl hh9.out Tryd.underlying25 rfl (size3_25 _ _ _)) rfl ?_
    have hz9 := ((HW2.out.mono (T := [wb + 2]) (by simp)).trans ho9).pop (show w.heap.size ≤ wb + 2 by rw [HBB.out]; omega)
    refine ⟨_, rfl, ?_, hz9.nil_below⟩
    exact ((HEO2.out.only ho9 (fun k hk => .inl (by simp at hk; subst hk; have := HW0S.out; omega))).mono (by have := HBS.out; have := HBB.out; have := HW0S.out; omega)).jr
  · have h0' : (re == 0) = false := by rw [beq_eq_false_iff_ne]; exact h0
    go_wp2_with (first
      | (with_reducible refine wpList_load_at rfl 25 (.tmp 2) rfl ⟨wb, 0, none⟩ rfl _ _ (cellsAt_row HZ0.out) Tryd.underlying25 rfl (by kernel_rfl) ?_)
      | (with_reducible refine wpList_store_new rfl 25 (.tmp 4) (.tmp 62) rfl (wb + 2) #[.slice A0 j.l.length c0, .slice A1 j.q.length c1, .int .i64 j.g] rfl rfl 25 _ HZ2.out (size3_25 _ _ _) rfl (by simp [Value.oneCell']) ?_; intro w9 hh9 ho9))
    refine bodyPost_ret (results_row rfl _ _ (wb + 2) _ _ _ _ rfl hh9.out Tryd.underlying25 rfl (size3_25 _ _ _)) rfl ?_
    have hz9 := ((HW2.out.mono (T := [wb + 2]) (by simp)).trans ho9).pop (show w.heap.size ≤ wb + 2 by rw [HBB.out]; omega)
    refine ⟨_, rfl, (HOW.out.only hz9 (by simp)).jr, hz9.nil_below⟩
set_option maxHeartbeats 8000000 in
set_option maxRecDepth 100000 in
theorem done_note (base : Nat) (A0 : Option Addr) (c0 : Nat) (A1 : Option Addr) (c1 : Nat) (j : Jn) (on : Int) (oe : S27) (w : World) (ho : Own w base A0 c0 A1 c1 j) (hb : base ≤ w.heap.size) (hT : Tabs w) (hj : Jok j) (he : oe.f3.size ≤ 200) :
    Calls Tryd.prog 17 #[.agg #[.slice A0 j.l.length c0, .slice A1 j.q.length c1, .int .i64 j.g], .agg #[.int .i64 3, .int .i64 on, .int .i64 oe.f0, .int .i64 oe.f1, .int .i64 oe.f2, .string oe.f3, .int .i64 oe.f4, .int .i64 oe.f5]] w fun x w' => ∃ v, x = .returned (.tuple #[v, .int .i64 (if (noteJ j oe).2 = 0 then (0 : Int) else (noteJ j oe).2)]) ∧ ((noteJ j oe).2 = 0 → JR w' base v (noteJ j oe).1.l (noteJ j oe).1.q (noteJ j oe).1.g) ∧ ((noteJ j oe).2 ≠ 0 → JR w' base v j.l j.q j.g) ∧ Below w.heap.size w w' := by
  obtain ⟨R, hR⟩ : ∃ R, R = noteJ j oe := ⟨_, rfl⟩
  rw [← hR]
  have HRR := Lib.hid hR
  clear hR
  have HOW := Lib.hid ho
  have HT := Lib.hid hT
  have HJ := Lib.hid hj
  have HE := Lib.hid he
  have HBS := Lib.hid hb
  clear ho hT hj he hb
  go_enter Tryd.func17, Tryd.ntmps17
  go_wp2_with (go_at_call 11; refine (fun (h : Hid _) => h.out) ?_)
  refine Lib.hid ?_
  have ha1 : Only [] w (w.alloc (.cells #[.slice A0 j.l.length c0, .slice A1 j.q.length c1, .int .i64 j.g] 25)) := (Only.refl [] w).alloc _
  have s1 : (w.alloc (.cells #[.slice A0 j.l.length c0, .slice A1 j.q.length c1, .int .i64 j.g] 25)).heap.size = w.heap.size + 1 := by simp
  have s2 : ((w.alloc (.cells #[.slice A0 j.l.length c0, .slice A1 j.q.length c1, .int .i64 j.g] 25)).alloc (.cells #[.int .i64 3, .int .i64 on, .int .i64 oe.f0, .int .i64 oe.f1, .int .i64 oe.f2, .string oe.f3, .int .i64 oe.f4, .int .i64 oe.f5] 43)).heap.size = w.heap.size + 2 := by simp
  have s3 : (((w.alloc (.cells #[.slice A0 j.l.length c0, .slice A1 j.q.length c1, .int .i64 j.g] 25)).alloc (.cells #[.int .i64 3, .int .i64 on, .int .i64 oe.f0, .int .i64 oe.f1, .int .i64 oe.f2, .string oe.f3, .int .i64 oe.f4, .int .i64 oe.f5] 43)).alloc (.cells #[.slice none 0 0, .slice none 0 0, .int .i64 0] 25)).heap.size = w.heap.size + 3 := by simp
  have HX0 := Lib.hid (show ((((w.alloc (.cells #[.slice A0 j.l.length c0, .slice A1 j.q.length c1, .int .i64 j.g] 25)).alloc (.cells #[.int .i64 3, .int .i64 on, .int .i64 oe.f0, .int .i64 oe.f1, .int .i64 oe.f2, .string oe.f3, .int .i64 oe.f4, .int .i64 oe.f5] 43)).alloc (.cells #[.slice none 0 0, .slice none 0 0, .int .i64 0] 25)).alloc (.cells #[.slice A0 j.l.length c0, .slice A1 j.q.length c1, .int .i64 j.g] 25)).heap[w.heap.size]? = some (.cells #[.slice A0 j.l.length c0, .slice A1 j.q.length c1, .int .i64 j.g] 25 (0, 0)) from (Below.heap_alloc _ _ _ (by rw [s3]; omega)).trans ((Below.heap_alloc _ _ _ (by rw [s2]; omega)).trans ((Below.heap_alloc _ _ _ (by rw [s1]; omega)).trans (heap_alloc_new _ _))))
  have HX1 := Lib.hid (show ((((w.alloc (.cells #[.slice A0 j.l.length c0, .slice A1 j.q.length c1, .int .i64 j.g] 25)).alloc (.cells #[.int .i64 3, .int .i64 on, .int .i64 oe.f0, .int .i64 oe.f1, .int .i64 oe.f2, .string oe.f3, .int .i64 oe.f4, .int .i64 oe.f5] 43)).alloc (.cells #[.slice none 0 0, .slice none 0 0, .int .i64 0] 25)).alloc (.cells #[.slice A0 j.l.length c0, .slice A1 j.q.length c1, .int .i64 j.g] 25)).heap[w.heap.size + 1]? = some (.cells #[.int .i64 3, .int .i64 on, .int .i64 oe.f0, .int .i64 oe.f1, .int .i64 oe.f2, .string oe.f3, .int .i64 oe.f4, .int .i64 oe.f5] 43 (0, 0)) from by
    have := heap_alloc_new (w.alloc (.cells #[.slice A0 j.l.length c0, .slice A1 j.q.length c1, .int .i64 j.g] 25)) (.cells #[.int .i64 3, .int .i64 on, .int .i64 oe.f0, .int .i64 oe.f1, .int .i64 oe.f2, .string oe.f3, .int .i64 oe.f4, .int .i64 oe.f5] 43)
    rw [s1] at this
    exact (Below.heap_alloc _ _ _ (by rw [s3]; omega)).trans ((Below.heap_alloc _ _ _ (by rw [s2]; omega)).trans this))
  have HX2 := Lib.hid (show ((((w.alloc (.cells #[.slice A0 j.l.length c0, .slice A1 j.q.length c1, .int .i64 j.g] 25)).alloc (.cells #[.int .i64 3, .int .i64 on, .int .i64 oe.f0, .int .i64 oe.f1, .int .i64 oe.f2, .string oe.f3, .int .i64 oe.f4, .int .i64 oe.f5] 43)).alloc (.cells #[.slice none 0 0, .slice none 0 0, .int .i64 0] 25)).alloc (.cells #[.slice A0 j.l.length c0, .slice A1 j.q.length c1, .int .i64 j.g] 25)).heap[w.heap.size + 2]? = some (.cells #[.slice none 0 0, .slice none 0 0, .int .i64 0] 25 (0, 0)) from by
    have := heap_alloc_new ((w.alloc (.cells #[.slice A0 j.l.length c0, .slice A1 j.q.length c1, .int .i64 j.g] 25)).alloc (.cells #[.int .i64 3, .int .i64 on, .int .i64 oe.f0, .int .i64 oe.f1, .int .i64 oe.f2, .string oe.f3, .int .i64 oe.f4, .int .i64 oe.f5] 43)) (.cells #[.slice none 0 0, .slice none 0 0, .int .i64 0] 25)
    rw [s2] at this
    exact (Below.heap_alloc _ _ _ (by rw [s3]; omega)).trans this)
  have HX3 := Lib.hid (show ((((w.alloc (.cells #[.slice A0 j.l.length c0, .slice A1 j.q.length c1, .int .i64 j.g] 25)).alloc (.cells #[.int .i64 3, .int .i64 on, .int .i64 oe.f0, .int .i64 oe.f1, .int .i64 oe.f2, .string oe.f3, .int .i64 oe.f4, .int .i64 oe.f5] 43)).alloc (.cells #[.slice none 0 0, .slice none 0 0, .int .i64 0] 25)).alloc (.cells #[.slice A0 j.l.length c0, .slice A1 j.q.length c1, .int .i64 j.g] 25)).heap[w.heap.size + 3]? = some (.cells #[.slice A0 j.l.length c0, .slice A1 j.q.length c1, .int .i64 j.g] 25 (0, 0)) from by
    have := heap_alloc_new (((w.alloc (.cells #[.slice A0 j.l.length c0, .slice A1 j.q.length c1, .int .i64 j.g] 25)).alloc (.cells #[.int .i64 3, .int .i64 on, .int .i64 oe.f0, .int .i64 oe.f1, .int .i64 oe.f2, .string oe.f3, .int .i64 oe.f4, .int .i64 oe.f5] 43)).alloc (.cells #[.slice none 0 0, .slice none 0 0, .int .i64 0] 25)) (.cells #[.slice A0 j.l.length c0, .slice A1 j.q.length c1, .int .i64 j.g] 25)
    rw [s3] at this
    exact this)
  have HO0 := Lib.hid (((((Only.refl [] w).alloc (.cells #[.slice A0 j.l.length c0, .slice A1 j.q.length c1, .int .i64 j.g] 25)).alloc (.cells #[.int .i64 3, .int .i64 on, .int .i64 oe.f0, .int .i64 oe.f1, .int .i64 oe.f2, .string oe.f3, .int .i64 oe.f4, .int .i64 oe.f5] 43)).alloc (.cells #[.slice none 0 0, .slice none 0 0, .int .i64 0] 25)).alloc (.cells #[.slice A0 j.l.length c0, .slice A1 j.q.length c1, .int .i64 j.g] 25))
  clear ha1 s1 s2 s3
  generalize (((w.alloc (.cells #[.slice A0 j.l.length c0, .slice A1 j.q.length c1, .int .i64 j.g] 25)).alloc (.cells #[.int .i64 3, .int .i64 on, .int .i64 oe.f0, .int .i64 oe.f1, .int .i64 oe.f2, .string oe.f3, .int .i64 oe.f4, .int .i64 oe.f5] 43)).alloc (.cells #[.slice none 0 0, .slice none 0 0, .int .i64 0] 25)).alloc (.cells #[.slice A0 j.l.length c0, .slice A1 j.q.length c1, .int .i64 j.g] 25) = W0 at *
  generalize hwb : w.heap.size = wb at *
  have HBB := Lib.hid hwb
  clear hwb
  have HOW0 := Lib.hid (HOW.out.only HO0.out (by simp))
  have hri := note_calls A0 c0 A1 c1 j oe W0 HOW0.out.rl HOW0.out.rq (HT.out.below HO0.out.nil_below) HJ.out (by have := HE.out; omega)
  rw [← HRR.out] at hri
  refine hri.mono ?_
  rintro x W1 ⟨v, rfl, hjr, hb1⟩
  have HB1 := Lib.hid (Only.of_below hb1)
  have HJR := Lib.hid (hjr.mono (show base ≤ W0.heap.size from Nat.le_trans HBS.out (by have := HO0.out.size; rw [← HBB.out]; exact this)))
  have HW0S := Lib.hid (show wb + 3 < W0.heap.size from heap_lt HX3.out)
  have HJN := Lib.hid (show JR W1 W0.heap.size v _ _ _ from hjr)
  clear hjr hb1 hri HRR
  have HY0 := Lib.hid (HB1.out.heap HX0.out (by simp))
  have HY2 := Lib.hid (HB1.out.heap HX2.out (by simp))
  have HY3 := Lib.hid (HB1.out.heap HX3.out (by simp))
  have HW1 := Lib.hid (HO0.out.trans HB1.out)
  clear HX0 HX1 HX2 HX3 HO0 HOW0 HB1
  obtain ⟨⟨rl, rq, rg⟩, re⟩ := R
  have hjr : JR W1 W0.heap.size v rl rq rg := HJN.out
  clear HJN HJR
  obtain ⟨E0, k0, E1, k1, rfl, hE0, hE1⟩ := hjr
  have HEO := Lib.hid (show Own W1 W0.heap.size E0 k0 E1 k1 ⟨rl, rq, rg⟩ from ⟨hE0, hE1⟩)
  clear hE0 hE1
  go_wp2_with (first
    | (with_reducible refine wpList_store_new rfl 25 (.tmp 6) (.tmp 49) rfl (wb + 3) #[.slice E0 rl.length k0, .slice E1 rq.length k1, .int .i64 rg] rfl rfl 25 _ HY3.out (size3_25 _ _ _) rfl (by simp [Value.oneCell']) ?_; intro W2 hh ho; have HV := Lib.hid hh.out; have HOs := Lib.hid ho; clear hh ho; refine (fun (h : Hid _) => h.out) ?_))
  refine Lib.hid ?_
  have HZ0 := Lib.hid (HOs.out.heap HY0.out (by simp))
  have HZ2 := Lib.hid (HOs.out.heap HY2.out (by simp))
  have HEO2 := Lib.hid (HEO.out.only HOs.out (fun k hk => .inl (by simp at hk; subst hk; exact HW0S.out)))
  have HW2 := Lib.hid (HW1.out.then HOs.out (fun k hk => .inr (by simp at hk; subst hk; have := HBB.out; omega)))
  clear HOs HY0 HY2 HY3 HEO HW1
  by_cases h0 : re = 0
  · subst h0
    go_wp2_with (first
      | (with_reducible refine wpList_load_at rfl 25 (.tmp 6) rfl ⟨wb + 3, 0, none⟩ rfl _ _ (cellsAt_row HV.out) Tryd.underlying25 rfl (by kernel_rfl) ?_)
      | (with_reducible refine wpList_store_new rfl 25 (.tmp 4) (.tmp 64) rfl (wb + 2) #[.slice E0 rl.length k0, .slice E1 rq.length k1, .int .i64 rg] rfl rfl 25 _ HZ2.out (size3_25 _ _ _) rfl (by simp [Value.oneCell']) ?_; intro w9 hh9 ho9))
    refine bodyPost_ret (results_row rfl _ _ (wb + 2) _ _ _ _ rfl hh9.out Tryd.underlying25 rfl (size3_25 _ _ _)) rfl ?_
    have hz9 := ((HW2.out.mono (T := [wb + 2]) (by simp)).trans ho9).pop (show w.heap.size ≤ wb + 2 by rw [HBB.out]; omega)
    refine ⟨_, rfl, ?_, hz9.nil_below⟩
    exact ((HEO2.out.only ho9 (fun k hk => .inl (by simp at hk; subst hk; have := HW0S.out; omega))).mono (by have := HBS.out; have := HBB.out; have := HW0S.out; omega)).jr
  · have h0' : (re == 0) = false := by rw [beq_eq_false_iff_ne]; exact h0
    go_wp2_with (first
      | (with_reducible refine wpList_load_at rfl 25 (.tmp 2) rfl ⟨wb, 0, none⟩ rfl _ _ (cellsAt_row HZ0.out) Tryd.underlying25 rfl (by kernel_rfl) ?_)
      | (with_reducible refine wpList_store_new rfl 25 (.tmp 4) (.tmp 62) rfl (wb + 2) #[.slice A0 j.l.length c0, .slice A1 j.q.length c1, .int .i64 j.g] rfl rfl 25 _ HZ2.out (size3_25 _ _ _) rfl (by simp [Value.oneCell']) ?_; intro w9 hh9 ho9))
    refine bodyPost_ret (results_row rfl _ _ (wb + 2) _ _ _ _ rfl hh9.out Tryd.underlying25 rfl (size3_25 _ _ _)) rfl ?_
    have hz9 := ((HW2.out.mono (T := [wb + 2]) (by simp)).trans ho9).pop (show w.heap.size ≤ wb + 2 by rw [HBB.out]; omega)
    refine ⟨_, rfl, (HOW.out.only hz9 (by simp)).jr, hz9.nil_below⟩
set_option maxHeartbeats 8000000 in
set_option maxRecDepth 100000 in
theorem done_trim (base : Nat) (A0 : Option Addr) (c0 : Nat) (A1 : Option Addr) (c1 : Nat) (j : Jn) (on : Int) (oe : S27) (w : World) (ho : Own w base A0 c0 A1 c1 j) (hb : base ≤ w.heap.size) (hT : Tabs w) (hj : Jok j) (he : oe.f3.size ≤ 200) :
    Calls Tryd.prog 17 #[.agg #[.slice A0 j.l.length c0, .slice A1 j.q.length c1, .int .i64 j.g], .agg #[.int .i64 4, .int .i64 on, .int .i64 oe.f0, .int .i64 oe.f1, .int .i64 oe.f2, .string oe.f3, .int .i64 oe.f4, .int .i64 oe.f5]] w fun x w' => ∃ v, x = .returned (.tuple #[v, .int .i64 (if (trimJ j on).2 = 0 then (0 : Int) else (trimJ j on).2)]) ∧ ((trimJ j on).2 = 0 → JR w' base v (trimJ j on).1.l (trimJ j on).1.q (trimJ j on).1.g) ∧ ((trimJ j on).2 ≠ 0 → JR w' base v j.l j.q j.g) ∧ Below w.heap.size w w' := by
  obtain ⟨R, hR⟩ : ∃ R, R = trimJ j on := ⟨_, rfl⟩
  rw [← hR]
  have HRR := Lib.hid hR
  clear hR
  have HOW := Lib.hid ho
  have HT := Lib.hid hT
  have HJ := Lib.hid hj
  have HE := Lib.hid he
  have HBS := Lib.hid hb
  clear ho hT hj he hb
  go_enter Tryd.func17, Tryd.ntmps17
  go_wp2_with (go_at_call 25; refine (fun (h : Hid _) => h.out) ?_)
  refine Lib.hid ?_
  have ha1 : Only [] w (w.alloc (.cells #[.slice A0 j.l.length c0, .slice A1 j.q.length c1, .int .i64 j.g] 25)) := (Only.refl [] w).alloc _
  have s1 : (w.alloc (.cells #[.slice A0 j.l.length c0, .slice A1 j.q.length c1, .int .i64 j.g] 25)).heap.size = w.heap.size + 1 := by simp
  have s2 : ((w.alloc (.cells #[.slice A0 j.l.length c0, .slice A1 j.q.length c1, .int .i64 j.g] 25)).alloc (.cells #[.int .i64 4, .int .i64 on, .int .i64 oe.f0, .int .i64 oe.f1, .int .i64 oe.f2, .string oe.f3, .int .i64 oe.f4, .int .i64 oe.f5] 43)).heap.size = w.heap.size + 2 := by simp
  have s3 : (((w.alloc (.cells #[.slice A0 j.l.length c0, .slice A1 j.q.length c1, .int .i64 j.g] 25)).alloc (.cells #[.int .i64 4, .int .i64 on, .int .i64 oe.f0, .int .i64 oe.f1, .int .i64 oe.f2, .string oe.f3, .int .i64 oe.f4, .int .i64 oe.f5] 43)).alloc (.cells #[.slice none 0 0, .slice none 0 0, .int .i64 0] 25)).heap.size = w.heap.size + 3 := by simp
  have HX0 := Lib.hid (show ((((w.alloc (.cells #[.slice A0 j.l.length c0, .slice A1 j.q.length c1, .int .i64 j.g] 25)).alloc (.cells #[.int .i64 4, .int .i64 on, .int .i64 oe.f0, .int .i64 oe.f1, .int .i64 oe.f2, .string oe.f3, .int .i64 oe.f4, .int .i64 oe.f5] 43)).alloc (.cells #[.slice none 0 0, .slice none 0 0, .int .i64 0] 25)).alloc (.cells #[.slice A0 j.l.length c0, .slice A1 j.q.length c1, .int .i64 j.g] 25)).heap[w.heap.size]? = some (.cells #[.slice A0 j.l.length c0, .slice A1 j.q.length c1, .int .i64 j.g] 25 (0, 0)) from (Below.heap_alloc _ _ _ (by rw [s3]; omega)).trans ((Below.heap_alloc _ _ _ (by rw [s2]; omega)).trans ((Below.heap_alloc _ _ _ (by rw [s1]; omega)).trans (heap_alloc_new _ _))))
  have HX1 := Lib.hid (show ((((w.alloc (.cells #[.slice A0 j.l.length c0, .slice A1 j.q.length c1, .int .i64 j.g] 25)).alloc (.cells #[.int .i64 4, .int .i64 on, .int .i64 oe.f0, .int .i64 oe.f1, .int .i64 oe.f2, .string oe.f3, .int .i64 oe.f4, .int .i64 oe.f5] 43)).alloc (.cells #[.slice none 0 0, .slice none 0 0, .int .i64 0] 25)).alloc (.cells #[.slice A0 j.l.length c0, .slice A1 j.q.length c1, .int .i64 j.g] 25)).heap[w.heap.size + 1]? = some (.cells #[.int .i64 4, .int .i64 on, .int .i64 oe.f0, .int .i64 oe.f1, .int .i64 oe.f2, .string oe.f3, .int .i64 oe.f4, .int .i64 oe.f5] 43 (0, 0)) from by
    have := heap_alloc_new (w.alloc (.cells #[.slice A0 j.l.length c0, .slice A1 j.q.length c1, .int .i64 j.g] 25)) (.cells #[.int .i64 4, .int .i64 on, .int .i64 oe.f0, .int .i64 oe.f1, .int .i64 oe.f2, .string oe.f3, .int .i64 oe.f4, .int .i64 oe.f5] 43)
    rw [s1] at this
    exact (Below.heap_alloc _ _ _ (by rw [s3]; omega)).trans ((Below.heap_alloc _ _ _ (by rw [s2]; omega)).trans this))
  have HX2 := Lib.hid (show ((((w.alloc (.cells #[.slice A0 j.l.length c0, .slice A1 j.q.length c1, .int .i64 j.g] 25)).alloc (.cells #[.int .i64 4, .int .i64 on, .int .i64 oe.f0, .int .i64 oe.f1, .int .i64 oe.f2, .string oe.f3, .int .i64 oe.f4, .int .i64 oe.f5] 43)).alloc (.cells #[.slice none 0 0, .slice none 0 0, .int .i64 0] 25)).alloc (.cells #[.slice A0 j.l.length c0, .slice A1 j.q.length c1, .int .i64 j.g] 25)).heap[w.heap.size + 2]? = some (.cells #[.slice none 0 0, .slice none 0 0, .int .i64 0] 25 (0, 0)) from by
    have := heap_alloc_new ((w.alloc (.cells #[.slice A0 j.l.length c0, .slice A1 j.q.length c1, .int .i64 j.g] 25)).alloc (.cells #[.int .i64 4, .int .i64 on, .int .i64 oe.f0, .int .i64 oe.f1, .int .i64 oe.f2, .string oe.f3, .int .i64 oe.f4, .int .i64 oe.f5] 43)) (.cells #[.slice none 0 0, .slice none 0 0, .int .i64 0] 25)
    rw [s2] at this
    exact (Below.heap_alloc _ _ _ (by rw [s3]; omega)).trans this)
  have HX3 := Lib.hid (show ((((w.alloc (.cells #[.slice A0 j.l.length c0, .slice A1 j.q.length c1, .int .i64 j.g] 25)).alloc (.cells #[.int .i64 4, .int .i64 on, .int .i64 oe.f0, .int .i64 oe.f1, .int .i64 oe.f2, .string oe.f3, .int .i64 oe.f4, .int .i64 oe.f5] 43)).alloc (.cells #[.slice none 0 0, .slice none 0 0, .int .i64 0] 25)).alloc (.cells #[.slice A0 j.l.length c0, .slice A1 j.q.length c1, .int .i64 j.g] 25)).heap[w.heap.size + 3]? = some (.cells #[.slice A0 j.l.length c0, .slice A1 j.q.length c1, .int .i64 j.g] 25 (0, 0)) from by
    have := heap_alloc_new (((w.alloc (.cells #[.slice A0 j.l.length c0, .slice A1 j.q.length c1, .int .i64 j.g] 25)).alloc (.cells #[.int .i64 4, .int .i64 on, .int .i64 oe.f0, .int .i64 oe.f1, .int .i64 oe.f2, .string oe.f3, .int .i64 oe.f4, .int .i64 oe.f5] 43)).alloc (.cells #[.slice none 0 0, .slice none 0 0, .int .i64 0] 25)) (.cells #[.slice A0 j.l.length c0, .slice A1 j.q.length c1, .int .i64 j.g] 25)
    rw [s3] at this
    exact this)
  have HO0 := Lib.hid (((((Only.refl [] w).alloc (.cells #[.slice A0 j.l.length c0, .slice A1 j.q.length c1, .int .i64 j.g] 25)).alloc (.cells #[.int .i64 4, .int .i64 on, .int .i64 oe.f0, .int .i64 oe.f1, .int .i64 oe.f2, .string oe.f3, .int .i64 oe.f4, .int .i64 oe.f5] 43)).alloc (.cells #[.slice none 0 0, .slice none 0 0, .int .i64 0] 25)).alloc (.cells #[.slice A0 j.l.length c0, .slice A1 j.q.length c1, .int .i64 j.g] 25))
  clear ha1 s1 s2 s3
  generalize (((w.alloc (.cells #[.slice A0 j.l.length c0, .slice A1 j.q.length c1, .int .i64 j.g] 25)).alloc (.cells #[.int .i64 4, .int .i64 on, .int .i64 oe.f0, .int .i64 oe.f1, .int .i64 oe.f2, .string oe.f3, .int .i64 oe.f4, .int .i64 oe.f5] 43)).alloc (.cells #[.slice none 0 0, .slice none 0 0, .int .i64 0] 25)).alloc (.cells #[.slice A0 j.l.length c0, .slice A1 j.q.length c1, .int .i64 j.g] 25) = W0 at *
  generalize hwb : w.heap.size = wb at *
  have HBB := Lib.hid hwb
  clear hwb
  have HOW0 := Lib.hid (HOW.out.only HO0.out (by simp))
  have hri := trim_calls A0 c0 A1 c1 j on W0 HOW0.out.rl HOW0.out.rq (HT.out.below HO0.out.nil_below) HJ.out
  rw [← HRR.out] at hri
  refine hri.mono ?_
  rintro x W1 ⟨v, rfl, hjr, hb1⟩
  have HB1 := Lib.hid (Only.of_below hb1)
  have HJR := Lib.hid (hjr.mono (show base ≤ W0.heap.size from Nat.le_trans HBS.out (by have := HO0.out.size; rw [← HBB.out]; exact this)))
  have HW0S := Lib.hid (show wb + 3 < W0.heap.size from heap_lt HX3.out)
  have HJN := Lib.hid (show JR W1 W0.heap.size v _ _ _ from hjr)
  clear hjr hb1 hri HRR
  have HY0 := Lib.hid (HB1.out.heap HX0.out (by simp))
  have HY2 := Lib.hid (HB1.out.heap HX2.out (by simp))
  have HY3 := Lib.hid (HB1.out.heap HX3.out (by simp))
  have HW1 := Lib.hid (HO0.out.trans HB1.out)
  clear HX0 HX1 HX2 HX3 HO0 HOW0 HB1
  obtain ⟨⟨rl, rq, rg⟩, re⟩ := R
  have hjr : JR W1 W0.heap.size v rl rq rg := HJN.out
  clear HJN HJR
  obtain ⟨E0, k0, E1, k1, rfl, hE0, hE1⟩ := hjr
  have HEO := Lib.hid (show Own W1 W0.heap.size E0 k0 E1 k1 ⟨rl, rq, rg⟩ from ⟨hE0, hE1⟩)
  clear hE0 hE1
  go_wp2_with (first
    | (with_reducible refine wpList_store_new rfl 25 (.tmp 6) (.tmp 58) rfl (wb + 3) #[.slice E0 rl.length k0, .slice E1 rq.length k1, .int .i64 rg] rfl rfl 25 _ HY3.out (size3_25 _ _ _) rfl (by simp [Value.oneCell']) ?_; intro W2 hh ho; have HV := Lib.hid hh.out; have HOs := Lib.hid ho; clear hh ho; refine (fun (h : Hid _) => h.out) ?_))
  refine Lib.hid ?_
  have HZ0 := Lib.hid (HOs.out.heap HY0.out (by simp))
  have HZ2 := Lib.hid (HOs.out.heap HY2.out (by simp))
  have HEO2 := Lib.hid (HEO.out.only HOs.out (fun k hk => .inl (by simp at hk; subst hk; exact HW0S.out)))
  have HW2 := Lib.hid (HW1.out.then HOs.out (fun k hk => .inr (by simp at hk; subst hk; have := HBB.out; omega)))
  clear HOs HY0 HY2 HY3 HEO HW1
  by_cases h0 : re = 0
  · subst h0
    go_wp2_with (first
      | (with_reducible refine wpList_load_at rfl 25 (.tmp 6) rfl ⟨wb + 3, 0, none⟩ rfl _ _ (cellsAt_row HV.out) Tryd.underlying25 rfl (by kernel_rfl) ?_)
      | (with_reducible refine wpList_store_new rfl 25 (.tmp 4) (.tmp 64) rfl (wb + 2) #[.slice E0 rl.length k0, .slice E1 rq.length k1, .int .i64 rg] rfl rfl 25 _ HZ2.out (size3_25 _ _ _) rfl (by simp [Value.oneCell']) ?_; intro w9 hh9 ho9))
    refine bodyPost_ret (results_row rfl _ _ (wb + 2) _ _ _ _ rfl hh9.out Tryd.underlying25 rfl (size3_25 _ _ _)) rfl ?_
    have hz9 := ((HW2.out.mono (T := [wb + 2]) (by simp)).trans ho9).pop (show w.heap.size ≤ wb + 2 by rw [HBB.out]; omega)
    refine ⟨_, rfl, ?_, hz9.nil_below⟩
    exact ((HEO2.out.only ho9 (fun k hk => .inl (by simp at hk; subst hk; have := HW0S.out; omega))).mono (by have := HBS.out; have := HBB.out; have := HW0S.out; omega)).jr
  · have h0' : (re == 0) = false := by rw [beq_eq_false_iff_ne]; exact h0
    go_wp2_with (first
      | (with_reducible refine wpList_load_at rfl 25 (.tmp 2) rfl ⟨wb, 0, none⟩ rfl _ _ (cellsAt_row HZ0.out) Tryd.underlying25 rfl (by kernel_rfl) ?_)
      | (with_reducible refine wpList_store_new rfl 25 (.tmp 4) (.tmp 62) rfl (wb + 2) #[.slice A0 j.l.length c0, .slice A1 j.q.length c1, .int .i64 j.g] rfl rfl 25 _ HZ2.out (size3_25 _ _ _) rfl (by simp [Value.oneCell']) ?_; intro w9 hh9 ho9))
    refine bodyPost_ret (results_row rfl _ _ (wb + 2) _ _ _ _ rfl hh9.out Tryd.underlying25 rfl (size3_25 _ _ _)) rfl ?_
    have hz9 := ((HW2.out.mono (T := [wb + 2]) (by simp)).trans ho9).pop (show w.heap.size ≤ wb + 2 by rw [HBB.out]; omega)
    refine ⟨_, rfl, (HOW.out.only hz9 (by simp)).jr, hz9.nil_below⟩
set_option maxHeartbeats 8000000 in
set_option maxRecDepth 100000 in
theorem done_none (base : Nat) (A0 : Option Addr) (c0 : Nat) (A1 : Option Addr) (c1 : Nat) (j : Jn) (ok on : Int) (oe : S27) (w : World) (ho : Own w base A0 c0 A1 c1 j) (k0 : ok ≠ 0) (k1 : ok ≠ 1) (k2 : ok ≠ 2) (k3 : ok ≠ 3) (k4 : ok ≠ 4) :
    Calls Tryd.prog 17 #[.agg #[.slice A0 j.l.length c0, .slice A1 j.q.length c1, .int .i64 j.g], .agg #[.int .i64 ok, .int .i64 on, .int .i64 oe.f0, .int .i64 oe.f1, .int .i64 oe.f2, .string oe.f3, .int .i64 oe.f4, .int .i64 oe.f5]] w fun x w' => ∃ v, x = .returned (.tuple #[v, .int .i64 1]) ∧ JR w' base v j.l j.q j.g ∧ Below w.heap.size w w' := by
  have HOW := Lib.hid ho
  clear ho
  have e0 : (ok == 0) = false := by rw [beq_eq_false_iff_ne]; exact k0
  have e1 : (ok == 1) = false := by rw [beq_eq_false_iff_ne]; exact k1
  have e2 : (ok == 2) = false := by rw [beq_eq_false_iff_ne]; exact k2
  have e3 : (ok == 3) = false := by rw [beq_eq_false_iff_ne]; exact k3
  have e4 : (ok == 4) = false := by rw [beq_eq_false_iff_ne]; exact k4
  clear k0 k1 k2 k3 k4
  go_enter Tryd.func17, Tryd.ntmps17
  go_wp2
  have hr : ((((w.alloc (.cells #[.slice A0 j.l.length c0, .slice A1 j.q.length c1, .int .i64 j.g] 25)).alloc (.cells #[.int .i64 ok, .int .i64 on, .int .i64 oe.f0, .int .i64 oe.f1, .int .i64 oe.f2, .string oe.f3, .int .i64 oe.f4, .int .i64 oe.f5] 43)).alloc (.cells #[.slice A0 j.l.length c0, .slice A1 j.q.length c1, .int .i64 j.g] 25)).alloc (.cells #[.slice A0 j.l.length c0, .slice A1 j.q.length c1, .int .i64 j.g] 25)).heap[w.heap.size + 1 + 1]? = some (.cells #[.slice A0 j.l.length c0, .slice A1 j.q.length c1, .int .i64 j.g] 25 (0, 0)) := by
    have := heap_alloc_new ((w.alloc (.cells #[.slice A0 j.l.length c0, .slice A1 j.q.length c1, .int .i64 j.g] 25)).alloc (.cells #[.int .i64 ok, .int .i64 on, .int .i64 oe.f0, .int .i64 oe.f1, .int .i64 oe.f2, .string oe.f3, .int .i64 oe.f4, .int .i64 oe.f5] 43)) (.cells #[.slice A0 j.l.length c0, .slice A1 j.q.length c1, .int .i64 j.g] 25)
    rw [show ((w.alloc (.cells #[.slice A0 j.l.length c0, .slice A1 j.q.length c1, .int .i64 j.g] 25)).alloc (.cells #[.int .i64 ok, .int .i64 on, .int .i64 oe.f0, .int .i64 oe.f1, .int .i64 oe.f2, .string oe.f3, .int .i64 oe.f4, .int .i64 oe.f5] 43)).heap.size = w.heap.size + 1 + 1 by simp] at this
    exact (Below.heap_alloc _ _ _ (by simp)).trans this
  have hz : Only [] w ((((w.alloc (.cells #[.slice A0 j.l.length c0, .slice A1 j.q.length c1, .int .i64 j.g] 25)).alloc (.cells #[.int .i64 ok, .int .i64 on, .int .i64 oe.f0, .int .i64 oe.f1, .int .i64 oe.f2, .string oe.f3, .int .i64 oe.f4, .int .i64 oe.f5] 43)).alloc (.cells #[.slice A0 j.l.length c0, .slice A1 j.q.length c1, .int .i64 j.g] 25)).alloc (.cells #[.slice A0 j.l.length c0, .slice A1 j.q.length c1, .int .i64 j.g] 25)) := ((((Only.refl [] w).alloc _).alloc _).alloc _).alloc _
  refine bodyPost_ret (results_row rfl _ _ (w.heap.size + 1 + 1) _ _ _ _ rfl hr Tryd.underlying25 rfl (size3_25 _ _ _)) rfl ?_
  exact ⟨_, rfl, (HOW.out.only hz (by simp)).jr, hz.nil_below⟩
theorem done_any (base : Nat) (A0 : Option Addr) (c0 : Nat) (A1 : Option Addr) (c1 : Nat) (j : Jn) (o : S43) (w : World) (ho : Own w base A0 c0 A1 c1 j) (hb : base ≤ w.heap.size) (hT : Tabs w) (hj : Jok j) (he : o.f2.f3.size ≤ 200) :
    Calls Tryd.prog 17 #[.agg #[.slice A0 j.l.length c0, .slice A1 j.q.length c1, .int .i64 j.g], .agg #[.int .i64 o.f0, .int .i64 o.f1, .int .i64 o.f2.f0, .int .i64 o.f2.f1, .int .i64 o.f2.f2, .string o.f2.f3, .int .i64 o.f2.f4, .int .i64 o.f2.f5]] w fun x w' =>
      ∃ A c B d, x = .returned (.tuple #[.agg #[.slice A (doneJ j o).1.l.length c, .slice B (doneJ j o).1.q.length d, .int .i64 (doneJ j o).1.g], .int .i64 (doneJ j o).2]) ∧ Own w' base A c B d (doneJ j o).1 ∧ Below w.heap.size w w' := by
  obtain ⟨k, on, oe⟩ := o
  have fin : ∀ (R : Jn × Int), (opJ j ⟨k, on, oe⟩ = R) → (Calls Tryd.prog 17 #[.agg #[.slice A0 j.l.length c0, .slice A1 j.q.length c1, .int .i64 j.g], .agg #[.int .i64 k, .int .i64 on, .int .i64 oe.f0, .int .i64 oe.f1, .int .i64 oe.f2, .string oe.f3, .int .i64 oe.f4, .int .i64 oe.f5]] w fun x w' => ∃ v, x = .returned (.tuple #[v, .int .i64 (if R.2 = 0 then (0 : Int) else R.2)]) ∧ (R.2 = 0 → JR w' base v R.1.l R.1.q R.1.g) ∧ (R.2 ≠ 0 → JR w' base v j.l j.q j.g) ∧ Below w.heap.size w w') →
      Calls Tryd.prog 17 #[.agg #[.slice A0 j.l.length c0, .slice A1 j.q.length c1, .int .i64 j.g], .agg #[.int .i64 k, .int .i64 on, .int .i64 oe.f0, .int .i64 oe.f1, .int .i64 oe.f2, .string oe.f3, .int .i64 oe.f4, .int .i64 oe.f5]] w fun x w' =>
      ∃ A c B d, x = .returned (.tuple #[.agg #[.slice A (doneJ j ⟨k, on, oe⟩).1.l.length c, .slice B (doneJ j ⟨k, on, oe⟩).1.q.length d, .int .i64 (doneJ j ⟨k, on, oe⟩).1.g], .int .i64 (doneJ j ⟨k, on, oe⟩).2]) ∧ Own w' base A c B d (doneJ j ⟨k, on, oe⟩).1 ∧ Below w.heap.size w w' := by
    intro R hR h
    refine h.mono ?_
    rintro x w' ⟨v, hx, h1, h2, h3⟩
    unfold doneJ
    rw [hR]
    by_cases h0 : R.2 = 0
    · rw [if_pos h0] at hx ⊢
      obtain ⟨A, c, B, d, rfl, q1, q2⟩ := h1 h0
      exact ⟨A, c, B, d, hx, ⟨q1, q2⟩, h3⟩
    · rw [if_neg h0] at hx ⊢
      obtain ⟨A, c, B, d, rfl, q1, q2⟩ := h2 h0
      exact ⟨A, c, B, d, hx, ⟨q1, q2⟩, h3⟩
  by_cases k0 : k = 0
  · subst k0; exact fin _ rfl (done_open base A0 c0 A1 c1 j on oe w ho hb hT hj he)
  by_cases k1 : k = 1
  · subst k1; exact fin _ rfl (done_close base A0 c0 A1 c1 j on oe w ho hb hT hj he)
  by_cases k2 : k = 2
  · subst k2; exact fin _ rfl (done_add base A0 c0 A1 c1 j on oe w ho hb hT hj he)
  by_cases k3 : k = 3
  · subst k3; exact fin _ rfl (done_note base A0 c0 A1 c1 j on oe w ho hb hT hj he)
  by_cases k4 : k = 4
  · subst k4; exact fin _ rfl (done_trim base A0 c0 A1 c1 j on oe w ho hb hT hj he)
  refine fin (j, 1) (by unfold opJ; rw [if_neg k0, if_neg k1, if_neg k2, if_neg k3, if_neg k4]) ((done_none base A0 c0 A1 c1 j k on oe w ho k0 k1 k2 k3 k4).mono ?_)
  rintro x w' ⟨v, hx, h1, h2⟩
  exact ⟨v, hx, fun _ => h1, fun _ => h1, h2⟩
end Go.Proofs.YtghpmpjoedbpcaaDoor.Print
/-! ### JWalk4 -/
namespace Go.Proofs.YtghpmpjoedbpcaaDoor.Print
open Go.RowKit Go.Proofs.YtghpmpjoedbpcaaDoorW.PrintWords Go.Proofs.YtghpmpjoedbpcaaDoorW.PrintLast Go.Proofs.YtghpmpjoedbpcaaDoorW.PrintMore
set_option linter.unusedSimpArgs false
set_option linter.unusedVariables false
theorem C_o_at {w : World} {A : Option Addr} {l : List S43} (h : Kd.C k43 w A l.length l) (k : Nat) (hk : k < l.length) : ∃ ad, A = some ad ∧ CellsAt w (ad.add (k * 8)) [.int .i64 l[k].f0, .int .i64 l[k].f1, .int .i64 l[k].f2.f0, .int .i64 l[k].f2.f1, .int .i64 l[k].f2.f2, .string l[k].f2.f3, .int .i64 l[k].f2.f4, .int .i64 l[k].f2.f5] := by
  obtain ⟨ad, cs, rfl, _, hK, hcs⟩ := Kd.C_cells h k hk
  obtain rfl := k43_open hK
  exact ⟨ad, rfl, hcs⟩
theorem few_ok {l : List S43} (h : fewB l = true) : l.length ≤ 200 ∧ ∀ o ∈ l, o.f2.f3.size ≤ 200 := by
  unfold fewB at h
  simp only [Bool.and_eq_true, decide_eq_true_eq, List.all_eq_true] at h
  exact ⟨h.1, fun o ho => by have := h.2 o ho; unfold shortO at this; simpa using this⟩
set_option maxHeartbeats 8000000 in
set_option maxRecDepth 100000 in
theorem reserves_any (A0 : Option Addr) (c0 : Nat) (l0 : List S43) (b m : Int) (A3 : Option Addr) (c3 : Nat) (l3 : List S43) (w : World) (h0 : l0.length ≤ c0 ∧ Kd.C k43 w A0 l0.length l0) (h3 : l3.length ≤ c3 ∧ Kd.C k43 w A3 l3.length l3) (hT : Tabs w) :
    Calls Tryd.prog 7 #[.slice A0 l0.length c0, .int .i64 b, .int .i64 m, .slice A3 l3.length c3] w fun x w' => x = .returned (.bool true) ∧ Below w.heap.size w w' := by
  have HA := Lib.hid h0
  have HD := Lib.hid h3
  have HT := Lib.hid hT
  clear h0 h3 hT
  have HAW := Lib.hid (malthouselaw18_awake.calls true w HT.out rfl)
  go_enter Tryd.func7, Tryd.ntmps7
  go_wp2_with (go_at_call 8; refine HAW.out.mono ?_; rintro x W1 ⟨rfl, hb1⟩; have HO1 := Lib.hid (Only.of_below hb1); clear hb1; refine (fun (h : Hid _) => h.out) ?_)
  refine Lib.hid ?_
  have HF0 := Lib.hid (malthouselaw18_few.calls 1000 A0 c0 l0 200 (fewB l0) W1 (Kd.C_below HA.out.2 HO1.out.nil_below) HA.out.1 (few_is _ _ (by omega)))
  go_wp2_with (go_at_call 16; refine HF0.out.mono ?_; rintro x W2 ⟨rfl, hb2⟩; have HO2 := Lib.hid (HO1.out.trans (Only.of_below hb2.below)); clear hb2; refine (fun (h : Hid _) => h.out) ?_)
  refine Lib.hid ?_
  have HF3 := Lib.hid (malthouselaw18_few.calls 1000 A3 c3 l3 200 (fewB l3) W2 (Kd.C_below HD.out.2 HO2.out.nil_below) HD.out.1 (few_is _ _ (by omega)))
  go_wp2_with (go_at_call 16; refine HF3.out.mono ?_; rintro x W3 ⟨rfl, hb3⟩; have HO3 := Lib.hid (HO2.out.trans (Only.of_below hb3.below)); clear hb3; refine (fun (h : Hid _) => h.out) ?_)
  refine Lib.hid ?_
  clear HAW HF0 HF3 HO1 HO2
  cases hf0 : fewB l0
  · clear hf0
    go_wp2
    go_ret
    exact ⟨rfl, HO3.out.nil_below⟩
  cases hf3 : fewB l3
  · clear hf3 hf0
    go_wp2
    go_ret
    exact ⟨rfl, HO3.out.nil_below⟩
  obtain ⟨hn0, hs0⟩ := few_ok hf0
  obtain ⟨hn3, hs3⟩ := few_ok hf3
  have HS0 := Lib.hid hs0
  have HS3 := Lib.hid hs3
  clear hs0 hs3 hf0 hf3
  go_wp2
  have HV0 := Lib.hid (heap_alloc_new W3 (.cells #[.slice none 0 0, .slice none 0 0, .int .i64 0] 25))
  have HW0 := Lib.hid (HO3.out.trans ((Only.refl [] W3).alloc (.cells #[.slice none 0 0, .slice none 0 0, .int .i64 0] 25)))
  have HVB := Lib.hid (show w.heap.size ≤ W3.heap.size from HO3.out.size)
  generalize W3.alloc (.cells #[.slice none 0 0, .slice none 0 0, .int .i64 0] 25) = W4 at *
  generalize W3.heap.size = vb at *
  go_loopw [13] (fun si wr => ∃ (i : Nat) (j : Jn) (E0 : Option Addr) (k0 : Nat) (E1 : Option Addr) (k1 : Nat), si = .int .i64 i ∧ i ≤ l0.length ∧ Hid (Way i j) ∧ Hid (wr.heap[vb]? = some (.cells #[.slice E0 j.l.length k0, .slice E1 j.q.length k1, .int .i64 j.g] 25 (0, 0))) ∧ Hid (Own wr (vb + 1) E0 k0 E1 k1 j) ∧ Hid (Only [] w wr)) (fun si _ => l0.length - (intOf si).toNat)
  case atStart => exact ⟨0, zJn, none, 0, none, 0, rfl, by omega, Lib.hid way_zero, HV0, Lib.hid ⟨ownsRow_nil _ _ _ _, ownsRow_nil _ _ _ _⟩, HW0⟩
  case round =>
    obtain ⟨i, j, E0, k0, E1, k1, rfl, hil, HWY, hrow, hown, hw⟩ := hrel
    by_cases hlt : i < l0.length
    · have hlt' : (i : Int) < l0.length := by omega
      have hi0 : (0 : Int) ≤ i := by omega
      obtain ⟨ad, rfl, hcs⟩ := C_o_at (Kd.C_below HA.out.2 hw.out.nil_below) i hlt
      have HX := Lib.hid (HS0.out _ (List.getElem_mem hlt))
      have HC := Lib.hid hcs
      clear hcs
      generalize l0[i] = x at *
      go_wp2_with fail
      refine L.grow_start [] 9 ((0, true, false) :: (1, true, false) :: (2, true, true) :: (3, true, true) :: (4, true, true) :: (5, false, true) :: (6, true, true) :: (7, true, false) :: (8, true, false) :: (9, false, true) :: []) (by kernel_rfl) (([], [12], some 46) :: ([], [0], some 47) :: ([], [13], some 48) :: ([1, 2], [47, 48], some 49) :: ([3], [49], some 50) :: ([0, 4], [46, 50], some 51) :: ([5], [51], some 45) :: ([6], [45], some 52) :: ([6], [45], some 53) :: ([7, 5, 0, 1, 2, 3, 4, 5, 6, 7], [12, 52], none) :: []) (by kernel_rfl) (by kernel_rfl) (n := 10) rfl (by kernel_rfl) (fun _ _ _ _ _ h => h) (fun wg hog => ?_)
      refine L.growe_start (N := 137) (by rfl) ?_
      have HRg := Lib.hid (hog.heap hrow.out (by simp))
      have HOg := Lib.hid (hown.out.only hog (by simp))
      have HWg := Lib.hid (hw.out.trans hog)
      have HAg := Lib.hid (show CellsAt wg (ad.add (i * 8)) [.int .i64 x.f0, .int .i64 x.f1, .int .i64 x.f2.f0, .int .i64 x.f2.f1, .int .i64 x.f2.f2, .string x.f2.f3, .int .i64 x.f2.f4, .int .i64 x.f2.f5] from HC.out.only hog (by simp))
      clear hog
      refine ge_load_at rfl rfl rfl (by rfl) _ _ rfl ⟨vb, 0, none⟩ (by simp [L.evE, L.lk, Act.eval]) _ _ (fun w' k => (cellsAt_row HRg.out).only k (by simp)) Tryd.underlying25 rfl (by kernel_rfl) ?_
      iterate 3 (first | (refine L.ge_off rfl rfl rfl (by rfl) ?_) | (refine L.ge_move rfl rfl rfl (by rfl) rfl (by simp [L.evE, L.lk, Act.eval]; rfl) ?_) | (refine L.ge_pick rfl rfl rfl (by rfl) rfl (by simp [L.evE, L.lk, Act.eval]; rfl) (by simp [L.evE, L.lk, Act.eval]; rfl) ?_) | (refine L.ge_val rfl rfl rfl (by rfl) (by intro w' hw'; simp [execOp, L.evE, L.lk, Act.eval]; go_simp; rfl) ?_))
      refine ge_load_at rfl rfl rfl (by rfl) _ _ rfl (ad.add (i * 8)) (by simp [L.evE, L.lk, Act.eval]) _ _ (fun w' k => HAg.out.only k (by simp)) Tryd.underlying43 rfl (by kernel_rfl) ?_
      refine L.ge_call rfl rfl rfl (by rfl) rfl (by simp [L.evE, L.lk, Act.eval]; rfl) (by go_simp) ?_
      refine (done_any (vb + 1) E0 k0 E1 k1 j x wg HOg.out (by have := heap_lt HRg.out; omega) (HT.out.below HWg.out.nil_below) (HWY.out.ok (by omega)) HX.out).mono ?_
      rintro e w2 ⟨F0, m0, F1, m1, rfl, hown2, hb2⟩
      refine ⟨_, rfl, Only.of_below hb2, ?_⟩
      have HO2 := Lib.hid hown2
      have HR2 := Lib.hid ((Only.of_below hb2).heap HRg.out (by simp))
      have HW2 := Lib.hid (HWg.out.trans (Only.of_below hb2))
      clear hown2 hb2 HRg HOg HWg
      iterate 3 (first | (refine L.ge_off rfl rfl rfl (by rfl) ?_) | (refine L.ge_move rfl rfl rfl (by rfl) rfl (by simp [L.evE, L.lk, Act.eval]; rfl) ?_) | (refine L.ge_pick rfl rfl rfl (by rfl) rfl (by simp [L.evE, L.lk, Act.eval]; rfl) (by simp [L.evE, L.lk, Act.eval]; rfl) ?_) | (refine L.ge_val rfl rfl rfl (by rfl) (by intro w' hw'; simp [execOp, L.evE, L.lk, Act.eval]; go_simp; rfl) ?_))
      refine ge_last_in rfl rfl (by rfl) _ (.tmp 12) (.tmp 52) rfl vb 0 (.agg #[.slice F0 (doneJ j x).1.l.length m0, .slice F1 (doneJ j x).1.q.length m1, .int .i64 (doneJ j x).1.g]) (by simp [L.evE, L.lk, Act.eval]) (by simp [L.evE, L.lk, Act.eval]) [.slice F0 (doneJ j x).1.l.length m0, .slice F1 (doneJ j x).1.q.length m1, .int .i64 (doneJ j x).1.g] rfl 25 [.slice E0 j.l.length k0, .slice E1 j.q.length k1, .int .i64 j.g] HR2.out (by kernel_rfl) (by simp) (by simp [Value.oneCell']) ?_
      intro w3 hr3 ho3
      simp only [L.puts, Act.put, goInt, List.setIfInBounds_toArray, List.set_cons_zero, List.set_cons_succ]
      have HO3 := Lib.hid (HO2.out.only ho3.out (fun k hk => .inl (by simp at hk; omega)))
      have HR3 : Hid (w3.heap[vb]? = some (.cells #[.slice F0 (doneJ j x).1.l.length m0, .slice F1 (doneJ j x).1.q.length m1, .int .i64 (doneJ j x).1.g] 25 (0, 0))) := hr3
      have HW3 := Lib.hid (HW2.out.then ho3.out (fun k hk => .inr (by simp at hk; subst hk; have := HVB.out; omega)))
      clear HO2 HR2 HW2 hr3 ho3
      go_wp2
      go_roundw
      case rel => exact ⟨i + 1, (doneJ j x).1, F0, m0, F1, m1, by go_num, by omega, Lib.hid (done_step HWY.out HX.out).1, HR3, HO3, HW3⟩
      case measure => simp [intOf]; omega
    · obtain rfl : i = l0.length := by omega
      have hlt' : ¬ (l0.length : Int) < l0.length := by omega
      have HOP := Lib.hid (open_calls E0 k0 E1 k1 j b m wr hown.out.rl hown.out.rq (HT.out.below hw.out.nil_below) (HWY.out.ok (by omega)))
      have HOK : Hid ((openJ j b m).2 = 0 → Way (l0.length + 1) (openJ j b m).1 ∧ HasLeft (openJ j b m).1.q b m ∧ 1 ≤ m ∧ m ≤ 40 ∧ 1 ≤ b ∧ b ≤ 1099511627776) := Lib.hid (open_left HWY.out)
      have HON : Hid ((openJ j b m).2 ≠ 0 → (openJ j b m).1 = zJn) := Lib.hid open_not
      generalize openJ j b m = R at *
      obtain ⟨jo, eo⟩ := R
      go_wp2_with (first
        | (with_reducible refine wpList_load_at rfl 25 (.tmp 12) rfl ⟨vb, 0, none⟩ rfl _ _ (cellsAt_row hrow.out) Tryd.underlying25 rfl (by kernel_rfl) ?_)
        | (go_at_call 19; refine HOP.out.mono ?_; rintro x W5 ⟨v5, rfl, hjr, hb5⟩; refine (fun (h : Hid _) => h.out) ?_))
      refine Lib.hid ?_
      have hjr2 : JR W5 wr.heap.size v5 jo.l jo.q jo.g := hjr
      obtain ⟨F0, m0, F1, m1, rfl, q0, q1⟩ := hjr2
      have HO5 := Lib.hid (show Own W5 (vb + 1) F0 m0 F1 m1 jo from (Own.mk (j := jo) q0 q1).mono (by have := heap_lt hrow.out; omega))
      have HR5 := Lib.hid ((Only.of_below hb5).heap hrow.out (by simp))
      have HW5 := Lib.hid (hw.out.trans (Only.of_below hb5))
      have hk1 : Hid (eo = 0 → Way (l0.length + 1) jo ∧ HasLeft jo.q b m ∧ 1 ≤ m ∧ m ≤ 40 ∧ 1 ≤ b ∧ b ≤ 1099511627776) := HOK
      have hk2 : Hid (eo ≠ 0 → jo = zJn) := HON
      clear q0 q1 hjr hb5 HOP HOK HON hrow hown hw HWY
      go_wp2_with (first
        | (with_reducible refine wpList_store_new rfl 25 (.tmp 12) (.tmp 59) rfl vb #[.slice F0 jo.l.length m0, .slice F1 jo.q.length m1, .int .i64 jo.g] rfl rfl 25 _ HR5.out (size3_25 _ _ _) rfl (by simp [Value.oneCell']) ?_; intro W6 hh ho; have HR6 := Lib.hid hh.out; have HOs := Lib.hid ho; clear hh ho; refine (fun (h : Hid _) => h.out) ?_))
      refine Lib.hid ?_
      have HO6 := Lib.hid (HO5.out.only HOs.out (fun k hk => .inl (by simp at hk; omega)))
      have HW6 := Lib.hid (HW5.out.then HOs.out (fun k hk => .inr (by simp at hk; subst hk; have := HVB.out; omega)))
      clear HO5 HR5 HW5 HOs
      by_cases he0 : eo = 0
      rotate_left
      · have hz := hk2.out he0
        subst hz
        have he9 : (eo == 0) = false := by rw [beq_eq_false_iff_ne]; exact he0
        have r0 : W6.cell? ⟨vb, 0, none⟩ = some (.slice F0 0 m0) := (cell_of_row W6 vb 0 _ _ _ HR6.out).trans rfl
        go_wp2
        go_ret
        exact ⟨rfl, HW6.out.nil_below⟩
      obtain ⟨hwy, hlf, hm1, hm9, hb1, hb9⟩ := hk1.out he0
      subst he0
      have HWY := Lib.hid hwy
      have HLF := Lib.hid hlf
      clear hwy hlf hk1 hk2
      go_wp2
      go_loopw [15] (fun si wr => ∃ (i : Nat) (j : Jn) (E0 : Option Addr) (k0 : Nat) (E1 : Option Addr) (k1 : Nat), si = .int .i64 i ∧ i ≤ l3.length ∧ Hid (Way (201 + i) j) ∧ Hid (HasLeft j.q b m) ∧ Hid (wr.heap[vb]? = some (.cells #[.slice E0 j.l.length k0, .slice E1 j.q.length k1, .int .i64 j.g] 25 (0, 0))) ∧ Hid (Own wr (vb + 1) E0 k0 E1 k1 j) ∧ Hid (Only [] w wr)) (fun si _ => l3.length - (intOf si).toNat)
      case atStart => exact ⟨0, jo, F0, m0, F1, m1, rfl, by omega, Lib.hid (HWY.out.mono (by omega)), HLF, HR6, HO6, HW6⟩
      case round =>
        obtain ⟨i, j, E0, k0, E1, k1, rfl, hil, HWY, HLF, hrow, hown, hw⟩ := hrel
        by_cases hlt : i < l3.length
        · have hlt' : (i : Int) < l3.length := by omega
          have hi0 : (0 : Int) ≤ i := by omega
          obtain ⟨ad, rfl, hcs⟩ := C_o_at (Kd.C_below HD.out.2 hw.out.nil_below) i hlt
          have HX := Lib.hid (HS3.out _ (List.getElem_mem hlt))
          have HC := Lib.hid hcs
          clear hcs
          generalize l3[i] = x at *
          have c0 : wr.cell? (ad.add (i * 8)) = some (.int .i64 x.f0) := by have := HC.out 0 _ rfl; rwa [Go.Deep.add_add, Nat.add_zero] at this
          have c3 : wr.cell? ⟨(ad.add (i * 8)).block, (ad.add (i * 8)).off + 3, none⟩ = some (.int .i64 x.f2.f1) := by rw [← add_field _ _ 3 (by omega)]; have := HC.out 3 _ rfl; rwa [Go.Deep.add_add] at this
          have HDN : Hid ((x.f2.f1 ≠ b ∨ x.f0 = 4) → HasLeft (doneJ j x).1.q b m) := Lib.hid (done_left HWY.out HX.out HLF.out)
          by_cases hxb : x.f2.f1 = b
          · by_cases hx4 : x.f0 = 4
            · have HL2 := Lib.hid (HDN.out (.inr hx4))
              have hx5 : (x.f0 == 4) = true := by rw [beq_iff_eq]; exact hx4
              have hxc : (x.f2.f1 == b) = true := by rw [beq_iff_eq]; exact hxb
              have HX4 := Lib.hid hx4
              clear hx4 HDN
              go_wp2_with fail
              clear c0 c3 hx5 hxc
              refine L.grow_start [] 9 ((0, true, false) :: (1, true, false) :: (2, true, true) :: (3, true, true) :: (4, true, true) :: (5, false, true) :: (6, true, true) :: (7, true, false) :: (8, true, false) :: (9, false, true) :: []) (by kernel_rfl) (([], [12], some 90) :: ([], [3], some 91) :: ([], [15], some 92) :: ([1, 2], [91, 92], some 93) :: ([3], [93], some 94) :: ([0, 4], [90, 94], some 95) :: ([5], [95], some 89) :: ([6], [89], some 96) :: ([6], [89], some 97) :: ([7, 5, 0, 1, 2, 3, 4, 5, 6, 7], [12, 96], none) :: []) (by kernel_rfl) (by kernel_rfl) (n := 10) rfl (by kernel_rfl) (fun _ _ _ _ _ h => h) (fun wg hog => ?_)
              refine L.growe_start (N := 137) (by rfl) ?_
              have HRg := Lib.hid (hog.heap hrow.out (by simp))
              have HOg := Lib.hid (hown.out.only hog (by simp))
              have HWg := Lib.hid (hw.out.trans hog)
              have HAg := Lib.hid (show CellsAt wg (ad.add (i * 8)) [.int .i64 x.f0, .int .i64 x.f1, .int .i64 x.f2.f0, .int .i64 x.f2.f1, .int .i64 x.f2.f2, .string x.f2.f3, .int .i64 x.f2.f4, .int .i64 x.f2.f5] from HC.out.only hog (by simp))
              clear hog
              refine ge_load_at rfl rfl rfl (by rfl) _ _ rfl ⟨vb, 0, none⟩ (by simp [L.evE, L.lk, Act.eval]) _ _ (fun w' k => (cellsAt_row HRg.out).only k (by simp)) Tryd.underlying25 rfl (by kernel_rfl) ?_
              iterate 3 (first | (refine L.ge_off rfl rfl rfl (by rfl) ?_) | (refine L.ge_move rfl rfl rfl (by rfl) rfl (by simp [L.evE, L.lk, Act.eval]; rfl) ?_) | (refine L.ge_pick rfl rfl rfl (by rfl) rfl (by simp [L.evE, L.lk, Act.eval]; rfl) (by simp [L.evE, L.lk, Act.eval]; rfl) ?_) | (refine L.ge_val rfl rfl rfl (by rfl) (by intro w' hw'; simp [execOp, L.evE, L.lk, Act.eval]; go_simp; rfl) ?_))
              refine ge_load_at rfl rfl rfl (by rfl) _ _ rfl (ad.add (i * 8)) (by simp [L.evE, L.lk, Act.eval]) _ _ (fun w' k => HAg.out.only k (by simp)) Tryd.underlying43 rfl (by kernel_rfl) ?_
              refine L.ge_call rfl rfl rfl (by rfl) rfl (by simp [L.evE, L.lk, Act.eval]; rfl) (by go_simp) ?_
              refine (done_any (vb + 1) E0 k0 E1 k1 j x wg HOg.out (by have := heap_lt HRg.out; omega) (HT.out.below HWg.out.nil_below) (HWY.out.ok (by omega)) HX.out).mono ?_
              rintro e w2 ⟨F0, m0, F1, m1, rfl, hown2, hb2⟩
              refine ⟨_, rfl, Only.of_below hb2, ?_⟩
              have HO2 := Lib.hid hown2
              have HR2 := Lib.hid ((Only.of_below hb2).heap HRg.out (by simp))
              have HW2 := Lib.hid (HWg.out.trans (Only.of_below hb2))
              clear hown2 hb2 HRg HOg HWg
              iterate 3 (first | (refine L.ge_off rfl rfl rfl (by rfl) ?_) | (refine L.ge_move rfl rfl rfl (by rfl) rfl (by simp [L.evE, L.lk, Act.eval]; rfl) ?_) | (refine L.ge_pick rfl rfl rfl (by rfl) rfl (by simp [L.evE, L.lk, Act.eval]; rfl) (by simp [L.evE, L.lk, Act.eval]; rfl) ?_) | (refine L.ge_val rfl rfl rfl (by rfl) (by intro w' hw'; simp [execOp, L.evE, L.lk, Act.eval]; go_simp; rfl) ?_))
              refine ge_last_in rfl rfl (by rfl) _ (.tmp 12) (.tmp 96) rfl vb 0 (.agg #[.slice F0 (doneJ j x).1.l.length m0, .slice F1 (doneJ j x).1.q.length m1, .int .i64 (doneJ j x).1.g]) (by simp [L.evE, L.lk, Act.eval]) (by simp [L.evE, L.lk, Act.eval]) [.slice F0 (doneJ j x).1.l.length m0, .slice F1 (doneJ j x).1.q.length m1, .int .i64 (doneJ j x).1.g] rfl 25 [.slice E0 j.l.length k0, .slice E1 j.q.length k1, .int .i64 j.g] HR2.out (by kernel_rfl) (by simp) (by simp [Value.oneCell']) ?_
              intro w3 hr3 ho3
              simp only [L.puts, Act.put, goInt, List.setIfInBounds_toArray, List.set_cons_zero, List.set_cons_succ]
              have HO3 := Lib.hid (HO2.out.only ho3.out (fun k hk => .inl (by simp at hk; omega)))
              have HR3 : Hid (w3.heap[vb]? = some (.cells #[.slice F0 (doneJ j x).1.l.length m0, .slice F1 (doneJ j x).1.q.length m1, .int .i64 (doneJ j x).1.g] 25 (0, 0))) := hr3
              have HW3 := Lib.hid (HW2.out.then ho3.out (fun k hk => .inr (by simp at hk; subst hk; have := HVB.out; omega)))
              clear HO2 HR2 HW2 hr3 ho3
              go_wp2
              go_roundw
              case rel => exact ⟨i + 1, (doneJ j x).1, F0, m0, F1, m1, by go_num, by omega, Lib.hid (done_step HWY.out HX.out).1, HL2, HR3, HO3, HW3⟩
              case measure => simp [intOf]; omega
            · have hx5 : (x.f0 == 4) = false := by rw [beq_eq_false_iff_ne]; exact hx4
              go_wp2
              go_roundw
              case rel => exact ⟨i + 1, j, E0, k0, E1, k1, by go_num, by omega, Lib.hid (HWY.out.mono (by omega)), HLF, hrow, hown, hw⟩
              case measure => simp [intOf]; omega
          · have HL2 := Lib.hid (HDN.out (.inl hxb))
            have hxc : (x.f2.f1 == b) = false := by rw [beq_eq_false_iff_ne]; exact hxb
            clear HDN
            go_wp2_with fail
            clear c0 c3 hxc
            refine L.grow_start [] 9 ((0, true, false) :: (1, true, false) :: (2, true, true) :: (3, true, true) :: (4, true, true) :: (5, false, true) :: (6, true, true) :: (7, true, false) :: (8, true, false) :: (9, false, true) :: []) (by kernel_rfl) (([], [12], some 90) :: ([], [3], some 91) :: ([], [15], some 92) :: ([1, 2], [91, 92], some 93) :: ([3], [93], some 94) :: ([0, 4], [90, 94], some 95) :: ([5], [95], some 89) :: ([6], [89], some 96) :: ([6], [89], some 97) :: ([7, 5, 0, 1, 2, 3, 4, 5, 6, 7], [12, 96], none) :: []) (by kernel_rfl) (by kernel_rfl) (n := 10) rfl (by kernel_rfl) (fun _ _ _ _ _ h => h) (fun wg hog => ?_)
            refine L.growe_start (N := 137) (by rfl) ?_
            have HRg := Lib.hid (hog.heap hrow.out (by simp))
            have HOg := Lib.hid (hown.out.only hog (by simp))
            have HWg := Lib.hid (hw.out.trans hog)
            have HAg := Lib.hid (show CellsAt wg (ad.add (i * 8)) [.int .i64 x.f0, .int .i64 x.f1, .int .i64 x.f2.f0, .int .i64 x.f2.f1, .int .i64 x.f2.f2, .string x.f2.f3, .int .i64 x.f2.f4, .int .i64 x.f2.f5] from HC.out.only hog (by simp))
            clear hog
            refine ge_load_at rfl rfl rfl (by rfl) _ _ rfl ⟨vb, 0, none⟩ (by simp [L.evE, L.lk, Act.eval]) _ _ (fun w' k => (cellsAt_row HRg.out).only k (by simp)) Tryd.underlying25 rfl (by kernel_rfl) ?_
            iterate 3 (first | (refine L.ge_off rfl rfl rfl (by rfl) ?_) | (refine L.ge_move rfl rfl rfl (by rfl) rfl (by simp [L.evE, L.lk, Act.eval]; rfl) ?_) | (refine L.ge_pick rfl rfl rfl (by rfl) rfl (by simp [L.evE, L.lk, Act.eval]; rfl) (by simp [L.evE, L.lk, Act.eval]; rfl) ?_) | (refine L.ge_val rfl rfl rfl (by rfl) (by intro w' hw'; simp [execOp, L.evE, L.lk, Act.eval]; go_simp; rfl) ?_))
            refine ge_load_at rfl rfl rfl (by rfl) _ _ rfl (ad.add (i * 8)) (by simp [L.evE, L.lk, Act.eval]) _ _ (fun w' k => HAg.out.only k (by simp)) Tryd.underlying43 rfl (by kernel_rfl) ?_
            refine L.ge_call rfl rfl rfl (by rfl) rfl (by simp [L.evE, L.lk, Act.eval]; rfl) (by go_simp) ?_
            refine (done_any (vb + 1) E0 k0 E1 k1 j x wg HOg.out (by have := heap_lt HRg.out; omega) (HT.out.below HWg.out.nil_below) (HWY.out.ok (by omega)) HX.out).mono ?_
            rintro e w2 ⟨F0, m0, F1, m1, rfl, hown2, hb2⟩
            refine ⟨_, rfl, Only.of_below hb2, ?_⟩
            have HO2 := Lib.hid hown2
            have HR2 := Lib.hid ((Only.of_below hb2).heap HRg.out (by simp))
            have HW2 := Lib.hid (HWg.out.trans (Only.of_below hb2))
            clear hown2 hb2 HRg HOg HWg
            iterate 3 (first | (refine L.ge_off rfl rfl rfl (by rfl) ?_) | (refine L.ge_move rfl rfl rfl (by rfl) rfl (by simp [L.evE, L.lk, Act.eval]; rfl) ?_) | (refine L.ge_pick rfl rfl rfl (by rfl) rfl (by simp [L.evE, L.lk, Act.eval]; rfl) (by simp [L.evE, L.lk, Act.eval]; rfl) ?_) | (refine L.ge_val rfl rfl rfl (by rfl) (by intro w' hw'; simp [execOp, L.evE, L.lk, Act.eval]; go_simp; rfl) ?_))
            refine ge_last_in rfl rfl (by rfl) _ (.tmp 12) (.tmp 96) rfl vb 0 (.agg #[.slice F0 (doneJ j x).1.l.length m0, .slice F1 (doneJ j x).1.q.length m1, .int .i64 (doneJ j x).1.g]) (by simp [L.evE, L.lk, Act.eval]) (by simp [L.evE, L.lk, Act.eval]) [.slice F0 (doneJ j x).1.l.length m0, .slice F1 (doneJ j x).1.q.length m1, .int .i64 (doneJ j x).1.g] rfl 25 [.slice E0 j.l.length k0, .slice E1 j.q.length k1, .int .i64 j.g] HR2.out (by kernel_rfl) (by simp) (by simp [Value.oneCell']) ?_
            intro w3 hr3 ho3
            simp only [L.puts, Act.put, goInt, List.setIfInBounds_toArray, List.set_cons_zero, List.set_cons_succ]
            have HO3 := Lib.hid (HO2.out.only ho3.out (fun k hk => .inl (by simp at hk; omega)))
            have HR3 : Hid (w3.heap[vb]? = some (.cells #[.slice F0 (doneJ j x).1.l.length m0, .slice F1 (doneJ j x).1.q.length m1, .int .i64 (doneJ j x).1.g] 25 (0, 0))) := hr3
            have HW3 := Lib.hid (HW2.out.then ho3.out (fun k hk => .inr (by simp at hk; subst hk; have := HVB.out; omega)))
            clear HO2 HR2 HW2 hr3 ho3
            go_wp2
            go_roundw
            case rel => exact ⟨i + 1, (doneJ j x).1, F0, m0, F1, m1, by go_num, by omega, Lib.hid (done_step HWY.out HX.out).1, HL2, HR3, HO3, HW3⟩
            case measure => simp [intOf]; omega
        · obtain rfl : i = l3.length := by omega
          have hlt' : ¬ (l3.length : Int) < l3.length := by omega
          have HOFc := Lib.hid (of_calls E0 k0 E1 k1 j b wr hown.out.rl hown.out.rq (HT.out.below hw.out.nil_below) (HWY.out.ok (by omega)))
          have HBF := Lib.hid (show (ofJ j b).length ≤ 120 by rw [of_fine HWY.out.f]; have := List.length_filter_le (fun x : S27 => decide (x.f1 = b)) j.l; have := HWY.out.f.len; omega)
          generalize hbf : (ofJ j b).length = bf at *
          have HBE := Lib.hid hbf
          clear hbf
          go_wp2_with (first
            | (with_reducible refine wpList_load_at rfl 25 (.tmp 12) rfl ⟨vb, 0, none⟩ rfl _ _ (cellsAt_row hrow.out) Tryd.underlying25 rfl (by kernel_rfl) ?_)
            | (go_at_call 15; refine HOFc.out.mono ?_; rintro x W7 ⟨v7, rfl, hown7, hb7⟩; obtain ⟨Av, cv, rfl⟩ := slice_of_own hown7; refine (fun (h : Hid _) => h.out) ?_))
          refine Lib.hid ?_
          have HO7 := Lib.hid (hown.out.only (Only.of_below hb7) (by simp))
          have HR7 := Lib.hid ((Only.of_below hb7).heap hrow.out (by simp))
          have HW7 := Lib.hid (hw.out.trans (Only.of_below hb7))
          clear hown7 hb7 hrow hown hw HOFc
          go_wp2
          have hm0 : (0 : Int) ≤ m := by omega
          have HCN : Hid (∀ (n : Nat) (j' : Jn), Fine j' → (j'.l.filter (fun x => decide (x.f1 = b))).length = n → (ofJ j' b).length = n) := Lib.hid (fun n j' hf h => by rw [of_fine hf]; exact h)
          have HBG := Lib.hid (show (j.l.filter (fun x => decide (x.f1 = b))).length = bf by rw [← of_fine HWY.out.f]; exact HBE.out)
          clear HBE
          have hbf0 : bf ≤ 120 := HBF.out
          go_loopw [17, 18, 19] (fun si _ _ wr => ∃ (i : Nat) (j : Jn) (E0 : Option Addr) (k0 : Nat) (E1 : Option Addr) (k1 : Nat), si = .int .i64 i ∧ (i : Int) ≤ m ∧ Hid (Way 401 j) ∧ Hid (HasLeft j.q b (m - i)) ∧ Hid ((j.l.filter (fun x => decide (x.f1 = b))).length = bf + i) ∧ Hid (wr.heap[vb]? = some (.cells #[.slice E0 j.l.length k0, .slice E1 j.q.length k1, .int .i64 j.g] 25 (0, 0))) ∧ Hid (Own wr (vb + 1) E0 k0 E1 k1 j) ∧ Hid (Only [] w wr)) (fun si _ _ _ => m.toNat - (intOf si).toNat)
          case atStart => exact ⟨0, j, E0, k0, E1, k1, rfl, by omega, Lib.hid (HWY.out.mono (by omega)), Lib.hid (by have := HLF.out; simpa using this), Lib.hid (by rw [HBG.out]; omega), HR7, HO7, HW7⟩
          case round =>
            clear HR7 HO7 HW7 HWY HLF HBG
            obtain ⟨i, j, E0, k0, E1, k1, rfl, him, HWY, HLF, HBC, hrow, hown, hw⟩ := hrel
            by_cases hlt : (i : Int) < m
            · have hi0 : (0 : Int) ≤ i := by omega
              obtain ⟨ha0, haw, hal, has⟩ := add_left (i := (i : Int)) HWY.out HLF.out (by omega) hi0 (by omega) hb1 hb9
              have HAD : Hid (Calls Tryd.prog 10 #[.agg #[.slice E0 j.l.length k0, .slice E1 j.q.length k1, .int .i64 j.g], .agg #[.int .i64 i, .int .i64 b, .int .i64 2, .string ⟨#[120]⟩, .int .i64 0, .int .i64 0]] wr fun x w' => ∃ v, x = .returned (.tuple #[v, .int .i64 (addJ j (noteE i b)).2]) ∧ JR w' wr.heap.size v (addJ j (noteE i b)).1.l (addJ j (noteE i b)).1.q (addJ j (noteE i b)).1.g ∧ Below wr.heap.size wr w') := Lib.hid (add_calls E0 k0 E1 k1 j (noteE i b) wr hown.out.rl hown.out.rq (HT.out.below hw.out.nil_below) (HWY.out.ok (by omega)) (by show 1 ≤ 1000000000; omega))
              rw [ha0] at HAD
              have HAW := Lib.hid haw
              have HAL := Lib.hid hal
              have HAC : Hid (((addJ j (noteE i b)).1.l.filter (fun x => decide (x.f1 = b))).length = bf + (i + 1)) := Lib.hid (by
                rw [has, List.filter_append, List.length_append, HBC.out, List.filter_cons_of_pos (by simp [noteE])]
                simp
                omega)
              clear ha0 haw hal has HBC
              generalize (addJ j (noteE i b)).1 = ja at *
              go_wp2_with (first
                | (with_reducible refine wpList_load_at rfl 25 (.tmp 12) rfl ⟨vb, 0, none⟩ rfl _ _ (cellsAt_row hrow.out) Tryd.underlying25 rfl (by kernel_rfl) ?_)
                | (go_at_call 10; refine HAD.out.mono ?_; rintro x W8 ⟨v8, rfl, hjr, hb8⟩; obtain ⟨F0, m0, F1, m1, rfl, q0, q1⟩ := hjr; refine (fun (h : Hid _) => h.out) ?_))
              refine Lib.hid ?_
              have hal8 : Only [] W8 (W8.alloc (.cells #[.slice F0 ja.l.length m0, .slice F1 ja.q.length m1, .int .i64 ja.g] 25)) := (Only.refl [] W8).alloc _
              have hoo := (Only.of_below hb8).trans hal8
              have HO8 := Lib.hid (((Own.mk (j := ja) q0 q1).mono (show vb + 1 ≤ wr.heap.size from by have := heap_lt hrow.out; omega)).only hal8 (by simp))
              have HR8 := Lib.hid (hoo.heap hrow.out (by simp))
              have HK8 := Lib.hid (heap_alloc_new W8 (.cells #[.slice F0 ja.l.length m0, .slice F1 ja.q.length m1, .int .i64 ja.g] 25))
              have HW8 := Lib.hid (hw.out.trans hoo)
              clear hal8 hoo q0 q1 hb8 HAD hown
              go_wp2_with (first
                | (with_reducible refine wpList_load_at rfl 25 (.tmp 18) rfl ⟨W8.heap.size, 0, none⟩ rfl _ _ (cellsAt_row HK8.out) Tryd.underlying25 rfl (by kernel_rfl) ?_)
                | (with_reducible refine wpList_store_new rfl 25 (.tmp 12) (.tmp 117) rfl vb #[.slice F0 ja.l.length m0, .slice F1 ja.q.length m1, .int .i64 ja.g] rfl rfl 25 _ HR8.out (size3_25 _ _ _) rfl (by simp [Value.oneCell']) ?_; intro W9 hh ho; have HR9 := Lib.hid hh.out; have HOs := Lib.hid ho; clear hh ho))
              go_roundw
              case rel => exact ⟨i + 1, ja, F0, m0, F1, m1, by go_num, by omega, HAW, Lib.hid (by have := HAL.out; rw [show m - (i : Int) - 1 = m - ((i + 1 : Nat) : Int) by omega] at this; exact this), HAC, HR9, Lib.hid (HO8.out.only HOs.out (fun k hk => .inl (by simp at hk; omega))), Lib.hid (HW8.out.then HOs.out (fun k hk => .inr (by simp at hk; subst hk; have := HVB.out; omega)))⟩
              case measure => simp [intOf]; omega
            · obtain rfl : m = (i : Int) := by omega
              have hl0 : HasLeft j.q b 0 := by have := HLF.out; rwa [Int.sub_self] at this
              have han := add_none (i := 0) HWY.out hl0 (by omega) (by omega) hb1 hb9
              have HAD : Hid (Calls Tryd.prog 10 #[.agg #[.slice E0 j.l.length k0, .slice E1 j.q.length k1, .int .i64 j.g], .agg #[.int .i64 0, .int .i64 b, .int .i64 2, .string ⟨#[120]⟩, .int .i64 0, .int .i64 0]] wr fun x w' => ∃ v, x = .returned (.tuple #[v, .int .i64 (addJ j (noteE 0 b)).2]) ∧ JR w' wr.heap.size v (addJ j (noteE 0 b)).1.l (addJ j (noteE 0 b)).1.q (addJ j (noteE 0 b)).1.g ∧ Below wr.heap.size wr w') := Lib.hid (add_calls E0 k0 E1 k1 j (noteE 0 b) wr hown.out.rl hown.out.rq (HT.out.below hw.out.nil_below) (HWY.out.ok (by omega)) (by show 1 ≤ 1000000000; omega))
              rw [han] at HAD
              have HOL := Lib.hid (HCN.out (bf + i) j HWY.out.f HBC.out)
              have HOFw := Lib.hid (fun W (hW : Only [] wr W) => of_calls E0 k0 E1 k1 j b W (hown.out.only hW (by simp)).rl (hown.out.only hW (by simp)).rq (HT.out.below (hw.out.trans hW).nil_below) (HWY.out.ok (by omega)))
              rw [HOL.out] at HOFw
              clear han hl0 HBC
              generalize (addJ j (noteE 0 b)).1 = ja at *
              go_wp2_with (first
                | (with_reducible refine wpList_load_at rfl 25 (.tmp 12) rfl ⟨vb, 0, none⟩ rfl _ _ (cellsAt_row hrow.out) Tryd.underlying25 rfl (by kernel_rfl) ?_)
                | (go_at_call 10; refine HAD.out.mono ?_; rintro x W8 ⟨v8, rfl, hjr, hb8⟩; obtain ⟨F0, m0, F1, m1, rfl, q0, q1⟩ := hjr; refine (fun (h : Hid _) => h.out) ?_))
              refine Lib.hid ?_
              have hal8 : Only [] W8 (W8.alloc (.cells #[.slice F0 ja.l.length m0, .slice F1 ja.q.length m1, .int .i64 ja.g] 25)) := (Only.refl [] W8).alloc _
              have hoo := (Only.of_below hb8).trans hal8
              have HR8 := Lib.hid (hoo.heap hrow.out (by simp))
              have HW8 := Lib.hid (hw.out.trans hoo)
              have HOG := Lib.hid (HOFw.out _ hoo)
              clear hal8 hoo q0 q1 hb8 HAD hown HOFw
              have z0 : (W8.alloc (.cells #[.slice F0 ja.l.length m0, .slice F1 ja.q.length m1, .int .i64 ja.g] 25)).cell? ⟨vb, 0, none⟩ = some (.slice E0 j.l.length k0) := (cell_of_row _ vb 0 _ _ _ HR8.out).trans rfl
              have z1 : (W8.alloc (.cells #[.slice F0 ja.l.length m0, .slice F1 ja.q.length m1, .int .i64 ja.g] 25)).cell? ⟨vb, 1, none⟩ = some (.slice E1 j.q.length k1) := (cell_of_row _ vb 1 _ _ _ HR8.out).trans rfl
              have z2 : (W8.alloc (.cells #[.slice F0 ja.l.length m0, .slice F1 ja.q.length m1, .int .i64 ja.g] 25)).cell? ⟨vb, 2, none⟩ = some (.int .i64 j.g) := (cell_of_row _ vb 2 _ _ _ HR8.out).trans rfl
              go_wp2_with (go_at_call 15; refine HOG.out.mono ?_; rintro x W9 ⟨v9, rfl, hown9, hb9x⟩; obtain ⟨Az, cz, rfl⟩ := slice_of_own hown9; have HB9 := Lib.hid (Only.of_below hb9x); clear hown9 hb9x)
              go_ret
              exact ⟨by first | rfl | simp, (HW8.out.trans HB9.out).nil_below⟩
end Go.Proofs.YtghpmpjoedbpcaaDoor.Print
/-! ### JWalk4b -/
namespace Go.Proofs.YtghpmpjoedbpcaaDoor.Print
open Go.RowKit Go.Proofs.YtghpmpjoedbpcaaDoorW.PrintWords Go.Proofs.YtghpmpjoedbpcaaDoorW.PrintLast Go.Proofs.YtghpmpjoedbpcaaDoorW.PrintMore
set_option linter.unusedVariables false
theorem journalReserves_walk (A0 : Option Addr) (cap0 : Nat) (y0 : List OpR) (a1 a2 : Int) (A3 : Option Addr) (cap3 : Nat) (y3 : List OpR) (w : World) (hl0 : y0.length ≤ cap0) (hb0 : cap0 * 72 ≤ 140737488351232) (hr0 : rdRow 8 rOp w A0 y0) (w1 : (Lit.int .i64 a1).wf = true) (w2 : (Lit.int .i64 a2).wf = true) (hl3 : y3.length ≤ cap3) (hb3 : cap3 * 72 ≤ 140737488351232) (hr3 : rdRow 8 rOp w A3 y3) (hT : Tabs w) :
    Calls Tryd.prog 7 #[.slice A0 y0.length cap0, .int .i64 a1, .int .i64 a2, .slice A3 y3.length cap3] w fun e w' => e = .returned (.bool true) ∧ Below w.heap.size w w' := by
  have h := reserves_any A0 cap0 (y0.map gOp) a1 a2 A3 cap3 (y3.map gOp) w ⟨by simpa using hl0, C_ops (by omega) hr0⟩ ⟨by simpa using hl3, C_ops (by omega) hr3⟩ hT
  rw [List.length_map, List.length_map] at h
  exact h
end Go.Proofs.YtghpmpjoedbpcaaDoor.Print
/-! ### JournalReservesRow -/
namespace Go.Proofs.YtghpmpjoedbpcaaDoor.journalReserves
open Go.ChangeShapes Go.WideShapes Go.ChangeAt Go.RowKit Go.Shelf Go.Lib Go.Proofs.YtghpmpjoedbpcaaDoor.Print
open Go.ChangeMaps (open_string shut_string)
set_option linter.unusedVariables false
set_option linter.unusedSimpArgs false
theorem own : ownKnob Tryd.prog.godebug = none := by kernel_rfl
theorem laidOut : laidOutB Tryd.prog = true := by kernel_rfl
set_option maxRecDepth 100000 in
theorem lifted (os : Os) (started : os.Started) (H : Type) (enc : TypeId × Value → H) :
    ReturnsInHanded {} Tryd.checked os 7 .any (fun w args => (Rows.journalReservesSpec.pre enc Tryd.prog Tryd.f7 [] false w args ∧ laidMetH Tryd.prog Rows.journalReservesRow.laid w) ∧ sizedMet enc Tryd.prog Tryd.f7 (OpenSpec.ofChange Rows.journalReservesSpec) false w args) (Rows.journalReservesSpec.post enc Tryd.prog Tryd.f7 false true false false) := by
  refine returnsInHanded_of_change_and (C := Tryd.checked) (X := fun w _ => laidMetH Tryd.prog Rows.journalReservesRow.laid w) (fun _ _ _ hh h => h.of_heap hh) own started (by kernel_rfl) Tryd.func7
    (ChangeSpec.witness_shaped (enc := enc) (C := Tryd.checked) (os := os) (X := fun w _ => laidMetH Tryd.prog Rows.journalReservesRow.laid w) false (World.laidAll Tryd.prog os Rows.journalReservesRow.laid) #[.slice none 0 0, .int .i64 0, .int .i64 0, .slice none 0 0] 8 (World.laidAll_os _ _ _)
      (World.shaped_of_ZipB (by kernel_rfl) (by kernel_rfl)) (by kernel_rfl) (by kernel_rfl) (by kernel_rfl)
      (by rw [MakeChecks.laidMetH_plain _ _ _ (by kernel_rfl)]; exact laidMet_laidAll _ (by kernel_rfl) (by kernel_rfl))) ?_
  intro W base args ds gs before hval0 hW hcnd hsz0 hL0 _
  have hL : laidMet Tryd.prog Rows.journalReservesRow.laid W := by
    have h := hL0
    rw [MakeChecks.laidMetH_plain _ _ _ (by kernel_rfl)] at h
    exact h
  have hT : Tabs W := utf8Tabs_of_readsT (U8Types.of196 Tryd.laysValid) ⟨by kernel_rfl, by kernel_rfl, by kernel_rfl, by kernel_rfl, by kernel_rfl, by kernel_rfl, by kernel_rfl⟩ (Pinned.utf8First_eq ▸ Lib.laidMet.reads hL (.tail _ (.head _))) ((show Rows.laid_unicode_utf8_acceptRanges = acceptData from rfl) ▸ Lib.laidMet.reads hL (.head _))
  have hsz : (DataW.weightsEach Tryd.prog (Tryd.f7.params.toList ++ Rows.journalReservesSpec.plain.varTypes Tryd.prog) (ds ++ gs)).all (· ≤ reachBytes) = true := hsz0
  have hval : ∀ (j : Nat) t v, Tryd.f7.params[j]? = some t → args[j]? = some v → Value.okWide Tryd.prog W .any base t v := hval0
  have hW' := hW
  obtain ⟨p, q, hA0, hV, rfl, hfz, hnd⟩ := hW
  have hA : DataW.TrodAll enc Tryd.prog W 0 (fun _ => true) true Tryd.f7.params.toList args.toList ds p := hA0
  rw [Tryd.params7] at hA hval hsz
  obtain ⟨v0, vs0, d0, ds0, p0, q0, hargs, rfl, rfl, h0, r0⟩ := trodAll_cons hA
  obtain ⟨v1, vs1, d1, ds1, p1, q1, rfl, rfl, rfl, h1, r1⟩ := trodAll_cons r0
  obtain ⟨v2, vs2, d2, ds2, p2, q2, rfl, rfl, rfl, h2, r2⟩ := trodAll_cons r1
  obtain ⟨v3, vs3, d3, ds3, p3, q3, rfl, rfl, rfl, h3, r3⟩ := trodAll_cons r2
  obtain ⟨rfl, rfl, rfl⟩ := trodAll_nil r3
  obtain rfl : args = #[v0, v1, v2, v3] := by cases args; simp_all
  obtain ⟨rfl, rfl⟩ := trodVars_none hV
  have k0 := h0
  have lt0 : ∀ x ∈ p0, x.block < W.heap.size := by obtain ⟨m, hm⟩ := k0; exact DataW.trod_lt m _ _ _ hm
  obtain ⟨y0, r0_⟩ := opens_arg (ops_opens enc W) h0 (weights_each hsz (j := 0) (t := 39) rfl rfl)
  obtain ⟨A0, len0, cap0, rfl⟩ := okWide_slice Tryd.underlying39 (hval 0 39 v0 rfl rfl)
  obtain ⟨A0_, cap0_, e0, hl0, hb0, hm0, hr0⟩ := r0_
  simp only [Value.cells, List.cons.injEq, Value.slice.injEq, and_true] at e0
  obtain ⟨rfl, rfl, rfl⟩ := e0
  obtain ⟨a1, rfl, rfl, rfl, w1⟩ := open_int Tryd.underlying3 (hval 1 3 v1 rfl rfl) h1
  obtain ⟨a2, rfl, rfl, rfl, w2⟩ := open_int Tryd.underlying3 (hval 2 3 v2 rfl rfl) h2
  have k3 := h3
  have lt3 : ∀ x ∈ p3, x.block < W.heap.size := by obtain ⟨m, hm⟩ := k3; exact DataW.trod_lt m _ _ _ hm
  obtain ⟨y3, r3_⟩ := opens_arg (ops_opens enc W) h3 (weights_each hsz (j := 3) (t := 39) rfl rfl)
  obtain ⟨A3, len3, cap3, rfl⟩ := okWide_slice Tryd.underlying39 (hval 3 39 v3 rfl rfl)
  obtain ⟨A3_, cap3_, e3, hl3, hb3, hm3, hr3⟩ := r3_
  simp only [Value.cells, List.cons.injEq, Value.slice.injEq, and_true] at e3
  obtain ⟨rfl, rfl, rfl⟩ := e3
  clear hA0 hval0 hsz0 hsz
  refine (journalReserves_walk A0 cap0 y0 a1 a2 A3 cap3 y3 W hl0 hb0 hr0 w1 w2 hl3 hb3 hr3 hT).mono fun e W' ⟨he, bel⟩ => ?_
  subst he
  exact ⟨_, rfl, _, _, _, [], _, [], hW', trodAll_mk1 (shut_bool Tryd.underlying4 _), (trodAll_cons_mk (Below.trod laidOut (by kernel_rfl) (of_decide_eq_true (by kernel_rfl)) k0 bel lt0) (trodAll_cons_mk (shut_int Tryd.underlying3 w1) (trodAll_cons_mk (shut_int Tryd.underlying3 w2) (trodAll_cons_mk (Below.trod laidOut (by kernel_rfl) (of_decide_eq_true (by kernel_rfl)) k3 bel lt3) trodAll_mk0)))), rfl, bel.frame _, fun h => by cases h⟩
theorem over : Rows.journalReservesRow.holds Tryd.pinned (OpenSpec.ofChange Rows.journalReservesSpec) :=
  OpenClaim.holds_of_wide 7 Tryd.f7 rfl rfl rfl rfl rfl rfl rfl ⟨rfl, rfl, rfl, rfl, rfl⟩ rfl rfl rfl rfl rfl (by kernel_rfl) Tryd.func7 (by kernel_rfl)
    (of_decide_eq_true (by kernel_rfl)) (by unfold Func.isWrapper; first | (rw [if_pos (by decide +kernel)]; kernel_rfl) | (rw [if_neg (by decide +kernel)]; exact ⟨rfl, rfl⟩))
    (fun os started H enc _ => lifted os started H enc)
theorem card_holds : Claim7.holds Tryd.pinned (.plain (OpenSpec.ofChange Rows.journalReservesSpec)) Rows.journalReservesCard :=
  Claim7.holds_tied_plain_at .later [] [.data, .pinned] true (true, "b05b6b16aa0a1809f215307a8c3ea1b8c622546458a6b2d8f18a7b1e1b2adb12") false over (fun _ h => by cases h) (by kernel_rfl) (fun _ h => by cases h) journalReserves_row_tie rfl ⟨rfl, rfl⟩ (by kernel_rfl) rfl
    (fun f fn hf hfn => by
      obtain rfl : f = 7 := Option.some.inj ((show Tryd.prog.funcNamed "malthouse/malthouselaw18.JournalReserves" = some 7 by kernel_rfl).symm.trans hf) |>.symm
      obtain rfl : fn = Tryd.f7 := (Option.some.inj (Tryd.func7.symm.trans hfn)).symm
      exact ⟨by kernel_rfl, fun j t ht => by
        rw [Tryd.params7] at ht
        have hm : t ∈ [39, 3, 3, 39] := by simpa using Array.mem_of_getElem? ht
        have hall : ([39, 3, 3, 39].all fun u => !Tryd.prog.wantsStandIn u) = true := by kernel_rfl
        exact (show Tryd.prog.wantsStandIn t = false by simpa using List.all_eq_true.1 hall t hm)⟩)
    (by kernel_rfl)
theorem proved : Rows.JournalReservesCardSaid := card_holds
#print axioms proved
end Go.Proofs.YtghpmpjoedbpcaaDoor.journalReserves
namespace Go.Proofs.YtghpmpjoedbpcaaDoor
/-- The card, under a short name, for the claim. -/
theorem journalReserves_holds : Rows.JournalReservesCardSaid := journalReserves.proved
end Go.Proofs.YtghpmpjoedbpcaaDoor
