import Derived.Test.YtghpmpjoedbpcaaDoorJk1
import Derived.Test.YtghpmpjoedbpcaaDoorProg
set_option linter.unusedVariables false
set_option linter.unusedSimpArgs false
namespace Go.Proofs.YtghpmpjoedbpcaaDoorW.PrintWords
end Go.Proofs.YtghpmpjoedbpcaaDoorW.PrintWords
namespace Go.Proofs.YtghpmpjoedbpcaaDoorW.PrintLast
end Go.Proofs.YtghpmpjoedbpcaaDoorW.PrintLast
namespace Go.Proofs.YtghpmpjoedbpcaaDoorW.PrintMore
end Go.Proofs.YtghpmpjoedbpcaaDoorW.PrintMore
/-! ### EJAdd -/
namespace Go.Proofs.YtghpmpjoedbpcaaDoor.Print
open Go.RowKit Go.Proofs.YtghpmpjoedbpcaaDoorW.PrintWords Go.Proofs.YtghpmpjoedbpcaaDoorW.PrintLast Go.Proofs.YtghpmpjoedbpcaaDoorW.PrintMore
set_option linter.unusedSimpArgs false
set_option linter.unusedVariables false
theorem fill_one6 (z a b c d e f : Value) (hz : z.cells.size = 6) (h1 : (Value.agg #[a, b, c, d, e, f]).cells = #[a, b, c, d, e, f]) : Instr.fill (fun i => some (i * 6, 6)) ((Array.range (1 * 6)).map (z.cells[· % z.cells.size]!)) [(0, .agg #[a, b, c, d, e, f])] = some #[a, b, c, d, e, f] := by
  generalize hA : ((Array.range (1 * 6)).map (z.cells[· % z.cells.size]!)) = arr
  have h2 : arr.size = 6 := by rw [← hA]; simp
  match arr, h2 with
  | ⟨[x, y, u, v, s, t]⟩, _ => simp [Instr.fill, Value.cells]
def qAt (q : List S35) (i : Nat) : S35 := q.getD i ⟨0, 0, 0⟩
/-- One entry fewer is kept free there. -/
def lessAt (q : List S35) (i : Nat) : List S35 := q.set i ⟨(qAt q i).f0, (qAt q i).f1 - 1, (qAt q i).f2⟩
theorem splice_one (a b : List Value) (x y z v : Value) : splice (a ++ x :: y :: z :: b) (a.length + 1) [v] = a ++ x :: v :: z :: b := by
  unfold splice
  rw [show [v].length = 1 from rfl, List.take_append, List.drop_append, List.take_of_length_le (by omega), List.drop_eq_nil_of_le (by omega), show a.length + 1 - a.length = 1 by omega, show a.length + 1 + 1 - a.length = 2 by omega]
  simp
theorem splice_two (a b : List Value) (x y z v : Value) : splice (a ++ x :: y :: z :: b) (a.length + 2) [v] = a ++ x :: y :: v :: b := by
  unfold splice
  rw [show [v].length = 1 from rfl, List.take_append, List.drop_append, List.take_of_length_le (by omega), List.drop_eq_nil_of_le (by omega), show a.length + 2 - a.length = 2 by omega, show a.length + 2 + 1 - a.length = 3 by omega]
  simp
theorem row_split (cur : List Value) (q : List S35) (i : Nat) (hi : i < q.length) (ht : cur.take (q.length * 3) = qRow q) :
    cur = qRow (q.take i) ++ .int .i64 (qAt q i).f0 :: .int .i64 (qAt q i).f1 :: .int .i64 (qAt q i).f2 :: (qRow (q.drop (i + 1)) ++ cur.drop (q.length * 3)) := by
  have h1 : qAt q i = q[i] := by unfold qAt; simp [List.getD_eq_getElem?_getD, List.getElem?_eq_getElem hi]
  have h2 : qRow q = qRow (q.take i) ++ (.int .i64 q[i].f0 :: .int .i64 q[i].f1 :: .int .i64 q[i].f2 :: qRow (q.drop (i + 1))) := by
    conv => lhs; rw [← List.take_append_drop i q, List.drop_eq_getElem_cons hi, qRow_append]
    rfl
  have h3 : cur = cur.take (q.length * 3) ++ cur.drop (q.length * 3) := (List.take_append_drop _ _).symm
  rw [ht, h2] at h3
  rw [h1]
  simpa using h3
theorem row_set (cur : List Value) (q : List S35) (i : Nat) (hi : i < q.length) (ht : cur.take (q.length * 3) = qRow q) (v : Int) :
    (splice cur (i * 3 + 1) [.int .i64 v]).take (q.length * 3) = qRow (q.set i ⟨(qAt q i).f0, v, (qAt q i).f2⟩) ∧ (splice cur (i * 3 + 2) [.int .i64 v]).take (q.length * 3) = qRow (q.set i ⟨(qAt q i).f0, (qAt q i).f1, v⟩) := by
  have h := row_split cur q i hi ht
  have hl : (qRow (q.take i)).length = i * 3 := by rw [qRow_length, List.length_take, Nat.min_eq_left (by omega)]
  have hr : ∀ y : S35, qRow (q.set i y) = qRow (q.take i) ++ .int .i64 y.f0 :: .int .i64 y.f1 :: .int .i64 y.f2 :: qRow (q.drop (i + 1)) := fun y => by
    rw [List.set_eq_take_append_cons_drop, if_pos hi, qRow_append]; rfl
  have e1 := splice_one (qRow (q.take i)) (qRow (q.drop (i + 1)) ++ cur.drop (q.length * 3)) (.int .i64 (qAt q i).f0) (.int .i64 (qAt q i).f1) (.int .i64 (qAt q i).f2) (.int .i64 v)
  have e2 := splice_two (qRow (q.take i)) (qRow (q.drop (i + 1)) ++ cur.drop (q.length * 3)) (.int .i64 (qAt q i).f0) (.int .i64 (qAt q i).f1) (.int .i64 (qAt q i).f2) (.int .i64 v)
  rw [← h, hl] at e1 e2
  have hq : ∀ y : S35, (qRow (q.set i y)).length = q.length * 3 := fun y => by rw [qRow_length, List.length_set]
  constructor
  · have hn := hq ⟨(qAt q i).f0, v, (qAt q i).f2⟩
    rw [hr] at hn
    rw [e1, hr]
    have e3 := List.take_left' (l₂ := cur.drop (q.length * 3)) hn
    simp only [List.append_assoc, List.cons_append] at e3
    exact e3
  · have hn := hq ⟨(qAt q i).f0, (qAt q i).f1, v⟩
    rw [hr] at hn
    rw [e2, hr]
    have e3 := List.take_left' (l₂ := cur.drop (q.length * 3)) hn
    simp only [List.append_assoc, List.cons_append] at e3
    exact e3
def addJ (j : Jn) (e : S27) : Jn × Int :=
  if rightJ j.l j.q j.g = false ∨ strangeB e = true then (zJn, 1)
  else if placeB j.q e.f1 = true then
    if (qAt j.q (placeI j.q e.f1)).f1 = 0 then (zJn, 180) else (⟨j.l ++ [e], lessAt j.q (placeI j.q e.f1), j.g⟩, 0)
  else if usedZ j.l j.q = 120 then (zJn, 180) else (⟨j.l ++ [e], j.q, j.g⟩, 0)
set_option maxHeartbeats 8000000 in
set_option maxRecDepth 100000 in
theorem add_calls (A0 : Option Addr) (c0 : Nat) (A1 : Option Addr) (c1 : Nat) (j : Jn) (e : S27) (w : World) (h0 : j.l.length ≤ c0 ∧ Kd.C k27 w A0 j.l.length j.l) (h1 : j.q.length ≤ c1 ∧ Kd.C k35 w A1 j.q.length j.q) (hT : Tabs w) (hj : Jok j) (he : e.f3.size ≤ 1000000000) :
    Calls Tryd.prog 10 #[.agg #[.slice A0 j.l.length c0, .slice A1 j.q.length c1, .int .i64 j.g], .agg #[.int .i64 e.f0, .int .i64 e.f1, .int .i64 e.f2, .string e.f3, .int .i64 e.f4, .int .i64 e.f5]] w fun x w' => ∃ v, x = .returned (.tuple #[v, .int .i64 (addJ j e).2]) ∧ JR w' w.heap.size v (addJ j e).1.l (addJ j e).1.q (addJ j e).1.g ∧ Below w.heap.size w w' := by
  obtain ⟨R, hR⟩ : ∃ R, R = addJ j e := ⟨_, rfl⟩
  rw [← hR]
  have HRR := Lib.hid hR
  have HA := Lib.hid h0
  have HB := Lib.hid h1
  have HT := Lib.hid hT
  have HJ := Lib.hid hj
  have HE := Lib.hid he
  clear hR h0 h1 hT hj he
  go_enter Tryd.func10, Tryd.ntmps10
  go_wp2_with (go_at_call 30; refine (fun (h : Hid _) => h.out) ?_)
  refine Lib.hid ?_
  have HX0 := Lib.hid (show (((w.alloc (.cells #[.slice A0 j.l.length c0, .slice A1 j.q.length c1, .int .i64 j.g] 25)).alloc (.cells #[.int .i64 e.f0, .int .i64 e.f1, .int .i64 e.f2, .string e.f3, .int .i64 e.f4, .int .i64 e.f5] 27)).alloc (.cells #[.slice none 0 0, .slice none 0 0, .int .i64 0] 25)).heap[w.heap.size]? = some (.cells #[.slice A0 j.l.length c0, .slice A1 j.q.length c1, .int .i64 j.g] 25 (0, 0)) from (Below.heap_alloc _ _ _ (by simp; omega)).trans ((Below.heap_alloc _ _ _ (by simp)).trans (heap_alloc_new _ _)))
  have HX1 := Lib.hid (show (((w.alloc (.cells #[.slice A0 j.l.length c0, .slice A1 j.q.length c1, .int .i64 j.g] 25)).alloc (.cells #[.int .i64 e.f0, .int .i64 e.f1, .int .i64 e.f2, .string e.f3, .int .i64 e.f4, .int .i64 e.f5] 27)).alloc (.cells #[.slice none 0 0, .slice none 0 0, .int .i64 0] 25)).heap[w.heap.size + 1]? = some (.cells #[.int .i64 e.f0, .int .i64 e.f1, .int .i64 e.f2, .string e.f3, .int .i64 e.f4, .int .i64 e.f5] 27 (0, 0)) from by
    have := heap_alloc_new (w.alloc (.cells #[.slice A0 j.l.length c0, .slice A1 j.q.length c1, .int .i64 j.g] 25)) (.cells #[.int .i64 e.f0, .int .i64 e.f1, .int .i64 e.f2, .string e.f3, .int .i64 e.f4, .int .i64 e.f5] 27)
    rw [show (w.alloc (.cells #[.slice A0 j.l.length c0, .slice A1 j.q.length c1, .int .i64 j.g] 25)).heap.size = w.heap.size + 1 by simp] at this
    exact (Below.heap_alloc _ _ _ (by simp)).trans this)
  have HX2 := Lib.hid (show (((w.alloc (.cells #[.slice A0 j.l.length c0, .slice A1 j.q.length c1, .int .i64 j.g] 25)).alloc (.cells #[.int .i64 e.f0, .int .i64 e.f1, .int .i64 e.f2, .string e.f3, .int .i64 e.f4, .int .i64 e.f5] 27)).alloc (.cells #[.slice none 0 0, .slice none 0 0, .int .i64 0] 25)).heap[w.heap.size + 2]? = some (.cells #[.slice none 0 0, .slice none 0 0, .int .i64 0] 25 (0, 0)) from by
    have := heap_alloc_new ((w.alloc (.cells #[.slice A0 j.l.length c0, .slice A1 j.q.length c1, .int .i64 j.g] 25)).alloc (.cells #[.int .i64 e.f0, .int .i64 e.f1, .int .i64 e.f2, .string e.f3, .int .i64 e.f4, .int .i64 e.f5] 27)) (.cells #[.slice none 0 0, .slice none 0 0, .int .i64 0] 25)
    rw [show ((w.alloc (.cells #[.slice A0 j.l.length c0, .slice A1 j.q.length c1, .int .i64 j.g] 25)).alloc (.cells #[.int .i64 e.f0, .int .i64 e.f1, .int .i64 e.f2, .string e.f3, .int .i64 e.f4, .int .i64 e.f5] 27)).heap.size = w.heap.size + 2 by simp] at this
    exact this)
  have HO0 := Lib.hid ((((Only.refl [] w).alloc (.cells #[.slice A0 j.l.length c0, .slice A1 j.q.length c1, .int .i64 j.g] 25)).alloc (.cells #[.int .i64 e.f0, .int .i64 e.f1, .int .i64 e.f2, .string e.f3, .int .i64 e.f4, .int .i64 e.f5] 27)).alloc (.cells #[.slice none 0 0, .slice none 0 0, .int .i64 0] 25))
  generalize ((w.alloc (.cells #[.slice A0 j.l.length c0, .slice A1 j.q.length c1, .int .i64 j.g] 25)).alloc (.cells #[.int .i64 e.f0, .int .i64 e.f1, .int .i64 e.f2, .string e.f3, .int .i64 e.f4, .int .i64 e.f5] 27)).alloc (.cells #[.slice none 0 0, .slice none 0 0, .int .i64 0] 25) = W0 at *
  generalize hb : w.heap.size = wb at *
  have HBB := Lib.hid hb
  clear hb
  refine (own_any A0 c0 A1 c1 j.l j.q j.g W0 (Kd.C_below HA.out.2 HO0.out.nil_below) (Kd.C_below HB.out.2 HO0.out.nil_below) HJ.out.2.1 HJ.out.2.2).mono ?_
  rintro x W3 ⟨bp, B0, d0, B1, d1, rfl, hbk, ho3⟩
  have HBK := Lib.hid hbk
  have HBP := Lib.hid (show wb + 2 < bp from Nat.lt_of_lt_of_le (heap_lt HX2.out) hbk.hb)
  have HW0S := Lib.hid (show wb + 2 < W0.heap.size from heap_lt HX2.out)
  have HY1 := Lib.hid (ho3.heap HX1.out (by simp))
  have HY2 := Lib.hid (ho3.heap HX2.out (by simp))
  have HW3 := Lib.hid (HO0.out.trans ho3)
  clear hbk ho3 HX0 HX1 HX2 HO0
  have HRI := Lib.hid (right_any bp d0 B0 j.l B1 d1 j.q j.g W3 HBK.out.row HBK.out.reads.1.2 HBK.out.reads.2.2 HJ.out.1 (HT.out.below HW3.out.nil_below) (by have := HJ.out.2.1; omega) (by have := HJ.out.2.2; omega))
  unfold addJ at HRR
  go_wp2_with (go_at_call 31; refine HRI.out.mono ?_; rintro x W4 ⟨rfl, hb4⟩; refine (fun (h : Hid _) => h.out) ?_)
  refine Lib.hid ?_
  have HBK4 := Lib.hid (HBK.out.below hb4)
  have HZ1 := Lib.hid ((Only.of_below hb4).heap HY1.out (by simp))
  have HZ2 := Lib.hid ((Only.of_below hb4).heap HY2.out (by simp))
  have HW4 := Lib.hid (HW3.out.trans (Only.of_below hb4))
  clear hb4 HBK HY1 HY2 HW3 HRI
  cases hr : rightJ j.l j.q j.g
  · have HR0 := Lib.hid (HRR.out.trans (if_pos (.inl hr)))
    clear hr HRR
    go_wp2_with (first
      | (with_reducible refine wpList_store_new rfl 25 (.tmp 4) (.tmp 19) rfl (wb + 2) #[.slice none 0 0, .slice none 0 0, .int .i64 0] rfl rfl 25 _ HZ2.out (size3_25 _ _ _) rfl (by simp [Value.oneCell']) ?_; intro w9 hh9 ho9))
    refine bodyPost_ret (results_row rfl _ _ (wb + 2) _ _ _ _ rfl hh9.out Tryd.underlying25 rfl (size3_25 _ _ _)) rfl ?_
    rw [HR0.out]
    exact ⟨_, rfl, jr_zero _ _, (((HW4.out.mono (T := [wb + 2]) (by simp)).trans ho9).pop (by rw [HBB.out]; omega)).nil_below⟩
  obtain ⟨hL, hBt, hRi, hG, hU, hE9, hOd⟩ := right_parts hr
  have hU0 := usedZ_ge j.l j.q hL
  have hrr := HRR.out
  rw [hr] at hrr
  have HRR := Lib.hid hrr
  clear hrr
  have HST := Lib.hid (strange_any (.pointer (some ⟨bp, 0, none⟩)) e W4 HE.out (HT.out.below HW4.out.nil_below))
  have y0 : W4.cell? ⟨wb + 1, 0, none⟩ = some (.int .i64 e.f0) := (cell_of_row W4 (wb + 1) 0 _ _ _ HZ1.out).trans rfl
  have y1 : W4.cell? ⟨wb + 1, 1, none⟩ = some (.int .i64 e.f1) := (cell_of_row W4 (wb + 1) 1 _ _ _ HZ1.out).trans rfl
  have y2 : W4.cell? ⟨wb + 1, 2, none⟩ = some (.int .i64 e.f2) := (cell_of_row W4 (wb + 1) 2 _ _ _ HZ1.out).trans rfl
  have y3 : W4.cell? ⟨wb + 1, 3, none⟩ = some (.string e.f3) := (cell_of_row W4 (wb + 1) 3 _ _ _ HZ1.out).trans rfl
  have y4 : W4.cell? ⟨wb + 1, 4, none⟩ = some (.int .i64 e.f4) := (cell_of_row W4 (wb + 1) 4 _ _ _ HZ1.out).trans rfl
  have y5 : W4.cell? ⟨wb + 1, 5, none⟩ = some (.int .i64 e.f5) := (cell_of_row W4 (wb + 1) 5 _ _ _ HZ1.out).trans rfl
  go_wp2_with (go_at_call 32; refine HST.out.mono ?_; rintro x W5 ⟨rfl, hb5⟩; refine (fun (h : Hid _) => h.out) ?_)
  refine Lib.hid ?_
  have HBK5 := Lib.hid (HBK4.out.below hb5)
  have HY1 := Lib.hid ((Only.of_below hb5).heap HZ1.out (by simp))
  have HY2 := Lib.hid ((Only.of_below hb5).heap HZ2.out (by simp))
  have HW5 := Lib.hid (HW4.out.trans (Only.of_below hb5))
  clear hb5 HBK4 HZ1 HZ2 HW4 HST y0 y1 y2 y3 y4 y5
  cases hst : strangeB e
  rotate_left
  · have HR0 := Lib.hid (HRR.out.trans (if_pos (.inr hst)))
    clear hst HRR
    go_wp2_with (first
      | (with_reducible refine wpList_store_new rfl 25 (.tmp 4) (.tmp 19) rfl (wb + 2) #[.slice none 0 0, .slice none 0 0, .int .i64 0] rfl rfl 25 _ HY2.out (size3_25 _ _ _) rfl (by simp [Value.oneCell']) ?_; intro w9 hh9 ho9))
    refine bodyPost_ret (results_row rfl _ _ (wb + 2) _ _ _ _ rfl hh9.out Tryd.underlying25 rfl (size3_25 _ _ _)) rfl ?_
    rw [HR0.out]
    exact ⟨_, rfl, jr_zero _ _, (((HW5.out.mono (T := [wb + 2]) (by simp)).trans ho9).pop (by rw [HBB.out]; omega)).nil_below⟩
  have HRR := Lib.hid (HRR.out.trans (if_neg (by rw [hst]; simp)))
  have hbb : 0 ≤ e.f1 ∧ e.f1 ≤ 1099511627776 := by
    unfold strangeB at hst
    simp only [Bool.or_eq_false_iff, Bool.not_eq_false'] at hst
    have := hst.1.1.2
    unfold wi at this
    simp only [Bool.and_eq_true, decide_eq_true_eq] at this
    exact this
  obtain ⟨hb0, hb9⟩ := hbb
  clear hst
  have HPL := Lib.hid (place_any bp j.l.length d0 B0 B1 d1 j.q j.g e.f1 W5 HBK5.out.row HBK5.out.reads.2.2 (by have := HJ.out.2.2; omega) hRi hBt hb0 hb9)
  have y1 : W5.cell? ⟨wb + 1, 1, none⟩ = some (.int .i64 e.f1) := (cell_of_row W5 (wb + 1) 1 _ _ _ HY1.out).trans rfl
  go_wp2_with (go_at_call 33; refine HPL.out.mono ?_; rintro x W6 ⟨rfl, hb6⟩; refine (fun (h : Hid _) => h.out) ?_)
  refine Lib.hid ?_
  clear y1
  have HBK6 := Lib.hid (HBK5.out.below hb6)
  have HZ1 := Lib.hid ((Only.of_below hb6).heap HY1.out (by simp))
  have HZ2 := Lib.hid ((Only.of_below hb6).heap HY2.out (by simp))
  have HW6 := Lib.hid (HW5.out.trans (Only.of_below hb6))
  clear hb6 HBK5 HY1 HY2 HW5 HPL
  have HPI := Lib.hid (placeI_le j.q e.f1)
  cases hpb : placeB j.q e.f1
  · have HRR := Lib.hid (HRR.out.trans (if_neg (by rw [hpb]; simp)))
    clear hpb
    have HUS := Lib.hid (used_any bp j.l.length d0 B0 B1 d1 j.q j.g W6 HBK6.out.row HBK6.out.reads.2.2 hL (by have := HJ.out.2.1; omega) (by have := HJ.out.2.2; omega))
    unfold usedZ at hU hU0 HRR
    generalize usedFrom (mn (j.l.length : Int) 121) j.q = uz at *
    go_wp2_with (go_at_call 34; refine HUS.out.mono ?_; rintro x W7 ⟨rfl, hb7⟩; refine (fun (h : Hid _) => h.out) ?_)
    refine Lib.hid ?_
    have HBK7 := Lib.hid (HBK6.out.below hb7)
    have HY1 := Lib.hid ((Only.of_below hb7).heap HZ1.out (by simp))
    have HY2 := Lib.hid ((Only.of_below hb7).heap HZ2.out (by simp))
    have HW7 := Lib.hid (HW6.out.trans (Only.of_below hb7))
    clear hb7 HBK6 HZ1 HZ2 HW6 HUS
    by_cases hful : uz = 120
    · have HR0 := Lib.hid (HRR.out.trans (if_pos hful))
      clear HRR
      subst hful
      go_wp2_with (first
        | (with_reducible refine wpList_store_new rfl 25 (.tmp 4) (.tmp 49) rfl (wb + 2) #[.slice none 0 0, .slice none 0 0, .int .i64 0] rfl rfl 25 _ HY2.out (size3_25 _ _ _) rfl (by simp [Value.oneCell']) ?_; intro w9 hh9 ho9))
      refine bodyPost_ret (results_row rfl _ _ (wb + 2) _ _ _ _ rfl hh9.out Tryd.underlying25 rfl (size3_25 _ _ _)) rfl ?_
      rw [HR0.out]
      exact ⟨_, rfl, jr_zero _ _, (((HW7.out.mono (T := [wb + 2]) (by simp)).trans ho9).pop (by rw [HBB.out]; omega)).nil_below⟩
    have HRR := Lib.hid (HRR.out.trans (if_neg hful))
    have hfu2 : (uz == 120) = false := by rw [beq_eq_false_iff_ne]; exact hful
    go_wp2
    refine L.grow_start (Value.slice B0 j.l.length d0).ownBlock.toList 12 ((0, true, false) :: (1, true, false) :: (2, true, false) :: (3, true, false) :: (4, true, false) :: (5, true, false) :: (6, true, true) :: (7, false, true) :: (8, false, true) :: (9, true, true) :: (10, true, true) :: (11, true, true) :: (12, false, true) :: []) (by kernel_rfl) (([], [6], some 63) :: ([], [6], some 64) :: ([1], [64], some 65) :: ([2], [65], some 66) :: ([3], [66], some 67) :: ([4], [67], some 68) :: ([], [3], some 69) :: ([6], [69], some 70) :: ([5, 7], [68, 70], some 71) :: ([0, 0, 1, 2, 3, 4, 5, 6, 7, 8], [63], some 72) :: ([9, 0, 1, 2, 3, 4, 5, 6, 7, 8], [72], some 73) :: ([10, 0, 1, 2, 3, 4, 5, 6, 7, 8], [73], some 74) :: ([11, 8, 8, 0, 1, 2, 3, 4, 5, 6, 7, 8], [74, 71], none) :: []) (by kernel_rfl) (by kernel_rfl) (n := 13) rfl (by kernel_rfl) (fun _ _ _ _ _ h => h) (fun wg hog => ?_)
    refine L.growe_start (N := 79) (by rfl) ?_
    have HBG := Lib.hid (HBK7.out.below hog.nil_below)
    have HE1 := Lib.hid (hog.heap HY1.out (by simp))
    have HE2 := Lib.hid (hog.heap HY2.out (by simp))
    have HWG := Lib.hid (HW7.out.trans hog)
    have hbpn : bp ∉ (Value.slice B0 j.l.length d0).ownBlock.toList := fun h => HBG.out.nl (by simpa using h)
    have hypn : wb + 1 ∉ (Value.slice B0 j.l.length d0).ownBlock.toList := fun h => by
      have := (ownsRow_lt HBG.out.ol (show (Value.slice B0 j.l.length d0).ownBlock = some (wb + 1) by simpa using h)).1; have := HW0S.out; omega
    have HHN := Lib.hid hypn
    have HBN := Lib.hid hbpn
    clear hypn hbpn hog
    have e0 : ∀ w', Only (Value.slice B0 j.l.length d0).ownBlock.toList wg w' → w'.cell? ⟨bp, 0, none⟩ = some (.slice B0 j.l.length d0) := fun w' k => (cell_of_row w' bp 0 _ _ _ (k.heap HBG.out.row HBN.out)).trans rfl
    have y0 : ∀ w', Only (Value.slice B0 j.l.length d0).ownBlock.toList wg w' → w'.cell? ⟨wb + 1, 0, none⟩ = some (.int .i64 e.f0) := fun w' k => (cell_of_row w' (wb + 1) 0 _ _ _ (k.heap HE1.out HHN.out)).trans rfl
    have y1 : ∀ w', Only (Value.slice B0 j.l.length d0).ownBlock.toList wg w' → w'.cell? ⟨wb + 1, 1, none⟩ = some (.int .i64 e.f1) := fun w' k => (cell_of_row w' (wb + 1) 1 _ _ _ (k.heap HE1.out HHN.out)).trans rfl
    have y2 : ∀ w', Only (Value.slice B0 j.l.length d0).ownBlock.toList wg w' → w'.cell? ⟨wb + 1, 2, none⟩ = some (.int .i64 e.f2) := fun w' k => (cell_of_row w' (wb + 1) 2 _ _ _ (k.heap HE1.out HHN.out)).trans rfl
    have y3 : ∀ w', Only (Value.slice B0 j.l.length d0).ownBlock.toList wg w' → w'.cell? ⟨wb + 1, 3, none⟩ = some (.string e.f3) := fun w' k => (cell_of_row w' (wb + 1) 3 _ _ _ (k.heap HE1.out HHN.out)).trans rfl
    have y4 : ∀ w', Only (Value.slice B0 j.l.length d0).ownBlock.toList wg w' → w'.cell? ⟨wb + 1, 4, none⟩ = some (.int .i64 e.f4) := fun w' k => (cell_of_row w' (wb + 1) 4 _ _ _ (k.heap HE1.out HHN.out)).trans rfl
    have y5 : ∀ w', Only (Value.slice B0 j.l.length d0).ownBlock.toList wg w' → w'.cell? ⟨wb + 1, 5, none⟩ = some (.int .i64 e.f5) := fun w' k => (cell_of_row w' (wb + 1) 5 _ _ _ (k.heap HE1.out HHN.out)).trans rfl
    iterate 7 (first | (refine L.ge_off rfl rfl rfl (by rfl) ?_) | (refine L.ge_move rfl rfl rfl (by rfl) rfl (by simp [L.evE, L.lk, Act.eval]; rfl) ?_) | (refine L.ge_pick rfl rfl rfl (by rfl) rfl (by simp [L.evE, L.lk, Act.eval]; rfl) (by simp [L.evE, L.lk, Act.eval]; rfl) ?_) | (refine L.ge_val rfl rfl rfl (by rfl) (by intro w' hw'; simp [execOp, L.evE, L.lk, Act.eval]; go_simp; rfl) ?_))
    refine ge_one rfl rfl rfl (by rfl) _ (.tmp 69) rfl 27 Tryd.underlying22 (.agg #[.int .i64 0, .int .i64 0, .int .i64 0, .string ⟨#[]⟩, .int .i64 0, .int .i64 0]) 6 56 info27 (by omega) (by omega) #[.int .i64 e.f0, .int .i64 e.f1, .int .i64 e.f2, .string e.f3, .int .i64 e.f4, .int .i64 e.f5] (by have h := fill_one6 (.agg #[.int .i64 0, .int .i64 0, .int .i64 0, .string ⟨#[]⟩, .int .i64 0, .int .i64 0]) (.int .i64 e.f0) (.int .i64 e.f1) (.int .i64 e.f2) (.string e.f3) (.int .i64 e.f4) (.int .i64 e.f5) rfl rfl; simpa [L.evE, L.lk, Act.eval] using h) ?_
    have HPN := Lib.hid (heap_alloc_new wg (.cells #[.int .i64 e.f0, .int .i64 e.f1, .int .i64 e.f2, .string e.f3, .int .i64 e.f4, .int .i64 e.f5] 27))
    have hal : Only [] wg (wg.alloc (.cells #[.int .i64 e.f0, .int .i64 e.f1, .int .i64 e.f2, .string e.f3, .int .i64 e.f4, .int .i64 e.f5] 27)) := (Only.refl [] wg).alloc _
    have HOW := Lib.hid (ownsRow_only HBG.out.ol hal (by simp))
    have HAL := Lib.hid hal
    have HGB := Lib.hid (show W0.heap.size ≤ (wg.alloc (.cells #[.int .i64 e.f0, .int .i64 e.f1, .int .i64 e.f2, .string e.f3, .int .i64 e.f4, .int .i64 e.f5] 27)).heap.size from Nat.le_trans HBG.out.hb (Nat.le_trans (Nat.le_of_lt (heap_lt HBG.out.row)) hal.size))
    clear hal e0 y0 y1 y2 y3 y4 y5
    refine ge_append_row rfl rfl rfl (by rfl) (.tmp 68) (.tmp 70) 22 rfl W0.heap.size 27 6 56 (.agg #[.int .i64 0, .int .i64 0, .int .i64 0, .string ⟨#[]⟩, .int .i64 0, .int .i64 0]) Tryd.underlying22 info27 rfl (by omega) (.slice B0 j.l.length d0) j.l.length (eRow j.l) (by simp [L.evE, L.lk, Act.eval]) HOW.out (some ⟨wg.heap.size, 0, none⟩) 1 1 [.int .i64 e.f0, .int .i64 e.f1, .int .i64 e.f2, .string e.f3, .int .i64 e.f4, .int .i64 e.f5] (by simp [L.evE, L.lk, Act.eval]) rfl (fun _ => ⟨_, rfl, cellsAt_row HPN.out⟩) (by simp [Value.oneCell']) (by have := HJ.out.2.1; unfold maxLen; omega) (by have := HJ.out.2.1; omega) HGB.out ?_
    intro A8 c8 w8 hb8 ho8 hk8
    refine ⟨ho8, ?_⟩
    have HB8 := Lib.hid (show w8.ownsRow W0.heap.size 27 6 (.slice A8 (j.l.length + 1) c8) (j.l.length + 1) (eRow (j.l ++ [e])) by rw [eRow_append]; exact hb8)
    have HO8 := Lib.hid (HAL.out.mono (T := (Value.slice B0 j.l.length d0).ownBlock.toList) (by simp) |>.trans ho8)
    have HR8 := Lib.hid (HO8.out.heap HBG.out.row HBN.out)
    have HK8 := Lib.hid (show ∀ k, (Value.slice A8 (j.l.length + 1) c8).ownBlock = some k → (Value.slice B0 j.l.length d0).ownBlock = some k ∨ wg.heap.size ≤ k from fun k hk => (hk8 k hk).imp id (fun h => Nat.le_trans HAL.out.size h))
    clear hb8 ho8 hk8 HPN HOW HAL
    iterate 3 (first | (refine L.ge_off rfl rfl rfl (by rfl) ?_) | (refine L.ge_move rfl rfl rfl (by rfl) rfl (by simp [L.evE, L.lk, Act.eval]; rfl) ?_) | (refine L.ge_pick rfl rfl rfl (by rfl) rfl (by simp [L.evE, L.lk, Act.eval]; rfl) (by simp [L.evE, L.lk, Act.eval]; rfl) ?_) | (refine L.ge_val rfl rfl rfl (by rfl) (by intro w' hw'; simp [execOp, L.evE, L.lk, Act.eval]; go_simp; rfl) ?_))
    refine ge_last_in rfl rfl (by rfl) _ (.tmp 74) (.tmp 71) rfl bp 0 (.slice A8 (j.l.length + 1) c8) (by simp [L.evE, L.lk, Act.eval]) (by simp [L.evE, L.lk, Act.eval]) [.slice A8 (j.l.length + 1) c8] rfl 56 [.slice B0 j.l.length d0, .slice B1 (j.q).length d1, .int .i64 j.g] HR8.out (by kernel_rfl) (by simp) (by simp [Value.oneCell']) ?_
    intro W9 hr9 ho9
    simp only [L.puts, Act.put, goInt, List.setIfInBounds_toArray, List.set_cons_zero, List.set_cons_succ]
    have HN8 := Lib.hid (show (Value.slice A8 (j.l.length + 1) c8).ownBlock ≠ some bp from fun h => by
      rcases HK8.out _ h with h | h
      · exact HBG.out.nl h
      · have := heap_lt HBG.out.row; omega)
    have HN9 := Lib.hid (show (Value.slice A8 (j.l.length + 1) c8).ownBlock ≠ some (wb + 2) from fun h => by
      rcases HK8.out _ h with h | h
      · have := (ownsRow_lt HBG.out.ol h).1; have := HW0S.out; omega
      · have := heap_lt HE2.out; omega)
    have HN7 := Lib.hid (show (Value.slice B1 (j.q).length d1).ownBlock ≠ some (wb + 2) from fun h => by have := (ownsRow_lt HBG.out.oq h).1; have := HW0S.out; omega)
    have HRR9 := Lib.hid (show W9.heap[bp]? = some (.cells #[.slice A8 (j.l.length + 1) c8, .slice B1 (j.q).length d1, .int .i64 j.g] 56 (0, 0)) from hr9.out)
    have HL9 := Lib.hid (ownsRow_only HB8.out ho9.out (fun k hk h => by simp at h; subst h; exact HN8.out hk))
    have HQ9 := Lib.hid (ownsRow_only (ownsRow_only HBG.out.oq HO8.out (fun k hk h => HBG.out.nlq k (by simpa using h) hk)) ho9.out (fun k hk h => by simp at h; subst h; exact HBG.out.nq hk))
    have HY9 := Lib.hid (ho9.out.heap (HO8.out.heap HE2.out (fun h => by have := (ownsRow_lt HBG.out.ol (show (Value.slice B0 j.l.length d0).ownBlock = some (wb + 2) by simpa using h)).1; have := HW0S.out; omega)) (by simp; have := HBP.out; omega))
    have HW9 := Lib.hid ((HWG.out.then HO8.out (fun k hk => .inr (by have := (ownsRow_lt HBG.out.ol (show (Value.slice B0 j.l.length d0).ownBlock = some k by simpa using hk)).1; have := HW0S.out; have := HBB.out; omega))).then ho9.out (fun k hk => .inr (by simp at hk; subst hk; have := HBP.out; have := HBB.out; omega)))
    clear HBG HE1 HE2 HWG HHN HBN HB8 HO8 HR8 HK8 HN8 hr9 ho9
    go_wp2_with (first
      | (with_reducible refine wpList_load_at rfl 25 (.tmp 77) rfl ⟨bp, 0, none⟩ rfl _ _ (cellsAt_row HRR9.out) Tryd.underlying25 rfl (by kernel_rfl) ?_)
      | (with_reducible refine wpList_store_new rfl 25 (.tmp 4) (.tmp 78) rfl (wb + 2) #[.slice A8 (j.l.length + 1) c8, .slice B1 (j.q).length d1, .int .i64 j.g] rfl rfl 25 _ HY9.out (size3_25 _ _ _) rfl (by simp [Value.oneCell']) ?_; intro w9 hh9 ho9))
    refine bodyPost_ret (results_row rfl _ _ (wb + 2) _ _ _ _ rfl hh9.out Tryd.underlying25 rfl (size3_25 _ _ _)) rfl ?_
    rw [HRR.out]
    have hz9 := ((HW9.out.mono (T := [wb + 2]) (by simp)).trans ho9).pop (show w.heap.size ≤ wb + 2 by rw [HBB.out]; omega)
    refine ⟨_, rfl, ?_, hz9.nil_below⟩
    have hll : (j.l ++ [e]).length = j.l.length + 1 := by simp
    have hl9 := ownsRow_only HL9.out ho9 (fun k hk h => by simp at h; subst h; exact HN9.out hk)
    have hq9 := ownsRow_only HQ9.out ho9 (fun k hk h => by simp at h; subst h; exact HN7.out hk)
    rw [← hll] at hl9
    show JR w9 _ _ (j.l ++ [e]) (j.q) j.g
    rw [← hll]
    exact ⟨A8, c8, B1, d1, rfl, ownsRow_mono hl9 (by have := HW0S.out; have := HBB.out; omega), ownsRow_mono hq9 (by have := HW0S.out; have := HBB.out; omega)⟩
  · have hlt := placeB_lt hpb
    have HRR := Lib.hid (HRR.out.trans (if_pos hpb))
    clear hpb
    obtain ⟨i, hi⟩ : ∃ i, i = placeI j.q e.f1 := ⟨_, rfl⟩
    rw [← hi] at HRR HPI hlt ⊢
    clear hi
    have hqb := HJ.out.2.2
    have hi0 : (0 : Int) ≤ i := by omega
    have hilt : (i : Int) < j.q.length := by omega
    rcases HBK6.out.oq.2 with ⟨_, hz⟩ | ⟨gq, cap, cur0, e0, hgb, hg0, hnc, hcm, hcs, htk⟩
    · omega
    injection e0 with e0 e1 e2
    subst e0 e2
    obtain ⟨cur, rfl⟩ : ∃ cur : List Value, cur0 = cur.toArray := ⟨cur0.toList, by simp⟩
    have htk2 : cur.take (j.q.length * 3) = qRow j.q := by simpa using htk
    have hcl : cur.length = d1 * 3 := by simpa using hcs
    have hsp := row_split cur j.q i hlt htk2
    have hset := fun v => (row_set cur j.q i hlt htk2 v).1
    have hrl : (qRow (j.q.take i)).length = i * 3 := by rw [qRow_length, List.length_take, Nat.min_eq_left (by omega)]
    have hc1 : W6.cell? ⟨gq, i * 3 + 1, none⟩ = some (.int .i64 (qAt j.q i).f1) := by
      rw [cell_of_row W6 gq _ _ _ _ hg0, List.getElem?_toArray, hsp, ← hrl, List.getElem?_append_right (by omega)]
      simp
    have hlf : 0 ≤ (qAt j.q i).f1 ∧ (qAt j.q i).f1 ≤ 40 := by
      have e : qAt j.q i = j.q[i] := by unfold qAt; simp [List.getD_eq_getElem?_getD, List.getElem?_eq_getElem hlt]
      rw [e]
      exact hL _ (List.getElem_mem hlt)
    have HG := Lib.hid hg0
    have HCL := Lib.hid hcl
    have HSET := Lib.hid hset
    have HQB := Lib.hid hgb
    have HDM := Lib.hid hcm
    have HNC := Lib.hid hnc
    have HLF := Lib.hid (show lessAt j.q i = j.q.set i ⟨(qAt j.q i).f0, (qAt j.q i).f1 - 1, (qAt j.q i).f2⟩ from rfl)
    obtain ⟨hf0, hf9⟩ := hlf
    clear hsp hset hrl hcs htk htk2 hcl hg0 hgb hcm hnc e1
    generalize (qAt j.q i).f1 = lf at *
    have a1 : W6.cell? ⟨bp, 1, none⟩ = some (.slice (some ⟨gq, 0, none⟩) j.q.length d1) := (cell_of_row W6 bp 1 _ _ _ HBK6.out.row).trans rfl
    by_cases hful : lf = 0
    · have HR0 := Lib.hid (HRR.out.trans (if_pos hful))
      clear HRR
      subst hful
      go_wp2_with (first
        | (with_reducible refine wpList_store_new rfl 25 (.tmp 4) (.tmp 49) rfl (wb + 2) #[.slice none 0 0, .slice none 0 0, .int .i64 0] rfl rfl 25 _ HZ2.out (size3_25 _ _ _) rfl (by simp [Value.oneCell']) ?_; intro w9 hh9 ho9))
      refine bodyPost_ret (results_row rfl _ _ (wb + 2) _ _ _ _ rfl hh9.out Tryd.underlying25 rfl (size3_25 _ _ _)) rfl ?_
      rw [HR0.out]
      exact ⟨_, rfl, jr_zero _ _, (((HW6.out.mono (T := [wb + 2]) (by simp)).trans ho9).pop (by rw [HBB.out]; omega)).nil_below⟩
    have HRR := Lib.hid (HRR.out.trans (if_neg hful))
    have hfu2 : (lf == 0) = false := by rw [beq_eq_false_iff_ne]; exact hful
    go_wp2_with (first
      | (with_reducible refine wpList_store_in rfl 3 (.tmp 62) (.tmp 60) rfl gq (i * 3 + 1) _ rfl rfl [.int .i64 (lf - 1)] rfl 35 cur HG.out (by kernel_rfl) (by rw [HCL.out]; have := HNC.out; simp; omega) (by simp [Value.oneCell']) ?_; intro W7 hr7 ho7; refine (fun (h : Hid _) => h.out) ?_))
    refine Lib.hid ?_
    have hll : (lessAt j.q i).length = j.q.length := by unfold lessAt; rw [List.length_set]
    have hbp7 : bp ∉ [gq] := fun h => HBK6.out.nq (by simp at h; rw [h]; rfl)
    have hbk7 : Bk W7 W0.heap.size bp B0 d0 (some ⟨gq, 0, none⟩) d1 j.l (lessAt j.q i) j.g := by
      refine ⟨?_, HBK6.out.hb, ?_, ?_, HBK6.out.nl, ?_, ?_⟩
      · rw [hll]; exact ho7.out.heap HBK6.out.row hbp7
      · exact ownsRow_only HBK6.out.ol ho7.out (fun k hk h => by simp at h; subst h; exact HBK6.out.nlq _ hk rfl)
      · rw [hll]
        refine ⟨by rw [qRow_length, hll], .inr ⟨gq, d1, _, rfl, HQB.out, hr7.out, HNC.out, HDM.out, ?_, ?_⟩⟩
        · rw [List.size_toArray, length_splice _ _ _ (by rw [HCL.out]; have := HNC.out; simp; omega)]; exact HCL.out
        · show (splice cur (i * 3 + 1) [.int .i64 (lf - 1)]).take (j.q.length * 3) = _
          rw [HSET.out (lf - 1), HLF.out]
      · exact HBK6.out.nq
      · exact HBK6.out.nlq
    have HBK7 := Lib.hid hbk7
    have HY1 := Lib.hid (ho7.out.heap HZ1.out (by have := HQB.out; have := HW0S.out; simp; omega))
    have HY2 := Lib.hid (ho7.out.heap HZ2.out (by have := HQB.out; have := HW0S.out; simp; omega))
    have HW7 := Lib.hid (HW6.out.then ho7.out (fun k hk => .inr (by simp at hk; subst hk; have := HQB.out; have := HW0S.out; have := HBB.out; omega)))
    clear hbk7 hbp7 hll a1 hr7 ho7 HBK6 HZ1 HZ2 HW6 HG HCL HSET HLF hc1
    go_wp2
    refine L.grow_start (Value.slice B0 j.l.length d0).ownBlock.toList 12 ((0, true, false) :: (1, true, false) :: (2, true, false) :: (3, true, false) :: (4, true, false) :: (5, true, false) :: (6, true, true) :: (7, false, true) :: (8, false, true) :: (9, true, true) :: (10, true, true) :: (11, true, true) :: (12, false, true) :: []) (by kernel_rfl) (([], [6], some 63) :: ([], [6], some 64) :: ([1], [64], some 65) :: ([2], [65], some 66) :: ([3], [66], some 67) :: ([4], [67], some 68) :: ([], [3], some 69) :: ([6], [69], some 70) :: ([5, 7], [68, 70], some 71) :: ([0, 0, 1, 2, 3, 4, 5, 6, 7, 8], [63], some 72) :: ([9, 0, 1, 2, 3, 4, 5, 6, 7, 8], [72], some 73) :: ([10, 0, 1, 2, 3, 4, 5, 6, 7, 8], [73], some 74) :: ([11, 8, 8, 0, 1, 2, 3, 4, 5, 6, 7, 8], [74, 71], none) :: []) (by kernel_rfl) (by kernel_rfl) (n := 13) rfl (by kernel_rfl) (fun _ _ _ _ _ h => h) (fun wg hog => ?_)
    refine L.growe_start (N := 79) (by rfl) ?_
    have HBG := Lib.hid (HBK7.out.below hog.nil_below)
    have HE1 := Lib.hid (hog.heap HY1.out (by simp))
    have HE2 := Lib.hid (hog.heap HY2.out (by simp))
    have HWG := Lib.hid (HW7.out.trans hog)
    have hbpn : bp ∉ (Value.slice B0 j.l.length d0).ownBlock.toList := fun h => HBG.out.nl (by simpa using h)
    have hypn : wb + 1 ∉ (Value.slice B0 j.l.length d0).ownBlock.toList := fun h => by
      have := (ownsRow_lt HBG.out.ol (show (Value.slice B0 j.l.length d0).ownBlock = some (wb + 1) by simpa using h)).1; have := HW0S.out; omega
    have HHN := Lib.hid hypn
    have HBN := Lib.hid hbpn
    clear hypn hbpn hog
    have e0 : ∀ w', Only (Value.slice B0 j.l.length d0).ownBlock.toList wg w' → w'.cell? ⟨bp, 0, none⟩ = some (.slice B0 j.l.length d0) := fun w' k => (cell_of_row w' bp 0 _ _ _ (k.heap HBG.out.row HBN.out)).trans rfl
    have y0 : ∀ w', Only (Value.slice B0 j.l.length d0).ownBlock.toList wg w' → w'.cell? ⟨wb + 1, 0, none⟩ = some (.int .i64 e.f0) := fun w' k => (cell_of_row w' (wb + 1) 0 _ _ _ (k.heap HE1.out HHN.out)).trans rfl
    have y1 : ∀ w', Only (Value.slice B0 j.l.length d0).ownBlock.toList wg w' → w'.cell? ⟨wb + 1, 1, none⟩ = some (.int .i64 e.f1) := fun w' k => (cell_of_row w' (wb + 1) 1 _ _ _ (k.heap HE1.out HHN.out)).trans rfl
    have y2 : ∀ w', Only (Value.slice B0 j.l.length d0).ownBlock.toList wg w' → w'.cell? ⟨wb + 1, 2, none⟩ = some (.int .i64 e.f2) := fun w' k => (cell_of_row w' (wb + 1) 2 _ _ _ (k.heap HE1.out HHN.out)).trans rfl
    have y3 : ∀ w', Only (Value.slice B0 j.l.length d0).ownBlock.toList wg w' → w'.cell? ⟨wb + 1, 3, none⟩ = some (.string e.f3) := fun w' k => (cell_of_row w' (wb + 1) 3 _ _ _ (k.heap HE1.out HHN.out)).trans rfl
    have y4 : ∀ w', Only (Value.slice B0 j.l.length d0).ownBlock.toList wg w' → w'.cell? ⟨wb + 1, 4, none⟩ = some (.int .i64 e.f4) := fun w' k => (cell_of_row w' (wb + 1) 4 _ _ _ (k.heap HE1.out HHN.out)).trans rfl
    have y5 : ∀ w', Only (Value.slice B0 j.l.length d0).ownBlock.toList wg w' → w'.cell? ⟨wb + 1, 5, none⟩ = some (.int .i64 e.f5) := fun w' k => (cell_of_row w' (wb + 1) 5 _ _ _ (k.heap HE1.out HHN.out)).trans rfl
    iterate 7 (first | (refine L.ge_off rfl rfl rfl (by rfl) ?_) | (refine L.ge_move rfl rfl rfl (by rfl) rfl (by simp [L.evE, L.lk, Act.eval]; rfl) ?_) | (refine L.ge_pick rfl rfl rfl (by rfl) rfl (by simp [L.evE, L.lk, Act.eval]; rfl) (by simp [L.evE, L.lk, Act.eval]; rfl) ?_) | (refine L.ge_val rfl rfl rfl (by rfl) (by intro w' hw'; simp [execOp, L.evE, L.lk, Act.eval]; go_simp; rfl) ?_))
    refine ge_one rfl rfl rfl (by rfl) _ (.tmp 69) rfl 27 Tryd.underlying22 (.agg #[.int .i64 0, .int .i64 0, .int .i64 0, .string ⟨#[]⟩, .int .i64 0, .int .i64 0]) 6 56 info27 (by omega) (by omega) #[.int .i64 e.f0, .int .i64 e.f1, .int .i64 e.f2, .string e.f3, .int .i64 e.f4, .int .i64 e.f5] (by have h := fill_one6 (.agg #[.int .i64 0, .int .i64 0, .int .i64 0, .string ⟨#[]⟩, .int .i64 0, .int .i64 0]) (.int .i64 e.f0) (.int .i64 e.f1) (.int .i64 e.f2) (.string e.f3) (.int .i64 e.f4) (.int .i64 e.f5) rfl rfl; simpa [L.evE, L.lk, Act.eval] using h) ?_
    have HPN := Lib.hid (heap_alloc_new wg (.cells #[.int .i64 e.f0, .int .i64 e.f1, .int .i64 e.f2, .string e.f3, .int .i64 e.f4, .int .i64 e.f5] 27))
    have hal : Only [] wg (wg.alloc (.cells #[.int .i64 e.f0, .int .i64 e.f1, .int .i64 e.f2, .string e.f3, .int .i64 e.f4, .int .i64 e.f5] 27)) := (Only.refl [] wg).alloc _
    have HOW := Lib.hid (ownsRow_only HBG.out.ol hal (by simp))
    have HAL := Lib.hid hal
    have HGB := Lib.hid (show W0.heap.size ≤ (wg.alloc (.cells #[.int .i64 e.f0, .int .i64 e.f1, .int .i64 e.f2, .string e.f3, .int .i64 e.f4, .int .i64 e.f5] 27)).heap.size from Nat.le_trans HBG.out.hb (Nat.le_trans (Nat.le_of_lt (heap_lt HBG.out.row)) hal.size))
    clear hal e0 y0 y1 y2 y3 y4 y5
    refine ge_append_row rfl rfl rfl (by rfl) (.tmp 68) (.tmp 70) 22 rfl W0.heap.size 27 6 56 (.agg #[.int .i64 0, .int .i64 0, .int .i64 0, .string ⟨#[]⟩, .int .i64 0, .int .i64 0]) Tryd.underlying22 info27 rfl (by omega) (.slice B0 j.l.length d0) j.l.length (eRow j.l) (by simp [L.evE, L.lk, Act.eval]) HOW.out (some ⟨wg.heap.size, 0, none⟩) 1 1 [.int .i64 e.f0, .int .i64 e.f1, .int .i64 e.f2, .string e.f3, .int .i64 e.f4, .int .i64 e.f5] (by simp [L.evE, L.lk, Act.eval]) rfl (fun _ => ⟨_, rfl, cellsAt_row HPN.out⟩) (by simp [Value.oneCell']) (by have := HJ.out.2.1; unfold maxLen; omega) (by have := HJ.out.2.1; omega) HGB.out ?_
    intro A8 c8 w8 hb8 ho8 hk8
    refine ⟨ho8, ?_⟩
    have HB8 := Lib.hid (show w8.ownsRow W0.heap.size 27 6 (.slice A8 (j.l.length + 1) c8) (j.l.length + 1) (eRow (j.l ++ [e])) by rw [eRow_append]; exact hb8)
    have HO8 := Lib.hid (HAL.out.mono (T := (Value.slice B0 j.l.length d0).ownBlock.toList) (by simp) |>.trans ho8)
    have HR8 := Lib.hid (HO8.out.heap HBG.out.row HBN.out)
    have HK8 := Lib.hid (show ∀ k, (Value.slice A8 (j.l.length + 1) c8).ownBlock = some k → (Value.slice B0 j.l.length d0).ownBlock = some k ∨ wg.heap.size ≤ k from fun k hk => (hk8 k hk).imp id (fun h => Nat.le_trans HAL.out.size h))
    clear hb8 ho8 hk8 HPN HOW HAL
    iterate 3 (first | (refine L.ge_off rfl rfl rfl (by rfl) ?_) | (refine L.ge_move rfl rfl rfl (by rfl) rfl (by simp [L.evE, L.lk, Act.eval]; rfl) ?_) | (refine L.ge_pick rfl rfl rfl (by rfl) rfl (by simp [L.evE, L.lk, Act.eval]; rfl) (by simp [L.evE, L.lk, Act.eval]; rfl) ?_) | (refine L.ge_val rfl rfl rfl (by rfl) (by intro w' hw'; simp [execOp, L.evE, L.lk, Act.eval]; go_simp; rfl) ?_))
    refine ge_last_in rfl rfl (by rfl) _ (.tmp 74) (.tmp 71) rfl bp 0 (.slice A8 (j.l.length + 1) c8) (by simp [L.evE, L.lk, Act.eval]) (by simp [L.evE, L.lk, Act.eval]) [.slice A8 (j.l.length + 1) c8] rfl 56 [.slice B0 j.l.length d0, .slice (some ⟨gq, 0, none⟩) (lessAt j.q i).length d1, .int .i64 j.g] HR8.out (by kernel_rfl) (by simp) (by simp [Value.oneCell']) ?_
    intro W9 hr9 ho9
    simp only [L.puts, Act.put, goInt, List.setIfInBounds_toArray, List.set_cons_zero, List.set_cons_succ]
    have HN8 := Lib.hid (show (Value.slice A8 (j.l.length + 1) c8).ownBlock ≠ some bp from fun h => by
      rcases HK8.out _ h with h | h
      · exact HBG.out.nl h
      · have := heap_lt HBG.out.row; omega)
    have HN9 := Lib.hid (show (Value.slice A8 (j.l.length + 1) c8).ownBlock ≠ some (wb + 2) from fun h => by
      rcases HK8.out _ h with h | h
      · have := (ownsRow_lt HBG.out.ol h).1; have := HW0S.out; omega
      · have := heap_lt HE2.out; omega)
    have HN7 := Lib.hid (show (Value.slice (some ⟨gq, 0, none⟩) (lessAt j.q i).length d1).ownBlock ≠ some (wb + 2) from fun h => by have := (ownsRow_lt HBG.out.oq h).1; have := HW0S.out; omega)
    have HRR9 := Lib.hid (show W9.heap[bp]? = some (.cells #[.slice A8 (j.l.length + 1) c8, .slice (some ⟨gq, 0, none⟩) (lessAt j.q i).length d1, .int .i64 j.g] 56 (0, 0)) from hr9.out)
    have HL9 := Lib.hid (ownsRow_only HB8.out ho9.out (fun k hk h => by simp at h; subst h; exact HN8.out hk))
    have HQ9 := Lib.hid (ownsRow_only (ownsRow_only HBG.out.oq HO8.out (fun k hk h => HBG.out.nlq k (by simpa using h) hk)) ho9.out (fun k hk h => by simp at h; subst h; exact HBG.out.nq hk))
    have HY9 := Lib.hid (ho9.out.heap (HO8.out.heap HE2.out (fun h => by have := (ownsRow_lt HBG.out.ol (show (Value.slice B0 j.l.length d0).ownBlock = some (wb + 2) by simpa using h)).1; have := HW0S.out; omega)) (by simp; have := HBP.out; omega))
    have HW9 := Lib.hid ((HWG.out.then HO8.out (fun k hk => .inr (by have := (ownsRow_lt HBG.out.ol (show (Value.slice B0 j.l.length d0).ownBlock = some k by simpa using hk)).1; have := HW0S.out; have := HBB.out; omega))).then ho9.out (fun k hk => .inr (by simp at hk; subst hk; have := HBP.out; have := HBB.out; omega)))
    clear HBG HE1 HE2 HWG HHN HBN HB8 HO8 HR8 HK8 HN8 hr9 ho9
    go_wp2_with (first
      | (with_reducible refine wpList_load_at rfl 25 (.tmp 77) rfl ⟨bp, 0, none⟩ rfl _ _ (cellsAt_row HRR9.out) Tryd.underlying25 rfl (by kernel_rfl) ?_)
      | (with_reducible refine wpList_store_new rfl 25 (.tmp 4) (.tmp 78) rfl (wb + 2) #[.slice A8 (j.l.length + 1) c8, .slice (some ⟨gq, 0, none⟩) (lessAt j.q i).length d1, .int .i64 j.g] rfl rfl 25 _ HY9.out (size3_25 _ _ _) rfl (by simp [Value.oneCell']) ?_; intro w9 hh9 ho9))
    refine bodyPost_ret (results_row rfl _ _ (wb + 2) _ _ _ _ rfl hh9.out Tryd.underlying25 rfl (size3_25 _ _ _)) rfl ?_
    rw [HRR.out]
    have hz9 := ((HW9.out.mono (T := [wb + 2]) (by simp)).trans ho9).pop (show w.heap.size ≤ wb + 2 by rw [HBB.out]; omega)
    refine ⟨_, rfl, ?_, hz9.nil_below⟩
    have hll : (j.l ++ [e]).length = j.l.length + 1 := by simp
    have hl9 := ownsRow_only HL9.out ho9 (fun k hk h => by simp at h; subst h; exact HN9.out hk)
    have hq9 := ownsRow_only HQ9.out ho9 (fun k hk h => by simp at h; subst h; exact HN7.out hk)
    rw [← hll] at hl9
    show JR w9 _ _ (j.l ++ [e]) (lessAt j.q i) j.g
    rw [← hll]
    exact ⟨A8, c8, (some ⟨gq, 0, none⟩), d1, rfl, ownsRow_mono hl9 (by have := HW0S.out; have := HBB.out; omega), ownsRow_mono hq9 (by have := HW0S.out; have := HBB.out; omega)⟩
end Go.Proofs.YtghpmpjoedbpcaaDoor.Print
/-! ### EJNote -/
namespace Go.Proofs.YtghpmpjoedbpcaaDoor.Print
open Go.RowKit Go.Proofs.YtghpmpjoedbpcaaDoorW.PrintWords Go.Proofs.YtghpmpjoedbpcaaDoorW.PrintLast Go.Proofs.YtghpmpjoedbpcaaDoorW.PrintMore
attribute [local go_sem] min2_int min_two
set_option linter.unusedSimpArgs false
set_option linter.unusedVariables false
/-- One entry more was lost there. -/
def lostAt (q : List S35) (i : Nat) : List S35 := q.set i ⟨(qAt q i).f0, (qAt q i).f1, mn ((qAt q i).f2 + 1) 1099511627776⟩
def noteJ (j : Jn) (e : S27) : Jn × Int :=
  if (addJ j e).2 = 180 then (if placeB j.q e.f1 = true then (⟨j.l, lostAt j.q (placeI j.q e.f1), j.g⟩, 0) else (j, 0)) else addJ j e
theorem add_full {j : Jn} {e : S27} (h : (addJ j e).2 = 180) : rightJ j.l j.q j.g = true ∧ strangeB e = false := by
  unfold addJ at h
  split at h
  · cases h
  · rename_i h1
    cases hr : rightJ j.l j.q j.g <;> cases hs : strangeB e <;> simp [hr, hs] at h1 ⊢
theorem strange_batch {e : S27} (h : strangeB e = false) : 0 ≤ e.f1 ∧ e.f1 ≤ 1099511627776 := by
  unfold strangeB at h
  simp only [Bool.or_eq_false_iff, Bool.not_eq_false'] at h
  have := h.1.1.2
  unfold wi at this
  simp only [Bool.and_eq_true, decide_eq_true_eq] at this
  exact this
theorem odd_lost {q : List S35} (h : q.any oddB = false) : ∀ x ∈ q, 0 ≤ x.f2 ∧ x.f2 ≤ 1099511627776 := by
  intro x hx
  have h1 : oddB x = false := by
    cases hb : oddB x with
    | false => rfl
    | true =>
      have : q.any oddB = true := List.any_eq_true.2 ⟨x, hx, hb⟩
      rw [this] at h; cases h
  unfold oddB at h1
  simp only [Bool.or_eq_false_iff, Bool.not_eq_false'] at h1
  have := h1.2
  unfold wi at this
  simp only [Bool.and_eq_true, decide_eq_true_eq] at this
  exact this
set_option maxHeartbeats 8000000 in
set_option maxRecDepth 100000 in
theorem note_calls (A0 : Option Addr) (c0 : Nat) (A1 : Option Addr) (c1 : Nat) (j : Jn) (e : S27) (w : World) (h0 : j.l.length ≤ c0 ∧ Kd.C k27 w A0 j.l.length j.l) (h1 : j.q.length ≤ c1 ∧ Kd.C k35 w A1 j.q.length j.q) (hT : Tabs w) (hj : Jok j) (he : e.f3.size ≤ 1000000000) :
    Calls Tryd.prog 11 #[.agg #[.slice A0 j.l.length c0, .slice A1 j.q.length c1, .int .i64 j.g], .agg #[.int .i64 e.f0, .int .i64 e.f1, .int .i64 e.f2, .string e.f3, .int .i64 e.f4, .int .i64 e.f5]] w fun x w' => ∃ v, x = .returned (.tuple #[v, .int .i64 (noteJ j e).2]) ∧ JR w' w.heap.size v (noteJ j e).1.l (noteJ j e).1.q (noteJ j e).1.g ∧ Below w.heap.size w w' := by
  obtain ⟨R, hR⟩ : ∃ R, R = noteJ j e := ⟨_, rfl⟩
  rw [← hR]
  have HRR := Lib.hid hR
  have HA := Lib.hid h0
  have HB := Lib.hid h1
  have HT := Lib.hid hT
  have HJ := Lib.hid hj
  have HE := Lib.hid he
  clear hR h0 h1 hT hj he
  go_enter Tryd.func11, Tryd.ntmps11
  go_wp2_with (go_at_call 10; refine (fun (h : Hid _) => h.out) ?_)
  refine Lib.hid ?_
  have HX0 := Lib.hid (show (((w.alloc (.cells #[.slice A0 j.l.length c0, .slice A1 j.q.length c1, .int .i64 j.g] 25)).alloc (.cells #[.int .i64 e.f0, .int .i64 e.f1, .int .i64 e.f2, .string e.f3, .int .i64 e.f4, .int .i64 e.f5] 27)).alloc (.cells #[.slice none 0 0, .slice none 0 0, .int .i64 0] 25)).heap[w.heap.size]? = some (.cells #[.slice A0 j.l.length c0, .slice A1 j.q.length c1, .int .i64 j.g] 25 (0, 0)) from (Below.heap_alloc _ _ _ (by simp; omega)).trans ((Below.heap_alloc _ _ _ (by simp)).trans (heap_alloc_new _ _)))
  have HX1 := Lib.hid (show (((w.alloc (.cells #[.slice A0 j.l.length c0, .slice A1 j.q.length c1, .int .i64 j.g] 25)).alloc (.cells #[.int .i64 e.f0, .int .i64 e.f1, .int .i64 e.f2, .string e.f3, .int .i64 e.f4, .int .i64 e.f5] 27)).alloc (.cells #[.slice none 0 0, .slice none 0 0, .int .i64 0] 25)).heap[w.heap.size + 1]? = some (.cells #[.int .i64 e.f0, .int .i64 e.f1, .int .i64 e.f2, .string e.f3, .int .i64 e.f4, .int .i64 e.f5] 27 (0, 0)) from by
    have := heap_alloc_new (w.alloc (.cells #[.slice A0 j.l.length c0, .slice A1 j.q.length c1, .int .i64 j.g] 25)) (.cells #[.int .i64 e.f0, .int .i64 e.f1, .int .i64 e.f2, .string e.f3, .int .i64 e.f4, .int .i64 e.f5] 27)
    rw [show (w.alloc (.cells #[.slice A0 j.l.length c0, .slice A1 j.q.length c1, .int .i64 j.g] 25)).heap.size = w.heap.size + 1 by simp] at this
    exact (Below.heap_alloc _ _ _ (by simp)).trans this)
  have HX2 := Lib.hid (show (((w.alloc (.cells #[.slice A0 j.l.length c0, .slice A1 j.q.length c1, .int .i64 j.g] 25)).alloc (.cells #[.int .i64 e.f0, .int .i64 e.f1, .int .i64 e.f2, .string e.f3, .int .i64 e.f4, .int .i64 e.f5] 27)).alloc (.cells #[.slice none 0 0, .slice none 0 0, .int .i64 0] 25)).heap[w.heap.size + 2]? = some (.cells #[.slice none 0 0, .slice none 0 0, .int .i64 0] 25 (0, 0)) from by
    have := heap_alloc_new ((w.alloc (.cells #[.slice A0 j.l.length c0, .slice A1 j.q.length c1, .int .i64 j.g] 25)).alloc (.cells #[.int .i64 e.f0, .int .i64 e.f1, .int .i64 e.f2, .string e.f3, .int .i64 e.f4, .int .i64 e.f5] 27)) (.cells #[.slice none 0 0, .slice none 0 0, .int .i64 0] 25)
    rw [show ((w.alloc (.cells #[.slice A0 j.l.length c0, .slice A1 j.q.length c1, .int .i64 j.g] 25)).alloc (.cells #[.int .i64 e.f0, .int .i64 e.f1, .int .i64 e.f2, .string e.f3, .int .i64 e.f4, .int .i64 e.f5] 27)).heap.size = w.heap.size + 2 by simp] at this
    exact this)
  have HO0 := Lib.hid ((((Only.refl [] w).alloc (.cells #[.slice A0 j.l.length c0, .slice A1 j.q.length c1, .int .i64 j.g] 25)).alloc (.cells #[.int .i64 e.f0, .int .i64 e.f1, .int .i64 e.f2, .string e.f3, .int .i64 e.f4, .int .i64 e.f5] 27)).alloc (.cells #[.slice none 0 0, .slice none 0 0, .int .i64 0] 25))
  generalize ((w.alloc (.cells #[.slice A0 j.l.length c0, .slice A1 j.q.length c1, .int .i64 j.g] 25)).alloc (.cells #[.int .i64 e.f0, .int .i64 e.f1, .int .i64 e.f2, .string e.f3, .int .i64 e.f4, .int .i64 e.f5] 27)).alloc (.cells #[.slice none 0 0, .slice none 0 0, .int .i64 0] 25) = W0 at *
  generalize hb : w.heap.size = wb at *
  have HBB := Lib.hid hb
  clear hb
  have HW0S := Lib.hid (show wb + 2 < W0.heap.size from heap_lt HX2.out)
  refine (add_calls A0 c0 A1 c1 j e W0 ⟨HA.out.1, Kd.C_below HA.out.2 HO0.out.nil_below⟩ ⟨HB.out.1, Kd.C_below HB.out.2 HO0.out.nil_below⟩ (HT.out.below HO0.out.nil_below) HJ.out HE.out).mono ?_
  rintro x W1 ⟨v1, rfl, hjr1, hb1⟩
  have HY0 := Lib.hid ((Only.of_below hb1).heap HX0.out (by simp))
  have HY1 := Lib.hid ((Only.of_below hb1).heap HX1.out (by simp))
  have HY2 := Lib.hid ((Only.of_below hb1).heap HX2.out (by simp))
  have HW1 := Lib.hid (HO0.out.trans (Only.of_below hb1))
  have HJR := Lib.hid hjr1
  clear hb1 HX0 HX1 HX2 HO0 hjr1
  have HFUL : Hid ((addJ j e).2 = 180 → rightJ j.l j.q j.g = true ∧ strangeB e = false) := Lib.hid add_full
  unfold noteJ at HRR
  obtain ⟨RA, hRA⟩ : ∃ RA, RA = addJ j e := ⟨_, rfl⟩
  rw [← hRA] at HRR HJR HFUL ⊢
  clear hRA
  obtain ⟨j9, r9⟩ := RA
  have HJ9 := Lib.hid HJR.out
  obtain ⟨E0, k0, E1, k1, rfl, hE0, hE1⟩ := HJR.out
  clear hE0 hE1 HJR
  have hal : Only [] W1 (W1.alloc (.cells #[.slice E0 j9.l.length k0, .slice E1 j9.q.length k1, .int .i64 j9.g] 25)) := (Only.refl [] W1).alloc _
  have HYA := Lib.hid (hal.heap HY2.out (by simp))
  have HYB := Lib.hid (hal.heap HY0.out (by simp))
  have HYC := Lib.hid (hal.heap HY1.out (by simp))
  have HWA := Lib.hid (HW1.out.trans hal)
  have HBA := Lib.hid hal
  clear hal
  by_cases h180 : r9 = 180
  rotate_left
  · have HR0 := Lib.hid (HRR.out.trans (if_neg h180))
    clear HRR
    go_wp2_with (first
      | (with_reducible refine wpList_store_new rfl 25 (.tmp 4) (.tmp 19) rfl (wb + 2) #[.slice E0 j9.l.length k0, .slice E1 j9.q.length k1, .int .i64 j9.g] rfl rfl 25 _ HYA.out (size3_25 _ _ _) rfl (by simp [Value.oneCell']) ?_; intro w9 hh9 ho9))
    refine bodyPost_ret (results_row rfl _ _ (wb + 2) _ _ _ _ rfl hh9.out Tryd.underlying25 rfl (size3_25 _ _ _)) rfl ?_
    rw [HR0.out]
    refine ⟨_, rfl, ?_, (((HWA.out.mono (T := [wb + 2]) (by simp)).trans ho9).pop (by rw [HBB.out]; omega)).nil_below⟩
    exact (((HJ9.out.only HBA.out (by simp)).only ho9 (fun k hk => by simp at hk; subst hk; exact HW0S.out)).mono (by have := HW0S.out; have := HBB.out; omega))
  · obtain ⟨hr, hst⟩ := HFUL.out h180
    replace HRR := Lib.hid (HRR.out.trans (if_pos h180))
    subst h180
    obtain ⟨hL, hBt, hRi, hG, hU, hE9, hOd⟩ := right_parts hr
    obtain ⟨hb0, hb9⟩ := strange_batch hst
    clear hr hst HFUL
    have HOWN := Lib.hid (own_any A0 c0 A1 c1 j.l j.q j.g (W1.alloc (.cells #[.slice E0 j9.l.length k0, .slice E1 j9.q.length k1, .int .i64 j9.g] 25)) (Kd.C_below HA.out.2 HWA.out.nil_below) (Kd.C_below HB.out.2 HWA.out.nil_below) HJ.out.2.1 HJ.out.2.2)
    go_wp2_with (first
      | (with_reducible refine wpList_load_at rfl 25 (.tmp 2) rfl ⟨wb, 0, none⟩ rfl _ _ (cellsAt_row HYB.out) Tryd.underlying25 rfl (by kernel_rfl) ?_)
      | (go_at_call 30; refine HOWN.out.mono ?_; rintro x W3 ⟨bp, B0, d0, B1, d1, rfl, hbk, ho3⟩; refine (fun (h : Hid _) => h.out) ?_))
    refine Lib.hid ?_
    have HBK := Lib.hid hbk
    have HZ1 := Lib.hid (ho3.heap HYC.out (by simp))
    have HZ2 := Lib.hid (ho3.heap HYA.out (by simp))
    have HW3 := Lib.hid (HWA.out.trans ho3)
    have HBS := Lib.hid (show wb + 2 < (W1.alloc (.cells #[.slice E0 j9.l.length k0, .slice E1 j9.q.length k1, .int .i64 j9.g] 25)).heap.size from heap_lt HYA.out)
    generalize W1.alloc (.cells #[.slice E0 j9.l.length k0, .slice E1 j9.q.length k1, .int .i64 j9.g] 25) = W2 at *
    have HBP := Lib.hid (show wb + 2 < bp from Nat.lt_of_lt_of_le HBS.out hbk.hb)
    clear hbk ho3 HYA HYB HYC HWA HBA HOWN HY0 HY1 HY2
    have HPL := Lib.hid (place_any bp j.l.length d0 B0 B1 d1 j.q j.g e.f1 W3 HBK.out.row HBK.out.reads.2.2 (by have := HJ.out.2.2; omega) hRi hBt hb0 hb9)
    have y1 : W3.cell? ⟨wb + 1, 1, none⟩ = some (.int .i64 e.f1) := (cell_of_row W3 (wb + 1) 1 _ _ _ HZ1.out).trans rfl
    go_wp2_with (go_at_call 33; refine HPL.out.mono ?_; rintro x W6 ⟨rfl, hb6⟩; refine (fun (h : Hid _) => h.out) ?_)
    refine Lib.hid ?_
    clear y1
    have HBK6 := Lib.hid (HBK.out.below hb6)
    have HY2 := Lib.hid ((Only.of_below hb6).heap HZ2.out (by simp))
    have HW6 := Lib.hid (HW3.out.trans (Only.of_below hb6))
    clear hb6 HBK HZ1 HZ2 HW3 HPL
    cases hpb : placeB j.q e.f1
    · replace HRR := Lib.hid (HRR.out.trans (if_neg (by rw [hpb]; simp)))
      clear hpb
      have HNLW := Lib.hid (show (Value.slice B0 j.l.length d0).ownBlock ≠ some (wb + 2) from fun h => by have := (ownsRow_lt HBK6.out.ol h).1; have := HBS.out; omega)
      have HNBW := Lib.hid (show (Value.slice B1 j.q.length d1).ownBlock ≠ some (wb + 2) from fun h => by have := (ownsRow_lt HBK6.out.oq h).1; have := HBS.out; omega)
      have HRW := Lib.hid HBK6.out.row
      go_wp2_with (first
        | (with_reducible refine wpList_load_at rfl 25 (.tmp 52) rfl ⟨bp, 0, none⟩ rfl _ _ (cellsAt_row HRW.out) Tryd.underlying25 rfl (by kernel_rfl) ?_)
        | (with_reducible refine wpList_store_new rfl 25 (.tmp 4) (.tmp 53) rfl (wb + 2) #[.slice B0 j.l.length d0, .slice B1 j.q.length d1, .int .i64 j.g] rfl rfl 25 _ HY2.out (size3_25 _ _ _) rfl (by simp [Value.oneCell']) ?_; intro w9 hh9 ho9))
      refine bodyPost_ret (results_row rfl _ _ (wb + 2) _ _ _ _ rfl hh9.out Tryd.underlying25 rfl (size3_25 _ _ _)) rfl ?_
      rw [HRR.out]
      have hz9 := ((HW6.out.mono (T := [wb + 2]) (by simp)).trans ho9).pop (show w.heap.size ≤ wb + 2 by rw [HBB.out]; omega)
      refine ⟨_, rfl, ?_, hz9.nil_below⟩
      have hl9 := ownsRow_only HBK6.out.ol ho9 (fun k hk h => by simp at h; subst h; exact HNLW.out hk)
      have hq9 := ownsRow_only HBK6.out.oq ho9 (fun k hk h => by simp at h; subst h; exact HNBW.out hk)
      exact ⟨B0, d0, B1, d1, rfl, ownsRow_mono hl9 (by have := HBS.out; have := HBB.out; omega), ownsRow_mono hq9 (by have := HBS.out; have := HBB.out; omega)⟩
    · have hlt := placeB_lt hpb
      replace HRR := Lib.hid (HRR.out.trans (if_pos hpb))
      clear hpb
      obtain ⟨i, hi⟩ : ∃ i, i = placeI j.q e.f1 := ⟨_, rfl⟩
      rw [← hi] at HRR hlt ⊢
      clear hi
      have hqb := HJ.out.2.2
      have hi0 : (0 : Int) ≤ i := by omega
      have hilt : (i : Int) < j.q.length := by omega
      rcases HBK6.out.oq.2 with ⟨_, hz⟩ | ⟨gq, cap, cur0, e0, hgb, hg0, hnc, hcm, hcs, htk⟩
      · omega
      injection e0 with e0 e1 e2
      subst e0 e2
      obtain ⟨cur, rfl⟩ : ∃ cur : List Value, cur0 = cur.toArray := ⟨cur0.toList, by simp⟩
      have htk2 : cur.take (j.q.length * 3) = qRow j.q := by simpa using htk
      have hcl : cur.length = d1 * 3 := by simpa using hcs
      have hsp := row_split cur j.q i hlt htk2
      have hset := fun v => (row_set cur j.q i hlt htk2 v).2
      have hrl : (qRow (j.q.take i)).length = i * 3 := by rw [qRow_length, List.length_take, Nat.min_eq_left (by omega)]
      have hc2 : W6.cell? ⟨gq, i * 3 + 2, none⟩ = some (.int .i64 (qAt j.q i).f2) := by
        rw [cell_of_row W6 gq _ _ _ _ hg0, List.getElem?_toArray, hsp, ← hrl, List.getElem?_append_right (by omega)]
        simp
      have hlf : 0 ≤ (qAt j.q i).f2 ∧ (qAt j.q i).f2 ≤ 1099511627776 := by
        have e : qAt j.q i = j.q[i] := by unfold qAt; simp [List.getD_eq_getElem?_getD, List.getElem?_eq_getElem hlt]
        rw [e]
        exact odd_lost hOd _ (List.getElem_mem hlt)
      have HG := Lib.hid hg0
      have HCL := Lib.hid hcl
      have HSET := Lib.hid hset
      have HQB := Lib.hid hgb
      have HDM := Lib.hid hcm
      have HNC := Lib.hid hnc
      have HLF := Lib.hid (show lostAt j.q i = j.q.set i ⟨(qAt j.q i).f0, (qAt j.q i).f1, mn ((qAt j.q i).f2 + 1) 1099511627776⟩ from rfl)
      obtain ⟨hf0, hf9⟩ := hlf
      have HC2 := Lib.hid hc2
      clear hsp hset hrl hcs htk htk2 hcl hg0 hgb hcm hnc e1 hc2
      generalize (qAt j.q i).f2 = lf at *
      obtain ⟨lv, hlv⟩ : ∃ lv, lv = mn (lf + 1) 1099511627776 := ⟨_, rfl⟩
      rw [← hlv] at HLF
      have HLV := Lib.hid hlv
      clear hlv
      go_wp2_with fail
      refine L.grow_start [] 19 ((0, true, false) :: (1, true, false) :: (2, true, false) :: (3, true, false) :: (4, true, false) :: (5, true, false) :: (6, true, false) :: (7, true, false) :: (8, true, false) :: (9, true, false) :: (10, true, false) :: (11, true, true) :: (12, true, true) :: (13, true, true) :: (14, true, true) :: (15, true, true) :: (16, true, true) :: (17, true, true) :: (18, true, true) :: (19, false, true) :: []) (by kernel_rfl) (([], [8], some 31) :: ([0], [31], some 32) :: ([1], [32], some 33) :: ([2], [33], some 34) :: ([3], [34], some 35) :: ([], [9], some 36) :: ([], [8], some 37) :: ([6], [37], some 38) :: ([7], [38], some 39) :: ([8], [39], some 40) :: ([9], [40], some 41) :: ([], [9], some 42) :: ([10, 11], [41, 42], some 43) :: ([12], [43], some 44) :: ([13], [44], some 45) :: ([14], [45], some 46) :: ([15], [46], some 47) :: ([4, 5, 0, 1, 2, 3, 4, 5, 6, 7, 8, 9, 10, 11, 12, 13, 14, 15, 16], [35, 36], some 48) :: ([17, 0, 1, 2, 3, 4, 5, 6, 7, 8, 9, 10, 11, 12, 13, 14, 15, 16], [48], some 49) :: ([18, 16, 0, 1, 2, 3, 4, 5, 6, 7, 8, 9, 10, 11, 12, 13, 14, 15, 16], [49, 47], none) :: []) (by kernel_rfl) (by kernel_rfl) (n := 20) rfl (by kernel_rfl) (fun _ _ _ _ _ h => h) (fun wg hog => ?_)
      refine L.growe_start (N := 54) (by rfl) ?_
      have HBG := Lib.hid (HBK6.out.below hog.nil_below)
      have HE2 := Lib.hid (hog.heap HY2.out (by simp))
      have HWG := Lib.hid (HW6.out.trans hog)
      have HGG := Lib.hid (hog.heap HG.out (by simp))
      have e1 : ∀ w', Only [] wg w' → w'.cell? ⟨bp, 1, none⟩ = some (.slice (some ⟨gq, 0, none⟩) j.q.length d1) := fun w' k => (cell_of_row w' bp 1 _ _ _ (k.heap HBG.out.row (by simp))).trans rfl
      have e2 : ∀ w', Only [] wg w' → w'.cell? ⟨gq, i * 3 + 2, none⟩ = some (.int .i64 lf) := fun w' k => (hog.trans k).cell HC2.out (by simp)
      clear hog HBK6 HY2 HW6 HG HC2
      have hw1 : IntKind.i64.wrap (lf + 1) = lf + 1 := by rw [IntKind.wrap_i64]; omega
      iterate 16 (first | (refine L.ge_off rfl rfl rfl (by rfl) ?_) | (refine L.ge_move rfl rfl rfl (by rfl) rfl (by simp [L.evE, L.lk, Act.eval]; rfl) ?_) | (refine L.ge_pick rfl rfl rfl (by rfl) rfl (by simp [L.evE, L.lk, Act.eval]; rfl) (by simp [L.evE, L.lk, Act.eval]; rfl) ?_) | (refine L.ge_val rfl rfl rfl (by rfl) (by intro w' hw'; simp [execOp, L.evE, L.lk, Act.eval]; go_simp; rfl) ?_))
      refine L.ge_val (v := .int .i64 lv) rfl rfl rfl (by rfl) (by intro w' hw'; simp [execOp, L.evE, L.lk, Act.eval, hw1]; go_simp; rw [HLV.out]; unfold mn; try rfl) ?_
      iterate 2 (first | (refine L.ge_off rfl rfl rfl (by rfl) ?_) | (refine L.ge_move rfl rfl rfl (by rfl) rfl (by simp [L.evE, L.lk, Act.eval]; rfl) ?_) | (refine L.ge_pick rfl rfl rfl (by rfl) rfl (by simp [L.evE, L.lk, Act.eval]; rfl) (by simp [L.evE, L.lk, Act.eval]; rfl) ?_) | (refine L.ge_val rfl rfl rfl (by rfl) (by intro w' hw'; simp [execOp, L.evE, L.lk, Act.eval]; go_simp; rfl) ?_))
      refine ge_last_in rfl rfl (by rfl) _ (.tmp 49) (.tmp 47) rfl gq (i * 3 + 2) (.int .i64 lv) (by simp [L.evE, L.lk, Act.eval]) (by simp [L.evE, L.lk, Act.eval]) [.int .i64 lv] rfl 35 cur HGG.out (by kernel_rfl) (by rw [HCL.out]; have := HNC.out; simp; omega) (by simp [Value.oneCell']) ?_
      intro W7 hr7 ho7
      simp only [L.puts, Act.put, goInt, List.setIfInBounds_toArray, List.set_cons_zero, List.set_cons_succ]
      have hll : (lostAt j.q i).length = j.q.length := by unfold lostAt; rw [List.length_set]
      have hbp7 : bp ∉ [gq] := fun h => HBG.out.nq (by simp at h; rw [h]; rfl)
      have hgq : gq ≠ wb + 2 := by have := HQB.out; have := HBS.out; omega
      have hbk7 : Bk W7 W2.heap.size bp B0 d0 (some ⟨gq, 0, none⟩) d1 j.l (lostAt j.q i) j.g := by
        refine ⟨?_, HBG.out.hb, ?_, ?_, HBG.out.nl, ?_, ?_⟩
        · rw [hll]; exact ho7.out.heap HBG.out.row hbp7
        · exact ownsRow_only HBG.out.ol ho7.out (fun k hk h => by simp at h; subst h; exact HBG.out.nlq _ hk rfl)
        · rw [hll]
          refine ⟨by rw [qRow_length, hll], .inr ⟨gq, d1, _, rfl, HQB.out, hr7.out, HNC.out, HDM.out, ?_, ?_⟩⟩
          · rw [List.size_toArray, length_splice _ _ _ (by rw [HCL.out]; have := HNC.out; simp; omega)]; exact HCL.out
          · show (splice cur (i * 3 + 2) [.int .i64 lv]).take (j.q.length * 3) = _
            rw [HSET.out lv, HLF.out]
        · exact HBG.out.nq
        · exact HBG.out.nlq
      have HBK7 := Lib.hid hbk7
      have HY7 := Lib.hid (ho7.out.heap HE2.out (by simpa using hgq.symm))
      have HW7 := Lib.hid (HWG.out.then ho7.out (fun k hk => .inr (by simp at hk; subst hk; have := HQB.out; have := HBS.out; have := HBB.out; omega)))
      have HNLW := Lib.hid (show (Value.slice B0 j.l.length d0).ownBlock ≠ some (wb + 2) from fun h => by have := (ownsRow_lt HBG.out.ol h).1; have := HBS.out; omega)
      have HNBW := Lib.hid (show (Value.slice (some (⟨gq, 0, none⟩ : Addr)) (lostAt j.q i).length d1).ownBlock ≠ some (wb + 2) from fun h => hgq (Option.some.inj h))
      have HRW := Lib.hid hbk7.row
      clear hbk7 hbp7 hll hr7 ho7 HBG HE2 HWG HGG hgq
      go_wp2_with (first
        | (with_reducible refine wpList_load_at rfl 25 (.tmp 52) rfl ⟨bp, 0, none⟩ rfl _ _ (cellsAt_row HRW.out) Tryd.underlying25 rfl (by kernel_rfl) ?_)
        | (with_reducible refine wpList_store_new rfl 25 (.tmp 4) (.tmp 53) rfl (wb + 2) #[.slice B0 j.l.length d0, .slice (some ⟨gq, 0, none⟩) (lostAt j.q i).length d1, .int .i64 j.g] rfl rfl 25 _ HY7.out (size3_25 _ _ _) rfl (by simp [Value.oneCell']) ?_; intro w9 hh9 ho9))
      refine bodyPost_ret (results_row rfl _ _ (wb + 2) _ _ _ _ rfl hh9.out Tryd.underlying25 rfl (size3_25 _ _ _)) rfl ?_
      rw [HRR.out]
      have hz9 := ((HW7.out.mono (T := [wb + 2]) (by simp)).trans ho9).pop (show w.heap.size ≤ wb + 2 by rw [HBB.out]; omega)
      refine ⟨_, rfl, ?_, hz9.nil_below⟩
      have hl9 := ownsRow_only HBK7.out.ol ho9 (fun k hk h => by simp at h; subst h; exact HNLW.out hk)
      have hq9 := ownsRow_only HBK7.out.oq ho9 (fun k hk h => by simp at h; subst h; exact HNBW.out hk)
      exact ⟨B0, d0, (some ⟨gq, 0, none⟩), d1, rfl, ownsRow_mono hl9 (by have := HBS.out; have := HBB.out; omega), ownsRow_mono hq9 (by have := HBS.out; have := HBB.out; omega)⟩
end Go.Proofs.YtghpmpjoedbpcaaDoor.Print
/-! ### EJTrim -/
namespace Go.Proofs.YtghpmpjoedbpcaaDoor.Print
open Go.RowKit Go.Proofs.YtghpmpjoedbpcaaDoorW.PrintWords Go.Proofs.YtghpmpjoedbpcaaDoorW.PrintLast Go.Proofs.YtghpmpjoedbpcaaDoorW.PrintMore
set_option linter.unusedSimpArgs false
set_option linter.unusedVariables false
def trimJ (j : Jn) (n : Int) : Jn × Int :=
  if rightJ j.l j.q j.g = false ∨ n < 0 ∨ (j.l.length : Int) < n then (zJn, 1)
  else if 1099511627776 < j.g + n then (zJn, 3)
  else (⟨j.l.drop n.toNat, j.q, j.g + n⟩, 0)
set_option maxHeartbeats 8000000 in
set_option maxRecDepth 100000 in
theorem trim_calls (A0 : Option Addr) (c0 : Nat) (A1 : Option Addr) (c1 : Nat) (j : Jn) (n : Int) (w : World) (h0 : j.l.length ≤ c0 ∧ Kd.C k27 w A0 j.l.length j.l) (h1 : j.q.length ≤ c1 ∧ Kd.C k35 w A1 j.q.length j.q) (hT : Tabs w) (hj : Jok j) :
    Calls Tryd.prog 25 #[.agg #[.slice A0 j.l.length c0, .slice A1 j.q.length c1, .int .i64 j.g], .int .i64 n] w fun x w' => ∃ v, x = .returned (.tuple #[v, .int .i64 (trimJ j n).2]) ∧ JR w' w.heap.size v (trimJ j n).1.l (trimJ j n).1.q (trimJ j n).1.g ∧ Below w.heap.size w w' := by
  obtain ⟨R, hR⟩ : ∃ R, R = trimJ j n := ⟨_, rfl⟩
  rw [← hR]
  have HRR := Lib.hid hR
  have HA := Lib.hid h0
  have HB := Lib.hid h1
  have HT := Lib.hid hT
  have HJ := Lib.hid hj
  clear hR h0 h1 hT hj
  go_enter Tryd.func25, Tryd.ntmps25
  go_wp2_with (go_at_call 30; refine (fun (h : Hid _) => h.out) ?_)
  refine Lib.hid ?_
  have HX1 := Lib.hid (show ((w.alloc (.cells #[.slice A0 j.l.length c0, .slice A1 j.q.length c1, .int .i64 j.g] 25)).alloc (.cells #[.slice none 0 0, .slice none 0 0, .int .i64 0] 25)).heap[w.heap.size + 1]? = some (.cells #[.slice none 0 0, .slice none 0 0, .int .i64 0] 25 (0, 0)) from by
    have := heap_alloc_new (w.alloc (.cells #[.slice A0 j.l.length c0, .slice A1 j.q.length c1, .int .i64 j.g] 25)) (.cells #[.slice none 0 0, .slice none 0 0, .int .i64 0] 25)
    rw [show (w.alloc (.cells #[.slice A0 j.l.length c0, .slice A1 j.q.length c1, .int .i64 j.g] 25)).heap.size = w.heap.size + 1 by simp] at this
    exact this)
  have HO0 := Lib.hid (((Only.refl [] w).alloc (.cells #[.slice A0 j.l.length c0, .slice A1 j.q.length c1, .int .i64 j.g] 25)).alloc (.cells #[.slice none 0 0, .slice none 0 0, .int .i64 0] 25))
  generalize (w.alloc (.cells #[.slice A0 j.l.length c0, .slice A1 j.q.length c1, .int .i64 j.g] 25)).alloc (.cells #[.slice none 0 0, .slice none 0 0, .int .i64 0] 25) = W0 at *
  generalize hb : w.heap.size = wb at *
  have HBB := Lib.hid hb
  clear hb
  refine (own_any A0 c0 A1 c1 j.l j.q j.g W0 (Kd.C_below HA.out.2 HO0.out.nil_below) (Kd.C_below HB.out.2 HO0.out.nil_below) HJ.out.2.1 HJ.out.2.2).mono ?_
  rintro x W3 ⟨bp, B0, d0, B1, d1, rfl, hbk, ho3⟩
  have HBK := Lib.hid hbk
  have HBP := Lib.hid (show wb + 1 < bp from Nat.lt_of_lt_of_le (heap_lt HX1.out) hbk.hb)
  have HW0S := Lib.hid (show wb + 1 < W0.heap.size from heap_lt HX1.out)
  have HY1 := Lib.hid (ho3.heap HX1.out (by simp))
  have HW3 := Lib.hid (HO0.out.trans ho3)
  clear hbk ho3 HX1 HO0
  have HRI := Lib.hid (right_any bp d0 B0 j.l B1 d1 j.q j.g W3 HBK.out.row HBK.out.reads.1.2 HBK.out.reads.2.2 HJ.out.1 (HT.out.below HW3.out.nil_below) (by have := HJ.out.2.1; omega) (by have := HJ.out.2.2; omega))
  unfold trimJ at HRR
  go_wp2_with (go_at_call 31; refine HRI.out.mono ?_; rintro x W4 ⟨rfl, hb4⟩; refine (fun (h : Hid _) => h.out) ?_)
  refine Lib.hid ?_
  have HBK4 := Lib.hid (HBK.out.below hb4)
  have HZ1 := Lib.hid ((Only.of_below hb4).heap HY1.out (by simp))
  have HW4 := Lib.hid (HW3.out.trans (Only.of_below hb4))
  clear hb4 HBK HY1 HW3 HRI
  cases hr : rightJ j.l j.q j.g
  · have HR0 := Lib.hid (HRR.out.trans (if_pos (.inl hr)))
    clear hr HRR
    go_wp2_with (first
      | (with_reducible refine wpList_store_new rfl 25 (.tmp 4) (.tmp 23) rfl (wb + 1) #[.slice none 0 0, .slice none 0 0, .int .i64 0] rfl rfl 25 _ HZ1.out (size3_25 _ _ _) rfl (by simp [Value.oneCell']) ?_; intro w9 hh9 ho9))
    refine bodyPost_ret (results_row rfl _ _ (wb + 1) _ _ _ _ rfl hh9.out Tryd.underlying25 rfl (size3_25 _ _ _)) rfl ?_
    rw [HR0.out]
    exact ⟨_, rfl, jr_zero _ _, (((HW4.out.mono (T := [wb + 1]) (by simp)).trans ho9).pop (by rw [HBB.out]; omega)).nil_below⟩
  obtain ⟨hL, hBt, hRi, hG, hU, hE9, hOd⟩ := right_parts hr
  rw [hr] at HRR
  have hgb : 0 ≤ j.g ∧ j.g ≤ 1099511627776 := by
    unfold wi at hG
    simp only [Bool.and_eq_true, decide_eq_true_eq] at hG
    exact hG
  obtain ⟨hg0, hg9⟩ := hgb
  have hlb := HJ.out.2.1
  by_cases hn0 : n < 0
  · have HR0 := Lib.hid (HRR.out.trans (if_pos (.inr (.inl hn0))))
    clear HRR
    go_wp2_with (first
      | (with_reducible refine wpList_store_new rfl 25 (.tmp 4) (.tmp 23) rfl (wb + 1) #[.slice none 0 0, .slice none 0 0, .int .i64 0] rfl rfl 25 _ HZ1.out (size3_25 _ _ _) rfl (by simp [Value.oneCell']) ?_; intro w9 hh9 ho9))
    refine bodyPost_ret (results_row rfl _ _ (wb + 1) _ _ _ _ rfl hh9.out Tryd.underlying25 rfl (size3_25 _ _ _)) rfl ?_
    rw [HR0.out]
    exact ⟨_, rfl, jr_zero _ _, (((HW4.out.mono (T := [wb + 1]) (by simp)).trans ho9).pop (by rw [HBB.out]; omega)).nil_below⟩
  have a0 : W4.cell? ⟨bp, 0, none⟩ = some (.slice B0 j.l.length d0) := (cell_of_row W4 bp 0 _ _ _ HBK4.out.row).trans rfl
  have a2 : W4.cell? ⟨bp, 2, none⟩ = some (.int .i64 j.g) := (cell_of_row W4 bp 2 _ _ _ HBK4.out.row).trans rfl
  by_cases hn1 : (j.l.length : Int) < n
  · have HR0 := Lib.hid (HRR.out.trans (if_pos (.inr (.inr hn1))))
    clear HRR
    go_wp2_with (first
      | (with_reducible refine wpList_store_new rfl 25 (.tmp 4) (.tmp 23) rfl (wb + 1) #[.slice none 0 0, .slice none 0 0, .int .i64 0] rfl rfl 25 _ HZ1.out (size3_25 _ _ _) rfl (by simp [Value.oneCell']) ?_; intro w9 hh9 ho9))
    refine bodyPost_ret (results_row rfl _ _ (wb + 1) _ _ _ _ rfl hh9.out Tryd.underlying25 rfl (size3_25 _ _ _)) rfl ?_
    rw [HR0.out]
    exact ⟨_, rfl, jr_zero _ _, (((HW4.out.mono (T := [wb + 1]) (by simp)).trans ho9).pop (by rw [HBB.out]; omega)).nil_below⟩
  replace HRR := Lib.hid (HRR.out.trans (if_neg (by simp; omega)))
  by_cases hf : 1099511627776 < j.g + n
  · have HR0 := Lib.hid (HRR.out.trans (if_pos hf))
    clear HRR
    go_wp2_with (first
      | (with_reducible refine wpList_store_new rfl 25 (.tmp 4) (.tmp 33) rfl (wb + 1) #[.slice none 0 0, .slice none 0 0, .int .i64 0] rfl rfl 25 _ HZ1.out (size3_25 _ _ _) rfl (by simp [Value.oneCell']) ?_; intro w9 hh9 ho9))
    refine bodyPost_ret (results_row rfl _ _ (wb + 1) _ _ _ _ rfl hh9.out Tryd.underlying25 rfl (size3_25 _ _ _)) rfl ?_
    rw [HR0.out]
    exact ⟨_, rfl, jr_zero _ _, (((HW4.out.mono (T := [wb + 1]) (by simp)).trans ho9).pop (by rw [HBB.out]; omega)).nil_below⟩
  replace HRR := Lib.hid (HRR.out.trans (if_neg hf))
  obtain ⟨k, rfl⟩ : ∃ k : Nat, n = (k : Int) := ⟨n.toNat, by omega⟩
  have hkl : k ≤ j.l.length := by omega
  have HDL := Lib.hid (delown_e _ j.l.length 0 k W0.heap.size (eRow j.l) W4 HBK4.out.ol (eRow_one _) (by omega) hkl hlb)
  clear hr
  go_wp2_with (go_at_call 45; refine HDL.out.mono ?_; rintro x W7 ⟨v7, rfl, hown7, hk7, ho7⟩; refine (fun (h : Hid _) => h.out) ?_)
  refine Lib.hid ?_
  clear a0 a2
  have hml : ∀ k, k ∈ (Value.slice B0 j.l.length d0).ownBlock.toList → (Value.slice B0 j.l.length d0).ownBlock = some k := fun k hk => by simpa using hk
  have HR7 := Lib.hid (ho7.heap HBK4.out.row (fun h => HBK4.out.nl (hml _ h)))
  have HQ7 := Lib.hid (ownsRow_only HBK4.out.oq ho7 (fun k hk h => HBK4.out.nlq k (hml _ h) hk))
  have HL7 := Lib.hid hown7
  have HY7 := Lib.hid (ho7.heap HZ1.out (fun h => by have := (ownsRow_lt HBK4.out.ol (hml _ h)).1; have := HW0S.out; omega))
  have HW7 := Lib.hid (HW4.out.then ho7 (fun k hk => .inr (by have := (ownsRow_lt HBK4.out.ol (hml _ hk)).1; have := HW0S.out; have := HBB.out; omega)))
  have HNB := Lib.hid (show v7.ownBlock ≠ some bp from fun h => HBK4.out.nl (hk7 ▸ h))
  have HNQ := Lib.hid (HBK4.out.nq)
  have HNLW := Lib.hid (show v7.ownBlock ≠ some (wb + 1) from fun h => by
    have := (ownsRow_lt HBK4.out.ol (hk7 ▸ h)).1; have := HW0S.out; omega)
  have HNBW := Lib.hid (show (Value.slice B1 j.q.length d1).ownBlock ≠ some (wb + 1) from fun h => by have := (ownsRow_lt HBK4.out.oq h).1; have := HW0S.out; omega)
  clear HBK4 HZ1 HW4 hown7 hk7 ho7 hml HDL
  have e7 : j.l.length - (k - 0) = (j.l.drop k).length := by rw [List.length_drop]; omega
  have e8 : (eRow j.l).take (0 * 6) ++ (eRow j.l).drop (k * 6) = eRow (j.l.drop k) := by rw [eRow_drop]; simp
  rw [e7, e8] at HL7
  clear e7 e8
  obtain ⟨A7, c7, rfl⟩ := slice_of_own HL7.out
  go_wp2_with (first
    | (with_reducible refine wpList_store_in rfl 22 (.tmp 44) (.tmp 41) rfl bp 0 _ rfl rfl [.slice A7 (j.l.drop k).length c7] rfl 56 [.slice B0 j.l.length d0, .slice B1 j.q.length d1, .int .i64 j.g] HR7.out (by kernel_rfl) (by simp) (by simp [Value.oneCell']) ?_; intro W8 hr8 ho8; refine (fun (h : Hid _) => h.out) ?_))
  refine Lib.hid ?_
  have HR8 := Lib.hid (show W8.heap[bp]? = some (.cells #[.slice A7 (j.l.drop k).length c7, .slice B1 j.q.length d1, .int .i64 j.g] 56 (0, 0)) from hr8.out)
  have HL8 := Lib.hid (ownsRow_only HL7.out ho8.out (fun k hk h => by simp at h; subst h; exact HNB.out hk))
  have HQ8 := Lib.hid (ownsRow_only HQ7.out ho8.out (fun k hk h => by simp at h; subst h; exact HNQ.out hk))
  have HY8 := Lib.hid (ho8.out.heap HY7.out (by simp; have := HBP.out; omega))
  have HW8 := Lib.hid (HW7.out.then ho8.out (fun k hk => .inr (by simp at hk; subst hk; have := HBP.out; have := HBB.out; omega)))
  clear HR7 HL7 HQ7 HY7 HW7 hr8 ho8
  have a2 : W8.cell? ⟨bp, 2, none⟩ = some (.int .i64 j.g) := (cell_of_row W8 bp 2 _ _ _ HR8.out).trans rfl
  go_wp2_with (first
    | (with_reducible refine wpList_store_in rfl 3 (.tmp 54) (.tmp 51) rfl bp 2 (.int .i64 (j.g + k)) rfl rfl [.int .i64 (j.g + k)] rfl 56 [.slice A7 (j.l.drop k).length c7, .slice B1 j.q.length d1, .int .i64 j.g] HR8.out (by kernel_rfl) (by simp) (by simp [Value.oneCell']) ?_; intro W9 hr9 ho9; refine (fun (h : Hid _) => h.out) ?_))
  refine Lib.hid ?_
  clear a2
  have HR9 := Lib.hid (show W9.heap[bp]? = some (.cells #[.slice A7 (j.l.drop k).length c7, .slice B1 j.q.length d1, .int .i64 (j.g + k)] 56 (0, 0)) from hr9.out)
  have HL9 := Lib.hid (ownsRow_only HL8.out ho9.out (fun k hk h => by simp at h; subst h; exact HNB.out hk))
  have HQ9 := Lib.hid (ownsRow_only HQ8.out ho9.out (fun k hk h => by simp at h; subst h; exact HNQ.out hk))
  have HY9 := Lib.hid (ho9.out.heap HY8.out (by simp; have := HBP.out; omega))
  have HW9 := Lib.hid (HW8.out.then ho9.out (fun k hk => .inr (by simp at hk; subst hk; have := HBP.out; have := HBB.out; omega)))
  clear HR8 HL8 HQ8 HY8 HW8 hr9 ho9
  go_wp2_with (first
    | (with_reducible refine wpList_load_at rfl 25 (.tmp 57) rfl ⟨bp, 0, none⟩ rfl _ _ (cellsAt_row HR9.out) Tryd.underlying25 rfl (by kernel_rfl) ?_)
    | (with_reducible refine wpList_store_new rfl 25 (.tmp 4) (.tmp 58) rfl (wb + 1) #[.slice A7 (j.l.drop k).length c7, .slice B1 j.q.length d1, .int .i64 (j.g + k)] rfl rfl 25 _ HY9.out (size3_25 _ _ _) rfl (by simp [Value.oneCell']) ?_; intro w9 hh9 ho9))
  refine bodyPost_ret (results_row rfl _ _ (wb + 1) _ _ _ _ rfl hh9.out Tryd.underlying25 rfl (size3_25 _ _ _)) rfl ?_
  rw [HRR.out]
  have hz9 := ((HW9.out.mono (T := [wb + 1]) (by simp)).trans ho9).pop (show w.heap.size ≤ wb + 1 by rw [HBB.out]; omega)
  refine ⟨_, rfl, ?_, hz9.nil_below⟩
  have hl9 := ownsRow_only HL9.out ho9 (fun k hk h => by simp at h; subst h; exact HNLW.out hk)
  have hq9 := ownsRow_only HQ9.out ho9 (fun k hk h => by simp at h; subst h; exact HNBW.out hk)
  exact ⟨A7, c7, B1, d1, rfl, ownsRow_mono hl9 (by have := HW0S.out; have := HBB.out; omega), ownsRow_mono hq9 (by have := HW0S.out; have := HBB.out; omega)⟩
end Go.Proofs.YtghpmpjoedbpcaaDoor.Print
/-! ### EAwake -/
namespace Go.Proofs.YtghpmpjoedbpcaaDoor.Print
open Go.RowKit Go.Proofs.YtghpmpjoedbpcaaDoorW.PrintWords Go.Proofs.YtghpmpjoedbpcaaDoorW.PrintLast Go.Proofs.YtghpmpjoedbpcaaDoorW.PrintMore
set_option linter.unusedSimpArgs false
set_option linter.unusedVariables false
def exE : S27 := ⟨3, 1, 2, ⟨#[97]⟩, 0, 0⟩
theorem ex_open : openJ zJn 1 2 = (⟨[], [⟨1, 2, 0⟩], 0⟩, 0) := by kernel_rfl
theorem ex_add1 : addJ ⟨[], [⟨1, 2, 0⟩], 0⟩ exE = (⟨[exE], [⟨1, 1, 0⟩], 0⟩, 0) := by kernel_rfl
theorem ex_add2 : addJ ⟨[exE], [⟨1, 1, 0⟩], 0⟩ exE = (⟨[exE, exE], [⟨1, 0, 0⟩], 0⟩, 0) := by kernel_rfl
theorem ex_add3 : addJ ⟨[exE, exE], [⟨1, 0, 0⟩], 0⟩ exE = (zJn, 180) := by kernel_rfl
theorem ex_note : noteJ ⟨[exE, exE], [⟨1, 0, 0⟩], 0⟩ exE = (⟨[exE, exE], [⟨1, 0, 1⟩], 0⟩, 0) := by kernel_rfl
theorem exc_open (W : World) (hT : Tabs W) (base : Nat) (A0 : Option Addr) (c0 : Nat) (A1 : Option Addr) (c1 : Nat) (h0 : W.ownsRow base 27 6 (.slice A0 0 c0) 0 (eRow [])) (h1 : W.ownsRow base 35 3 (.slice A1 0 c1) 0 (qRow [])) :
    Calls Tryd.prog 19 #[.agg #[.slice A0 0 c0, .slice A1 0 c1, .int .i64 0], .int .i64 1, .int .i64 2] W fun e w' => ∃ A c B d, e = .returned (.tuple #[.agg #[.slice A 0 c, .slice B 1 d, .int .i64 0], .int .i64 0]) ∧ w'.ownsRow W.heap.size 27 6 (.slice A 0 c) 0 (eRow []) ∧ w'.ownsRow W.heap.size 35 3 (.slice B 1 d) 1 (qRow [⟨1, 2, 0⟩]) ∧ Below W.heap.size W w' := by
  have h := open_calls A0 c0 A1 c1 ⟨[], [], 0⟩ 1 2 W (own_e_reads h0) (own_q_reads h1) hT ⟨by unfold namesOk; decide, by decide, by decide⟩
  rw [show openJ ⟨[], [], 0⟩ 1 2 = _ from ex_open] at h
  refine h.mono ?_
  rintro e w' ⟨v, he, ⟨A, c, B, d, rfl, q1, q2⟩, hb⟩
  exact ⟨A, c, B, d, he, q1, q2, hb⟩
theorem exc_add1 (W : World) (hT : Tabs W) (base : Nat) (A0 : Option Addr) (c0 : Nat) (A1 : Option Addr) (c1 : Nat) (h0 : W.ownsRow base 27 6 (.slice A0 0 c0) 0 (eRow [])) (h1 : W.ownsRow base 35 3 (.slice A1 1 c1) 1 (qRow [⟨1, 2, 0⟩])) :
    Calls Tryd.prog 10 #[.agg #[.slice A0 0 c0, .slice A1 1 c1, .int .i64 0], .agg #[.int .i64 3, .int .i64 1, .int .i64 2, .string ⟨#[97]⟩, .int .i64 0, .int .i64 0]] W fun e w' => ∃ A c B d, e = .returned (.tuple #[.agg #[.slice A 1 c, .slice B 1 d, .int .i64 0], .int .i64 0]) ∧ w'.ownsRow W.heap.size 27 6 (.slice A 1 c) 1 (eRow [exE]) ∧ w'.ownsRow W.heap.size 35 3 (.slice B 1 d) 1 (qRow [⟨1, 1, 0⟩]) ∧ Below W.heap.size W w' := by
  have h := add_calls A0 c0 A1 c1 ⟨[], [⟨1, 2, 0⟩], 0⟩ exE W (own_e_reads h0) (own_q_reads h1) hT ⟨by unfold namesOk; decide, by decide, by decide⟩ (by decide)
  rw [ex_add1] at h
  refine h.mono ?_
  rintro e w' ⟨v, he, ⟨A, c, B, d, rfl, q1, q2⟩, hb⟩
  exact ⟨A, c, B, d, he, q1, q2, hb⟩
theorem exc_add2 (W : World) (hT : Tabs W) (base : Nat) (A0 : Option Addr) (c0 : Nat) (A1 : Option Addr) (c1 : Nat) (h0 : W.ownsRow base 27 6 (.slice A0 1 c0) 1 (eRow [exE])) (h1 : W.ownsRow base 35 3 (.slice A1 1 c1) 1 (qRow [⟨1, 1, 0⟩])) :
    Calls Tryd.prog 10 #[.agg #[.slice A0 1 c0, .slice A1 1 c1, .int .i64 0], .agg #[.int .i64 3, .int .i64 1, .int .i64 2, .string ⟨#[97]⟩, .int .i64 0, .int .i64 0]] W fun e w' => ∃ A c B d, e = .returned (.tuple #[.agg #[.slice A 2 c, .slice B 1 d, .int .i64 0], .int .i64 0]) ∧ w'.ownsRow W.heap.size 27 6 (.slice A 2 c) 2 (eRow [exE, exE]) ∧ w'.ownsRow W.heap.size 35 3 (.slice B 1 d) 1 (qRow [⟨1, 0, 0⟩]) ∧ Below W.heap.size W w' := by
  have h := add_calls A0 c0 A1 c1 ⟨[exE], [⟨1, 1, 0⟩], 0⟩ exE W (own_e_reads h0) (own_q_reads h1) hT ⟨by unfold namesOk; decide, by decide, by decide⟩ (by decide)
  rw [ex_add2] at h
  refine h.mono ?_
  rintro e w' ⟨v, he, ⟨A, c, B, d, rfl, q1, q2⟩, hb⟩
  exact ⟨A, c, B, d, he, q1, q2, hb⟩
theorem exc_add3 (W : World) (hT : Tabs W) (base : Nat) (A0 : Option Addr) (c0 : Nat) (A1 : Option Addr) (c1 : Nat) (h0 : W.ownsRow base 27 6 (.slice A0 2 c0) 2 (eRow [exE, exE])) (h1 : W.ownsRow base 35 3 (.slice A1 1 c1) 1 (qRow [⟨1, 0, 0⟩])) :
    Calls Tryd.prog 10 #[.agg #[.slice A0 2 c0, .slice A1 1 c1, .int .i64 0], .agg #[.int .i64 3, .int .i64 1, .int .i64 2, .string ⟨#[97]⟩, .int .i64 0, .int .i64 0]] W fun e w' => ∃ A c B d, e = .returned (.tuple #[.agg #[.slice A 0 c, .slice B 0 d, .int .i64 0], .int .i64 180]) ∧ w'.ownsRow W.heap.size 27 6 (.slice A 0 c) 0 (eRow []) ∧ w'.ownsRow W.heap.size 35 3 (.slice B 0 d) 0 (qRow []) ∧ Below W.heap.size W w' := by
  have h := add_calls A0 c0 A1 c1 ⟨[exE, exE], [⟨1, 0, 0⟩], 0⟩ exE W (own_e_reads h0) (own_q_reads h1) hT ⟨by unfold namesOk; decide, by decide, by decide⟩ (by decide)
  rw [ex_add3] at h
  refine h.mono ?_
  rintro e w' ⟨v, he, ⟨A, c, B, d, rfl, q1, q2⟩, hb⟩
  exact ⟨A, c, B, d, he, q1, q2, hb⟩
theorem exc_note (W : World) (hT : Tabs W) (base : Nat) (A0 : Option Addr) (c0 : Nat) (A1 : Option Addr) (c1 : Nat) (h0 : W.ownsRow base 27 6 (.slice A0 2 c0) 2 (eRow [exE, exE])) (h1 : W.ownsRow base 35 3 (.slice A1 1 c1) 1 (qRow [⟨1, 0, 0⟩])) :
    Calls Tryd.prog 11 #[.agg #[.slice A0 2 c0, .slice A1 1 c1, .int .i64 0], .agg #[.int .i64 3, .int .i64 1, .int .i64 2, .string ⟨#[97]⟩, .int .i64 0, .int .i64 0]] W fun e w' => ∃ A c B d, e = .returned (.tuple #[.agg #[.slice A 2 c, .slice B 1 d, .int .i64 0], .int .i64 0]) ∧ w'.ownsRow W.heap.size 27 6 (.slice A 2 c) 2 (eRow [exE, exE]) ∧ w'.ownsRow W.heap.size 35 3 (.slice B 1 d) 1 (qRow [⟨1, 0, 1⟩]) ∧ Below W.heap.size W w' := by
  have h := note_calls A0 c0 A1 c1 ⟨[exE, exE], [⟨1, 0, 0⟩], 0⟩ exE W (own_e_reads h0) (own_q_reads h1) hT ⟨by unfold namesOk; decide, by decide, by decide⟩ (by decide)
  rw [ex_note] at h
  refine h.mono ?_
  rintro e w' ⟨v, he, ⟨A, c, B, d, rfl, q1, q2⟩, hb⟩
  exact ⟨A, c, B, d, he, q1, q2, hb⟩
theorem exc_used (W : World) (hT : Tabs W) (base : Nat) (A0 : Option Addr) (c0 : Nat) (A1 : Option Addr) (c1 : Nat) (h0 : W.ownsRow base 27 6 (.slice A0 2 c0) 2 (eRow [exE, exE])) (h1 : W.ownsRow base 35 3 (.slice A1 1 c1) 1 (qRow [⟨1, 0, 1⟩])) :
    Calls Tryd.prog 18 #[.agg #[.slice A0 2 c0, .slice A1 1 c1, .int .i64 0]] W fun e w' => e = .returned (.int .i64 2) ∧ Below W.heap.size W w' :=
  journal_Used.calls A0 c0 [exE, exE] A1 c1 [⟨1, 0, 1⟩] 0 2 W (own_e_reads h0).2 (own_e_reads h0).1 (own_q_reads h1).2 (own_q_reads h1).1 hT (by kernel_rfl)
def malthouselaw18_awake.f : Option Bool := some true
set_option maxHeartbeats 8000000 in
set_option maxRecDepth 100000 in
theorem malthouselaw18_awake.calls (r : Bool) (w : World) (hT : Tabs w) (h : malthouselaw18_awake.f = some r) :
    Calls Tryd.prog 8 #[] w fun e w' => e = .returned (.bool r) ∧ Below w.heap.size w w' := by
  obtain rfl := Option.some.inj h
  clear h
  have HT := Lib.hid hT
  clear hT
  go_enter Tryd.func8, Tryd.ntmps8
  go_wp2_with (go_at_call 19; refine (exc_open w HT.out 0 none 0 none 0 (ownsRow_nil _ _ _ _) (ownsRow_nil _ _ _ _)).mono ?_; rintro e w1 ⟨A, c, B, d, rfl, h0, h1, hb⟩; have H0 := Lib.hid h0; have H1 := Lib.hid h1; have HB := Lib.hid (Only.of_below hb); clear h0 h1 hb; refine (fun (h : Hid _) => h.out) ?_)
  refine Lib.hid ?_
  go_wp2_with (go_at_call 10; refine (fun (h : Hid _) => h.out) ?_)
  refine Lib.hid ?_
  have hV := (Below.heap_alloc (w1.alloc (.cells #[.slice A 0 c, .slice B 1 d, .int .i64 0] 25)) (.cells #[.int .i64 3, .int .i64 1, .int .i64 2, .string ⟨#[97]⟩, .int .i64 0, .int .i64 0] 27) w1.heap.size (by simp)).trans (heap_alloc_new w1 (.cells #[.slice A 0 c, .slice B 1 d, .int .i64 0] 25))
  have hX := heap_alloc_new (w1.alloc (.cells #[.slice A 0 c, .slice B 1 d, .int .i64 0] 25)) (.cells #[.int .i64 3, .int .i64 1, .int .i64 2, .string ⟨#[97]⟩, .int .i64 0, .int .i64 0] 27)
  rw [show (w1.alloc (.cells #[.slice A 0 c, .slice B 1 d, .int .i64 0] 25)).heap.size = w1.heap.size + 1 by simp] at hX
  have ho : Only [] w1 ((w1.alloc (.cells #[.slice A 0 c, .slice B 1 d, .int .i64 0] 25)).alloc (.cells #[.int .i64 3, .int .i64 1, .int .i64 2, .string ⟨#[97]⟩, .int .i64 0, .int .i64 0] 27)) := ((Only.refl [] w1).alloc _).alloc _
  have HV := Lib.hid hV
  have HX := Lib.hid hX
  have HO := Lib.hid (HB.out.trans ho)
  have HP0 := Lib.hid (ownsRow_only H0.out ho (by simp))
  have HP1 := Lib.hid (ownsRow_only H1.out ho (by simp))
  have HS := Lib.hid (show w.heap.size ≤ w1.heap.size from HB.out.size)
  clear hV hX ho H0 H1 HB
  generalize (w1.alloc (.cells #[.slice A 0 c, .slice B 1 d, .int .i64 0] 25)).alloc (.cells #[.int .i64 3, .int .i64 1, .int .i64 2, .string ⟨#[97]⟩, .int .i64 0, .int .i64 0] 27) = W2 at *
  generalize hvb : w1.heap.size = vb at *
  clear hvb
  refine (exc_add1 W2 (HT.out.below HO.out.nil_below) _ A c B d HP0.out HP1.out).mono ?_
  rintro e U1 ⟨A1, c1, B1, d1, rfl, h0, h1, hb⟩
  have G1 := Lib.hid h0
  have K1 := Lib.hid h1
  have HB1 := Lib.hid (Only.of_below hb)
  clear h0 h1 hb
  have HVa1 := Lib.hid (HB1.out.heap HV.out (by simp))
  have HXa1 := Lib.hid (HB1.out.heap HX.out (by simp))
  have HOa1 := Lib.hid (HO.out.trans HB1.out)
  have HL1 := Lib.hid (show ∀ z, (Value.slice A1 1 c1).ownBlock = some z → vb + 1 < z from fun z hz => Nat.lt_of_lt_of_le (heap_lt HX.out) (ownsRow_lt G1.out hz).1)
  have HM1 := Lib.hid (show ∀ z, (Value.slice B1 1 d1).ownBlock = some z → vb + 1 < z from fun z hz => Nat.lt_of_lt_of_le (heap_lt HX.out) (ownsRow_lt K1.out hz).1)
  go_wp2_with (first
    | (with_reducible refine wpList_store_new rfl 25 (.tmp 1) (.tmp 20) rfl vb #[.slice A1 1 c1, .slice B1 1 d1, .int .i64 0] rfl rfl 25 _ HVa1.out (size3_25 _ _ _) rfl (by simp [Value.oneCell']) ?_; intro V1 hh ho; have HVb1 := Lib.hid hh.out; have HOs1 := Lib.hid ho; clear hh ho; refine (fun (h : Hid _) => h.out) ?_))
  refine Lib.hid ?_
  have HXb1 := Lib.hid (HOs1.out.heap HXa1.out (by simp))
  have HOb1 := Lib.hid (HOa1.out.then HOs1.out (fun i hi => .inr (by simp at hi; subst hi; exact HS.out)))
  have Ga1 := Lib.hid (ownsRow_only G1.out HOs1.out (fun z hz h => by have := HL1.out z hz; simp at h; omega))
  have Ka1 := Lib.hid (ownsRow_only K1.out HOs1.out (fun z hz h => by have := HM1.out z hz; simp at h; omega))
  clear HVa1 HXa1 HOa1 HOs1 G1 K1 HB1 HV HX HO
  go_wp2_with (first
    | (with_reducible refine wpList_load_at rfl 25 (.tmp 1) rfl ⟨vb, 0, none⟩ rfl _ _ (cellsAt_row HVb1.out) Tryd.underlying25 rfl (by kernel_rfl) ?_)
    | (with_reducible refine wpList_load_at rfl 27 (.tmp 3) rfl ⟨vb + 1, 0, none⟩ rfl _ _ (cellsAt_row HXb1.out) Tryd.underlying27 rfl (by kernel_rfl) ?_)
    | (go_at_call 10; refine (exc_add2 V1 (HT.out.below HOb1.out.nil_below) _ A1 c1 B1 d1 Ga1.out Ka1.out).mono ?_; rintro e U2 ⟨A2, c2, B2, d2, rfl, h0, h1, hb⟩; have G2 := Lib.hid h0; have K2 := Lib.hid h1; have HB2 := Lib.hid (Only.of_below hb); clear h0 h1 hb; refine (fun (h : Hid _) => h.out) ?_))
  refine Lib.hid ?_
  have HVa2 := Lib.hid (HB2.out.heap HVb1.out (by simp))
  have HXa2 := Lib.hid (HB2.out.heap HXb1.out (by simp))
  have HOa2 := Lib.hid (HOb1.out.trans HB2.out)
  have HL2 := Lib.hid (show ∀ z, (Value.slice A2 2 c2).ownBlock = some z → vb + 1 < z from fun z hz => Nat.lt_of_lt_of_le (heap_lt HXb1.out) (ownsRow_lt G2.out hz).1)
  have HM2 := Lib.hid (show ∀ z, (Value.slice B2 1 d2).ownBlock = some z → vb + 1 < z from fun z hz => Nat.lt_of_lt_of_le (heap_lt HXb1.out) (ownsRow_lt K2.out hz).1)
  go_wp2_with (first
    | (with_reducible refine wpList_store_new rfl 25 (.tmp 1) (.tmp 26) rfl vb #[.slice A2 2 c2, .slice B2 1 d2, .int .i64 0] rfl rfl 25 _ HVa2.out (size3_25 _ _ _) rfl (by simp [Value.oneCell']) ?_; intro V2 hh ho; have HVb2 := Lib.hid hh.out; have HOs2 := Lib.hid ho; clear hh ho; refine (fun (h : Hid _) => h.out) ?_))
  refine Lib.hid ?_
  have HXb2 := Lib.hid (HOs2.out.heap HXa2.out (by simp))
  have HOb2 := Lib.hid (HOa2.out.then HOs2.out (fun i hi => .inr (by simp at hi; subst hi; exact HS.out)))
  have Ga2 := Lib.hid (ownsRow_only G2.out HOs2.out (fun z hz h => by have := HL2.out z hz; simp at h; omega))
  have Ka2 := Lib.hid (ownsRow_only K2.out HOs2.out (fun z hz h => by have := HM2.out z hz; simp at h; omega))
  clear HVa2 HXa2 HOa2 HOs2 G2 K2 HB2 HVb1 HXb1 HOb1
  go_wp2_with (first
    | (with_reducible refine wpList_load_at rfl 25 (.tmp 1) rfl ⟨vb, 0, none⟩ rfl _ _ (cellsAt_row HVb2.out) Tryd.underlying25 rfl (by kernel_rfl) ?_)
    | (with_reducible refine wpList_load_at rfl 27 (.tmp 3) rfl ⟨vb + 1, 0, none⟩ rfl _ _ (cellsAt_row HXb2.out) Tryd.underlying27 rfl (by kernel_rfl) ?_)
    | (go_at_call 10; refine (exc_add3 V2 (HT.out.below HOb2.out.nil_below) _ A2 c2 B2 d2 Ga2.out Ka2.out).mono ?_; rintro e U3 ⟨A3, c3, B3, d3, rfl, h0, h1, hb⟩; have G3 := Lib.hid h0; have K3 := Lib.hid h1; have HB3 := Lib.hid (Only.of_below hb); clear h0 h1 hb; refine (fun (h : Hid _) => h.out) ?_))
  refine Lib.hid ?_
  have HVc := Lib.hid (HB3.out.heap HVb2.out (by simp))
  have HXc := Lib.hid (HB3.out.heap HXb2.out (by simp))
  have HOc := Lib.hid (HOb2.out.trans HB3.out)
  have Gc := Lib.hid (ownsRow_only Ga2.out HB3.out (by simp))
  have Kc := Lib.hid (ownsRow_only Ka2.out HB3.out (by simp))
  have hal : Only [] U3 (U3.alloc (.cells #[.slice A3 0 c3, .slice B3 0 d3, .int .i64 0] 25)) := (Only.refl [] U3).alloc _
  have HVd := Lib.hid (hal.heap HVc.out (by simp))
  have HXd := Lib.hid (hal.heap HXc.out (by simp))
  have HOd := Lib.hid (HOc.out.trans hal)
  have Gd := Lib.hid (ownsRow_only Gc.out hal (by simp))
  have Kd_ := Lib.hid (ownsRow_only Kc.out hal (by simp))
  clear hal HVc HXc HOc Gc Kc
  go_wp2_with (first
    | (with_reducible refine wpList_load_at rfl 25 (.tmp 1) rfl ⟨vb, 0, none⟩ rfl _ _ (cellsAt_row HVd.out) Tryd.underlying25 rfl (by kernel_rfl) ?_)
    | (with_reducible refine wpList_load_at rfl 27 (.tmp 3) rfl ⟨vb + 1, 0, none⟩ rfl _ _ (cellsAt_row HXd.out) Tryd.underlying27 rfl (by kernel_rfl) ?_)
    | (go_at_call 11; refine (fun (h : Hid _) => h.out) ?_))
  refine Lib.hid ?_
  generalize U3.alloc (.cells #[.slice A3 0 c3, .slice B3 0 d3, .int .i64 0] 25) = U4 at *
  refine (exc_note U4 (HT.out.below HOd.out.nil_below) _ A2 c2 B2 d2 Gd.out Kd_.out).mono ?_
  rintro e U5 ⟨A5, c5, B5, d5, rfl, h0, h1, hb⟩
  have G5 := Lib.hid h0
  have K5 := Lib.hid h1
  have HB5 := Lib.hid (Only.of_below hb)
  clear h0 h1 hb
  have HVe := Lib.hid (HOd.out.trans HB5.out)
  have hal : Only [] U5 (U5.alloc (.cells #[.slice A5 2 c5, .slice B5 1 d5, .int .i64 0] 25)) := (Only.refl [] U5).alloc _
  have HR := Lib.hid (heap_alloc_new U5 (.cells #[.slice A5 2 c5, .slice B5 1 d5, .int .i64 0] 25))
  have HOf := Lib.hid (HVe.out.trans hal)
  have Gf := Lib.hid (ownsRow_only G5.out hal (by simp))
  have Kf := Lib.hid (ownsRow_only K5.out hal (by simp))
  clear hal
  have hq : (U5.alloc (.cells #[.slice A5 2 c5, .slice B5 1 d5, .int .i64 0] 25)).cell? ⟨U5.heap.size, 1, none⟩ = some (.slice B5 1 d5) := (cell_of_row _ _ 1 _ _ _ HR.out).trans rfl
  have hl : (U5.alloc (.cells #[.slice A5 2 c5, .slice B5 1 d5, .int .i64 0] 25)).cell? ⟨U5.heap.size, 0, none⟩ = some (.slice A5 2 c5) := (cell_of_row _ _ 0 _ _ _ HR.out).trans rfl
  obtain ⟨g5, hB5, hd2⟩ : ∃ g5, B5 = some ⟨g5, 0, none⟩ ∧ (U5.alloc (.cells #[.slice A5 2 c5, .slice B5 1 d5, .int .i64 0] 25)).cell? ⟨g5, 2, none⟩ = some (.int .i64 1) := by
    rcases Kf.out.2 with ⟨_, hz⟩ | ⟨g, cap, cur, e1, hb, hh, hn, _, hs, ht⟩
    · cases hz
    · injection e1 with e1 e2 e3
      refine ⟨g, e1, ?_⟩
      have h2 : (cur.toList.take (1 * 3))[2]? = some (Value.int .i64 1) := by rw [ht]; rfl
      rw [List.getElem?_take_of_lt (by omega)] at h2
      rw [cell_of_row _ g _ _ _ _ hh, ← Array.getElem?_toList]
      exact h2
  subst hB5
  go_wp2_with (first
    | (with_reducible refine wpList_load_at rfl 25 (.tmp 8) rfl ⟨U5.heap.size, 0, none⟩ rfl _ _ (cellsAt_row HR.out) Tryd.underlying25 rfl (by kernel_rfl) ?_)
    | (go_at_call 18; refine (exc_used _ (HT.out.below HOf.out.nil_below) _ _ _ _ _ Gf.out Kf.out).mono ?_; rintro e U7 ⟨rfl, hb⟩; have HB7 := Lib.hid (Only.of_below hb); clear hb))
  go_ret
  exact ⟨rfl, (HOf.out.trans HB7.out).nil_below⟩
end Go.Proofs.YtghpmpjoedbpcaaDoor.Print
/-! ### Print1 -/
namespace Go.Proofs.YtghpmpjoedbpcaaDoor.Print
open Go.RowKit Go.Proofs.YtghpmpjoedbpcaaDoorW.PrintWords Go.Proofs.YtghpmpjoedbpcaaDoorW.PrintLast Go.Proofs.YtghpmpjoedbpcaaDoorW.PrintMore
attribute [local go_sem] min2_int min_two
set_option linter.unusedVariables false
set_option linter.unusedSimpArgs false
theorem eqA27 (d : Nat) (w : World) (x0 y0 : Int) (x1 y1 : Int) (x2 y2 : Int) (x3 y3 : ByteArray) (x4 y4 : Int) (x5 y5 : Int) :
    (Op.equalIn (d + 2) 27 (.agg #[.int .i64 x0, .int .i64 x1, .int .i64 x2, .string x3, .int .i64 x4, .int .i64 x5]) (.agg #[.int .i64 y0, .int .i64 y1, .int .i64 y2, .string y3, .int .i64 y4, .int .i64 y5])).run Tryd.prog w = .ok (x0 == y0 && (x1 == y1 && (x2 == y2 && (x3.toList == y3.toList && (x4 == y4 && (x5 == y5)))))) w := by
  refine eqA_of Tryd.underlying27 (by kernel_rfl) ?_
  refine eqf_cons (by rfl) (by go_simp; rfl) (by go_simp; rfl) (by go_simp) ?_
  refine eqf_cons (by rfl) (by go_simp; rfl) (by go_simp; rfl) (by go_simp) ?_
  refine eqf_cons (by rfl) (by go_simp; rfl) (by go_simp; rfl) (by go_simp) ?_
  refine eqf_cons (by rfl) (by go_simp; rfl) (by go_simp; rfl) (by go_simp) ?_
  refine eqf_cons (by rfl) (by go_simp; rfl) (by go_simp; rfl) (by go_simp) ?_
  exact eqf_last (by rfl) (by go_simp; rfl) (by go_simp; rfl) (by go_simp)
end Go.Proofs.YtghpmpjoedbpcaaDoor.Print
/-! ### Print4 -/
namespace Go.Proofs.YtghpmpjoedbpcaaDoor.Print
open Go.RowKit Go.Proofs.YtghpmpjoedbpcaaDoorW.PrintWords Go.Proofs.YtghpmpjoedbpcaaDoorW.PrintLast Go.Proofs.YtghpmpjoedbpcaaDoorW.PrintMore
attribute [local go_sem] min2_int min_two
set_option linter.unusedVariables false
set_option linter.unusedSimpArgs false
attribute [local go_sem high] eqA27
def malthouseref18_Entries.l0 : Nat → List (S27) → List (S27) → Int → Option (Bool)
  | 0, _, _, _ => none
  | k + 1, x0, x1, x5 => if x5 < (x0.length : Int) then (if 0 ≤ x5 then (if x5 < (x1.length : Int) then (if (!(((rd_T27 x0 x5).f0) == ((rd_T27 x1 x5).f0)) || (!(((rd_T27 x0 x5).f1) == ((rd_T27 x1 x5).f1)) || (!(((rd_T27 x0 x5).f2) == ((rd_T27 x1 x5).f2)) || (!((((rd_T27 x0 x5).f3).toList) == (((rd_T27 x1 x5).f3).toList)) || (!(((rd_T27 x0 x5).f4) == ((rd_T27 x1 x5).f4)) || (!(((rd_T27 x0 x5).f5) == ((rd_T27 x1 x5).f5)))))))) = true then (some false) else (malthouseref18_Entries.l0 k x0 x1 (wrap64 (x5 + 1)))) else (none)) else (none)) else (some true)
def malthouseref18_Entries.f (k : Nat) (l0 : List (S27)) (l1 : List (S27)) : Option (Bool) := if (l0.length : Int) = (l1.length : Int) then (malthouseref18_Entries.l0 k l0 l1 0) else (some false)
set_option maxHeartbeats 8000000 in
set_option maxRecDepth 100000 in
theorem malthouseref18_Entries.calls (k : Nat) (A0 : Option Addr) (c0 : Nat) (l0 : List (S27)) (A1 : Option Addr) (c1 : Nat) (l1 : List (S27)) (r : Bool) (w : World) (hr0 : Kd.C k27 w A0 l0.length l0) (hc0 : l0.length ≤ c0) (hr1 : Kd.C k27 w A1 l1.length l1) (hc1 : l1.length ≤ c1) (h : malthouseref18_Entries.f k l0 l1 = some r) :
    Calls Tryd.prog 13 #[.slice A0 l0.length c0, .slice A1 l1.length c1] w fun e w' => e = .returned (.bool r) ∧ Drawn0 w w' := by
  have hu27 := Tryd.underlying27
  have HR0 := Aside0.mk hr0
  have HC0 := Aside0.mk hc0
  clear hr0 hc0
  have HR1 := Aside0.mk hr1
  have HC1 := Aside0.mk hc1
  clear hr1 hc1
  have H : (if (l0.length : Int) = (l1.length : Int) then (malthouseref18_Entries.l0 k l0 l1 0) else (some false)) = some r := h
  clear h
  by_cases c3 : (l0.length : Int) = (l1.length : Int)
  · rw [if_pos c3] at H
    have c3b0 : ((l0.length : Int) == (l1.length : Int)) = true := beq_iff_eq.mpr c3
    have c3b1 : ((l0.length : Int) != (l1.length : Int)) = false := bne_eq_false_iff_eq.mpr c3
    have c3b2 : (l0.length == l1.length) = true := by first | simpa using c3 | (simp at c3 ⊢; omega)
    clear c3
    have H' := Aside0.mk H
    clear H
    go_enter Tryd.func13, Tryd.ntmps13
    go_wp2
    repeat (go_quiet (fail); try go_wp2)
    go_loopg [5] k (fun kq v5 w' => ∃ (x5_1 : Int), v5 = .int .i64 x5_1 ∧ Aside0 (malthouseref18_Entries.l0 kq l0 l1 x5_1 = some r) ∧ Aside0 (kq ≤ k) ∧ Drawn0 w w')
    case atStart => exact ⟨(0), (by first | rfl | (simp; done) | (simp [*]; done)), H', ⟨Nat.le_refl _⟩, by repeat (first | exact Drawn0.refl _ | apply Drawn0.step)⟩
    case round =>
      clear H'
      try clear c1
      try clear p2
      try clear c3
      try clear c3b0
      try clear c3b1
      try clear c3b2
      obtain ⟨x5_1, rfl, HA, HK1, ⟨m1, rfl⟩⟩ := hrel
      cases gk with
      | zero => exact absurd HA.out (by simp [malthouseref18_Entries.l0])
      | succ k1 =>
        have H := HA.out
        clear HA
        simp only [malthouseref18_Entries.l0] at H
        by_cases c4 : x5_1 < (l0.length : Int)
        · rw [if_pos c4] at H
          have c4b0 : decide (x5_1 < (l0.length : Int)) = true := decide_eq_true c4
          clear c4
          by_cases c5 : 0 ≤ x5_1
          · rw [if_pos c5] at H
            have c5b0 : decide (0 ≤ x5_1) = true := decide_eq_true c5
            clear c5
            by_cases c6 : x5_1 < (l1.length : Int)
            · rw [if_pos c6] at H
              have c6b0 : decide (x5_1 < (l1.length : Int)) = true := decide_eq_true c6
              clear c6
              by_cases c7 : (!(((rd_T27 l0 x5_1).f0) == ((rd_T27 l1 x5_1).f0)) || (!(((rd_T27 l0 x5_1).f1) == ((rd_T27 l1 x5_1).f1)) || (!(((rd_T27 l0 x5_1).f2) == ((rd_T27 l1 x5_1).f2)) || (!((((rd_T27 l0 x5_1).f3).toList) == (((rd_T27 l1 x5_1).f3).toList)) || (!(((rd_T27 l0 x5_1).f4) == ((rd_T27 l1 x5_1).f4)) || (!(((rd_T27 l0 x5_1).f5) == ((rd_T27 l1 x5_1).f5)))))))) = true
              · rw [if_pos c7] at H
                have c7b0 : (!(((rd_T27 l0 x5_1).f0) == ((rd_T27 l1 x5_1).f0)) || (!(((rd_T27 l0 x5_1).f1) == ((rd_T27 l1 x5_1).f1)) || (!(((rd_T27 l0 x5_1).f2) == ((rd_T27 l1 x5_1).f2)) || (!((((rd_T27 l0 x5_1).f3).toList) == (((rd_T27 l1 x5_1).f3).toList)) || (!(((rd_T27 l0 x5_1).f4) == ((rd_T27 l1 x5_1).f4)) || (!(((rd_T27 l0 x5_1).f5) == ((rd_T27 l1 x5_1).f5)))))))) = true := c7
                clear c7
                obtain rfl := Option.some.inj H
                have p103 : 0 ≤ (x5_1 : Int) := of_decide_eq_true (by first | (with_reducible assumption) | assumption)
                have q103 : x5_1 < (l0.length : Int) := of_decide_eq_true (by first | (with_reducible assumption) | assumption)
                obtain ⟨ad103, e103, hx103_0, hx103_1, hx103_2, hx103_3, hx103_4, hx103_5⟩ := at_T27 HR0.out x5_1 p103 q103
                cases e103
                replace p103 := eq_true p103
                replace q103 := eq_true q103
                have p104 : 0 ≤ (x5_1 : Int) := of_decide_eq_true (by first | (with_reducible assumption) | assumption)
                have q104 : x5_1 < (l1.length : Int) := of_decide_eq_true (by first | (with_reducible assumption) | assumption)
                obtain ⟨ad104, e104, hx104_0, hx104_1, hx104_2, hx104_3, hx104_4, hx104_5⟩ := at_T27 HR1.out x5_1 p104 q104
                cases e104
                replace p104 := eq_true p104
                replace q104 := eq_true q104
                go_wp2
                repeat (go_quiet (fail); try go_wp2)
                go_ret
                exact ⟨by first | rfl | (simp; done) | (simp [*]; done), by repeat (first | exact Drawn0.refl _ | apply Drawn0.step)⟩
              · rw [if_neg c7] at H
                have c7b0 : (!(((rd_T27 l0 x5_1).f0) == ((rd_T27 l1 x5_1).f0)) || (!(((rd_T27 l0 x5_1).f1) == ((rd_T27 l1 x5_1).f1)) || (!(((rd_T27 l0 x5_1).f2) == ((rd_T27 l1 x5_1).f2)) || (!((((rd_T27 l0 x5_1).f3).toList) == (((rd_T27 l1 x5_1).f3).toList)) || (!(((rd_T27 l0 x5_1).f4) == ((rd_T27 l1 x5_1).f4)) || (!(((rd_T27 l0 x5_1).f5) == ((rd_T27 l1 x5_1).f5)))))))) = false := by simpa using c7
                clear c7
                have H' := Aside0.mk H
                clear H
                have p103 : 0 ≤ (x5_1 : Int) := of_decide_eq_true (by first | (with_reducible assumption) | assumption)
                have q103 : x5_1 < (l0.length : Int) := of_decide_eq_true (by first | (with_reducible assumption) | assumption)
                obtain ⟨ad103, e103, hx103_0, hx103_1, hx103_2, hx103_3, hx103_4, hx103_5⟩ := at_T27 HR0.out x5_1 p103 q103
                cases e103
                replace p103 := eq_true p103
                replace q103 := eq_true q103
                have p104 : 0 ≤ (x5_1 : Int) := of_decide_eq_true (by first | (with_reducible assumption) | assumption)
                have q104 : x5_1 < (l1.length : Int) := of_decide_eq_true (by first | (with_reducible assumption) | assumption)
                obtain ⟨ad104, e104, hx104_0, hx104_1, hx104_2, hx104_3, hx104_4, hx104_5⟩ := at_T27 HR1.out x5_1 p104 q104
                cases e104
                replace p104 := eq_true p104
                replace q104 := eq_true q104
                go_wp2
                repeat (go_quiet (fail); try go_wp2)
                go_roundg k1
                case measure => have := HK1.out; omega
                case rel => exact ⟨(wrap64 (x5_1 + 1)), (by first | rfl | (simp; done) | (simp [*]; done)), H', ⟨by have := HK1.out; omega⟩, by repeat (first | exact Drawn0.refl _ | apply Drawn0.step)⟩
            · rw [if_neg c6] at H
              exact absurd H (by simp)
          · rw [if_neg c5] at H
            exact absurd H (by simp)
        · rw [if_neg c4] at H
          have c4b0 : decide (x5_1 < (l0.length : Int)) = false := decide_eq_false c4
          clear c4
          obtain rfl := Option.some.inj H
          go_wp2
          repeat (go_quiet (fail); try go_wp2)
          go_ret
          exact ⟨by first | rfl | (simp; done) | (simp [*]; done), by repeat (first | exact Drawn0.refl _ | apply Drawn0.step)⟩
  · rw [if_neg c3] at H
    have c3b0 : ((l0.length : Int) == (l1.length : Int)) = false := beq_eq_false_iff_ne.mpr c3
    have c3b1 : ((l0.length : Int) != (l1.length : Int)) = true := bne_iff_ne.mpr c3
    have c3b2 : (l0.length == l1.length) = false := by first | simpa using c3 | (simp at c3 ⊢; omega)
    obtain rfl := Option.some.inj H
    go_enter Tryd.func13, Tryd.ntmps13
    go_wp2
    repeat (go_quiet (fail); try go_wp2)
    go_ret
    exact ⟨by first | rfl | (simp; done) | (simp [*]; done), by repeat (first | exact Drawn0.refl _ | apply Drawn0.step)⟩
end Go.Proofs.YtghpmpjoedbpcaaDoor.Print
/-! ### Print6 -/
namespace Go.Proofs.YtghpmpjoedbpcaaDoor.Print
open Go.RowKit Go.Proofs.YtghpmpjoedbpcaaDoorW.PrintWords Go.Proofs.YtghpmpjoedbpcaaDoorW.PrintLast Go.Proofs.YtghpmpjoedbpcaaDoorW.PrintMore
attribute [local go_sem] min2_int min_two
set_option linter.unusedVariables false
set_option linter.unusedSimpArgs false
def malthouselaw18_few.l0 : Nat → List (S43) → Int → Option (Bool)
  | 0, _, _ => none
  | k + 1, x0, x5 => if x5 < (x0.length : Int) then (if 0 ≤ x5 then (if (((rd_T43 x0 x5).f2.f3).size : Int) > 200 then (some false) else (malthouselaw18_few.l0 k x0 (wrap64 (x5 + 1)))) else (none)) else (some true)
def malthouselaw18_few.f (k : Nat) (l0 : List (S43)) (a1 : Int) : Option (Bool) := if (l0.length : Int) > a1 then (some false) else (malthouselaw18_few.l0 k l0 0)
set_option maxHeartbeats 8000000 in
set_option maxRecDepth 100000 in
theorem malthouselaw18_few.calls (k : Nat) (A0 : Option Addr) (c0 : Nat) (l0 : List (S43)) (a1 : Int) (r : Bool) (w : World) (hr0 : Kd.C k43 w A0 l0.length l0) (hc0 : l0.length ≤ c0) (h : malthouselaw18_few.f k l0 a1 = some r) :
    Calls Tryd.prog 16 #[.slice A0 l0.length c0, .int .i64 a1] w fun e w' => e = .returned (.bool r) ∧ Drawn0 w w' := by
  have HR0 := Aside0.mk hr0
  have HC0 := Aside0.mk hc0
  clear hr0 hc0
  have H : (if (l0.length : Int) > a1 then (some false) else (malthouselaw18_few.l0 k l0 0)) = some r := h
  clear h
  by_cases c3 : (l0.length : Int) > a1
  · rw [if_pos c3] at H
    have c3b0 : decide (a1 < (l0.length : Int)) = true := decide_eq_true c3
    clear c3
    obtain rfl := Option.some.inj H
    go_enter Tryd.func16, Tryd.ntmps16
    go_wp2
    go_ret
    exact ⟨by first | rfl | (simp; done) | (simp [*]; done), by repeat (first | exact Drawn0.refl _ | apply Drawn0.step)⟩
  · rw [if_neg c3] at H
    have c3b0 : decide (a1 < (l0.length : Int)) = false := decide_eq_false c3
    clear c3
    have H' := Aside0.mk H
    clear H
    go_enter Tryd.func16, Tryd.ntmps16
    go_wp2
    go_loopg [5] k (fun kq v5 w' => ∃ (x5_1 : Int), v5 = .int .i64 x5_1 ∧ Aside0 (malthouselaw18_few.l0 kq l0 x5_1 = some r) ∧ Aside0 (kq ≤ k) ∧ Drawn0 w w')
    case atStart => exact ⟨(0), (by first | rfl | (simp; done) | (simp [*]; done)), H', ⟨Nat.le_refl _⟩, by repeat (first | exact Drawn0.refl _ | apply Drawn0.step)⟩
    case round =>
      clear H'
      try clear c1
      try clear p2
      try clear c3
      try clear c3b0
      obtain ⟨x5_1, rfl, HA, HK1, ⟨m1, rfl⟩⟩ := hrel
      cases gk with
      | zero => exact absurd HA.out (by simp [malthouselaw18_few.l0])
      | succ k1 =>
        have H := HA.out
        clear HA
        simp only [malthouselaw18_few.l0] at H
        by_cases c4 : x5_1 < (l0.length : Int)
        · rw [if_pos c4] at H
          have c4b0 : decide (x5_1 < (l0.length : Int)) = true := decide_eq_true c4
          clear c4
          by_cases c5 : 0 ≤ x5_1
          · rw [if_pos c5] at H
            have c5b0 : decide (0 ≤ x5_1) = true := decide_eq_true c5
            clear c5
            by_cases c6 : (((rd_T43 l0 x5_1).f2.f3).size : Int) > 200
            · rw [if_pos c6] at H
              have c6b0 : decide (200 < (((rd_T43 l0 x5_1).f2.f3).size : Int)) = true := decide_eq_true c6
              have c6b1 : decide (200 < ((rd_T43 l0 x5_1).f2.f3).size) = true := decide_eq_true (by omega)
              clear c6
              obtain rfl := Option.some.inj H
              have p153 : 0 ≤ (x5_1 : Int) := of_decide_eq_true (by first | (with_reducible assumption) | assumption)
              have q153 : x5_1 < (l0.length : Int) := of_decide_eq_true (by first | (with_reducible assumption) | assumption)
              obtain ⟨ad153, e153, hx153_0, hx153_1, hx153_2, hx153_3, hx153_4, hx153_5, hx153_6, hx153_7⟩ := at_T43 HR0.out x5_1 p153 q153
              cases e153
              replace p153 := eq_true p153
              replace q153 := eq_true q153
              go_wp2
              go_ret
              exact ⟨by first | rfl | (simp; done) | (simp [*]; done), by repeat (first | exact Drawn0.refl _ | apply Drawn0.step)⟩
            · rw [if_neg c6] at H
              have c6b0 : decide (200 < (((rd_T43 l0 x5_1).f2.f3).size : Int)) = false := decide_eq_false c6
              have c6b1 : decide (200 < ((rd_T43 l0 x5_1).f2.f3).size) = false := decide_eq_false (by omega)
              clear c6
              have H' := Aside0.mk H
              clear H
              have p153 : 0 ≤ (x5_1 : Int) := of_decide_eq_true (by first | (with_reducible assumption) | assumption)
              have q153 : x5_1 < (l0.length : Int) := of_decide_eq_true (by first | (with_reducible assumption) | assumption)
              obtain ⟨ad153, e153, hx153_0, hx153_1, hx153_2, hx153_3, hx153_4, hx153_5, hx153_6, hx153_7⟩ := at_T43 HR0.out x5_1 p153 q153
              cases e153
              replace p153 := eq_true p153
              replace q153 := eq_true q153
              go_wp2
              go_roundg k1
              case measure => have := HK1.out; omega
              case rel => exact ⟨(wrap64 (x5_1 + 1)), (by first | rfl | (simp; done) | (simp [*]; done)), H', ⟨by have := HK1.out; omega⟩, by repeat (first | exact Drawn0.refl _ | apply Drawn0.step)⟩
          · rw [if_neg c5] at H
            exact absurd H (by simp)
        · rw [if_neg c4] at H
          have c4b0 : decide (x5_1 < (l0.length : Int)) = false := decide_eq_false c4
          clear c4
          obtain rfl := Option.some.inj H
          go_wp2
          go_ret
          exact ⟨by first | rfl | (simp; done) | (simp [*]; done), by repeat (first | exact Drawn0.refl _ | apply Drawn0.step)⟩
end Go.Proofs.YtghpmpjoedbpcaaDoor.Print
/-! ### JLaw1 -/
namespace Go.Proofs.YtghpmpjoedbpcaaDoor.Print
open Go.RowKit Go.Proofs.YtghpmpjoedbpcaaDoorW.PrintWords Go.Proofs.YtghpmpjoedbpcaaDoorW.PrintLast Go.Proofs.YtghpmpjoedbpcaaDoorW.PrintMore
set_option linter.unusedSimpArgs false
set_option linter.unusedVariables false
theorem wrapS (i : Nat) (h : i < 1000000000000) : wrap64 ((i : Int) + 1) = ((i + 1 : Nat) : Int) := by
  have : wrap64 ((i : Int) + 1) = (i : Int) + 1 := by unfold wrap64; omega
  rw [this]; omega
theorem rd_o (l : List S43) (i : Nat) (hi : i < l.length) : rd_T43 l (i : Int) = l[i] := by
  unfold rd_T43
  simp [List.getD_eq_getElem?_getD, List.getElem?_eq_getElem hi]
theorem entries_loop (l : List S27) (hl : l.length ≤ 1000000000) : ∀ (f i k : Nat), l.length ≤ i + f → i ≤ l.length → f < k → malthouseref18_Entries.l0 k l l (i : Int) = some true := by
  intro f
  induction f with
  | zero =>
    intro i k h1 h2 hk
    obtain ⟨k, rfl⟩ : ∃ m, k = m + 1 := ⟨k - 1, by omega⟩
    rw [malthouseref18_Entries.l0, if_neg (by omega)]
  | succ f ih =>
    intro i k h1 h2 hk
    obtain ⟨k, rfl⟩ : ∃ m, k = m + 1 := ⟨k - 1, by omega⟩
    rw [malthouseref18_Entries.l0]
    by_cases hi : i < l.length
    · rw [if_pos (by omega), if_pos (by omega), if_pos (by omega), wrapS i (by omega), if_neg (by simp), ih (i + 1) k (by omega) (by omega) (by omega)]
    · rw [if_neg (by omega)]
theorem entries_refl (l : List S27) (k : Nat) (hl : l.length ≤ 1000000000) (hk : l.length < k) : malthouseref18_Entries.f k l l = some true := by
  unfold malthouseref18_Entries.f
  rw [if_pos rfl]
  have := entries_loop l hl l.length 0 k (by omega) (by omega) (by omega)
  simpa using this
def shortO (o : S43) : Bool := decide (o.f2.f3.size ≤ 200)
theorem few_loop (l : List S43) (hl : l.length ≤ 1000000000) : ∀ (f i k : Nat), l.length ≤ i + f → i ≤ l.length → f < k → malthouselaw18_few.l0 k l (i : Int) = some ((l.drop i).all shortO) := by
  intro f
  induction f with
  | zero =>
    intro i k h1 h2 hk
    obtain ⟨k, rfl⟩ : ∃ m, k = m + 1 := ⟨k - 1, by omega⟩
    rw [malthouselaw18_few.l0, if_neg (by omega), List.drop_eq_nil_of_le (by omega)]
    rfl
  | succ f ih =>
    intro i k h1 h2 hk
    obtain ⟨k, rfl⟩ : ∃ m, k = m + 1 := ⟨k - 1, by omega⟩
    rw [malthouselaw18_few.l0]
    by_cases hi : i < l.length
    · rw [if_pos (by omega), if_pos (by omega), rd_o l i hi, wrapS i (by omega), List.drop_eq_getElem_cons hi, List.all_cons]
      by_cases hs : l[i].f2.f3.size ≤ 200
      · rw [if_neg (by omega), ih (i + 1) k (by omega) (by omega) (by omega), show shortO l[i] = true from by unfold shortO; simpa using hs, Bool.true_and]
      · rw [if_pos (by omega), show shortO l[i] = false from by unfold shortO; simpa using hs, Bool.false_and]
    · rw [if_neg (by omega), List.drop_eq_nil_of_le (by omega)]
      rfl
def fewB (l : List S43) : Bool := decide (l.length ≤ 200) && l.all shortO
theorem few_is (l : List S43) (k : Nat) (hk : 202 < k) : malthouselaw18_few.f k l 200 = some (fewB l) := by
  unfold malthouselaw18_few.f fewB
  by_cases h : l.length ≤ 200
  · have := few_loop l (by omega) l.length 0 k (by omega) (by omega) (by omega)
    rw [if_neg (by omega), show decide (l.length ≤ 200) = true by simpa using h]
    simpa using this
  · rw [if_pos (by omega), show decide (l.length ≤ 200) = false by simpa using h, Bool.false_and]
end Go.Proofs.YtghpmpjoedbpcaaDoor.Print
/-! ### JLaw2 -/
namespace Go.Proofs.YtghpmpjoedbpcaaDoor.Print
open Go.RowKit Go.Proofs.YtghpmpjoedbpcaaDoorW.PrintWords Go.Proofs.YtghpmpjoedbpcaaDoorW.PrintLast Go.Proofs.YtghpmpjoedbpcaaDoorW.PrintMore
set_option linter.unusedSimpArgs false
set_option linter.unusedVariables false
theorem qAt_get {q : List S35} {i : Nat} (h : i < q.length) : qAt q i = q[i] := by unfold qAt; simp [List.getD_eq_getElem?_getD, List.getElem?_eq_getElem h]
end Go.Proofs.YtghpmpjoedbpcaaDoor.Print
/-! ### JLaw3 -/
namespace Go.Proofs.YtghpmpjoedbpcaaDoor.Print
open Go.RowKit Go.Proofs.YtghpmpjoedbpcaaDoorW.PrintWords Go.Proofs.YtghpmpjoedbpcaaDoorW.PrintLast Go.Proofs.YtghpmpjoedbpcaaDoorW.PrintMore
set_option linter.unusedSimpArgs false
set_option linter.unusedVariables false
def sumLeft : List S35 → Int
  | [] => 0
  | x :: q => x.f1 + sumLeft q
theorem sumLeft_append : ∀ (a b : List S35), sumLeft (a ++ b) = sumLeft a + sumLeft b
  | [], b => by simp [sumLeft]
  | x :: a, b => by rw [List.cons_append, sumLeft, sumLeft, sumLeft_append a b]; omega
theorem sumLeft_ge (q : List S35) (h : leftOk q) : 0 ≤ sumLeft q := by
  induction q with
  | nil => exact Int.le_refl _
  | cons x q ih =>
    have := h x (by simp)
    have := ih (fun y hy => h y (List.mem_cons_of_mem _ hy))
    unfold sumLeft
    omega
def tot (j : Jn) : Int := j.l.length + sumLeft j.q
theorem usedFrom_tot : ∀ (q : List S35) (n : Int), leftOk q → 0 ≤ n → usedFrom (mn n 121) q = mn (n + sumLeft q) 121
  | [], n, _, _ => by simp [usedFrom, sumLeft]
  | x :: q, n, h, hn => by
    have hx := h x (by simp)
    unfold usedFrom sumLeft
    have e : mn (mn n 121 + x.f1) 121 = mn (n + x.f1) 121 := by unfold mn; repeat' split <;> omega
    rw [e, usedFrom_tot q (n + x.f1) (fun y hy => h y (List.mem_cons_of_mem _ hy)) (by omega)]
    congr 1
    omega
theorem usedZ_tot (j : Jn) (h : leftOk j.q) : usedZ j.l j.q = mn (tot j) 121 := usedFrom_tot j.q _ h (by omega)
theorem rising_pair : ∀ (q : List S35), risingB q = true ↔ (q.map (·.f0)).Pairwise (· < ·)
  | [] => by simp [risingB]
  | x :: q => by
    constructor
    · intro h
      rw [List.map_cons, List.pairwise_cons]
      refine ⟨fun a ha => ?_, (rising_pair q).1 (rising_tail q x h)⟩
      obtain ⟨y, hy, rfl⟩ := List.mem_map.1 ha
      exact rising_head q x h y hy
    · intro h
      rw [List.map_cons, List.pairwise_cons] at h
      have ih := (rising_pair q).2 h.2
      cases q with
      | nil => rfl
      | cons z q =>
        show (decide (x.f0 < z.f0) && risingB (z :: q)) = true
        rw [ih, decide_eq_true (h.1 _ (by simp))]
        rfl
/-- A journal that may be. -/
structure Fine (j : Jn) : Prop where
  s : ∀ e ∈ j.l, strangeB e = false
  o : ∀ x ∈ j.q, oddB x = false
  g : wi j.g 0 = true
  r : (j.q.map (·.f0)).Pairwise (· < ·)
  t : tot j ≤ 120
theorem any_false {α : Type} (p : α → Bool) (l : List α) : l.any p = false ↔ ∀ x ∈ l, p x = false := by
  rw [List.any_eq_false]
  exact ⟨fun h x hx => by simpa using h x hx, fun h x hx => by simpa using h x hx⟩
theorem fine_iff (j : Jn) : rightJ j.l j.q j.g = true ↔ Fine j := by
  constructor
  · intro h
    obtain ⟨hL, hBt, hRi, hG, hU, hE, hOd⟩ := right_parts h
    refine ⟨(any_false _ _).1 hE, (any_false _ _).1 hOd, hG, (rising_pair _).1 hRi, ?_⟩
    rw [usedZ_tot j hL] at hU
    unfold mn at hU
    split at hU <;> omega
  · intro h
    have hod := (any_false oddB _).2 h.o
    have hL := leftOk_of hod
    unfold rightJ
    rw [(any_false strangeB _).2 h.s, hod, h.g, (rising_pair _).2 h.r, usedZ_tot j hL]
    have := h.t
    have e : mn (tot j) 121 ≤ 120 := by unfold mn; split <;> omega
    simpa using e
theorem Fine.left {j : Jn} (h : Fine j) : leftOk j.q := leftOk_of ((any_false oddB _).2 h.o)
theorem Fine.used {j : Jn} (h : Fine j) : usedZ j.l j.q = tot j := by
  rw [usedZ_tot j h.left]
  have := h.t
  unfold mn; split <;> omega
theorem Fine.len {j : Jn} (h : Fine j) : (j.l.length : Int) ≤ 120 := by
  have := h.t
  have := sumLeft_ge j.q h.left
  unfold tot at *
  omega
theorem place_lt : ∀ (q : List S35) (b : Int), ∀ a ∈ q.take (placeI q b), a.f0 < b
  | [], b => by simp
  | x :: q, b => by
    unfold placeI
    split
    · rename_i h
      rw [List.take_succ_cons]
      intro a ha
      rcases List.mem_cons.1 ha with rfl | ha
      · exact h
      · exact place_lt q b a ha
    · simp
theorem place_ge : ∀ (q : List S35) (b : Int), (q.map (·.f0)).Pairwise (· < ·) → ∀ c ∈ q.drop (placeI q b), b ≤ c.f0
  | [], b, _ => by simp
  | x :: q, b, h => by
    rw [List.map_cons, List.pairwise_cons] at h
    unfold placeI
    split
    · rw [List.drop_succ_cons]
      exact place_ge q b h.2
    · rename_i hx
      intro c hc
      rw [List.drop_zero] at hc
      rcases List.mem_cons.1 hc with rfl | hc
      · omega
      · have := h.1 c.f0 (List.mem_map_of_mem hc)
        omega
theorem place_gt (q : List S35) (b : Int) (h : (q.map (·.f0)).Pairwise (· < ·)) (hp : placeB q b = false) : ∀ c ∈ q.drop (placeI q b), b < c.f0 := by
  intro c hc
  have hge := place_ge q b h
  unfold placeB at hp
  cases hd : q.drop (placeI q b) with
  | nil => rw [hd] at hc; cases hc
  | cons x r =>
    rw [hd] at hp hc hge
    have hne : x.f0 ≠ b := by simpa using hp
    have hx := hge x (by simp)
    have hpw : ((x :: r).map (·.f0)).Pairwise (· < ·) := by
      rw [← hd, List.map_drop]
      exact h.drop
    rw [List.map_cons, List.pairwise_cons] at hpw
    rcases List.mem_cons.1 hc with rfl | hc
    · omega
    · have := hpw.1 c.f0 (List.mem_map_of_mem hc)
      omega
theorem qAt_mem {q : List S35} {i : Nat} (h : i < q.length) : qAt q i ∈ q := by rw [qAt_get h]; exact List.getElem_mem h
theorem map_set_f0 (q : List S35) (i : Nat) (y : S35) (h : i < q.length) (hy : y.f0 = (qAt q i).f0) : (q.set i y).map (·.f0) = q.map (·.f0) := by
  rw [List.map_set, hy, qAt_get h]
  have : (q[i]).f0 = (q.map (·.f0))[i]'(by simpa using h) := by simp
  rw [this, List.set_getElem_self]
theorem sumLeft_set : ∀ (q : List S35) (i : Nat) (y : S35), i < q.length → sumLeft (q.set i y) = sumLeft q - (qAt q i).f1 + y.f1
  | [], i, y, h => by simp at h
  | x :: q, 0, y, h => by
    show y.f1 + sumLeft q = x.f1 + sumLeft q - x.f1 + y.f1
    omega
  | x :: q, i + 1, y, h => by
    have ih := sumLeft_set q i y (by simpa using h)
    have e : qAt (x :: q) (i + 1) = qAt q i := rfl
    rw [e]
    show x.f1 + sumLeft (q.set i y) = x.f1 + sumLeft q - (qAt q i).f1 + y.f1
    rw [ih]
    omega
theorem odd_parts {x : S35} (h : oddB x = false) : (1 ≤ x.f0 ∧ x.f0 ≤ 1099511627776) ∧ (0 ≤ x.f1 ∧ x.f1 ≤ 40) ∧ (0 ≤ x.f2 ∧ x.f2 ≤ 1099511627776) := by
  unfold oddB wi at h
  simp only [Bool.or_eq_false_iff, Bool.not_eq_false', Bool.and_eq_true, decide_eq_true_eq, decide_eq_false_iff_not] at h
  omega
theorem odd_mk {x : S35} (h : (1 ≤ x.f0 ∧ x.f0 ≤ 1099511627776) ∧ (0 ≤ x.f1 ∧ x.f1 ≤ 40) ∧ (0 ≤ x.f2 ∧ x.f2 ≤ 1099511627776)) : oddB x = false := by
  unfold oddB wi
  simp only [Bool.or_eq_false_iff, Bool.not_eq_false', Bool.and_eq_true, decide_eq_true_eq, decide_eq_false_iff_not]
  omega
theorem odd_mk' (a b c : Int) (h : (1 ≤ a ∧ a ≤ 1099511627776) ∧ (0 ≤ b ∧ b ≤ 40) ∧ (0 ≤ c ∧ c ≤ 1099511627776)) : oddB ⟨a, b, c⟩ = false := odd_mk h
theorem fine_zero : Fine zJn := ⟨fun e h => (by cases h), fun x h => (by cases h), by decide, List.Pairwise.nil, by decide⟩
theorem open_fine {j : Jn} {b n : Int} (h : Fine j) (ho : (openJ j b n).2 = 0) : Fine (openJ j b n).1 ∧ (openJ j b n).1.l = j.l ∧ (openJ j b n).1.g = j.g ∧ placeB j.q b = false ∧ (openJ j b n).1.q = j.q.take (placeI j.q b) ++ ⟨b, n, 0⟩ :: j.q.drop (placeI j.q b) ∧ 1 ≤ n ∧ n ≤ 40 ∧ wi b 1 = true := by
  unfold openJ at ho ⊢
  split at ho
  · cases ho
  split at ho
  · cases ho
  split at ho
  · cases ho
  rename_i h1 h2 h3
  rw [if_neg h1, if_neg h2, if_neg h3]
  have hp : placeB j.q b = false := by simpa using h2
  have hn : 1 ≤ n ∧ n ≤ 40 ∧ wi b 1 = true := by
    refine ⟨?_, ?_, ?_⟩
    · by_cases h9 : n < 1
      · exact absurd (.inr (.inr (.inl h9))) h1
      · omega
    · by_cases h9 : 40 < n
      · exact absurd (.inr (.inr (.inr h9))) h1
      · omega
    · cases hw : wi b 1
      · exact absurd (.inr (.inl hw)) h1
      · rfl
  have hb : 1 ≤ b ∧ b ≤ 1099511627776 := by
    have := hn.2.2
    unfold wi at this
    simpa using this
  have htd : j.q = j.q.take (placeI j.q b) ++ j.q.drop (placeI j.q b) := (List.take_append_drop _ _).symm
  refine ⟨⟨h.s, ?_, h.g, ?_, ?_⟩, rfl, rfl, hp, rfl, hn⟩
  · intro x hx
    rcases List.mem_append.1 hx with hx | hx
    · exact h.o x (List.mem_of_mem_take hx)
    · rcases List.mem_cons.1 hx with rfl | hx
      · exact odd_mk' _ _ _ (by omega)
      · exact h.o x (List.mem_of_mem_drop hx)
  · show ((j.q.take (placeI j.q b) ++ (⟨b, n, 0⟩ : S35) :: j.q.drop (placeI j.q b)).map (·.f0)).Pairwise (· < ·)
    have hr := h.r
    rw [htd, List.map_append] at hr
    rw [List.pairwise_append] at hr
    rw [List.map_append, List.map_cons, List.pairwise_append]
    refine ⟨hr.1, ?_, ?_⟩
    · rw [List.pairwise_cons]
      refine ⟨fun c hc => ?_, hr.2.1⟩
      obtain ⟨y, hy, rfl⟩ := List.mem_map.1 hc
      exact place_gt j.q b h.r hp y hy
    · intro a ha c hc
      obtain ⟨y, hy, rfl⟩ := List.mem_map.1 ha
      rcases List.mem_cons.1 hc with hc | hc
      · rw [hc]; exact place_lt j.q b y hy
      · exact hr.2.2 _ (List.mem_map_of_mem hy) c hc
  · show (j.l.length : Int) + sumLeft (j.q.take (placeI j.q b) ++ (⟨b, n, 0⟩ : S35) :: j.q.drop (placeI j.q b)) ≤ 120
    have e : sumLeft j.q = sumLeft (j.q.take (placeI j.q b)) + sumLeft (j.q.drop (placeI j.q b)) := by rw [← sumLeft_append, ← htd]
    rw [h.used] at h3
    unfold tot at h3
    rw [sumLeft_append]
    show _ + (_ + (n + sumLeft _)) ≤ _
    omega
theorem close_fine {j : Jn} {b : Int} (h : Fine j) (ho : (closeJ j b).2 = 0) : Fine (closeJ j b).1 ∧ (closeJ j b).1.l = j.l ∧ (closeJ j b).1.g = j.g ∧ placeB j.q b = true ∧ (closeJ j b).1.q = j.q.take (placeI j.q b) ++ j.q.drop (placeI j.q b + 1) := by
  unfold closeJ at ho ⊢
  split at ho
  · cases ho
  split at ho
  · cases ho
  rename_i h1 h2
  rw [if_neg h1, if_neg h2]
  have hp : placeB j.q b = true := by simpa using h2
  have hlt := placeB_lt hp
  generalize placeI j.q b = i at *
  have htd : j.q = j.q.take i ++ j.q[i] :: j.q.drop (i + 1) := by rw [← List.drop_eq_getElem_cons hlt, List.take_append_drop]
  have hsub : (j.q.take i ++ j.q.drop (i + 1)).Sublist j.q := by
    conv => rhs; rw [htd]
    exact List.Sublist.append (List.Sublist.refl _) (List.sublist_cons_self _ _)
  refine ⟨⟨h.s, fun x hx => h.o x (hsub.subset hx), h.g, h.r.sublist (hsub.map _), ?_⟩, rfl, rfl, hp, rfl⟩
  show (j.l.length : Int) + sumLeft (j.q.take i ++ j.q.drop (i + 1)) ≤ 120
  have e : sumLeft j.q = sumLeft (j.q.take i) + (j.q[i].f1 + sumLeft (j.q.drop (i + 1))) := by
    conv => lhs; rw [htd, sumLeft_append]
    rfl
  have ht := h.t
  have := (odd_parts (h.o _ (List.getElem_mem hlt))).2.1
  unfold tot at ht
  rw [sumLeft_append]
  omega
theorem add_fine {j : Jn} {e : S27} (h : Fine j) (ho : (addJ j e).2 = 0) : Fine (addJ j e).1 ∧ (addJ j e).1.l = j.l ++ [e] ∧ (addJ j e).1.g = j.g ∧ (addJ j e).1.q = (if placeB j.q e.f1 = true then lessAt j.q (placeI j.q e.f1) else j.q) := by
  unfold addJ at ho ⊢
  split at ho
  · cases ho
  rename_i h1
  rw [if_neg h1]
  have hst : strangeB e = false := by
    cases hs : strangeB e
    · rfl
    · exact absurd (.inr hs) h1
  have hsl : ∀ x ∈ j.l ++ [e], strangeB x = false := fun x hx => by
    rcases List.mem_append.1 hx with hx | hx
    · exact h.s x hx
    · rw [List.mem_singleton.1 hx]; exact hst
  split at ho
  · rename_i h2
    rw [if_pos h2, if_pos h2]
    split at ho
    · cases ho
    rename_i h3
    rw [if_neg h3]
    have hlt := placeB_lt h2
    generalize placeI j.q e.f1 = i at *
    have ho := odd_parts (h.o _ (qAt_mem hlt))
    refine ⟨⟨hsl, fun x hx => ?_, h.g, ?_, ?_⟩, rfl, rfl, rfl⟩
    · rcases List.mem_or_eq_of_mem_set hx with hx | rfl
      · exact h.o x hx
      · exact odd_mk' _ _ _ (by omega)
    · show ((lessAt j.q i).map (·.f0)).Pairwise (· < ·)
      unfold lessAt
      rw [map_set_f0 j.q i ⟨(qAt j.q i).f0, (qAt j.q i).f1 - 1, (qAt j.q i).f2⟩ hlt rfl]
      exact h.r
    · show ((j.l ++ [e]).length : Int) + sumLeft (lessAt j.q i) ≤ 120
      unfold lessAt
      rw [sumLeft_set _ _ _ hlt, List.length_append]
      have := h.t
      unfold tot at this
      simp
      omega
  · rename_i h2
    rw [if_neg h2, if_neg h2]
    split at ho
    · cases ho
    rename_i h3
    rw [if_neg h3]
    refine ⟨⟨hsl, h.o, h.g, h.r, ?_⟩, rfl, rfl, rfl⟩
    show ((j.l ++ [e]).length : Int) + sumLeft j.q ≤ 120
    rw [h.used] at h3
    have := h.t
    unfold tot at this h3
    rw [List.length_append]
    simp
    omega
theorem note_fine {j : Jn} {e : S27} (h : Fine j) (ho : (noteJ j e).2 = 0) : Fine (noteJ j e).1 ∧ ((noteJ j e).1.l = j.l ∨ (noteJ j e).1.l = j.l ++ [e]) ∧ (noteJ j e).1.g = j.g ∧
    ((noteJ j e).1.q = j.q ∨ (placeB j.q e.f1 = true ∧ ((noteJ j e).1.q = lessAt j.q (placeI j.q e.f1) ∨ (noteJ j e).1.q = lostAt j.q (placeI j.q e.f1)))) := by
  by_cases h180 : (addJ j e).2 = 180
  · unfold noteJ at ho ⊢
    rw [if_pos h180] at ho ⊢
    split
    · rename_i h2
      have hlt := placeB_lt h2
      have hod := odd_parts (h.o _ (qAt_mem hlt))
      generalize placeI j.q e.f1 = i at *
      refine ⟨⟨h.s, fun x hx => ?_, h.g, ?_, ?_⟩, .inl rfl, rfl, .inr ⟨h2, .inr rfl⟩⟩
      · rcases List.mem_or_eq_of_mem_set hx with hx | rfl
        · exact h.o x hx
        · refine odd_mk' _ _ _ ?_
          unfold mn
          split <;> omega
      · show ((lostAt j.q i).map (·.f0)).Pairwise (· < ·)
        unfold lostAt
        rw [map_set_f0 j.q i ⟨(qAt j.q i).f0, (qAt j.q i).f1, mn ((qAt j.q i).f2 + 1) 1099511627776⟩ hlt rfl]
        exact h.r
      · show (j.l.length : Int) + sumLeft (lostAt j.q i) ≤ 120
        unfold lostAt
        rw [sumLeft_set _ _ _ hlt]
        have := h.t
        unfold tot at this
        show _ + (_ - (qAt j.q i).f1 + (qAt j.q i).f1) ≤ _
        omega
    · exact ⟨h, .inl rfl, rfl, .inl rfl⟩
  · have e1 : noteJ j e = addJ j e := if_neg h180
    rw [e1] at ho ⊢
    obtain ⟨h1, h2, h3, h4⟩ := add_fine h ho
    refine ⟨h1, .inr h2, h3, ?_⟩
    rw [h4]
    split
    · rename_i h5
      exact .inr ⟨h5, .inl rfl⟩
    · exact .inl rfl
theorem trim_fine {j : Jn} {n : Int} (h : Fine j) (ho : (trimJ j n).2 = 0) : Fine (trimJ j n).1 ∧ 0 ≤ n ∧ n ≤ j.l.length ∧ (trimJ j n).1.l = j.l.drop n.toNat ∧ (trimJ j n).1.g = j.g + n ∧ (trimJ j n).1.q = j.q := by
  unfold trimJ at ho ⊢
  split at ho
  · cases ho
  split at ho
  · cases ho
  rename_i h1 h2
  rw [if_neg h1, if_neg h2]
  have hn : 0 ≤ n ∧ n ≤ j.l.length := by
    refine ⟨?_, ?_⟩
    · by_cases h9 : n < 0
      · exact absurd (.inr (.inl h9)) h1
      · omega
    · by_cases h9 : (j.l.length : Int) < n
      · exact absurd (.inr (.inr h9)) h1
      · omega
  refine ⟨⟨fun x hx => h.s x (List.mem_of_mem_drop hx), h.o, ?_, h.r, ?_⟩, hn.1, hn.2, rfl, rfl, rfl⟩
  · have := h.g
    unfold wi at this ⊢
    simp only [Bool.and_eq_true, decide_eq_true_eq] at this ⊢
    show 0 ≤ j.g + n ∧ j.g + n ≤ _
    omega
  · show ((j.l.drop n.toNat).length : Int) + sumLeft j.q ≤ 120
    have := h.t
    unfold tot at this
    rw [List.length_drop]
    omega
end Go.Proofs.YtghpmpjoedbpcaaDoor.Print
/-! ### JLaw4 -/
namespace Go.Proofs.YtghpmpjoedbpcaaDoor.Print
open Go.RowKit Go.Proofs.YtghpmpjoedbpcaaDoorW.PrintWords Go.Proofs.YtghpmpjoedbpcaaDoorW.PrintLast Go.Proofs.YtghpmpjoedbpcaaDoorW.PrintMore
set_option linter.unusedSimpArgs false
set_option linter.unusedVariables false
def opJ (j : Jn) (o : S43) : Jn × Int := if o.f0 = 0 then openJ j o.f2.f1 o.f1 else if o.f0 = 1 then closeJ j o.f2.f1 else if o.f0 = 2 then addJ j o.f2 else if o.f0 = 3 then noteJ j o.f2 else if o.f0 = 4 then trimJ j o.f1 else (j, 1)
def doneJ (j : Jn) (o : S43) : Jn × Int := if (opJ j o).2 = 0 then ((opJ j o).1, 0) else (j, (opJ j o).2)
/-- Journals on the way: such as may be, of short names, of no more quotas than calls. -/
structure Way (n : Nat) (j : Jn) : Prop where
  f : Fine j
  s : ∀ e ∈ j.l, e.f3.size ≤ 200
  q : j.q.length ≤ n
theorem Way.ok {n : Nat} {j : Jn} (h : Way n j) (hn : n ≤ 1000000) : Jok j := ⟨fun e he => by have := h.s e he; omega, by have := h.f.len; omega, by have := h.q; omega⟩
theorem way_zero : Way 0 zJn := ⟨fine_zero, fun e h => (by cases h), Nat.le_refl _⟩
theorem Way.mono {n m : Nat} {j : Jn} (h : Way n j) (hm : n ≤ m) : Way m j := ⟨h.f, h.s, Nat.le_trans h.q hm⟩
/-- What a call leaves. -/
structure Step (j : Jn) (o : S43) (R : Jn) (err : Int) : Prop where
  tr : o.f0 = 4 → err = 0 → 0 ≤ o.f1 ∧ o.f1 ≤ j.l.length ∧ R.l = j.l.drop o.f1.toNat ∧ R.g = j.g + o.f1
  ot : ¬ (o.f0 = 4 ∧ err = 0) → R.g = j.g ∧ (R.l = j.l ∨ R.l = j.l ++ [o.f2])
  ad : o.f0 = 2 → err = 0 → R.l = j.l ++ [o.f2]
  ae : err ≠ 0 → R = j
theorem done_step {n : Nat} {j : Jn} {o : S43} (h : Way n j) (ho : o.f2.f3.size ≤ 200) : Way (n + 1) (doneJ j o).1 ∧ Step j o (doneJ j o).1 (doneJ j o).2 := by
  unfold doneJ
  by_cases h0 : (opJ j o).2 = 0
  · rw [if_pos h0]
    unfold opJ at h0 ⊢
    have happ : ∀ e ∈ j.l ++ [o.f2], e.f3.size ≤ 200 := fun e he => by
      rcases List.mem_append.1 he with he | he
      · exact h.s e he
      · rw [List.mem_singleton.1 he]; exact ho
    split at h0
    · rename_i k
      rw [if_pos k]
      obtain ⟨h1, h2, h3, h4, h5, _⟩ := open_fine h.f h0
      refine ⟨⟨h1, by rw [h2]; exact h.s, ?_⟩, ⟨fun q => by omega, fun _ => ⟨h3, .inl h2⟩, fun q => by omega, fun q => absurd rfl q⟩⟩
      rw [h5]
      have := h.q
      have := placeI_le j.q o.f2.f1
      rw [List.length_append, List.length_take, List.length_cons, List.length_drop]
      omega
    rename_i k0
    rw [if_neg k0]
    split at h0
    · rename_i k
      rw [if_pos k]
      obtain ⟨h1, h2, h3, h4, h5⟩ := close_fine h.f h0
      refine ⟨⟨h1, by rw [h2]; exact h.s, ?_⟩, ⟨fun q => by omega, fun _ => ⟨h3, .inl h2⟩, fun q => by omega, fun q => absurd rfl q⟩⟩
      rw [h5]
      have := h.q
      rw [List.length_append, List.length_take, List.length_drop]
      omega
    rename_i k1
    rw [if_neg k1]
    split at h0
    · rename_i k
      rw [if_pos k]
      obtain ⟨h1, h2, h3, h4⟩ := add_fine h.f h0
      refine ⟨⟨h1, by rw [h2]; exact happ, ?_⟩, ⟨fun q => by omega, fun _ => ⟨h3, .inr h2⟩, fun _ _ => h2, fun q => absurd rfl q⟩⟩
      rw [h4]
      have := h.q
      split
      · unfold lessAt; rw [List.length_set]; omega
      · omega
    rename_i k2
    rw [if_neg k2]
    split at h0
    · rename_i k
      rw [if_pos k]
      obtain ⟨h1, h2, h3, h4⟩ := note_fine h.f h0
      refine ⟨⟨h1, ?_, ?_⟩, ⟨fun q => by omega, fun _ => ⟨h3, h2⟩, fun q => by omega, fun q => absurd rfl q⟩⟩
      · rcases h2 with h2 | h2
        · rw [h2]; exact h.s
        · rw [h2]; exact happ
      · have := h.q
        rcases h4 with h4 | ⟨_, h4 | h4⟩
        · rw [h4]; omega
        · rw [h4]; unfold lessAt; rw [List.length_set]; omega
        · rw [h4]; unfold lostAt; rw [List.length_set]; omega
    rename_i k3
    rw [if_neg k3]
    split at h0
    · rename_i k
      rw [if_pos k]
      obtain ⟨h1, h2, h3, h4, h5, h6⟩ := trim_fine h.f h0
      refine ⟨⟨h1, by rw [h4]; exact fun e he => h.s e (List.mem_of_mem_drop he), ?_⟩, ⟨fun _ _ => ⟨h2, h3, h4, h5⟩, fun q => absurd ⟨k, rfl⟩ q, fun q => by omega, fun q => absurd rfl q⟩⟩
      rw [h6]
      have := h.q
      omega
    · cases h0
  · rw [if_neg h0]
    exact ⟨h.mono (by omega), ⟨fun _ q => absurd q h0, fun _ => ⟨rfl, .inl rfl⟩, fun _ q => absurd q h0, fun _ => rfl⟩⟩
end Go.Proofs.YtghpmpjoedbpcaaDoor.Print
/-! ### EJDone -/
namespace Go.Proofs.YtghpmpjoedbpcaaDoor.Print
open Go.RowKit Go.Proofs.YtghpmpjoedbpcaaDoorW.PrintWords Go.Proofs.YtghpmpjoedbpcaaDoorW.PrintLast Go.Proofs.YtghpmpjoedbpcaaDoorW.PrintMore
set_option linter.unusedSimpArgs false
set_option linter.unusedVariables false
/-- A journal that one owns, from a block on. -/
structure Own (w : World) (base : Nat) (A0 : Option Addr) (c0 : Nat) (A1 : Option Addr) (c1 : Nat) (j : Jn) : Prop where
  l : w.ownsRow base 27 6 (.slice A0 j.l.length c0) j.l.length (eRow j.l)
  q : w.ownsRow base 35 3 (.slice A1 j.q.length c1) j.q.length (qRow j.q)
theorem Own.only {S : List Nat} {w w' : World} {base : Nat} {A0 : Option Addr} {c0 : Nat} {A1 : Option Addr} {c1 : Nat} {j : Jn} (h : Own w base A0 c0 A1 c1 j) (ho : Only S w w') (hS : ∀ k, k ∈ S → k < base ∨ w.heap.size ≤ k) : Own w' base A0 c0 A1 c1 j :=
  ⟨ownsRow_only h.l ho (fun k hk hs => by have := ownsRow_lt h.l hk; rcases hS k hs with h | h <;> omega), ownsRow_only h.q ho (fun k hk hs => by have := ownsRow_lt h.q hk; rcases hS k hs with h | h <;> omega)⟩
theorem Own.rl {w : World} {base : Nat} {A0 : Option Addr} {c0 : Nat} {A1 : Option Addr} {c1 : Nat} {j : Jn} (h : Own w base A0 c0 A1 c1 j) : j.l.length ≤ c0 ∧ Kd.C k27 w A0 j.l.length j.l := own_e_reads h.l
theorem Own.rq {w : World} {base : Nat} {A0 : Option Addr} {c0 : Nat} {A1 : Option Addr} {c1 : Nat} {j : Jn} (h : Own w base A0 c0 A1 c1 j) : j.q.length ≤ c1 ∧ Kd.C k35 w A1 j.q.length j.q := own_q_reads h.q
theorem Own.mono {w : World} {base base' : Nat} {A0 : Option Addr} {c0 : Nat} {A1 : Option Addr} {c1 : Nat} {j : Jn} (h : Own w base A0 c0 A1 c1 j) (hb : base' ≤ base) : Own w base' A0 c0 A1 c1 j := ⟨ownsRow_mono h.l hb, ownsRow_mono h.q hb⟩
theorem Own.jr {w : World} {base : Nat} {A0 : Option Addr} {c0 : Nat} {A1 : Option Addr} {c1 : Nat} {j : Jn} (h : Own w base A0 c0 A1 c1 j) : JR w base (.agg #[.slice A0 j.l.length c0, .slice A1 j.q.length c1, .int .i64 j.g]) j.l j.q j.g := ⟨A0, c0, A1, c1, rfl, h.l, h.q⟩
set_option maxHeartbeats 8000000 in
set_option maxRecDepth 100000 in
theorem done_open (base : Nat) (A0 : Option Addr) (c0 : Nat) (A1 : Option Addr) (c1 : Nat) (j : Jn) (on : Int) (oe : S27) (w : World) (ho : Own w base A0 c0 A1 c1 j) (hb : base ≤ w.heap.size) (hT : Tabs w) (hj : Jok j) (he : oe.f3.size ≤ 200) :
    Calls Tryd.prog 17 #[.agg #[.slice A0 j.l.length c0, .slice A1 j.q.length c1, .int .i64 j.g], .agg #[.int .i64 0, .int .i64 on, .int .i64 oe.f0, .int .i64 oe.f1, .int .i64 oe.f2, .string oe.f3, .int .i64 oe.f4, .int .i64 oe.f5]] w fun x w' => ∃ v, x = .returned (.tuple #[v, .int .i64 (if (openJ j oe.f1 on).2 = 0 then (0 : Int) else (openJ j oe.f1 on).2)]) ∧ ((openJ j oe.f1 on).2 = 0 → JR w' base v (openJ j oe.f1 on).1.l (openJ j oe.f1 on).1.q (openJ j oe.f1 on).1.g) ∧ ((openJ j oe.f1 on).2 ≠ 0 → JR w' base v j.l j.q j.g) ∧ Below w.heap.size w w' := by
  obtain ⟨R, hR⟩ : ∃ R, R = openJ j oe.f1 on := ⟨_, rfl⟩
  rw [← hR]
  have HRR := Lib.hid hR
  clear hR
  have HOW := Lib.hid ho
  have HT := Lib.hid hT
  have HJ := Lib.hid hj
  have HE := Lib.hid he
  have HBS := Lib.hid hb
  clear ho hT hj he hb
  go_enter Tryd.func17, Tryd.ntmps17
  go_wp2_with (go_at_call 19; refine (fun (h : Hid _) => h.out) ?_)
  refine Lib.hid ?_
  have ha1 : Only [] w (w.alloc (.cells #[.slice A0 j.l.length c0, .slice A1 j.q.length c1, .int .i64 j.g] 25)) := (Only.refl [] w).alloc _
  have s1 : (w.alloc (.cells #[.slice A0 j.l.length c0, .slice A1 j.q.length c1, .int .i64 j.g] 25)).heap.size = w.heap.size + 1 := by simp
  have s2 : ((w.alloc (.cells #[.slice A0 j.l.length c0, .slice A1 j.q.length c1, .int .i64 j.g] 25)).alloc (.cells #[.int .i64 0, .int .i64 on, .int .i64 oe.f0, .int .i64 oe.f1, .int .i64 oe.f2, .string oe.f3, .int .i64 oe.f4, .int .i64 oe.f5] 43)).heap.size = w.heap.size + 2 := by simp
  have s3 : (((w.alloc (.cells #[.slice A0 j.l.length c0, .slice A1 j.q.length c1, .int .i64 j.g] 25)).alloc (.cells #[.int .i64 0, .int .i64 on, .int .i64 oe.f0, .int .i64 oe.f1, .int .i64 oe.f2, .string oe.f3, .int .i64 oe.f4, .int .i64 oe.f5] 43)).alloc (.cells #[.slice none 0 0, .slice none 0 0, .int .i64 0] 25)).heap.size = w.heap.size + 3 := by simp
  have HX0 := Lib.hid (show ((((w.alloc (.cells #[.slice A0 j.l.length c0, .slice A1 j.q.length c1, .int .i64 j.g] 25)).alloc (.cells #[.int .i64 0, .int .i64 on, .int .i64 oe.f0, .int .i64 oe.f1, .int .i64 oe.f2, .string oe.f3, .int .i64 oe.f4, .int .i64 oe.f5] 43)).alloc (.cells #[.slice none 0 0, .slice none 0 0, .int .i64 0] 25)).alloc (.cells #[.slice A0 j.l.length c0, .slice A1 j.q.length c1, .int .i64 j.g] 25)).heap[w.heap.size]? = some (.cells #[.slice A0 j.l.length c0, .slice A1 j.q.length c1, .int .i64 j.g] 25 (0, 0)) from (Below.heap_alloc _ _ _ (by rw [s3]; omega)).trans ((Below.heap_alloc _ _ _ (by rw [s2]; omega)).trans ((Below.heap_alloc _ _ _ (by rw [s1]; omega)).trans (heap_alloc_new _ _))))
  have HX1 := Lib.hid (show ((((w.alloc (.cells #[.slice A0 j.l.length c0, .slice A1 j.q.length c1, .int .i64 j.g] 25)).alloc (.cells #[.int .i64 0, .int .i64 on, .int .i64 oe.f0, .int .i64 oe.f1, .int .i64 oe.f2, .string oe.f3, .int .i64 oe.f4, .int .i64 oe.f5] 43)).alloc (.cells #[.slice none 0 0, .slice none 0 0, .int .i64 0] 25)).alloc (.cells #[.slice A0 j.l.length c0, .slice A1 j.q.length c1, .int .i64 j.g] 25)).heap[w.heap.size + 1]? = some (.cells #[.int .i64 0, .int .i64 on, .int .i64 oe.f0, .int .i64 oe.f1, .int .i64 oe.f2, .string oe.f3, .int .i64 oe.f4, .int .i64 oe.f5] 43 (0, 0)) from by
    have := heap_alloc_new (w.alloc (.cells #[.slice A0 j.l.length c0, .slice A1 j.q.length c1, .int .i64 j.g] 25)) (.cells #[.int .i64 0, .int .i64 on, .int .i64 oe.f0, .int .i64 oe.f1, .int .i64 oe.f2, .string oe.f3, .int .i64 oe.f4, .int .i64 oe.f5] 43)
    rw [s1] at this
    exact (Below.heap_alloc _ _ _ (by rw [s3]; omega)).trans ((Below.heap_alloc _ _ _ (by rw [s2]; omega)).trans this))
  have HX2 := Lib.hid (show ((((w.alloc (.cells #[.slice A0 j.l.length c0, .slice A1 j.q.length c1, .int .i64 j.g] 25)).alloc (.cells #[.int .i64 0, .int .i64 on, .int .i64 oe.f0, .int .i64 oe.f1, .int .i64 oe.f2, .string oe.f3, .int .i64 oe.f4, .int .i64 oe.f5] 43)).alloc (.cells #[.slice none 0 0, .slice none 0 0, .int .i64 0] 25)).alloc (.cells #[.slice A0 j.l.length c0, .slice A1 j.q.length c1, .int .i64 j.g] 25)).heap[w.heap.size + 2]? = some (.cells #[.slice none 0 0, .slice none 0 0, .int .i64 0] 25 (0, 0)) from by
    have := heap_alloc_new ((w.alloc (.cells #[.slice A0 j.l.length c0, .slice A1 j.q.length c1, .int .i64 j.g] 25)).alloc (.cells #[.int .i64 0, .int .i64 on, .int .i64 oe.f0, .int .i64 oe.f1, .int .i64 oe.f2, .string oe.f3, .int .i64 oe.f4, .int .i64 oe.f5] 43)) (.cells #[.slice none 0 0, .slice none 0 0, .int .i64 0] 25)
    rw [s2] at this
    exact (Below.heap_alloc _ _ _ (by rw [s3]; omega)).trans this)
  have HX3 := Lib.hid (show ((((w.alloc (.cells #[.slice A0 j.l.length c0, .slice A1 j.q.length c1, .int .i64 j.g] 25)).alloc (.cells #[.int .i64 0, .int .i64 on, .int .i64 oe.f0, .int .i64 oe.f1, .int .i64 oe.f2, .string oe.f3, .int .i64 oe.f4, .int .i64 oe.f5] 43)).alloc (.cells #[.slice none 0 0, .slice none 0 0, .int .i64 0] 25)).alloc (.cells #[.slice A0 j.l.length c0, .slice A1 j.q.length c1, .int .i64 j.g] 25)).heap[w.heap.size + 3]? = some (.cells #[.slice A0 j.l.length c0, .slice A1 j.q.length c1, .int .i64 j.g] 25 (0, 0)) from by
    have := heap_alloc_new (((w.alloc (.cells #[.slice A0 j.l.length c0, .slice A1 j.q.length c1, .int .i64 j.g] 25)).alloc (.cells #[.int .i64 0, .int .i64 on, .int .i64 oe.f0, .int .i64 oe.f1, .int .i64 oe.f2, .string oe.f3, .int .i64 oe.f4, .int .i64 oe.f5] 43)).alloc (.cells #[.slice none 0 0, .slice none 0 0, .int .i64 0] 25)) (.cells #[.slice A0 j.l.length c0, .slice A1 j.q.length c1, .int .i64 j.g] 25)
    rw [s3] at this
    exact this)
  have HO0 := Lib.hid (((((Only.refl [] w).alloc (.cells #[.slice A0 j.l.length c0, .slice A1 j.q.length c1, .int .i64 j.g] 25)).alloc (.cells #[.int .i64 0, .int .i64 on, .int .i64 oe.f0, .int .i64 oe.f1, .int .i64 oe.f2, .string oe.f3, .int .i64 oe.f4, .int .i64 oe.f5] 43)).alloc (.cells #[.slice none 0 0, .slice none 0 0, .int .i64 0] 25)).alloc (.cells #[.slice A0 j.l.length c0, .slice A1 j.q.length c1, .int .i64 j.g] 25))
  clear ha1 s1 s2 s3
  generalize (((w.alloc (.cells #[.slice A0 j.l.length c0, .slice A1 j.q.length c1, .int .i64 j.g] 25)).alloc (.cells #[.int .i64 0, .int .i64 on, .int .i64 oe.f0, .int .i64 oe.f1, .int .i64 oe.f2, .string oe.f3, .int .i64 oe.f4, .int .i64 oe.f5] 43)).alloc (.cells #[.slice none 0 0, .slice none 0 0, .int .i64 0] 25)).alloc (.cells #[.slice A0 j.l.length c0, .slice A1 j.q.length c1, .int .i64 j.g] 25) = W0 at *
  generalize hwb : w.heap.size = wb at *
  have HBB := Lib.hid hwb
  clear hwb
  have HOW0 := Lib.hid (HOW.out.only HO0.out (by simp))
  have hri := open_calls A0 c0 A1 c1 j oe.f1 on W0 HOW0.out.rl HOW0.out.rq (HT.out.below HO0.out.nil_below) HJ.out
  rw [← HRR.out] at hri
  refine hri.mono ?_
  rintro x W1 ⟨v, rfl, hjr, hb1⟩
  have HB1 := Lib.hid (Only.of_below hb1)
  have HJR := Lib.hid (hjr.mono (show base ≤ W0.heap.size from Nat.le_trans HBS.out (by have := HO0.out.size; rw [← HBB.out]; exact this)))
  have HW0S := Lib.hid (show wb + 3 < W0.heap.size from heap_lt HX3.out)
  have HJN := Lib.hid (show JR W1 W0.heap.size v _ _ _ from hjr)
  clear hjr hb1 hri HRR
  have HY0 := Lib.hid (HB1.out.heap HX0.out (by simp))
  have HY2 := Lib.hid (HB1.out.heap HX2.out (by simp))
  have HY3 := Lib.hid (HB1.out.heap HX3.out (by simp))
  have HW1 := Lib.hid (HO0.out.trans HB1.out)
  clear HX0 HX1 HX2 HX3 HO0 HOW0 HB1
  obtain ⟨⟨rl, rq, rg⟩, re⟩ := R
  have hjr : JR W1 W0.heap.size v rl rq rg := HJN.out
  clear HJN HJR
  obtain ⟨E0, k0, E1, k1, rfl, hE0, hE1⟩ := hjr
  have HEO := Lib.hid (show Own W1 W0.heap.size E0 k0 E1 k1 ⟨rl, rq, rg⟩ from ⟨hE0, hE1⟩)
  clear hE0 hE1
  go_wp2_with (first
    | (with_reducible refine wpList_store_new rfl 25 (.tmp 6) (.tmp 21) rfl (wb + 3) #[.slice E0 rl.length k0, .slice E1 rq.length k1, .int .i64 rg] rfl rfl 25 _ HY3.out (size3_25 _ _ _) rfl (by simp [Value.oneCell']) ?_; intro W2 hh ho; have HV := Lib.hid hh.out; have HOs := Lib.hid ho; clear hh ho; refine (fun (h : Hid _) => h.out) ?_))
  refine Lib.hid ?_
  have HZ0 := Lib.hid (HOs.out.heap HY0.out (by simp))
  have HZ2 := Lib.hid (HOs.out.heap HY2.out (by simp))
  have HEO2 := Lib.hid (HEO.out.only HOs.out (fun k hk => .inl (by simp at hk; subst hk; exact HW0S.out)))
  have HW2 := Lib.hid (HW1.out.then HOs.out (fun k hk => .inr (by simp at hk; subst hk; have := HBB.out; omega)))
  clear HOs HY0 HY2 HY3 HEO HW1
  by_cases h0 : re = 0
  · subst h0
    go_wp2_with (first
      | (with_reducible refine wpList_load_at rfl 25 (.tmp 6) rfl ⟨wb + 3, 0, none⟩ rfl _ _ (cellsAt_row HV.out) Tryd.underlying25 rfl (by kernel_rfl) ?_)
      | (with_reducible refine wpList_store_new rfl 25 (.tmp 4) (.tmp 64) rfl (wb + 2) #[.slice E0 rl.length k0, .slice E1 rq.length k1, .int .i64 rg] rfl rfl 25 _ HZ2.out (size3_25 _ _ _) rfl (by simp [Value.oneCell']) ?_; intro w9 hh9 ho9))
    refine bodyPost_ret (results_row rfl _ _ (wb + 2) _ _ _ _ rfl hh9.out Tryd.underlying25 rfl (size3_25 _ _ _)) rfl ?_
    have hz9 := ((HW2.out.mono (T := [wb + 2]) (by simp)).trans ho9).pop (show w.heap.size ≤ wb + 2 by rw [HBB.out]; omega)
    refine ⟨_, rfl, ?_, hz9.nil_below⟩
    exact ((HEO2.out.only ho9 (fun k hk => .inl (by simp at hk; subst hk; have := HW0S.out; omega))).mono (by have := HBS.out; have := HBB.out; have := HW0S.out; omega)).jr
  · have h0' : (re == 0) = false := by rw [beq_eq_false_iff_ne]; exact h0
    go_wp2_with (first
      | (with_reducible refine wpList_load_at rfl 25 (.tmp 2) rfl ⟨wb, 0, none⟩ rfl _ _ (cellsAt_row HZ0.out) Tryd.underlying25 rfl (by kernel_rfl) ?_)
      | (with_reducible refine wpList_store_new rfl 25 (.tmp 4) (.tmp 62) rfl (wb + 2) #[.slice A0 j.l.length c0, .slice A1 j.q.length c1, .int .i64 j.g] rfl rfl 25 _ HZ2.out (size3_25 _ _ _) rfl (by simp [Value.oneCell']) ?_; intro w9 hh9 ho9))
    refine bodyPost_ret (results_row rfl _ _ (wb + 2) _ _ _ _ rfl hh9.out Tryd.underlying25 rfl (size3_25 _ _ _)) rfl ?_
    have hz9 := ((HW2.out.mono (T := [wb + 2]) (by simp)).trans ho9).pop (show w.heap.size ≤ wb + 2 by rw [HBB.out]; omega)
    refine ⟨_, rfl, (HOW.out.only hz9 (by simp)).jr, hz9.nil_below⟩
set_option maxHeartbeats 8000000 in
set_option maxRecDepth 100000 in
theorem done_close (base : Nat) (A0 : Option Addr) (c0 : Nat) (A1 : Option Addr) (c1 : Nat) (j : Jn) (on : Int) (oe : S27) (w : World) (ho : Own w base A0 c0 A1 c1 j) (hb : base ≤ w.heap.size) (hT : Tabs w) (hj : Jok j) (he : oe.f3.size ≤ 200) :
    Calls Tryd.prog 17 #[.agg #[.slice A0 j.l.length c0, .slice A1 j.q.length c1, .int .i64 j.g], .agg #[.int .i64 1, .int .i64 on, .int .i64 oe.f0, .int .i64 oe.f1, .int .i64 oe.f2, .string oe.f3, .int .i64 oe.f4, .int .i64 oe.f5]] w fun x w' => ∃ v, x = .returned (.tuple #[v, .int .i64 (if (closeJ j oe.f1).2 = 0 then (0 : Int) else (closeJ j oe.f1).2)]) ∧ ((closeJ j oe.f1).2 = 0 → JR w' base v (closeJ j oe.f1).1.l (closeJ j oe.f1).1.q (closeJ j oe.f1).1.g) ∧ ((closeJ j oe.f1).2 ≠ 0 → JR w' base v j.l j.q j.g) ∧ Below w.heap.size w w' := by
  obtain ⟨R, hR⟩ : ∃ R, R = closeJ j oe.f1 := ⟨_, rfl⟩
  rw [← hR]
  have HRR := Lib.hid hR
  clear hR
  have HOW := Lib.hid ho
  have HT := Lib.hid hT
  have HJ := Lib.hid hj
  have HE := Lib.hid he
  have HBS := Lib.hid hb
  clear ho hT hj he hb
  go_enter Tryd.func17, Tryd.ntmps17
  go_wp2_with (go_at_call 21; refine (fun (h : Hid _) => h.out) ?_)
  refine Lib.hid ?_
  have ha1 : Only [] w (w.alloc (.cells #[.slice A0 j.l.length c0, .slice A1 j.q.length c1, .int .i64 j.g] 25)) := (Only.refl [] w).alloc _
  have s1 : (w.alloc (.cells #[.slice A0 j.l.length c0, .slice A1 j.q.length c1, .int .i64 j.g] 25)).heap.size = w.heap.size + 1 := by simp
  have s2 : ((w.alloc (.cells #[.slice A0 j.l.length c0, .slice A1 j.q.length c1, .int .i64 j.g] 25)).alloc (.cells #[.int .i64 1, .int .i64 on, .int .i64 oe.f0, .int .i64 oe.f1, .int .i64 oe.f2, .string oe.f3, .int .i64 oe.f4, .int .i64 oe.f5] 43)).heap.size = w.heap.size + 2 := by simp
  have s3 : (((w.alloc (.cells #[.slice A0 j.l.length c0, .slice A1 j.q.length c1, .int .i64 j.g] 25)).alloc (.cells #[.int .i64 1, .int .i64 on, .int .i64 oe.f0, .int .i64 oe.f1, .int .i64 oe.f2, .string oe.f3, .int .i64 oe.f4, .int .i64 oe.f5] 43)).alloc (.cells #[.slice none 0 0, .slice none 0 0, .int .i64 0] 25)).heap.size = w.heap.size + 3 := by simp
  have HX0 := Lib.hid (show ((((w.alloc (.cells #[.slice A0 j.l.length c0, .slice A1 j.q.length c1, .int .i64 j.g] 25)).alloc (.cells #[.int .i64 1, .int .i64 on, .int .i64 oe.f0, .int .i64 oe.f1, .int .i64 oe.f2, .string oe.f3, .int .i64 oe.f4, .int .i64 oe.f5] 43)).alloc (.cells #[.slice none 0 0, .slice none 0 0, .int .i64 0] 25)).alloc (.cells #[.slice A0 j.l.length c0, .slice A1 j.q.length c1, .int .i64 j.g] 25)).heap[w.heap.size]? = some (.cells #[.slice A0 j.l.length c0, .slice A1 j.q.length c1, .int .i64 j.g] 25 (0, 0)) from (Below.heap_alloc _ _ _ (by rw [s3]; omega)).trans ((Below.heap_alloc _ _ _ (by rw [s2]; omega)).trans ((Below.heap_alloc _ _ _ (by rw [s1]; omega)).trans (heap_alloc_new _ _))))
  have HX1 := Lib.hid (show ((((w.alloc (.cells #[.slice A0 j.l.length c0, .slice A1 j.q.length c1, .int .i64 j.g] 25)).alloc (.cells #[.int .i64 1, .int .i64 on, .int .i64 oe.f0, .int .i64 oe.f1, .int .i64 oe.f2, .string oe.f3, .int .i64 oe.f4, .int .i64 oe.f5] 43)).alloc (.cells #[.slice none 0 0, .slice none 0 0, .int .i64 0] 25)).alloc (.cells #[.slice A0 j.l.length c0, .slice A1 j.q.length c1, .int .i64 j.g] 25)).heap[w.heap.size + 1]? = some (.cells #[.int .i64 1, .int .i64 on, .int .i64 oe.f0, .int .i64 oe.f1, .int .i64 oe.f2, .string oe.f3, .int .i64 oe.f4, .int .i64 oe.f5] 43 (0, 0)) from by
    have := heap_alloc_new (w.alloc (.cells #[.slice A0 j.l.length c0, .slice A1 j.q.length c1, .int .i64 j.g] 25)) (.cells #[.int .i64 1, .int .i64 on, .int .i64 oe.f0, .int .i64 oe.f1, .int .i64 oe.f2, .string oe.f3, .int .i64 oe.f4, .int .i64 oe.f5] 43)
    rw [s1] at this
    exact (Below.heap_alloc _ _ _ (by rw [s3]; omega)).trans ((Below.heap_alloc _ _ _ (by rw [s2]; omega)).trans this))
  have HX2 := Lib.hid (show ((((w.alloc (.cells #[.slice A0 j.l.length c0, .slice A1 j.q.length c1, .int .i64 j.g] 25)).alloc (.cells #[.int .i64 1, .int .i64 on, .int .i64 oe.f0, .int .i64 oe.f1, .int .i64 oe.f2, .string oe.f3, .int .i64 oe.f4, .int .i64 oe.f5] 43)).alloc (.cells #[.slice none 0 0, .slice none 0 0, .int .i64 0] 25)).alloc (.cells #[.slice A0 j.l.length c0, .slice A1 j.q.length c1, .int .i64 j.g] 25)).heap[w.heap.size + 2]? = some (.cells #[.slice none 0 0, .slice none 0 0, .int .i64 0] 25 (0, 0)) from by
    have := heap_alloc_new ((w.alloc (.cells #[.slice A0 j.l.length c0, .slice A1 j.q.length c1, .int .i64 j.g] 25)).alloc (.cells #[.int .i64 1, .int .i64 on, .int .i64 oe.f0, .int .i64 oe.f1, .int .i64 oe.f2, .string oe.f3, .int .i64 oe.f4, .int .i64 oe.f5] 43)) (.cells #[.slice none 0 0, .slice none 0 0, .int .i64 0] 25)
    rw [s2] at this
    exact (Below.heap_alloc _ _ _ (by rw [s3]; omega)).trans this)
  have HX3 := Lib.hid (show ((((w.alloc (.cells #[.slice A0 j.l.length c0, .slice A1 j.q.length c1, .int .i64 j.g] 25)).alloc (.cells #[.int .i64 1, .int .i64 on, .int .i64 oe.f0, .int .i64 oe.f1, .int .i64 oe.f2, .string oe.f3, .int .i64 oe.f4, .int .i64 oe.f5] 43)).alloc (.cells #[.slice none 0 0, .slice none 0 0, .int .i64 0] 25)).alloc (.cells #[.slice A0 j.l.length c0, .slice A1 j.q.length c1, .int .i64 j.g] 25)).heap[w.heap.size + 3]? = some (.cells #[.slice A0 j.l.length c0, .slice A1 j.q.length c1, .int .i64 j.g] 25 (0, 0)) from by
    have := heap_alloc_new (((w.alloc (.cells #[.slice A0 j.l.length c0, .slice A1 j.q.length c1, .int .i64 j.g] 25)).alloc (.cells #[.int .i64 1, .int .i64 on, .int .i64 oe.f0, .int .i64 oe.f1, .int .i64 oe.f2, .string oe.f3, .int .i64 oe.f4, .int .i64 oe.f5] 43)).alloc (.cells #[.slice none 0 0, .slice none 0 0, .int .i64 0] 25)) (.cells #[.slice A0 j.l.length c0, .slice A1 j.q.length c1, .int .i64 j.g] 25)
    rw [s3] at this
    exact this)
  have HO0 := Lib.hid (((((Only.refl [] w).alloc (.cells #[.slice A0 j.l.length c0, .slice A1 j.q.length c1, .int .i64 j.g] 25)).alloc (.cells #[.int .i64 1, .int .i64 on, .int .i64 oe.f0, .int .i64 oe.f1, .int .i64 oe.f2, .string oe.f3, .int .i64 oe.f4, .int .i64 oe.f5] 43)).alloc (.cells #[.slice none 0 0, .slice none 0 0, .int .i64 0] 25)).alloc (.cells #[.slice A0 j.l.length c0, .slice A1 j.q.length c1, .int .i64 j.g] 25))
  clear ha1 s1 s2 s3
  generalize (((w.alloc (.cells #[.slice A0 j.l.length c0, .slice A1 j.q.length c1, .int .i64 j.g] 25)).alloc (.cells #[.int .i64 1, .int .i64 on, .int .i64 oe.f0, .int .i64 oe.f1, .int .i64 oe.f2, .string oe.f3, .int .i64 oe.f4, .int .i64 oe.f5] 43)).alloc (.cells #[.slice none 0 0, .slice none 0 0, .int .i64 0] 25)).alloc (.cells #[.slice A0 j.l.length c0, .slice A1 j.q.length c1, .int .i64 j.g] 25) = W0 at *
  generalize hwb : w.heap.size = wb at *
  have HBB := Lib.hid hwb
  clear hwb
  have HOW0 := Lib.hid (HOW.out.only HO0.out (by simp))
  have hri := close_calls A0 c0 A1 c1 j oe.f1 W0 HOW0.out.rl HOW0.out.rq (HT.out.below HO0.out.nil_below) HJ.out
  rw [← HRR.out] at hri
  refine hri.mono ?_
  rintro x W1 ⟨v, rfl, hjr, hb1⟩
  have HB1 := Lib.hid (Only.of_below hb1)
  have HJR := Lib.hid (hjr.mono (show base ≤ W0.heap.size from Nat.le_trans HBS.out (by have := HO0.out.size; rw [← HBB.out]; exact this)))
  have HW0S := Lib.hid (show wb + 3 < W0.heap.size from heap_lt HX3.out)
  have HJN := Lib.hid (show JR W1 W0.heap.size v _ _ _ from hjr)
  clear hjr hb1 hri HRR
  have HY0 := Lib.hid (HB1.out.heap HX0.out (by simp))
  have HY2 := Lib.hid (HB1.out.heap HX2.out (by simp))
  have HY3 := Lib.hid (HB1.out.heap HX3.out (by simp))
  have HW1 := Lib.hid (HO0.out.trans HB1.out)
  clear HX0 HX1 HX2 HX3 HO0 HOW0 HB1
  obtain ⟨⟨rl, rq, rg⟩, re⟩ := R
  have hjr : JR W1 W0.heap.size v rl rq rg := HJN.out
  clear HJN HJR
  obtain ⟨E0, k0, E1, k1, rfl, hE0, hE1⟩ := hjr
  have HEO := Lib.hid (show Own W1 W0.heap.size E0 k0 E1 k1 ⟨rl, rq, rg⟩ from ⟨hE0, hE1⟩)
  clear hE0 hE1
  go_wp2_with (first
    | (with_reducible refine wpList_store_new rfl 25 (.tmp 6) (.tmp 31) rfl (wb + 3) #[.slice E0 rl.length k0, .slice E1 rq.length k1, .int .i64 rg] rfl rfl 25 _ HY3.out (size3_25 _ _ _) rfl (by simp [Value.oneCell']) ?_; intro W2 hh ho; have HV := Lib.hid hh.out; have HOs := Lib.hid ho; clear hh ho; refine (fun (h : Hid _) => h.out) ?_))
  refine Lib.hid ?_
  have HZ0 := Lib.hid (HOs.out.heap HY0.out (by simp))
  have HZ2 := Lib.hid (HOs.out.heap HY2.out (by simp))
  have HEO2 := Lib.hid (HEO.out.only HOs.out (fun k hk => .inl (by simp at hk; subst hk; exact HW0S.out)))
  have HW2 := Lib.hid (HW1.out.then HOs.out (fun k hk => .inr (by simp at hk; subst hk; have := HBB.out; omega)))
  clear HOs HY0 HY2 HY3 HEO HW1
  by_cases h0 : re = 0
  · subst h0
    go_wp2_with (first
      | (with_reducible refine wpList_load_at rfl 25 (.tmp 6) rfl ⟨wb + 3, 0, none⟩ rfl _ _ (cellsAt_row HV.out) Tryd.underlying25 rfl (by kernel_rfl) ?_)
      | (with_reducible refine wpList_store_new rfl 25 (.tmp 4) (.tmp 64) rfl (wb + 2) #[.slice E0 rl.length k0, .slice E1 rq.length k1, .int .i64 rg] rfl rfl 25 _ HZ2.out (size3_25 _ _ _) rfl (by simp [Value.oneCell']) ?_; intro w9 hh9 ho9))
    refine bodyPost_ret (results_row rfl _ _ (wb + 2) _ _ _ _ rfl hh9.out Tryd.underlying25 rfl (size3_25 _ _ _)) rfl ?_
    have hz9 := ((HW2.out.mono (T := [wb + 2]) (by simp)).trans ho9).pop (show w.heap.size ≤ wb + 2 by rw [HBB.out]; omega)
    refine ⟨_, rfl, ?_, hz9.nil_below⟩
    exact ((HEO2.out.only ho9 (fun k hk => .inl (by simp at hk; subst hk; have := HW0S.out; omega))).mono (by have := HBS.out; have := HBB.out; have := HW0S.out; omega)).jr
  · have h0' : (re == 0) = false := by rw [beq_eq_false_iff_ne]; exact h0
    go_wp2_with (first
      | (with_reducible refine wpList_load_at rfl 25 (.tmp 2) rfl ⟨wb, 0, none⟩ rfl _ _ (cellsAt_row HZ0.out) Tryd.underlying25 rfl (by kernel_rfl) ?_)
      | (with_reducible refine wpList_store_new rfl 25 (.tmp 4) (.tmp 62) rfl (wb + 2) #[.slice A0 j.l.length c0, .slice A1 j.q.length c1, .int .i64 j.g] rfl rfl 25 _ HZ2.out (size3_25 _ _ _) rfl (by simp [Value.oneCell']) ?_; intro w9 hh9 ho9))
    refine bodyPost_ret (results_row rfl _ _ (wb + 2) _ _ _ _ rfl hh9.out Tryd.underlying25 rfl (size3_25 _ _ _)) rfl ?_
    have hz9 := ((HW2.out.mono (T := [wb + 2]) (by simp)).trans ho9).pop (show w.heap.size ≤ wb + 2 by rw [HBB.out]; omega)
    refine ⟨_, rfl, (HOW.out.only hz9 (by simp)).jr, hz9.nil_below⟩
set_option maxHeartbeats 8000000 in
set_option maxRecDepth 100000 in
theorem done_add (base : Nat) (A0 : Option Addr) (c0 : Nat) (A1 : Option Addr) (c1 : Nat) (j : Jn) (on : Int) (oe : S27) (w : World) (ho : Own w base A0 c0 A1 c1 j) (hb : base ≤ w.heap.size) (hT : Tabs w) (hj : Jok j) (he : oe.f3.size ≤ 200) :
    Calls Tryd.prog 17 #[.agg #[.slice A0 j.l.length c0, .slice A1 j.q.length c1, .int .i64 j.g], .agg #[.int .i64 2, .int .i64 on, .int .i64 oe.f0, .int .i64 oe.f1, .int .i64 oe.f2, .string oe.f3, .int .i64 oe.f4, .int .i64 oe.f5]] w fun x w' => ∃ v, x = .returned (.tuple #[v, .int .i64 (if (addJ j oe).2 = 0 then (0 : Int) else (addJ j oe).2)]) ∧ ((addJ j oe).2 = 0 → JR w' base v (addJ j oe).1.l (addJ j oe).1.q (addJ j oe).1.g) ∧ ((addJ j oe).2 ≠ 0 → JR w' base v j.l j.q j.g) ∧ Below w.heap.size w w' := by
  obtain ⟨R, hR⟩ : ∃ R, R = addJ j oe := ⟨_, rfl⟩
  rw [← hR]
  have HRR := Lib.hid hR
  clear hR
  have HOW := Lib.hid ho
  have HT := Lib.hid hT
  have HJ := Lib.hid hj
  have HE := Lib.hid he
  have HBS := Lib.hid hb
  clear ho hT hj he hb
  go_enter Tryd.func17, Tryd.ntmps17
  go_wp2_with (go_at_call 10; refine (fun (h : Hid _) => h.out) ?_)
  refine Lib.hid ?_
  have ha1 : Only [] w (w.alloc (.cells #[.slice A0 j.l.length c0, .slice A1 j.q.length c1, .int .i64 j.g] 25)) := (Only.refl [] w).alloc _
  have s1 : (w.alloc (.cells #[.slice A0 j.l.length c0, .slice A1 j.q.length c1, .int .i64 j.g] 25)).heap.size = w.heap.size + 1 := by simp
  have s2 : ((w.alloc (.cells #[.slice A0 j.l.length c0, .slice A1 j.q.length c1, .int .i64 j.g] 25)).alloc (.cells #[.int .i64 2, .int .i64 on, .int .i64 oe.f0, .int .i64 oe.f1, .int .i64 oe.f2, .string oe.f3, .int .i64 oe.f4, .int .i64 oe.f5] 43)).heap.size = w.heap.size + 2 := by simp
  have s3 : (((w.alloc (.cells #[.slice A0 j.l.length c0, .slice A1 j.q.length c1, .int .i64 j.g] 25)).alloc (.cells #[.int .i64 2, .int .i64 on, .int .i64 oe.f0, .int .i64 oe.f1, .int .i64 oe.f2, .string oe.f3, .int .i64 oe.f4, .int .i64 oe.f5] 43)).alloc (.cells #[.slice none 0 0, .slice none 0 0, .int .i64 0] 25)).heap.size = w.heap.size + 3 := by simp
  have HX0 := Lib.hid (show ((((w.alloc (.cells #[.slice A0 j.l.length c0, .slice A1 j.q.length c1, .int .i64 j.g] 25)).alloc (.cells #[.int .i64 2, .int .i64 on, .int .i64 oe.f0, .int .i64 oe.f1, .int .i64 oe.f2, .string oe.f3, .int .i64 oe.f4, .int .i64 oe.f5] 43)).alloc (.cells #[.slice none 0 0, .slice none 0 0, .int .i64 0] 25)).alloc (.cells #[.slice A0 j.l.length c0, .slice A1 j.q.length c1, .int .i64 j.g] 25)).heap[w.heap.size]? = some (.cells #[.slice A0 j.l.length c0, .slice A1 j.q.length c1, .int .i64 j.g] 25 (0, 0)) from (Below.heap_alloc _ _ _ (by rw [s3]; omega)).trans ((Below.heap_alloc _ _ _ (by rw [s2]; omega)).trans ((Below.heap_alloc _ _ _ (by rw [s1]; omega)).trans (heap_alloc_new _ _))))
  have HX1 := Lib.hid (show ((((w.alloc (.cells #[.slice A0 j.l.length c0, .slice A1 j.q.length c1, .int .i64 j.g] 25)).alloc (.cells #[.int .i64 2, .int .i64 on, .int .i64 oe.f0, .int .i64 oe.f1, .int .i64 oe.f2, .string oe.f3, .int .i64 oe.f4, .int .i64 oe.f5] 43)).alloc (.cells #[.slice none 0 0, .slice none 0 0, .int .i64 0] 25)).alloc (.cells #[.slice A0 j.l.length c0, .slice A1 j.q.length c1, .int .i64 j.g] 25)).heap[w.heap.size + 1]? = some (.cells #[.int .i64 2, .int .i64 on, .int .i64 oe.f0, .int .i64 oe.f1, .int .i64 oe.f2, .string oe.f3, .int .i64 oe.f4, .int .i64 oe.f5] 43 (0, 0)) from by
    have := heap_alloc_new (w.alloc (.cells #[.slice A0 j.l.length c0, .slice A1 j.q.length c1, .int .i64 j.g] 25)) (.cells #[.int .i64 2, .int .i64 on, .int .i64 oe.f0, .int .i64 oe.f1, .int .i64 oe.f2, .string oe.f3, .int .i64 oe.f4, .int .i64 oe.f5] 43)
    rw [s1] at this
    exact (Below.heap_alloc _ _ _ (by rw [s3]; omega)).trans ((Below.heap_alloc _ _ _ (by rw [s2]; omega)).trans this))
  have HX2 := Lib.hid (show ((((w.alloc (.cells #[.slice A0 j.l.length c0, .slice A1 j.q.length c1, .int .i64 j.g] 25)).alloc (.cells #[.int .i64 2, .int .i64 on, .int .i64 oe.f0, .int .i64 oe.f1, .int .i64 oe.f2, .string oe.f3, .int .i64 oe.f4, .int .i64 oe.f5] 43)).alloc (.cells #[.slice none 0 0, .slice none 0 0, .int .i64 0] 25)).alloc (.cells #[.slice A0 j.l.length c0, .slice A1 j.q.length c1, .int .i64 j.g] 25)).heap[w.heap.size + 2]? = some (.cells #[.slice none 0 0, .slice none 0 0, .int .i64 0] 25 (0, 0)) from by
    have := heap_alloc_new ((w.alloc (.cells #[.slice A0 j.l.length c0, .slice A1 j.q.length c1, .int .i64 j.g] 25)).alloc (.cells #[.int .i64 2, .int .i64 on, .int .i64 oe.f0, .int .i64 oe.f1, .int .i64 oe.f2, .string oe.f3, .int .i64 oe.f4, .int .i64 oe.f5] 43)) (.cells #[.slice none 0 0, .slice none 0 0, .int .i64 0] 25)
    rw [s2] at this
    exact (Below.heap_alloc _ _ _ (by rw [s3]; omega)).trans this)
  have HX3 := Lib.hid (show ((((w.alloc (.cells #[.slice A0 j.l.length c0, .slice A1 j.q.length c1, .int .i64 j.g] 25)).alloc (.cells #[.int .i64 2, .int .i64 on, .int .i64 oe.f0, .int .i64 oe.f1, .int .i64 oe.f2, .string oe.f3, .int .i64 oe.f4, .int .i64 oe.f5] 43)).alloc (.cells #[.slice none 0 0, .slice none 0 0, .int .i64 0] 25)).alloc (.cells #[.slice A0 j.l.length c0, .slice A1 j.q.length c1, .int .i64 j.g] 25)).heap[w.heap.size + 3]? = some (.cells #[.slice A0 j.l.length c0, .slice A1 j.q.length c1, .int .i64 j.g] 25 (0, 0)) from by
    have := heap_alloc_new (((w.alloc (.cells #[.slice A0 j.l.length c0, .slice A1 j.q.length c1, .int .i64 j.g] 25)).alloc (.cells #[.int .i64 2, .int .i64 on, .int .i64 oe.f0, .int .i64 oe.f1, .int .i64 oe.f2, .string oe.f3, .int .i64 oe.f4, .int .i64 oe.f5] 43)).alloc (.cells #[.slice none 0 0, .slice none 0 0, .int .i64 0] 25)) (.cells #[.slice A0 j.l.length c0, .slice A1 j.q.length c1, .int .i64 j.g] 25)
    rw [s3] at this
    exact this)
  have HO0 := Lib.hid (((((Only.refl [] w).alloc (.cells #[.slice A0 j.l.length c0, .slice A1 j.q.length c1, .int .i64 j.g] 25)).alloc (.cells #[.int .i64 2, .int .i64 on, .int .i64 oe.f0, .int .i64 oe.f1, .int .i64 oe.f2, .string oe.f3, .int .i64 oe.f4, .int .i64 oe.f5] 43)).alloc (.cells #[.slice none 0 0, .slice none 0 0, .int .i64 0] 25)).alloc (.cells #[.slice A0 j.l.length c0, .slice A1 j.q.length c1, .int .i64 j.g] 25))
  clear ha1 s1 s2 s3
  generalize (((w.alloc (.cells #[.slice A0 j.l.length c0, .slice A1 j.q.length c1, .int .i64 j.g] 25)).alloc (.cells #[.int .i64 2, .int .i64 on, .int .i64 oe.f0, .int .i64 oe.f1, .int .i64 oe.f2, .string oe.f3, .int .i64 oe.f4, .int .i64 oe.f5] 43)).alloc (.cells #[.slice none 0 0, .slice none 0 0, .int .i64 0] 25)).alloc (.cells #[.slice A0 j.l.length c0, .slice A1 j.q.length c1, .int .i64 j.g] 25) = W0 at *
  generalize hwb : w.heap.size = wb at *
  have HBB := Lib.hid hwb
  clear hwb
  have HOW0 := Lib.hid (HOW.out.only HO0.out (by simp))
  have hri := add_calls A0 c0 A1 c1 j oe W0 HOW0.out.rl HOW0.out.rq (HT.out.below HO0.out.nil_below) HJ.out (by have := HE.out; omega)
  rw [← HRR.out] at hri
  refine hri.mono ?_
  rintro x W1 ⟨v, rfl, hjr, hb1⟩
  have HB1 := Lib.hid (Only.of_below hb1)
  have HJR := Lib.hid (hjr.mono (show base ≤ W0.heap.size from Nat.le_trans HBS.out (by have := HO0.out.size; rw [← HBB.out]; exact this)))
  have HW0S := Lib.hid (show wb + 3 < W0.heap.size from heap_lt HX3.out)
  have HJN := Lib.hid (show JR W1 W0.heap.size v _ _ _ from hjr)
  clear hjr hb1 hri HRR
  have HY0 := Lib.hid (HB1.out.heap HX0.out (by simp))
  have HY2 := Lib.hid (HB1.out.heap HX2.out (by simp))
  have HY3 := Lib.hid (HB1.out.heap HX3.out (by simp))
  have HW1 := Lib.hid (HO0.out.trans HB1.out)
  clear HX0 HX1 HX2 HX3 HO0 HOW0 HB1
  obtain ⟨⟨rl, rq, rg⟩, re⟩ := R
  have hjr : JR W1 W0.heap.size v rl rq rg := HJN.out
  clear HJN HJR
  obtain ⟨E0, k0, E1, k1, rfl, hE0, hE1⟩ := hjr
  have HEO := Lib.hid (show Own W1 W0.heap.size E0 k0 E1 k1 ⟨rl, rq, rg⟩ from ⟨hE0, hE1⟩)
  clear hE0 hE1
  go_wp2_with (first
    | (with_reducible refine wpList_store_new rfl 25 (.tmp 6) (.tmp 40) rfl (wb + 3) #[.slice E0 rl.length k0, .slice E1 rq.length k1, .int .i64 rg] rfl rfl 25 _ HY3.out (size3_25 _ _ _) rfl (by simp [Value.oneCell']) ?_; intro W2 hh ho; have HV := Lib.hid hh.out; have HOs := Lib.hid ho; clear hh ho; refine (fun (h : Hid _) => h.out) ?_))
  refine Lib.hid ?_
  have HZ0 := Lib.hid (HOs.out.heap HY0.out (by simp))
  have HZ2 := Lib.hid (HOs.out.heap HY2.out (by simp))
  have HEO2 := Lib.hid (HEO.out.only HOs.out (fun k hk => .inl (by simp at hk; subst hk; exact HW0S.out)))
  have HW2 := Lib.hid (HW1.out.then HOs.out (fun k hk => .inr (by simp at hk; subst hk; have := HBB.out; omega)))
  clear HOs HY0 HY2 HY3 HEO HW1
  by_cases h0 : re = 0
  · subst h0
    go_wp2_with (first
      | (with_reducible refine wpList_load_at rfl 25 (.tmp 6) rfl ⟨wb + 3, 0, none⟩ rfl _ _ (cellsAt_row HV.out) Tryd.underlying25 rfl (by kernel_rfl) ?_)
      | (with_reducible refine wpList_store_new rfl 25 (.tmp 4) (.tmp 64) rfl (wb + 2) #[.slice E0 rl.length k0, .slice E1 rq.length k1, .int .i64 rg] rfl rfl 25 _ HZ2.out (size3_25 _ _ _) rfl (by simp [Value.oneCell']) ?_; intro w9 hh9 ho9))
    refine bodyPost_ret (results_row rfl _ _ (wb + 2) _ _ _ _ rfl hh9.out Tryd.underlying25 rfl (size3_25 _ _ _)) rfl ?_
    have hz9 := ((HW2.out.mono (T := [wb + 2]) (by simp)).trans ho9).pop (show w.heap.size ≤ wb + 2 by rw [HBB.out]; omega)
    refine ⟨_, rfl, ?_, hz9.nil_below⟩
    exact ((HEO2.out.only ho9 (fun k hk => .inl (by simp at hk; subst hk; have := HW0S.out; omega))).mono (by have := HBS.out; have := HBB.out; have := HW0S.out; omega)).jr
  · have h0' : (re == 0) = false := by rw [beq_eq_false_iff_ne]; exact h0
    go_wp2_with (first
      | (with_reducible refine wpList_load_at rfl 25 (.tmp 2) rfl ⟨wb, 0, none⟩ rfl _ _ (cellsAt_row HZ0.out) Tryd.underlying25 rfl (by kernel_rfl) ?_)
      | (with_reducible refine wpList_store_new rfl 25 (.tmp 4) (.tmp 62) rfl (wb + 2) #[.slice A0 j.l.length c0, .slice A1 j.q.length c1, .int .i64 j.g] rfl rfl 25 _ HZ2.out (size3_25 _ _ _) rfl (by simp [Value.oneCell']) ?_; intro w9 hh9 ho9))
    refine bodyPost_ret (results_row rfl _ _ (wb + 2) _ _ _ _ rfl hh9.out Tryd.underlying25 rfl (size3_25 _ _ _)) rfl ?_
    have hz9 := ((HW2.out.mono (T := [wb + 2]) (by simp)).trans ho9).pop (show w.heap.size ≤ wb + 2 by rw [HBB.out]; omega)
    refine ⟨_, rfl, (HOW.out.only hz9 (by simp)).jr, hz9.nil_below⟩
set_option maxHeartbeats 8000000 in
set_option maxRecDepth 100000 in
theorem done_note (base : Nat) (A0 : Option Addr) (c0 : Nat) (A1 : Option Addr) (c1 : Nat) (j : Jn) (on : Int) (oe : S27) (w : World) (ho : Own w base A0 c0 A1 c1 j) (hb : base ≤ w.heap.size) (hT : Tabs w) (hj : Jok j) (he : oe.f3.size ≤ 200) :
    Calls Tryd.prog 17 #[.agg #[.slice A0 j.l.length c0, .slice A1 j.q.length c1, .int .i64 j.g], .agg #[.int .i64 3, .int .i64 on, .int .i64 oe.f0, .int .i64 oe.f1, .int .i64 oe.f2, .string oe.f3, .int .i64 oe.f4, .int .i64 oe.f5]] w fun x w' => ∃ v, x = .returned (.tuple #[v, .int .i64 (if (noteJ j oe).2 = 0 then (0 : Int) else (noteJ j oe).2)]) ∧ ((noteJ j oe).2 = 0 → JR w' base v (noteJ j oe).1.l (noteJ j oe).1.q (noteJ j oe).1.g) ∧ ((noteJ j oe).2 ≠ 0 → JR w' base v j.l j.q j.g) ∧ Below w.heap.size w w' := by
  obtain ⟨R, hR⟩ : ∃ R, R = noteJ j oe := ⟨_, rfl⟩
  rw [← hR]
  have HRR := Lib.hid hR
  clear hR
  have HOW := Lib.hid ho
  have HT := Lib.hid hT
  have HJ := Lib.hid hj
  have HE := Lib.hid he
  have HBS := Lib.hid hb
  clear ho hT hj he hb
  go_enter Tryd.func17, Tryd.ntmps17
  go_wp2_with (go_at_call 11; refine (fun (h : Hid _) => h.out) ?_)
  refine Lib.hid ?_
  have ha1 : Only [] w (w.alloc (.cells #[.slice A0 j.l.length c0, .slice A1 j.q.length c1, .int .i64 j.g] 25)) := (Only.refl [] w).alloc _
  have s1 : (w.alloc (.cells #[.slice A0 j.l.length c0, .slice A1 j.q.length c1, .int .i64 j.g] 25)).heap.size = w.heap.size + 1 := by simp
  have s2 : ((w.alloc (.cells #[.slice A0 j.l.length c0, .slice A1 j.q.length c1, .int .i64 j.g] 25)).alloc (.cells #[.int .i64 3, .int .i64 on, .int .i64 oe.f0, .int .i64 oe.f1, .int .i64 oe.f2, .string oe.f3, .int .i64 oe.f4, .int .i64 oe.f5] 43)).heap.size = w.heap.size + 2 := by simp
  have s3 : (((w.alloc (.cells #[.slice A0 j.l.length c0, .slice A1 j.q.length c1, .int .i64 j.g] 25)).alloc (.cells #[.int .i64 3, .int .i64 on, .int .i64 oe.f0, .int .i64 oe.f1, .int .i64 oe.f2, .string oe.f3, .int .i64 oe.f4, .int .i64 oe.f5] 43)).alloc (.cells #[.slice none 0 0, .slice none 0 0, .int .i64 0] 25)).heap.size = w.heap.size + 3 := by simp
  have HX0 := Lib.hid (show ((((w.alloc (.cells #[.slice A0 j.l.length c0, .slice A1 j.q.length c1, .int .i64 j.g] 25)).alloc (.cells #[.int .i64 3, .int .i64 on, .int .i64 oe.f0, .int .i64 oe.f1, .int .i64 oe.f2, .string oe.f3, .int .i64 oe.f4, .int .i64 oe.f5] 43)).alloc (.cells #[.slice none 0 0, .slice none 0 0, .int .i64 0] 25)).alloc (.cells #[.slice A0 j.l.length c0, .slice A1 j.q.length c1, .int .i64 j.g] 25)).heap[w.heap.size]? = some (.cells #[.slice A0 j.l.length c0, .slice A1 j.q.length c1, .int .i64 j.g] 25 (0, 0)) from (Below.heap_alloc _ _ _ (by rw [s3]; omega)).trans ((Below.heap_alloc _ _ _ (by rw [s2]; omega)).trans ((Below.heap_alloc _ _ _ (by rw [s1]; omega)).trans (heap_alloc_new _ _))))
  have HX1 := Lib.hid (show ((((w.alloc (.cells #[.slice A0 j.l.length c0, .slice A1 j.q.length c1, .int .i64 j.g] 25)).alloc (.cells #[.int .i64 3, .int .i64 on, .int .i64 oe.f0, .int .i64 oe.f1, .int .i64 oe.f2, .string oe.f3, .int .i64 oe.f4, .int .i64 oe.f5] 43)).alloc (.cells #[.slice none 0 0, .slice none 0 0, .int .i64 0] 25)).alloc (.cells #[.slice A0 j.l.length c0, .slice A1 j.q.length c1, .int .i64 j.g] 25)).heap[w.heap.size + 1]? = some (.cells #[.int .i64 3, .int .i64 on, .int .i64 oe.f0, .int .i64 oe.f1, .int .i64 oe.f2, .string oe.f3, .int .i64 oe.f4, .int .i64 oe.f5] 43 (0, 0)) from by
    have := heap_alloc_new (w.alloc (.cells #[.slice A0 j.l.length c0, .slice A1 j.q.length c1, .int .i64 j.g] 25)) (.cells #[.int .i64 3, .int .i64 on, .int .i64 oe.f0, .int .i64 oe.f1, .int .i64 oe.f2, .string oe.f3, .int .i64 oe.f4, .int .i64 oe.f5] 43)
    rw [s1] at this
    exact (Below.heap_alloc _ _ _ (by rw [s3]; omega)).trans ((Below.heap_alloc _ _ _ (by rw [s2]; omega)).trans this))
  have HX2 := Lib.hid (show ((((w.alloc (.cells #[.slice A0 j.l.length c0, .slice A1 j.q.length c1, .int .i64 j.g] 25)).alloc (.cells #[.int .i64 3, .int .i64 on, .int .i64 oe.f0, .int .i64 oe.f1, .int .i64 oe.f2, .string oe.f3, .int .i64 oe.f4, .int .i64 oe.f5] 43)).alloc (.cells #[.slice none 0 0, .slice none 0 0, .int .i64 0] 25)).alloc (.cells #[.slice A0 j.l.length c0, .slice A1 j.q.length c1, .int .i64 j.g] 25)).heap[w.heap.size + 2]? = some (.cells #[.slice none 0 0, .slice none 0 0, .int .i64 0] 25 (0, 0)) from by
    have := heap_alloc_new ((w.alloc (.cells #[.slice A0 j.l.length c0, .slice A1 j.q.length c1, .int .i64 j.g] 25)).alloc (.cells #[.int .i64 3, .int .i64 on, .int .i64 oe.f0, .int .i64 oe.f1, .int .i64 oe.f2, .string oe.f3, .int .i64 oe.f4, .int .i64 oe.f5] 43)) (.cells #[.slice none 0 0, .slice none 0 0, .int .i64 0] 25)
    rw [s2] at this
    exact (Below.heap_alloc _ _ _ (by rw [s3]; omega)).trans this)
  have HX3 := Lib.hid (show ((((w.alloc (.cells #[.slice A0 j.l.length c0, .slice A1 j.q.length c1, .int .i64 j.g] 25)).alloc (.cells #[.int .i64 3, .int .i64 on, .int .i64 oe.f0, .int .i64 oe.f1, .int .i64 oe.f2, .string oe.f3, .int .i64 oe.f4, .int .i64 oe.f5] 43)).alloc (.cells #[.slice none 0 0, .slice none 0 0, .int .i64 0] 25)).alloc (.cells #[.slice A0 j.l.length c0, .slice A1 j.q.length c1, .int .i64 j.g] 25)).heap[w.heap.size + 3]? = some (.cells #[.slice A0 j.l.length c0, .slice A1 j.q.length c1, .int .i64 j.g] 25 (0, 0)) from by
    have := heap_alloc_new (((w.alloc (.cells #[.slice A0 j.l.length c0, .slice A1 j.q.length c1, .int .i64 j.g] 25)).alloc (.cells #[.int .i64 3, .int .i64 on, .int .i64 oe.f0, .int .i64 oe.f1, .int .i64 oe.f2, .string oe.f3, .int .i64 oe.f4, .int .i64 oe.f5] 43)).alloc (.cells #[.slice none 0 0, .slice none 0 0, .int .i64 0] 25)) (.cells #[.slice A0 j.l.length c0, .slice A1 j.q.length c1, .int .i64 j.g] 25)
    rw [s3] at this
    exact this)
  have HO0 := Lib.hid (((((Only.refl [] w).alloc (.cells #[.slice A0 j.l.length c0, .slice A1 j.q.length c1, .int .i64 j.g] 25)).alloc (.cells #[.int .i64 3, .int .i64 on, .int .i64 oe.f0, .int .i64 oe.f1, .int .i64 oe.f2, .string oe.f3, .int .i64 oe.f4, .int .i64 oe.f5] 43)).alloc (.cells #[.slice none 0 0, .slice none 0 0, .int .i64 0] 25)).alloc (.cells #[.slice A0 j.l.length c0, .slice A1 j.q.length c1, .int .i64 j.g] 25))
  clear ha1 s1 s2 s3
  generalize (((w.alloc (.cells #[.slice A0 j.l.length c0, .slice A1 j.q.length c1, .int .i64 j.g] 25)).alloc (.cells #[.int .i64 3, .int .i64 on, .int .i64 oe.f0, .int .i64 oe.f1, .int .i64 oe.f2, .string oe.f3, .int .i64 oe.f4, .int .i64 oe.f5] 43)).alloc (.cells #[.slice none 0 0, .slice none 0 0, .int .i64 0] 25)).alloc (.cells #[.slice A0 j.l.length c0, .slice A1 j.q.length c1, .int .i64 j.g] 25) = W0 at *
  generalize hwb : w.heap.size = wb at *
  have HBB := Lib.hid hwb
  clear hwb
  have HOW0 := Lib.hid (HOW.out.only HO0.out (by simp))
  have hri := note_calls A0 c0 A1 c1 j oe W0 HOW0.out.rl HOW0.out.rq (HT.out.below HO0.out.nil_below) HJ.out (by have := HE.out; omega)
  rw [← HRR.out] at hri
  refine hri.mono ?_
  rintro x W1 ⟨v, rfl, hjr, hb1⟩
  have HB1 := Lib.hid (Only.of_below hb1)
  have HJR := Lib.hid (hjr.mono (show base ≤ W0.heap.size from Nat.le_trans HBS.out (by have := HO0.out.size; rw [← HBB.out]; exact this)))
  have HW0S := Lib.hid (show wb + 3 < W0.heap.size from heap_lt HX3.out)
  have HJN := Lib.hid (show JR W1 W0.heap.size v _ _ _ from hjr)
  clear hjr hb1 hri HRR
  have HY0 := Lib.hid (HB1.out.heap HX0.out (by simp))
  have HY2 := Lib.hid (HB1.out.heap HX2.out (by simp))
  have HY3 := Lib.hid (HB1.out.heap HX3.out (by simp))
  have HW1 := Lib.hid (HO0.out.trans HB1.out)
  clear HX0 HX1 HX2 HX3 HO0 HOW0 HB1
  obtain ⟨⟨rl, rq, rg⟩, re⟩ := R
  have hjr : JR W1 W0.heap.size v rl rq rg := HJN.out
  clear HJN HJR
  obtain ⟨E0, k0, E1, k1, rfl, hE0, hE1⟩ := hjr
  have HEO := Lib.hid (show Own W1 W0.heap.size E0 k0 E1 k1 ⟨rl, rq, rg⟩ from ⟨hE0, hE1⟩)
  clear hE0 hE1
  go_wp2_with (first
    | (with_reducible refine wpList_store_new rfl 25 (.tmp 6) (.tmp 49) rfl (wb + 3) #[.slice E0 rl.length k0, .slice E1 rq.length k1, .int .i64 rg] rfl rfl 25 _ HY3.out (size3_25 _ _ _) rfl (by simp [Value.oneCell']) ?_; intro W2 hh ho; have HV := Lib.hid hh.out; have HOs := Lib.hid ho; clear hh ho; refine (fun (h : Hid _) => h.out) ?_))
  refine Lib.hid ?_
  have HZ0 := Lib.hid (HOs.out.heap HY0.out (by simp))
  have HZ2 := Lib.hid (HOs.out.heap HY2.out (by simp))
  have HEO2 := Lib.hid (HEO.out.only HOs.out (fun k hk => .inl (by simp at hk; subst hk; exact HW0S.out)))
  have HW2 := Lib.hid (HW1.out.then HOs.out (fun k hk => .inr (by simp at hk; subst hk; have := HBB.out; omega)))
  clear HOs HY0 HY2 HY3 HEO HW1
  by_cases h0 : re = 0
  · subst h0
    go_wp2_with (first
      | (with_reducible refine wpList_load_at rfl 25 (.tmp 6) rfl ⟨wb + 3, 0, none⟩ rfl _ _ (cellsAt_row HV.out) Tryd.underlying25 rfl (by kernel_rfl) ?_)
      | (with_reducible refine wpList_store_new rfl 25 (.tmp 4) (.tmp 64) rfl (wb + 2) #[.slice E0 rl.length k0, .slice E1 rq.length k1, .int .i64 rg] rfl rfl 25 _ HZ2.out (size3_25 _ _ _) rfl (by simp [Value.oneCell']) ?_; intro w9 hh9 ho9))
    refine bodyPost_ret (results_row rfl _ _ (wb + 2) _ _ _ _ rfl hh9.out Tryd.underlying25 rfl (size3_25 _ _ _)) rfl ?_
    have hz9 := ((HW2.out.mono (T := [wb + 2]) (by simp)).trans ho9).pop (show w.heap.size ≤ wb + 2 by rw [HBB.out]; omega)
    refine ⟨_, rfl, ?_, hz9.nil_below⟩
    exact ((HEO2.out.only ho9 (fun k hk => .inl (by simp at hk; subst hk; have := HW0S.out; omega))).mono (by have := HBS.out; have := HBB.out; have := HW0S.out; omega)).jr
  · have h0' : (re == 0) = false := by rw [beq_eq_false_iff_ne]; exact h0
    go_wp2_with (first
      | (with_reducible refine wpList_load_at rfl 25 (.tmp 2) rfl ⟨wb, 0, none⟩ rfl _ _ (cellsAt_row HZ0.out) Tryd.underlying25 rfl (by kernel_rfl) ?_)
      | (with_reducible refine wpList_store_new rfl 25 (.tmp 4) (.tmp 62) rfl (wb + 2) #[.slice A0 j.l.length c0, .slice A1 j.q.length c1, .int .i64 j.g] rfl rfl 25 _ HZ2.out (size3_25 _ _ _) rfl (by simp [Value.oneCell']) ?_; intro w9 hh9 ho9))
    refine bodyPost_ret (results_row rfl _ _ (wb + 2) _ _ _ _ rfl hh9.out Tryd.underlying25 rfl (size3_25 _ _ _)) rfl ?_
    have hz9 := ((HW2.out.mono (T := [wb + 2]) (by simp)).trans ho9).pop (show w.heap.size ≤ wb + 2 by rw [HBB.out]; omega)
    refine ⟨_, rfl, (HOW.out.only hz9 (by simp)).jr, hz9.nil_below⟩
set_option maxHeartbeats 8000000 in
set_option maxRecDepth 100000 in
theorem done_trim (base : Nat) (A0 : Option Addr) (c0 : Nat) (A1 : Option Addr) (c1 : Nat) (j : Jn) (on : Int) (oe : S27) (w : World) (ho : Own w base A0 c0 A1 c1 j) (hb : base ≤ w.heap.size) (hT : Tabs w) (hj : Jok j) (he : oe.f3.size ≤ 200) :
    Calls Tryd.prog 17 #[.agg #[.slice A0 j.l.length c0, .slice A1 j.q.length c1, .int .i64 j.g], .agg #[.int .i64 4, .int .i64 on, .int .i64 oe.f0, .int .i64 oe.f1, .int .i64 oe.f2, .string oe.f3, .int .i64 oe.f4, .int .i64 oe.f5]] w fun x w' => ∃ v, x = .returned (.tuple #[v, .int .i64 (if (trimJ j on).2 = 0 then (0 : Int) else (trimJ j on).2)]) ∧ ((trimJ j on).2 = 0 → JR w' base v (trimJ j on).1.l (trimJ j on).1.q (trimJ j on).1.g) ∧ ((trimJ j on).2 ≠ 0 → JR w' base v j.l j.q j.g) ∧ Below w.heap.size w w' := by
  obtain ⟨R, hR⟩ : ∃ R, R = trimJ j on := ⟨_, rfl⟩
  rw [← hR]
  have HRR := Lib.hid hR
  clear hR
  have HOW := Lib.hid ho
  have HT := Lib.hid hT
  have HJ := Lib.hid hj
  have HE := Lib.hid he
  have HBS := Lib.hid hb
  clear ho hT hj he hb
  go_enter Tryd.func17, Tryd.ntmps17
  go_wp2_with (go_at_call 25; refine (fun (h : Hid _) => h.out) ?_)
  refine Lib.hid ?_
  have ha1 : Only [] w (w.alloc (.cells #[.slice A0 j.l.length c0, .slice A1 j.q.length c1, .int .i64 j.g] 25)) := (Only.refl [] w).alloc _
  have s1 : (w.alloc (.cells #[.slice A0 j.l.length c0, .slice A1 j.q.length c1, .int .i64 j.g] 25)).heap.size = w.heap.size + 1 := by simp
  have s2 : ((w.alloc (.cells #[.slice A0 j.l.length c0, .slice A1 j.q.length c1, .int .i64 j.g] 25)).alloc (.cells #[.int .i64 4, .int .i64 on, .int .i64 oe.f0, .int .i64 oe.f1, .int .i64 oe.f2, .string oe.f3, .int .i64 oe.f4, .int .i64 oe.f5] 43)).heap.size = w.heap.size + 2 := by simp
  have s3 : (((w.alloc (.cells #[.slice A0 j.l.length c0, .slice A1 j.q.length c1, .int .i64 j.g] 25)).alloc (.cells #[.int .i64 4, .int .i64 on, .int .i64 oe.f0, .int .i64 oe.f1, .int .i64 oe.f2, .string oe.f3, .int .i64 oe.f4, .int .i64 oe.f5] 43)).alloc (.cells #[.slice none 0 0, .slice none 0 0, .int .i64 0] 25)).heap.size = w.heap.size + 3 := by simp
  have HX0 := Lib.hid (show ((((w.alloc (.cells #[.slice A0 j.l.length c0, .slice A1 j.q.length c1, .int .i64 j.g] 25)).alloc (.cells #[.int .i64 4, .int .i64 on, .int .i64 oe.f0, .int .i64 oe.f1, .int .i64 oe.f2, .string oe.f3, .int .i64 oe.f4, .int .i64 oe.f5] 43)).alloc (.cells #[.slice none 0 0, .slice none 0 0, .int .i64 0] 25)).alloc (.cells #[.slice A0 j.l.length c0, .slice A1 j.q.length c1, .int .i64 j.g] 25)).heap[w.heap.size]? = some (.cells #[.slice A0 j.l.length c0, .slice A1 j.q.length c1, .int .i64 j.g] 25 (0, 0)) from (Below.heap_alloc _ _ _ (by rw [s3]; omega)).trans ((Below.heap_alloc _ _ _ (by rw [s2]; omega)).trans ((Below.heap_alloc _ _ _ (by rw [s1]; omega)).trans (heap_alloc_new _ _))))
  have HX1 := Lib.hid (show ((((w.alloc (.cells #[.slice A0 j.l.length c0, .slice A1 j.q.length c1, .int .i64 j.g] 25)).alloc (.cells #[.int .i64 4, .int .i64 on, .int .i64 oe.f0, .int .i64 oe.f1, .int .i64 oe.f2, .string oe.f3, .int .i64 oe.f4, .int .i64 oe.f5] 43)).alloc (.cells #[.slice none 0 0, .slice none 0 0, .int .i64 0] 25)).alloc (.cells #[.slice A0 j.l.length c0, .slice A1 j.q.length c1, .int .i64 j.g] 25)).heap[w.heap.size + 1]? = some (.cells #[.int .i64 4, .int .i64 on, .int .i64 oe.f0, .int .i64 oe.f1, .int .i64 oe.f2, .string oe.f3, .int .i64 oe.f4, .int .i64 oe.f5] 43 (0, 0)) from by
    have := heap_alloc_new (w.alloc (.cells #[.slice A0 j.l.length c0, .slice A1 j.q.length c1, .int .i64 j.g] 25)) (.cells #[.int .i64 4, .int .i64 on, .int .i64 oe.f0, .int .i64 oe.f1, .int .i64 oe.f2, .string oe.f3, .int .i64 oe.f4, .int .i64 oe.f5] 43)
    rw [s1] at this
    exact (Below.heap_alloc _ _ _ (by rw [s3]; omega)).trans ((Below.heap_alloc _ _ _ (by rw [s2]; omega)).trans this))
  have HX2 := Lib.hid (show ((((w.alloc (.cells #[.slice A0 j.l.length c0, .slice A1 j.q.length c1, .int .i64 j.g] 25)).alloc (.cells #[.int .i64 4, .int .i64 on, .int .i64 oe.f0, .int .i64 oe.f1, .int .i64 oe.f2, .string oe.f3, .int .i64 oe.f4, .int .i64 oe.f5] 43)).alloc (.cells #[.slice none 0 0, .slice none 0 0, .int .i64 0] 25)).alloc (.cells #[.slice A0 j.l.length c0, .slice A1 j.q.length c1, .int .i64 j.g] 25)).heap[w.heap.size + 2]? = some (.cells #[.slice none 0 0, .slice none 0 0, .int .i64 0] 25 (0, 0)) from by
    have := heap_alloc_new ((w.alloc (.cells #[.slice A0 j.l.length c0, .slice A1 j.q.length c1, .int .i64 j.g] 25)).alloc (.cells #[.int .i64 4, .int .i64 on, .int .i64 oe.f0, .int .i64 oe.f1, .int .i64 oe.f2, .string oe.f3, .int .i64 oe.f4, .int .i64 oe.f5] 43)) (.cells #[.slice none 0 0, .slice none 0 0, .int .i64 0] 25)
    rw [s2] at this
    exact (Below.heap_alloc _ _ _ (by rw [s3]; omega)).trans this)
  have HX3 := Lib.hid (show ((((w.alloc (.cells #[.slice A0 j.l.length c0, .slice A1 j.q.length c1, .int .i64 j.g] 25)).alloc (.cells #[.int .i64 4, .int .i64 on, .int .i64 oe.f0, .int .i64 oe.f1, .int .i64 oe.f2, .string oe.f3, .int .i64 oe.f4, .int .i64 oe.f5] 43)).alloc (.cells #[.slice none 0 0, .slice none 0 0, .int .i64 0] 25)).alloc (.cells #[.slice A0 j.l.length c0, .slice A1 j.q.length c1, .int .i64 j.g] 25)).heap[w.heap.size + 3]? = some (.cells #[.slice A0 j.l.length c0, .slice A1 j.q.length c1, .int .i64 j.g] 25 (0, 0)) from by
    have := heap_alloc_new (((w.alloc (.cells #[.slice A0 j.l.length c0, .slice A1 j.q.length c1, .int .i64 j.g] 25)).alloc (.cells #[.int .i64 4, .int .i64 on, .int .i64 oe.f0, .int .i64 oe.f1, .int .i64 oe.f2, .string oe.f3, .int .i64 oe.f4, .int .i64 oe.f5] 43)).alloc (.cells #[.slice none 0 0, .slice none 0 0, .int .i64 0] 25)) (.cells #[.slice A0 j.l.length c0, .slice A1 j.q.length c1, .int .i64 j.g] 25)
    rw [s3] at this
    exact this)
  have HO0 := Lib.hid (((((Only.refl [] w).alloc (.cells #[.slice A0 j.l.length c0, .slice A1 j.q.length c1, .int .i64 j.g] 25)).alloc (.cells #[.int .i64 4, .int .i64 on, .int .i64 oe.f0, .int .i64 oe.f1, .int .i64 oe.f2, .string oe.f3, .int .i64 oe.f4, .int .i64 oe.f5] 43)).alloc (.cells #[.slice none 0 0, .slice none 0 0, .int .i64 0] 25)).alloc (.cells #[.slice A0 j.l.length c0, .slice A1 j.q.length c1, .int .i64 j.g] 25))
  clear ha1 s1 s2 s3
  generalize (((w.alloc (.cells #[.slice A0 j.l.length c0, .slice A1 j.q.length c1, .int .i64 j.g] 25)).alloc (.cells #[.int .i64 4, .int .i64 on, .int .i64 oe.f0, .int .i64 oe.f1, .int .i64 oe.f2, .string oe.f3, .int .i64 oe.f4, .int .i64 oe.f5] 43)).alloc (.cells #[.slice none 0 0, .slice none 0 0, .int .i64 0] 25)).alloc (.cells #[.slice A0 j.l.length c0, .slice A1 j.q.length c1, .int .i64 j.g] 25) = W0 at *
  generalize hwb : w.heap.size = wb at *
  have HBB := Lib.hid hwb
  clear hwb
  have HOW0 := Lib.hid (HOW.out.only HO0.out (by simp))
  have hri := trim_calls A0 c0 A1 c1 j on W0 HOW0.out.rl HOW0.out.rq (HT.out.below HO0.out.nil_below) HJ.out
  rw [← HRR.out] at hri
  refine hri.mono ?_
  rintro x W1 ⟨v, rfl, hjr, hb1⟩
  have HB1 := Lib.hid (Only.of_below hb1)
  have HJR := Lib.hid (hjr.mono (show base ≤ W0.heap.size from Nat.le_trans HBS.out (by have := HO0.out.size; rw [← HBB.out]; exact this)))
  have HW0S := Lib.hid (show wb + 3 < W0.heap.size from heap_lt HX3.out)
  have HJN := Lib.hid (show JR W1 W0.heap.size v _ _ _ from hjr)
  clear hjr hb1 hri HRR
  have HY0 := Lib.hid (HB1.out.heap HX0.out (by simp))
  have HY2 := Lib.hid (HB1.out.heap HX2.out (by simp))
  have HY3 := Lib.hid (HB1.out.heap HX3.out (by simp))
  have HW1 := Lib.hid (HO0.out.trans HB1.out)
  clear HX0 HX1 HX2 HX3 HO0 HOW0 HB1
  obtain ⟨⟨rl, rq, rg⟩, re⟩ := R
  have hjr : JR W1 W0.heap.size v rl rq rg := HJN.out
  clear HJN HJR
  obtain ⟨E0, k0, E1, k1, rfl, hE0, hE1⟩ := hjr
  have HEO := Lib.hid (show Own W1 W0.heap.size E0 k0 E1 k1 ⟨rl, rq, rg⟩ from ⟨hE0, hE1⟩)
  clear hE0 hE1
  go_wp2_with (first
    | (with_reducible refine wpList_store_new rfl 25 (.tmp 6) (.tmp 58) rfl (wb + 3) #[.slice E0 rl.length k0, .slice E1 rq.length k1, .int .i64 rg] rfl rfl 25 _ HY3.out (size3_25 _ _ _) rfl (by simp [Value.oneCell']) ?_; intro W2 hh ho; have HV := Lib.hid hh.out; have HOs := Lib.hid ho; clear hh ho; refine (fun (h : Hid _) => h.out) ?_))
  refine Lib.hid ?_
  have HZ0 := Lib.hid (HOs.out.heap HY0.out (by simp))
  have HZ2 := Lib.hid (HOs.out.heap HY2.out (by simp))
  have HEO2 := Lib.hid (HEO.out.only HOs.out (fun k hk => .inl (by simp at hk; subst hk; exact HW0S.out)))
  have HW2 := Lib.hid (HW1.out.then HOs.out (fun k hk => .inr (by simp at hk; subst hk; have := HBB.out; omega)))
  clear HOs HY0 HY2 HY3 HEO HW1
  by_cases h0 : re = 0
  · subst h0
    go_wp2_with (first
      | (with_reducible refine wpList_load_at rfl 25 (.tmp 6) rfl ⟨wb + 3, 0, none⟩ rfl _ _ (cellsAt_row HV.out) Tryd.underlying25 rfl (by kernel_rfl) ?_)
      | (with_reducible refine wpList_store_new rfl 25 (.tmp 4) (.tmp 64) rfl (wb + 2) #[.slice E0 rl.length k0, .slice E1 rq.length k1, .int .i64 rg] rfl rfl 25 _ HZ2.out (size3_25 _ _ _) rfl (by simp [Value.oneCell']) ?_; intro w9 hh9 ho9))
    refine bodyPost_ret (results_row rfl _ _ (wb + 2) _ _ _ _ rfl hh9.out Tryd.underlying25 rfl (size3_25 _ _ _)) rfl ?_
    have hz9 := ((HW2.out.mono (T := [wb + 2]) (by simp)).trans ho9).pop (show w.heap.size ≤ wb + 2 by rw [HBB.out]; omega)
    refine ⟨_, rfl, ?_, hz9.nil_below⟩
    exact ((HEO2.out.only ho9 (fun k hk => .inl (by simp at hk; subst hk; have := HW0S.out; omega))).mono (by have := HBS.out; have := HBB.out; have := HW0S.out; omega)).jr
  · have h0' : (re == 0) = false := by rw [beq_eq_false_iff_ne]; exact h0
    go_wp2_with (first
      | (with_reducible refine wpList_load_at rfl 25 (.tmp 2) rfl ⟨wb, 0, none⟩ rfl _ _ (cellsAt_row HZ0.out) Tryd.underlying25 rfl (by kernel_rfl) ?_)
      | (with_reducible refine wpList_store_new rfl 25 (.tmp 4) (.tmp 62) rfl (wb + 2) #[.slice A0 j.l.length c0, .slice A1 j.q.length c1, .int .i64 j.g] rfl rfl 25 _ HZ2.out (size3_25 _ _ _) rfl (by simp [Value.oneCell']) ?_; intro w9 hh9 ho9))
    refine bodyPost_ret (results_row rfl _ _ (wb + 2) _ _ _ _ rfl hh9.out Tryd.underlying25 rfl (size3_25 _ _ _)) rfl ?_
    have hz9 := ((HW2.out.mono (T := [wb + 2]) (by simp)).trans ho9).pop (show w.heap.size ≤ wb + 2 by rw [HBB.out]; omega)
    refine ⟨_, rfl, (HOW.out.only hz9 (by simp)).jr, hz9.nil_below⟩
set_option maxHeartbeats 8000000 in
set_option maxRecDepth 100000 in
theorem done_none (base : Nat) (A0 : Option Addr) (c0 : Nat) (A1 : Option Addr) (c1 : Nat) (j : Jn) (ok on : Int) (oe : S27) (w : World) (ho : Own w base A0 c0 A1 c1 j) (k0 : ok ≠ 0) (k1 : ok ≠ 1) (k2 : ok ≠ 2) (k3 : ok ≠ 3) (k4 : ok ≠ 4) :
    Calls Tryd.prog 17 #[.agg #[.slice A0 j.l.length c0, .slice A1 j.q.length c1, .int .i64 j.g], .agg #[.int .i64 ok, .int .i64 on, .int .i64 oe.f0, .int .i64 oe.f1, .int .i64 oe.f2, .string oe.f3, .int .i64 oe.f4, .int .i64 oe.f5]] w fun x w' => ∃ v, x = .returned (.tuple #[v, .int .i64 1]) ∧ JR w' base v j.l j.q j.g ∧ Below w.heap.size w w' := by
  have HOW := Lib.hid ho
  clear ho
  have e0 : (ok == 0) = false := by rw [beq_eq_false_iff_ne]; exact k0
  have e1 : (ok == 1) = false := by rw [beq_eq_false_iff_ne]; exact k1
  have e2 : (ok == 2) = false := by rw [beq_eq_false_iff_ne]; exact k2
  have e3 : (ok == 3) = false := by rw [beq_eq_false_iff_ne]; exact k3
  have e4 : (ok == 4) = false := by rw [beq_eq_false_iff_ne]; exact k4
  clear k0 k1 k2 k3 k4
  go_enter Tryd.func17, Tryd.ntmps17
  go_wp2
  have hr : ((((w.alloc (.cells #[.slice A0 j.l.length c0, .slice A1 j.q.length c1, .int .i64 j.g] 25)).alloc (.cells #[.int .i64 ok, .int .i64 on, .int .i64 oe.f0, .int .i64 oe.f1, .int .i64 oe.f2, .string oe.f3, .int .i64 oe.f4, .int .i64 oe.f5] 43)).alloc (.cells #[.slice A0 j.l.length c0, .slice A1 j.q.length c1, .int .i64 j.g] 25)).alloc (.cells #[.slice A0 j.l.length c0, .slice A1 j.q.length c1, .int .i64 j.g] 25)).heap[w.heap.size + 1 + 1]? = some (.cells #[.slice A0 j.l.length c0, .slice A1 j.q.length c1, .int .i64 j.g] 25 (0, 0)) := by
    have := heap_alloc_new ((w.alloc (.cells #[.slice A0 j.l.length c0, .slice A1 j.q.length c1, .int .i64 j.g] 25)).alloc (.cells #[.int .i64 ok, .int .i64 on, .int .i64 oe.f0, .int .i64 oe.f1, .int .i64 oe.f2, .string oe.f3, .int .i64 oe.f4, .int .i64 oe.f5] 43)) (.cells #[.slice A0 j.l.length c0, .slice A1 j.q.length c1, .int .i64 j.g] 25)
    rw [show ((w.alloc (.cells #[.slice A0 j.l.length c0, .slice A1 j.q.length c1, .int .i64 j.g] 25)).alloc (.cells #[.int .i64 ok, .int .i64 on, .int .i64 oe.f0, .int .i64 oe.f1, .int .i64 oe.f2, .string oe.f3, .int .i64 oe.f4, .int .i64 oe.f5] 43)).heap.size = w.heap.size + 1 + 1 by simp] at this
    exact (Below.heap_alloc _ _ _ (by simp)).trans this
  have hz : Only [] w ((((w.alloc (.cells #[.slice A0 j.l.length c0, .slice A1 j.q.length c1, .int .i64 j.g] 25)).alloc (.cells #[.int .i64 ok, .int .i64 on, .int .i64 oe.f0, .int .i64 oe.f1, .int .i64 oe.f2, .string oe.f3, .int .i64 oe.f4, .int .i64 oe.f5] 43)).alloc (.cells #[.slice A0 j.l.length c0, .slice A1 j.q.length c1, .int .i64 j.g] 25)).alloc (.cells #[.slice A0 j.l.length c0, .slice A1 j.q.length c1, .int .i64 j.g] 25)) := ((((Only.refl [] w).alloc _).alloc _).alloc _).alloc _
  refine bodyPost_ret (results_row rfl _ _ (w.heap.size + 1 + 1) _ _ _ _ rfl hr Tryd.underlying25 rfl (size3_25 _ _ _)) rfl ?_
  exact ⟨_, rfl, (HOW.out.only hz (by simp)).jr, hz.nil_below⟩
theorem done_any (base : Nat) (A0 : Option Addr) (c0 : Nat) (A1 : Option Addr) (c1 : Nat) (j : Jn) (o : S43) (w : World) (ho : Own w base A0 c0 A1 c1 j) (hb : base ≤ w.heap.size) (hT : Tabs w) (hj : Jok j) (he : o.f2.f3.size ≤ 200) :
    Calls Tryd.prog 17 #[.agg #[.slice A0 j.l.length c0, .slice A1 j.q.length c1, .int .i64 j.g], .agg #[.int .i64 o.f0, .int .i64 o.f1, .int .i64 o.f2.f0, .int .i64 o.f2.f1, .int .i64 o.f2.f2, .string o.f2.f3, .int .i64 o.f2.f4, .int .i64 o.f2.f5]] w fun x w' =>
      ∃ A c B d, x = .returned (.tuple #[.agg #[.slice A (doneJ j o).1.l.length c, .slice B (doneJ j o).1.q.length d, .int .i64 (doneJ j o).1.g], .int .i64 (doneJ j o).2]) ∧ Own w' base A c B d (doneJ j o).1 ∧ Below w.heap.size w w' := by
  obtain ⟨k, on, oe⟩ := o
  have fin : ∀ (R : Jn × Int), (opJ j ⟨k, on, oe⟩ = R) → (Calls Tryd.prog 17 #[.agg #[.slice A0 j.l.length c0, .slice A1 j.q.length c1, .int .i64 j.g], .agg #[.int .i64 k, .int .i64 on, .int .i64 oe.f0, .int .i64 oe.f1, .int .i64 oe.f2, .string oe.f3, .int .i64 oe.f4, .int .i64 oe.f5]] w fun x w' => ∃ v, x = .returned (.tuple #[v, .int .i64 (if R.2 = 0 then (0 : Int) else R.2)]) ∧ (R.2 = 0 → JR w' base v R.1.l R.1.q R.1.g) ∧ (R.2 ≠ 0 → JR w' base v j.l j.q j.g) ∧ Below w.heap.size w w') →
      Calls Tryd.prog 17 #[.agg #[.slice A0 j.l.length c0, .slice A1 j.q.length c1, .int .i64 j.g], .agg #[.int .i64 k, .int .i64 on, .int .i64 oe.f0, .int .i64 oe.f1, .int .i64 oe.f2, .string oe.f3, .int .i64 oe.f4, .int .i64 oe.f5]] w fun x w' =>
      ∃ A c B d, x = .returned (.tuple #[.agg #[.slice A (doneJ j ⟨k, on, oe⟩).1.l.length c, .slice B (doneJ j ⟨k, on, oe⟩).1.q.length d, .int .i64 (doneJ j ⟨k, on, oe⟩).1.g], .int .i64 (doneJ j ⟨k, on, oe⟩).2]) ∧ Own w' base A c B d (doneJ j ⟨k, on, oe⟩).1 ∧ Below w.heap.size w w' := by
    intro R hR h
    refine h.mono ?_
    rintro x w' ⟨v, hx, h1, h2, h3⟩
    unfold doneJ
    rw [hR]
    by_cases h0 : R.2 = 0
    · rw [if_pos h0] at hx ⊢
      obtain ⟨A, c, B, d, rfl, q1, q2⟩ := h1 h0
      exact ⟨A, c, B, d, hx, ⟨q1, q2⟩, h3⟩
    · rw [if_neg h0] at hx ⊢
      obtain ⟨A, c, B, d, rfl, q1, q2⟩ := h2 h0
      exact ⟨A, c, B, d, hx, ⟨q1, q2⟩, h3⟩
  by_cases k0 : k = 0
  · subst k0; exact fin _ rfl (done_open base A0 c0 A1 c1 j on oe w ho hb hT hj he)
  by_cases k1 : k = 1
  · subst k1; exact fin _ rfl (done_close base A0 c0 A1 c1 j on oe w ho hb hT hj he)
  by_cases k2 : k = 2
  · subst k2; exact fin _ rfl (done_add base A0 c0 A1 c1 j on oe w ho hb hT hj he)
  by_cases k3 : k = 3
  · subst k3; exact fin _ rfl (done_note base A0 c0 A1 c1 j on oe w ho hb hT hj he)
  by_cases k4 : k = 4
  · subst k4; exact fin _ rfl (done_trim base A0 c0 A1 c1 j on oe w ho hb hT hj he)
  refine fin (j, 1) (by unfold opJ; rw [if_neg k0, if_neg k1, if_neg k2, if_neg k3, if_neg k4]) ((done_none base A0 c0 A1 c1 j k on oe w ho k0 k1 k2 k3 k4).mono ?_)
  rintro x w' ⟨v, hx, h1, h2⟩
  exact ⟨v, hx, fun _ => h1, fun _ => h1, h2⟩
end Go.Proofs.YtghpmpjoedbpcaaDoor.Print
/-! ### RdKd -/
namespace Go.Proofs.YtghpmpjoedbpcaaDoor
open Go.RowKit Go.Proofs.YtghpmpjoedbpcaaDoorW.PrintWords
/-- A row that came in, its elements turned. -/
theorem C_of_row {α β : Type} {n : Nat} {R : Rd α} {d : Kd β} (g : α → β) {w : World} {A : Option Addr} {xs : List α} (hn : d.sz = n) (hm : xs.length ≤ 9223372036854775807) (hx : rdRow n R w A xs) (hc : ∀ es x, es.length = n → R w es x → d.K w (g x) es) :
    Kd.C d w A (xs.map g).length (xs.map g) := by
  subst hn
  refine ⟨rfl, by rw [List.length_map]; omega, fun h0 => ?_⟩
  rw [List.length_map] at h0
  obtain ⟨ad, es, hA, _, _, _⟩ := hx 0 _ (List.getElem?_eq_getElem h0)
  refine ⟨ad, hA, fun j p hj => ?_⟩
  rw [List.getElem?_map] at hj
  cases hx' : xs[j]? with
  | none => rw [hx'] at hj; simp at hj
  | some x =>
    rw [hx'] at hj
    obtain rfl := Option.some.inj hj
    obtain ⟨ad', es', hA', hl, hcs, hR⟩ := hx j x hx'
    obtain rfl := Option.some.inj (hA.symm.trans hA')
    refine ⟨es', hl, hc es' x hl hR, fun i u hu => ?_⟩
    have := hcs i u hu
    rwa [Go.Deep.add_add] at this
theorem len6 {es : List Value} (h : es.length = 6) : ∃ a b c d e f, es = [a, b, c, d, e, f] := by match es, h with | [a, b, c, d, e, f], _ => exact ⟨a, b, c, d, e, f, rfl⟩
end Go.Proofs.YtghpmpjoedbpcaaDoor
/-! ### JIn -/
namespace Go.Proofs.YtghpmpjoedbpcaaDoor.Print
open Go.RowKit Go.Proofs.YtghpmpjoedbpcaaDoorW.PrintWords Go.Proofs.YtghpmpjoedbpcaaDoorW.PrintLast Go.Proofs.YtghpmpjoedbpcaaDoorW.PrintMore
set_option linter.unusedSimpArgs false
set_option linter.unusedVariables false
abbrev EntR := Int × Int × Int × ByteArray × Int × Int × Unit
def rEnt : Rd EntR := rdPair 1 (rdInt .i64) (rdPair 1 (rdInt .i64) (rdPair 1 (rdInt .i64) (rdPair 1 rdStr (rdPair 1 (rdInt .i64) (rdPair 1 (rdInt .i64) rdUnit)))))
def gEnt (x : EntR) : S27 := ⟨x.1, x.2.1, x.2.2.1, x.2.2.2.1, x.2.2.2.2.1, x.2.2.2.2.2.1⟩
abbrev OpR := Int × Int × EntR × Unit
def rOp : Rd OpR := rdPair 1 (rdInt .i64) (rdPair 1 (rdInt .i64) (rdPair 6 rEnt rdUnit))
def gOp (x : OpR) : S43 := ⟨x.1, x.2.1, gEnt x.2.2.1⟩
section
variable {H : Type} (enc : TypeId × Value → H) (w : World)
theorem ent_opens : Opens enc Tryd.prog w 27 rEnt := opens_struct Tryd.underlying27 (opens_cons rfl (by kernel_rfl) (opens_int Tryd.underlying3) (opens_cons rfl (by kernel_rfl) (opens_int Tryd.underlying3) (opens_cons rfl (by kernel_rfl) (opens_int Tryd.underlying3) (opens_cons rfl (by kernel_rfl) (opens_str Tryd.underlying9) (opens_cons rfl (by kernel_rfl) (opens_int Tryd.underlying3) (opens_cons rfl (by kernel_rfl) (opens_int Tryd.underlying3) opens_nil))))))
theorem op_opens : Opens enc Tryd.prog w 43 rOp := opens_struct Tryd.underlying43 (opens_cons rfl (by kernel_rfl) (opens_int Tryd.underlying3) (opens_cons rfl (by kernel_rfl) (opens_int Tryd.underlying3) (opens_cons rfl (by kernel_rfl) (ent_opens enc w) opens_nil)))
theorem ops_opens : Opens enc Tryd.prog w 39 (rdSl 8 72 rOp) := opens_sl Tryd.underlying39 (by kernel_rfl) (by kernel_rfl) (op_opens enc w)
end
theorem ent_es {w : World} {es : List Value} {x : EntR} (hl : es.length = 6) (h : rEnt w es x) : es = [.int .i64 x.1, .int .i64 x.2.1, .int .i64 x.2.2.1, .string x.2.2.2.1, .int .i64 x.2.2.2.2.1, .int .i64 x.2.2.2.2.2.1] := by
  obtain ⟨a, b, c, d, e, f, rfl⟩ := len6 hl
  obtain ⟨⟨h1, _⟩, ⟨h2, _⟩, ⟨h3, _⟩, ⟨h4, _⟩, ⟨h5, _⟩, ⟨h6, _⟩, _⟩ := h
  simp at h1 h2 h3 h4 h5 h6
  subst h1 h2 h3 h4 h5 h6
  rfl
theorem op_es {w : World} {es : List Value} {x : OpR} (hl : es.length = 8) (h : rOp w es x) : es = [.int .i64 x.1, .int .i64 x.2.1, .int .i64 x.2.2.1.1, .int .i64 x.2.2.1.2.1, .int .i64 x.2.2.1.2.2.1, .string x.2.2.1.2.2.2.1, .int .i64 x.2.2.1.2.2.2.2.1, .int .i64 x.2.2.1.2.2.2.2.2.1] := by
  obtain ⟨⟨h1, _⟩, ⟨h2, _⟩, h3, _⟩ := h
  have h4 := ent_es (by simp; omega) h3
  match es, hl with
  | [a, b, c, d, e, f, g, i], _ =>
    simp at h1 h2 h4
    obtain ⟨e1, e2, e3, e4, e5, e6⟩ := h4
    subst h1 h2 e1 e2 e3 e4 e5 e6
    rfl
theorem op_K {w : World} {es : List Value} {x : OpR} (hl : es.length = 8) (h : rOp w es x) : k43.K w (gOp x) es := by
  rw [op_es hl h]
  exact k43_mk w (gOp x)
theorem C_ops {w : World} {A : Option Addr} {xs : List OpR} (hm : xs.length ≤ 9223372036854775807) (hx : rdRow 8 rOp w A xs) : Kd.C k43 w A (xs.map gOp).length (xs.map gOp) := C_of_row gOp rfl hm hx (fun _ _ hl h => op_K hl h)
end Go.Proofs.YtghpmpjoedbpcaaDoor.Print
/-! ### JWalk4 -/
namespace Go.Proofs.YtghpmpjoedbpcaaDoor.Print
open Go.RowKit Go.Proofs.YtghpmpjoedbpcaaDoorW.PrintWords Go.Proofs.YtghpmpjoedbpcaaDoorW.PrintLast Go.Proofs.YtghpmpjoedbpcaaDoorW.PrintMore
set_option linter.unusedSimpArgs false
set_option linter.unusedVariables false
theorem C_o_at {w : World} {A : Option Addr} {l : List S43} (h : Kd.C k43 w A l.length l) (k : Nat) (hk : k < l.length) : ∃ ad, A = some ad ∧ CellsAt w (ad.add (k * 8)) [.int .i64 l[k].f0, .int .i64 l[k].f1, .int .i64 l[k].f2.f0, .int .i64 l[k].f2.f1, .int .i64 l[k].f2.f2, .string l[k].f2.f3, .int .i64 l[k].f2.f4, .int .i64 l[k].f2.f5] := by
  obtain ⟨ad, cs, rfl, _, hK, hcs⟩ := Kd.C_cells h k hk
  obtain rfl := k43_open hK
  exact ⟨ad, rfl, hcs⟩
theorem few_ok {l : List S43} (h : fewB l = true) : l.length ≤ 200 ∧ ∀ o ∈ l, o.f2.f3.size ≤ 200 := by
  unfold fewB at h
  simp only [Bool.and_eq_true, decide_eq_true_eq, List.all_eq_true] at h
  exact ⟨h.1, fun o ho => by have := h.2 o ho; unfold shortO at this; simpa using this⟩
end Go.Proofs.YtghpmpjoedbpcaaDoor.Print
/-! ### LF -/
namespace Go.Proofs.YtghpmpjoedbpcaaDoor
open Go Go.RowKit
namespace L
section
variable {P : Program} {ops : Array Oper} {Q : Exit → Act → World → Prop} {md : Region.Mode}
/-- What comes first only yields. -/
def rowsP (tab : List Row) (z : Nat) : List (Nat × Bool × Bool) → List Bool → Bool
  | [], _ => true
  | (i, f, c) :: r, l => readyT tab l i && f && !c && i != z && (match tab[i]? with | some x => freeT tab l i x tab 0 | none => false) && rowsP tab z r (l.set i true)
def lastP : List (Nat × Bool × Bool) → List Bool → List Bool
  | [], l => l
  | (i, _, _) :: r, l => lastP r (l.set i true)
def forkQ (P : Program) (ops : Array Oper) (Q : Exit → Act → World → Prop) (S : List Nat) (z : Nat) (T1 T2 : List (Nat × Bool × Bool)) : Exit → Act → World → Prop
  | .normal, a, w => GrowL P ops Q S z T1 a w ∧ GrowL P ops Q S z T2 a w
  | e, a, w => Q e a w
def forkT (tab : List Row) (n z : Nat) (T T1 T2 : List (Nat × Bool × Bool)) : Bool :=
  match T1, T2 with
  | (i, false, true) :: r1, (k, false, true) :: r2 =>
    rowsP tab z T (List.replicate n false) && readyT tab (lastP T (List.replicate n false)) i && readyT tab (lastP T (List.replicate n false)) k &&
    ((List.range n).all fun j => j == i || j == k || !readyT tab (lastP T (List.replicate n false)) j) &&
    rowsT tab n z r1 ((lastP T (List.replicate n false)).set i true) && rowsT tab n z r2 ((lastP T (List.replicate n false)).set k true) &&
    (T.length + (r1.length + 1) == n) && (r1.length == r2.length)
  | _, _ => false
theorem grow_prefix {S : List Nat} {z : Nat} (hz : LastOp md ops z) (hsel : Region.noSelect ops = true) (hQ : ∀ c (a : Act) d v w, Q (.panic c) (a.put d v) w → Q (.panic c) a w) {Q' : Exit → Act → World → Prop} (fuel : Nat) (lend : List Bool)
    (hF : ∀ a w, Closed md ops lend.toArray → Q' .normal a w → wpGrow P md ops Q S z fuel lend.toArray a w) :
    ∀ (T : List (Nat × Bool × Bool)) (l : List Bool), rowsP (tabOf md ops) z T l = true → lastP T l = lend → Closed md ops l.toArray → ∀ a w, GrowL P ops Q' S z T a w → wpGrow P md ops Q S z (T.length + fuel) l.toArray a w
  | [], l, hT, hl, hcl, a, w, h => by
    rw [List.length_nil, Nat.zero_add]
    subst hl
    exact hF a w hcl h
  | (i, f, c) :: r, l, hT, hl, hcl, a, w, h => by
    simp only [rowsP, Bool.and_eq_true, Bool.not_eq_true', bne_iff_ne, ne_eq] at hT
    obtain ⟨⟨⟨⟨⟨hrd, hf⟩, hc⟩, hiz⟩, hfr⟩, hr⟩ := hT
    obtain ⟨oi, hi, h⟩ := h
    have hcl' : Closed md ops (l.set i true).toArray := by
      have := hcl.add ((readyT_spec l i).1 hrd)
      simpa using this
    have hset : l.toArray.setIfInBounds i true = (l.set i true).toArray := by simp
    rcases h with ⟨hft, v, hy, hg⟩ | ⟨hct, hw, hwp⟩
    · have htab : (tabOf md ops)[i]? = some (rowOf md ops oi) := by unfold tabOf; rw [List.getElem?_map, Array.getElem?_toList, hi]; rfl
      rw [htab] at hfr
      rw [List.length_cons, show r.length + 1 + fuel = (r.length + fuel) + 1 by omega]
      refine wpGrow_first hz hiz hi (Region.noSelect_spec hsel) (fun c a w => hQ c a _ _ w) (r.length + fuel) _ a w hcl (fun j oj hj hne hun hno => ?_) ((readyT_spec l i).1 hrd) hy ?_
      · have htj : (tabOf md ops)[j]? = some (rowOf md ops oj) := by unfold tabOf; rw [List.getElem?_map, Array.getElem?_toList, hj]; rfl
        have hl : l.getD j true = false := by simpa [List.getD_eq_getElem?_getD] using hun
        rcases freeT_spec _ l i _ _ 0 hfr j _ htj with h1 | h1 | h1 | h1
        · exact absurd (by omega) hne
        · rw [Nat.zero_add, hl] at h1; cases h1
        · exfalso
          simp only [rowOf, List.contains_iff_mem, List.mem_map, List.mem_filter] at h1
          obtain ⟨e, ⟨he, hb⟩, heq⟩ := h1
          exact hno e (by simpa using he) hb heq
        · exact apartT_spec h1
      · rw [hset]
        exact grow_prefix hz hsel hQ fuel lend hF r _ hr hl hcl' _ _ hg
    · rw [hc] at hct
      cases hct
theorem grow_fork {S : List Nat} {z : Nat} (hz : LastOp md ops z) (hsel : Region.noSelect ops = true) (hQ : ∀ c (a : Act) d v w, Q (.panic c) (a.put d v) w → Q (.panic c) a w) (l : List Bool) (hcl : Closed md ops l.toArray) (i k : Nat) (r1 r2 : List (Nat × Bool × Bool))
    (hi : readyT (tabOf md ops) l i = true) (hk : readyT (tabOf md ops) l k = true) (hall : ∀ j, j < ops.size → j = i ∨ j = k ∨ readyT (tabOf md ops) l j = false)
    (h1 : rowsT (tabOf md ops) ops.size z r1 (l.set i true) = true) (h2 : rowsT (tabOf md ops) ops.size z r2 (l.set k true) = true) (hlen : r1.length = r2.length) (a : Act) (w : World)
    (g1 : GrowL P ops Q S z ((i, false, true) :: r1) a w) (g2 : GrowL P ops Q S z ((k, false, true) :: r2) a w) : wpGrow P md ops Q S z (r1.length + 1) l.toArray a w := by
  have step : ∀ (j : Nat) (r : List (Nat × Bool × Bool)), readyT (tabOf md ops) l j = true → rowsT (tabOf md ops) ops.size z r (l.set j true) = true → r.length = r1.length → GrowL P ops Q S z ((j, false, true) :: r) a w →
      wpOp P ops Q j (fun a' w' => (j = z ∨ Only S w w') ∧ wpGrow P md ops Q S z r1.length (l.toArray.setIfInBounds j true) a' w') a w := by
    intro j r hrd hr hle hg
    obtain ⟨oj, hoj, h⟩ := hg
    have hcl' : Closed md ops (l.set j true).toArray := by
      have := hcl.add ((readyT_spec l j).1 hrd)
      simpa using this
    have hset : l.toArray.setIfInBounds j true = (l.set j true).toArray := by simp
    rcases h with ⟨hft, _⟩ | ⟨_, hw, hwp⟩
    · cases hft
    · rw [hset, ← hle]
      unfold wpOp
      simp only [hoj, hw, if_true]
      exact .inl (Oper.wp_mono (fun a' w' h => ⟨h.1, grow_of_rows hz hsel hQ r _ hr hcl' _ _ h.2⟩) hwp)
  refine ⟨fun h0 => ?_, fun j hj => ?_⟩
  · have := (readyT_spec l i).1 hi
    rw [h0] at this
    cases this
  · rcases hall j (ready_lt hj) with h | h | h
    · subst h; exact step j r1 hi h1 rfl g1
    · subst h; exact step j r2 hk h2 hlen.symm g2
    · rw [(readyT_spec l j).2 hj] at h; cases h
theorem grow_start2 (S : List Nat) (z : Nat) (T T1 T2 : List (Nat × Bool × Bool)) {id : Nat} {a : Act} {w : World} (hm : P.follows .mixedOrders = true)
    (tab : List Row) (htab : tabOf .any ops = tab) (hs : Region.noSelect ops = true) {n : Nat} (hn : ops.size = n) (hT : (lastT (plains ops) tab n z && forkT tab n z T T1 T2) = true)
    (hQ : ∀ c (a : Act) t v w, Q (.panic c) (a.put (some t) v) w → Q (.panic c) a w)
    (h : ∀ w1, Only [] w w1 → GrowL P ops (forkQ P ops Q S z T1 T2) S z T a w1) : (Code.region id ops true).wp P Q a w := by
  subst htab
  subst hn
  simp only [Bool.and_eq_true] at hT
  obtain ⟨hla, hfk⟩ := hT
  have ho : Only [] w { w with drawn := w.drawn + 1 } := ⟨rfl, rfl, rfl, Nat.le_refl _, fun _ _ _ => rfl⟩
  match T1, T2, hfk, h with
  | (i, false, true) :: r1, (k, false, true) :: r2, hfk, h =>
    simp only [forkT, Bool.and_eq_true, beq_iff_eq, List.all_eq_true, List.mem_range, Bool.or_eq_true, Bool.not_eq_true'] at hfk
    obtain ⟨⟨⟨⟨⟨⟨⟨hp, hi⟩, hk⟩, hall⟩, h1⟩, h2⟩, hle⟩, hl2⟩ := hfk
    have hQ' : ∀ c (a : Act) (d : Option Tmp) v w, Q (.panic c) (a.put d v) w → Q (.panic c) a w := fun c a d v w h => by cases d with | none => exact h | some t => exact hQ c a t v w h
    refine wp_region_any hm (wpAny_of_grow (S := S) (z := z) _ _ _ _ ?_)
    have := grow_prefix (S := S) (z := z) (lastT_spec hla) hs hQ' (r1.length + 1) (lastP T (List.replicate ops.size false))
      (fun a w hcl hg => grow_fork (lastT_spec hla) hs hQ' _ hcl i k r1 r2 hi hk (fun j hj => by rcases hall j hj with (h | h) | h; exact .inl h; exact .inr (.inl h); exact .inr (.inr h)) h1 h2 hl2 a w hg.1 hg.2)
      T _ hp rfl (fun j oj _ hl => by exfalso; rw [Array.getD_eq_getD_getElem?, List.getElem?_toArray, List.getElem?_replicate] at hl; split at hl <;> simp at hl) a _ (h _ ho)
    rw [hle, List.toArray_replicate] at this
    exact this
theorem ge_fork {S : List Nat} {z : Nat} {T1 T2 : List (Nat × Bool × Bool)} {a : Act} {w : World} {N : Nat} {env : List (Nat × Value)} (h1 : GrowE P ops Q S z T1 a N env w) (h2 : GrowE P ops Q S z T2 a N env w) : GrowE P ops (forkQ P ops Q S z T1 T2) S z [] a N env w :=
  fun hN he => ⟨h1 hN he, h2 hN he⟩
end
end L
end Go.Proofs.YtghpmpjoedbpcaaDoor
