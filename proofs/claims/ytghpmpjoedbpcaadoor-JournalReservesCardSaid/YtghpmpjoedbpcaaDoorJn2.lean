import Derived.Test.YtghpmpjoedbpcaaDoorJn1
set_option linter.unusedVariables false
set_option linter.unusedSimpArgs false
namespace Go.Proofs.YtghpmpjoedbpcaaDoorW.PrintWords
end Go.Proofs.YtghpmpjoedbpcaaDoorW.PrintWords
namespace Go.Proofs.YtghpmpjoedbpcaaDoorW.PrintLast
end Go.Proofs.YtghpmpjoedbpcaaDoorW.PrintLast
namespace Go.Proofs.YtghpmpjoedbpcaaDoorW.PrintMore
end Go.Proofs.YtghpmpjoedbpcaaDoorW.PrintMore
/-! ### EJAdd -/
namespace Go.Proofs.YtghpmpjoedbpcaaDoor.Print
open Go.RowKit Go.Proofs.YtghpmpjoedbpcaaDoorW.PrintWords Go.Proofs.YtghpmpjoedbpcaaDoorW.PrintLast Go.Proofs.YtghpmpjoedbpcaaDoorW.PrintMore
set_option linter.unusedSimpArgs false
set_option linter.unusedVariables false
theorem fill_one6 (z a b c d e f : Value) (hz : z.cells.size = 6) (h1 : (Value.agg #[a, b, c, d, e, f]).cells = #[a, b, c, d, e, f]) : Instr.fill (fun i => some (i * 6, 6)) ((Array.range (1 * 6)).map (z.cells[· % z.cells.size]!)) [(0, .agg #[a, b, c, d, e, f])] = some #[a, b, c, d, e, f] := by
  generalize hA : ((Array.range (1 * 6)).map (z.cells[· % z.cells.size]!)) = arr
  have h2 : arr.size = 6 := by rw [← hA]; simp
  match arr, h2 with
  | ⟨[x, y, u, v, s, t]⟩, _ => simp [Instr.fill, Value.cells]
def qAt (q : List S35) (i : Nat) : S35 := q.getD i ⟨0, 0, 0⟩
/-- One entry fewer is kept free there. -/
def lessAt (q : List S35) (i : Nat) : List S35 := q.set i ⟨(qAt q i).f0, (qAt q i).f1 - 1, (qAt q i).f2⟩
theorem splice_one (a b : List Value) (x y z v : Value) : splice (a ++ x :: y :: z :: b) (a.length + 1) [v] = a ++ x :: v :: z :: b := by
  unfold splice
  rw [show [v].length = 1 from rfl, List.take_append, List.drop_append, List.take_of_length_le (by omega), List.drop_eq_nil_of_le (by omega), show a.length + 1 - a.length = 1 by omega, show a.length + 1 + 1 - a.length = 2 by omega]
  simp
theorem splice_two (a b : List Value) (x y z v : Value) : splice (a ++ x :: y :: z :: b) (a.length + 2) [v] = a ++ x :: y :: v :: b := by
  unfold splice
  rw [show [v].length = 1 from rfl, List.take_append, List.drop_append, List.take_of_length_le (by omega), List.drop_eq_nil_of_le (by omega), show a.length + 2 - a.length = 2 by omega, show a.length + 2 + 1 - a.length = 3 by omega]
  simp
theorem row_split (cur : List Value) (q : List S35) (i : Nat) (hi : i < q.length) (ht : cur.take (q.length * 3) = qRow q) :
    cur = qRow (q.take i) ++ .int .i64 (qAt q i).f0 :: .int .i64 (qAt q i).f1 :: .int .i64 (qAt q i).f2 :: (qRow (q.drop (i + 1)) ++ cur.drop (q.length * 3)) := by
  have h1 : qAt q i = q[i] := by unfold qAt; simp [List.getD_eq_getElem?_getD, List.getElem?_eq_getElem hi]
  have h2 : qRow q = qRow (q.take i) ++ (.int .i64 q[i].f0 :: .int .i64 q[i].f1 :: .int .i64 q[i].f2 :: qRow (q.drop (i + 1))) := by
    conv => lhs; rw [← List.take_append_drop i q, List.drop_eq_getElem_cons hi, qRow_append]
    rfl
  have h3 : cur = cur.take (q.length * 3) ++ cur.drop (q.length * 3) := (List.take_append_drop _ _).symm
  rw [ht, h2] at h3
  rw [h1]
  simpa using h3
theorem row_set (cur : List Value) (q : List S35) (i : Nat) (hi : i < q.length) (ht : cur.take (q.length * 3) = qRow q) (v : Int) :
    (splice cur (i * 3 + 1) [.int .i64 v]).take (q.length * 3) = qRow (q.set i ⟨(qAt q i).f0, v, (qAt q i).f2⟩) ∧ (splice cur (i * 3 + 2) [.int .i64 v]).take (q.length * 3) = qRow (q.set i ⟨(qAt q i).f0, (qAt q i).f1, v⟩) := by
  have h := row_split cur q i hi ht
  have hl : (qRow (q.take i)).length = i * 3 := by rw [qRow_length, List.length_take, Nat.min_eq_left (by omega)]
  have hr : ∀ y : S35, qRow (q.set i y) = qRow (q.take i) ++ .int .i64 y.f0 :: .int .i64 y.f1 :: .int .i64 y.f2 :: qRow (q.drop (i + 1)) := fun y => by
    rw [List.set_eq_take_append_cons_drop, if_pos hi, qRow_append]; rfl
  have e1 := splice_one (qRow (q.take i)) (qRow (q.drop (i + 1)) ++ cur.drop (q.length * 3)) (.int .i64 (qAt q i).f0) (.int .i64 (qAt q i).f1) (.int .i64 (qAt q i).f2) (.int .i64 v)
  have e2 := splice_two (qRow (q.take i)) (qRow (q.drop (i + 1)) ++ cur.drop (q.length * 3)) (.int .i64 (qAt q i).f0) (.int .i64 (qAt q i).f1) (.int .i64 (qAt q i).f2) (.int .i64 v)
  rw [← h, hl] at e1 e2
  have hq : ∀ y : S35, (qRow (q.set i y)).length = q.length * 3 := fun y => by rw [qRow_length, List.length_set]
  constructor
  · have hn := hq ⟨(qAt q i).f0, v, (qAt q i).f2⟩
    rw [hr] at hn
    rw [e1, hr]
    have e3 := List.take_left' (l₂ := cur.drop (q.length * 3)) hn
    simp only [List.append_assoc, List.cons_append] at e3
    exact e3
  · have hn := hq ⟨(qAt q i).f0, (qAt q i).f1, v⟩
    rw [hr] at hn
    rw [e2, hr]
    have e3 := List.take_left' (l₂ := cur.drop (q.length * 3)) hn
    simp only [List.append_assoc, List.cons_append] at e3
    exact e3
def addJ (j : Jn) (e : S27) : Jn × Int :=
  if rightJ j.l j.q j.g = false ∨ strangeB e = true then (zJn, 1)
  else if placeB j.q e.f1 = true then
    if (qAt j.q (placeI j.q e.f1)).f1 = 0 then (zJn, 180) else (⟨j.l ++ [e], lessAt j.q (placeI j.q e.f1), j.g⟩, 0)
  else if usedZ j.l j.q = 120 then (zJn, 180) else (⟨j.l ++ [e], j.q, j.g⟩, 0)
set_option maxHeartbeats 8000000 in
set_option maxRecDepth 100000 in
theorem add_calls (A0 : Option Addr) (c0 : Nat) (A1 : Option Addr) (c1 : Nat) (j : Jn) (e : S27) (w : World) (h0 : j.l.length ≤ c0 ∧ Kd.C k27 w A0 j.l.length j.l) (h1 : j.q.length ≤ c1 ∧ Kd.C k35 w A1 j.q.length j.q) (hT : Tabs w) (hj : Jok j) (he : e.f3.size ≤ 1000000000) :
    Calls Tryd.prog 10 #[.agg #[.slice A0 j.l.length c0, .slice A1 j.q.length c1, .int .i64 j.g], .agg #[.int .i64 e.f0, .int .i64 e.f1, .int .i64 e.f2, .string e.f3, .int .i64 e.f4, .int .i64 e.f5]] w fun x w' => ∃ v, x = .returned (.tuple #[v, .int .i64 (addJ j e).2]) ∧ JR w' w.heap.size v (addJ j e).1.l (addJ j e).1.q (addJ j e).1.g ∧ Below w.heap.size w w' := by
  obtain ⟨R, hR⟩ : ∃ R, R = addJ j e := ⟨_, rfl⟩
  rw [← hR]
  have HRR := Lib.hid hR
  have HA := Lib.hid h0
  have HB := Lib.hid h1
  have HT := Lib.hid hT
  have HJ := Lib.hid hj
  have HE := Lib.hid he
  clear hR h0 h1 hT hj he
  go_enter Tryd.func10, Tryd.ntmps10
  go_wp2_with (go_at_call 30; refine (fun (h : Hid _) => h.out) ?_)
  refine Lib.hid ?_
  have HX0 := Lib.hid (show (((w.alloc (.cells #[.slice A0 j.l.length c0, .slice A1 j.q.length c1, .int .i64 j.g] 25)).alloc (.cells #[.int .i64 e.f0, .int .i64 e.f1, .int .i64 e.f2, .string e.f3, .int .i64 e.f4, .int .i64 e.f5] 27)).alloc (.cells #[.slice none 0 0, .slice none 0 0, .int .i64 0] 25)).heap[w.heap.size]? = some (.cells #[.slice A0 j.l.length c0, .slice A1 j.q.length c1, .int .i64 j.g] 25 (0, 0)) from (Below.heap_alloc _ _ _ (by simp; omega)).trans ((Below.heap_alloc _ _ _ (by simp)).trans (heap_alloc_new _ _)))
  have HX1 := Lib.hid (show (((w.alloc (.cells #[.slice A0 j.l.length c0, .slice A1 j.q.length c1, .int .i64 j.g] 25)).alloc (.cells #[.int .i64 e.f0, .int .i64 e.f1, .int .i64 e.f2, .string e.f3, .int .i64 e.f4, .int .i64 e.f5] 27)).alloc (.cells #[.slice none 0 0, .slice none 0 0, .int .i64 0] 25)).heap[w.heap.size + 1]? = some (.cells #[.int .i64 e.f0, .int .i64 e.f1, .int .i64 e.f2, .string e.f3, .int .i64 e.f4, .int .i64 e.f5] 27 (0, 0)) from by
    have := heap_alloc_new (w.alloc (.cells #[.slice A0 j.l.length c0, .slice A1 j.q.length c1, .int .i64 j.g] 25)) (.cells #[.int .i64 e.f0, .int .i64 e.f1, .int .i64 e.f2, .string e.f3, .int .i64 e.f4, .int .i64 e.f5] 27)
    rw [show (w.alloc (.cells #[.slice A0 j.l.length c0, .slice A1 j.q.length c1, .int .i64 j.g] 25)).heap.size = w.heap.size + 1 by simp] at this
    exact (Below.heap_alloc _ _ _ (by simp)).trans this)
  have HX2 := Lib.hid (show (((w.alloc (.cells #[.slice A0 j.l.length c0, .slice A1 j.q.length c1, .int .i64 j.g] 25)).alloc (.cells #[.int .i64 e.f0, .int .i64 e.f1, .int .i64 e.f2, .string e.f3, .int .i64 e.f4, .int .i64 e.f5] 27)).alloc (.cells #[.slice none 0 0, .slice none 0 0, .int .i64 0] 25)).heap[w.heap.size + 2]? = some (.cells #[.slice none 0 0, .slice none 0 0, .int .i64 0] 25 (0, 0)) from by
    have := heap_alloc_new ((w.alloc (.cells #[.slice A0 j.l.length c0, .slice A1 j.q.length c1, .int .i64 j.g] 25)).alloc (.cells #[.int .i64 e.f0, .int .i64 e.f1, .int .i64 e.f2, .string e.f3, .int .i64 e.f4, .int .i64 e.f5] 27)) (.cells #[.slice none 0 0, .slice none 0 0, .int .i64 0] 25)
    rw [show ((w.alloc (.cells #[.slice A0 j.l.length c0, .slice A1 j.q.length c1, .int .i64 j.g] 25)).alloc (.cells #[.int .i64 e.f0, .int .i64 e.f1, .int .i64 e.f2, .string e.f3, .int .i64 e.f4, .int .i64 e.f5] 27)).heap.size = w.heap.size + 2 by simp] at this
    exact this)
  have HO0 := Lib.hid ((((Only.refl [] w).alloc (.cells #[.slice A0 j.l.length c0, .slice A1 j.q.length c1, .int .i64 j.g] 25)).alloc (.cells #[.int .i64 e.f0, .int .i64 e.f1, .int .i64 e.f2, .string e.f3, .int .i64 e.f4, .int .i64 e.f5] 27)).alloc (.cells #[.slice none 0 0, .slice none 0 0, .int .i64 0] 25))
  generalize ((w.alloc (.cells #[.slice A0 j.l.length c0, .slice A1 j.q.length c1, .int .i64 j.g] 25)).alloc (.cells #[.int .i64 e.f0, .int .i64 e.f1, .int .i64 e.f2, .string e.f3, .int .i64 e.f4, .int .i64 e.f5] 27)).alloc (.cells #[.slice none 0 0, .slice none 0 0, .int .i64 0] 25) = W0 at *
  generalize hb : w.heap.size = wb at *
  have HBB := Lib.hid hb
  clear hb
  refine (own_any A0 c0 A1 c1 j.l j.q j.g W0 (Kd.C_below HA.out.2 HO0.out.nil_below) (Kd.C_below HB.out.2 HO0.out.nil_below) HJ.out.2.1 HJ.out.2.2).mono ?_
  rintro x W3 ⟨bp, B0, d0, B1, d1, rfl, hbk, ho3⟩
  have HBK := Lib.hid hbk
  have HBP := Lib.hid (show wb + 2 < bp from Nat.lt_of_lt_of_le (heap_lt HX2.out) hbk.hb)
  have HW0S := Lib.hid (show wb + 2 < W0.heap.size from heap_lt HX2.out)
  have HY1 := Lib.hid (ho3.heap HX1.out (by simp))
  have HY2 := Lib.hid (ho3.heap HX2.out (by simp))
  have HW3 := Lib.hid (HO0.out.trans ho3)
  clear hbk ho3 HX0 HX1 HX2 HO0
  have HRI := Lib.hid (right_any bp d0 B0 j.l B1 d1 j.q j.g W3 HBK.out.row HBK.out.reads.1.2 HBK.out.reads.2.2 HJ.out.1 (HT.out.below HW3.out.nil_below) (by have := HJ.out.2.1; omega) (by have := HJ.out.2.2; omega))
  unfold addJ at HRR
  go_wp2_with (go_at_call 31; refine HRI.out.mono ?_; rintro x W4 ⟨rfl, hb4⟩; refine (fun (h : Hid _) => h.out) ?_)
  refine Lib.hid ?_
  have HBK4 := Lib.hid (HBK.out.below hb4)
  have HZ1 := Lib.hid ((Only.of_below hb4).heap HY1.out (by simp))
  have HZ2 := Lib.hid ((Only.of_below hb4).heap HY2.out (by simp))
  have HW4 := Lib.hid (HW3.out.trans (Only.of_below hb4))
  clear hb4 HBK HY1 HY2 HW3 HRI
  cases hr : rightJ j.l j.q j.g
  · have HR0 := Lib.hid (HRR.out.trans (if_pos (.inl hr)))
    clear hr HRR
    go_wp2_with (first
      | (with_reducible refine wpList_store_new rfl 25 (.tmp 4) (.tmp 19) rfl (wb + 2) #[.slice none 0 0, .slice none 0 0, .int .i64 0] rfl rfl 25 _ HZ2.out (size3_25 _ _ _) rfl (by simp [Value.oneCell']) ?_; intro w9 hh9 ho9))
    refine bodyPost_ret (results_row rfl _ _ (wb + 2) _ _ _ _ rfl hh9.out Tryd.underlying25 rfl (size3_25 _ _ _)) rfl ?_
    rw [HR0.out]
    exact ⟨_, rfl, jr_zero _ _, (((HW4.out.mono (T := [wb + 2]) (by simp)).trans ho9).pop (by rw [HBB.out]; omega)).nil_below⟩
  obtain ⟨hL, hBt, hRi, hG, hU, hE9, hOd⟩ := right_parts hr
  have hU0 := usedZ_ge j.l j.q hL
  have hrr := HRR.out
  rw [hr] at hrr
  have HRR := Lib.hid hrr
  clear hrr
  have HST := Lib.hid (strange_any (.pointer (some ⟨bp, 0, none⟩)) e W4 HE.out (HT.out.below HW4.out.nil_below))
  have y0 : W4.cell? ⟨wb + 1, 0, none⟩ = some (.int .i64 e.f0) := (cell_of_row W4 (wb + 1) 0 _ _ _ HZ1.out).trans rfl
  have y1 : W4.cell? ⟨wb + 1, 1, none⟩ = some (.int .i64 e.f1) := (cell_of_row W4 (wb + 1) 1 _ _ _ HZ1.out).trans rfl
  have y2 : W4.cell? ⟨wb + 1, 2, none⟩ = some (.int .i64 e.f2) := (cell_of_row W4 (wb + 1) 2 _ _ _ HZ1.out).trans rfl
  have y3 : W4.cell? ⟨wb + 1, 3, none⟩ = some (.string e.f3) := (cell_of_row W4 (wb + 1) 3 _ _ _ HZ1.out).trans rfl
  have y4 : W4.cell? ⟨wb + 1, 4, none⟩ = some (.int .i64 e.f4) := (cell_of_row W4 (wb + 1) 4 _ _ _ HZ1.out).trans rfl
  have y5 : W4.cell? ⟨wb + 1, 5, none⟩ = some (.int .i64 e.f5) := (cell_of_row W4 (wb + 1) 5 _ _ _ HZ1.out).trans rfl
  go_wp2_with (go_at_call 32; refine HST.out.mono ?_; rintro x W5 ⟨rfl, hb5⟩; refine (fun (h : Hid _) => h.out) ?_)
  refine Lib.hid ?_
  have HBK5 := Lib.hid (HBK4.out.below hb5)
  have HY1 := Lib.hid ((Only.of_below hb5).heap HZ1.out (by simp))
  have HY2 := Lib.hid ((Only.of_below hb5).heap HZ2.out (by simp))
  have HW5 := Lib.hid (HW4.out.trans (Only.of_below hb5))
  clear hb5 HBK4 HZ1 HZ2 HW4 HST y0 y1 y2 y3 y4 y5
  cases hst : strangeB e
  rotate_left
  · have HR0 := Lib.hid (HRR.out.trans (if_pos (.inr hst)))
    clear hst HRR
    go_wp2_with (first
      | (with_reducible refine wpList_store_new rfl 25 (.tmp 4) (.tmp 19) rfl (wb + 2) #[.slice none 0 0, .slice none 0 0, .int .i64 0] rfl rfl 25 _ HY2.out (size3_25 _ _ _) rfl (by simp [Value.oneCell']) ?_; intro w9 hh9 ho9))
    refine bodyPost_ret (results_row rfl _ _ (wb + 2) _ _ _ _ rfl hh9.out Tryd.underlying25 rfl (size3_25 _ _ _)) rfl ?_
    rw [HR0.out]
    exact ⟨_, rfl, jr_zero _ _, (((HW5.out.mono (T := [wb + 2]) (by simp)).trans ho9).pop (by rw [HBB.out]; omega)).nil_below⟩
  have HRR := Lib.hid (HRR.out.trans (if_neg (by rw [hst]; simp)))
  have hbb : 0 ≤ e.f1 ∧ e.f1 ≤ 1099511627776 := by
    unfold strangeB at hst
    simp only [Bool.or_eq_false_iff, Bool.not_eq_false'] at hst
    have := hst.1.1.2
    unfold wi at this
    simp only [Bool.and_eq_true, decide_eq_true_eq] at this
    exact this
  obtain ⟨hb0, hb9⟩ := hbb
  clear hst
  have HPL := Lib.hid (place_any bp j.l.length d0 B0 B1 d1 j.q j.g e.f1 W5 HBK5.out.row HBK5.out.reads.2.2 (by have := HJ.out.2.2; omega) hRi hBt hb0 hb9)
  have y1 : W5.cell? ⟨wb + 1, 1, none⟩ = some (.int .i64 e.f1) := (cell_of_row W5 (wb + 1) 1 _ _ _ HY1.out).trans rfl
  go_wp2_with (go_at_call 33; refine HPL.out.mono ?_; rintro x W6 ⟨rfl, hb6⟩; refine (fun (h : Hid _) => h.out) ?_)
  refine Lib.hid ?_
  clear y1
  have HBK6 := Lib.hid (HBK5.out.below hb6)
  have HZ1 := Lib.hid ((Only.of_below hb6).heap HY1.out (by simp))
  have HZ2 := Lib.hid ((Only.of_below hb6).heap HY2.out (by simp))
  have HW6 := Lib.hid (HW5.out.trans (Only.of_below hb6))
  clear hb6 HBK5 HY1 HY2 HW5 HPL
  have HPI := Lib.hid (placeI_le j.q e.f1)
  cases hpb : placeB j.q e.f1
  · have HRR := Lib.hid (HRR.out.trans (if_neg (by rw [hpb]; simp)))
    clear hpb
    have HUS := Lib.hid (used_any bp j.l.length d0 B0 B1 d1 j.q j.g W6 HBK6.out.row HBK6.out.reads.2.2 hL (by have := HJ.out.2.1; omega) (by have := HJ.out.2.2; omega))
    unfold usedZ at hU hU0 HRR
    generalize usedFrom (mn (j.l.length : Int) 121) j.q = uz at *
    go_wp2_with (go_at_call 34; refine HUS.out.mono ?_; rintro x W7 ⟨rfl, hb7⟩; refine (fun (h : Hid _) => h.out) ?_)
    refine Lib.hid ?_
    have HBK7 := Lib.hid (HBK6.out.below hb7)
    have HY1 := Lib.hid ((Only.of_below hb7).heap HZ1.out (by simp))
    have HY2 := Lib.hid ((Only.of_below hb7).heap HZ2.out (by simp))
    have HW7 := Lib.hid (HW6.out.trans (Only.of_below hb7))
    clear hb7 HBK6 HZ1 HZ2 HW6 HUS
    by_cases hful : uz = 120
    · have HR0 := Lib.hid (HRR.out.trans (if_pos hful))
      clear HRR
      subst hful
      go_wp2_with (first
        | (with_reducible refine wpList_store_new rfl 25 (.tmp 4) (.tmp 49) rfl (wb + 2) #[.slice none 0 0, .slice none 0 0, .int .i64 0] rfl rfl 25 _ HY2.out (size3_25 _ _ _) rfl (by simp [Value.oneCell']) ?_; intro w9 hh9 ho9))
      refine bodyPost_ret (results_row rfl _ _ (wb + 2) _ _ _ _ rfl hh9.out Tryd.underlying25 rfl (size3_25 _ _ _)) rfl ?_
      rw [HR0.out]
      exact ⟨_, rfl, jr_zero _ _, (((HW7.out.mono (T := [wb + 2]) (by simp)).trans ho9).pop (by rw [HBB.out]; omega)).nil_below⟩
    have HRR := Lib.hid (HRR.out.trans (if_neg hful))
    have hfu2 : (uz == 120) = false := by rw [beq_eq_false_iff_ne]; exact hful
    go_wp2
    refine L.grow_start (Value.slice B0 j.l.length d0).ownBlock.toList 12 ((0, true, false) :: (1, true, false) :: (2, true, false) :: (3, true, false) :: (4, true, false) :: (5, true, false) :: (6, true, true) :: (7, false, true) :: (8, false, true) :: (9, true, true) :: (10, true, true) :: (11, true, true) :: (12, false, true) :: []) (by kernel_rfl) (([], [6], some 63) :: ([], [6], some 64) :: ([1], [64], some 65) :: ([2], [65], some 66) :: ([3], [66], some 67) :: ([4], [67], some 68) :: ([], [3], some 69) :: ([6], [69], some 70) :: ([5, 7], [68, 70], some 71) :: ([0, 0, 1, 2, 3, 4, 5, 6, 7, 8], [63], some 72) :: ([9, 0, 1, 2, 3, 4, 5, 6, 7, 8], [72], some 73) :: ([10, 0, 1, 2, 3, 4, 5, 6, 7, 8], [73], some 74) :: ([11, 8, 8, 0, 1, 2, 3, 4, 5, 6, 7, 8], [74, 71], none) :: []) (by kernel_rfl) (by kernel_rfl) (n := 13) rfl (by kernel_rfl) (fun _ _ _ _ _ h => h) (fun wg hog => ?_)
    refine L.growe_start (N := 79) (by rfl) ?_
    have HBG := Lib.hid (HBK7.out.below hog.nil_below)
    have HE1 := Lib.hid (hog.heap HY1.out (by simp))
    have HE2 := Lib.hid (hog.heap HY2.out (by simp))
    have HWG := Lib.hid (HW7.out.trans hog)
    have hbpn : bp ∉ (Value.slice B0 j.l.length d0).ownBlock.toList := fun h => HBG.out.nl (by simpa using h)
    have hypn : wb + 1 ∉ (Value.slice B0 j.l.length d0).ownBlock.toList := fun h => by
      have := (ownsRow_lt HBG.out.ol (show (Value.slice B0 j.l.length d0).ownBlock = some (wb + 1) by simpa using h)).1; have := HW0S.out; omega
    have HHN := Lib.hid hypn
    have HBN := Lib.hid hbpn
    clear hypn hbpn hog
    have e0 : ∀ w', Only (Value.slice B0 j.l.length d0).ownBlock.toList wg w' → w'.cell? ⟨bp, 0, none⟩ = some (.slice B0 j.l.length d0) := fun w' k => (cell_of_row w' bp 0 _ _ _ (k.heap HBG.out.row HBN.out)).trans rfl
    have y0 : ∀ w', Only (Value.slice B0 j.l.length d0).ownBlock.toList wg w' → w'.cell? ⟨wb + 1, 0, none⟩ = some (.int .i64 e.f0) := fun w' k => (cell_of_row w' (wb + 1) 0 _ _ _ (k.heap HE1.out HHN.out)).trans rfl
    have y1 : ∀ w', Only (Value.slice B0 j.l.length d0).ownBlock.toList wg w' → w'.cell? ⟨wb + 1, 1, none⟩ = some (.int .i64 e.f1) := fun w' k => (cell_of_row w' (wb + 1) 1 _ _ _ (k.heap HE1.out HHN.out)).trans rfl
    have y2 : ∀ w', Only (Value.slice B0 j.l.length d0).ownBlock.toList wg w' → w'.cell? ⟨wb + 1, 2, none⟩ = some (.int .i64 e.f2) := fun w' k => (cell_of_row w' (wb + 1) 2 _ _ _ (k.heap HE1.out HHN.out)).trans rfl
    have y3 : ∀ w', Only (Value.slice B0 j.l.length d0).ownBlock.toList wg w' → w'.cell? ⟨wb + 1, 3, none⟩ = some (.string e.f3) := fun w' k => (cell_of_row w' (wb + 1) 3 _ _ _ (k.heap HE1.out HHN.out)).trans rfl
    have y4 : ∀ w', Only (Value.slice B0 j.l.length d0).ownBlock.toList wg w' → w'.cell? ⟨wb + 1, 4, none⟩ = some (.int .i64 e.f4) := fun w' k => (cell_of_row w' (wb + 1) 4 _ _ _ (k.heap HE1.out HHN.out)).trans rfl
    have y5 : ∀ w', Only (Value.slice B0 j.l.length d0).ownBlock.toList wg w' → w'.cell? ⟨wb + 1, 5, none⟩ = some (.int .i64 e.f5) := fun w' k => (cell_of_row w' (wb + 1) 5 _ _ _ (k.heap HE1.out HHN.out)).trans rfl
    iterate 7 (first | (refine L.ge_off rfl rfl rfl (by rfl) ?_) | (refine L.ge_move rfl rfl rfl (by rfl) rfl (by simp [L.evE, L.lk, Act.eval]; rfl) ?_) | (refine L.ge_pick rfl rfl rfl (by rfl) rfl (by simp [L.evE, L.lk, Act.eval]; rfl) (by simp [L.evE, L.lk, Act.eval]; rfl) ?_) | (refine L.ge_val rfl rfl rfl (by rfl) (by intro w' hw'; simp [execOp, L.evE, L.lk, Act.eval]; go_simp; rfl) ?_))
    refine ge_one rfl rfl rfl (by rfl) _ (.tmp 69) rfl 27 Tryd.underlying22 (.agg #[.int .i64 0, .int .i64 0, .int .i64 0, .string ⟨#[]⟩, .int .i64 0, .int .i64 0]) 6 56 info27 (by omega) (by omega) #[.int .i64 e.f0, .int .i64 e.f1, .int .i64 e.f2, .string e.f3, .int .i64 e.f4, .int .i64 e.f5] (by have h := fill_one6 (.agg #[.int .i64 0, .int .i64 0, .int .i64 0, .string ⟨#[]⟩, .int .i64 0, .int .i64 0]) (.int .i64 e.f0) (.int .i64 e.f1) (.int .i64 e.f2) (.string e.f3) (.int .i64 e.f4) (.int .i64 e.f5) rfl rfl; simpa [L.evE, L.lk, Act.eval] using h) ?_
    have HPN := Lib.hid (heap_alloc_new wg (.cells #[.int .i64 e.f0, .int .i64 e.f1, .int .i64 e.f2, .string e.f3, .int .i64 e.f4, .int .i64 e.f5] 27))
    have hal : Only [] wg (wg.alloc (.cells #[.int .i64 e.f0, .int .i64 e.f1, .int .i64 e.f2, .string e.f3, .int .i64 e.f4, .int .i64 e.f5] 27)) := (Only.refl [] wg).alloc _
    have HOW := Lib.hid (ownsRow_only HBG.out.ol hal (by simp))
    have HAL := Lib.hid hal
    have HGB := Lib.hid (show W0.heap.size ≤ (wg.alloc (.cells #[.int .i64 e.f0, .int .i64 e.f1, .int .i64 e.f2, .string e.f3, .int .i64 e.f4, .int .i64 e.f5] 27)).heap.size from Nat.le_trans HBG.out.hb (Nat.le_trans (Nat.le_of_lt (heap_lt HBG.out.row)) hal.size))
    clear hal e0 y0 y1 y2 y3 y4 y5
    refine ge_append_row rfl rfl rfl (by rfl) (.tmp 68) (.tmp 70) 22 rfl W0.heap.size 27 6 56 (.agg #[.int .i64 0, .int .i64 0, .int .i64 0, .string ⟨#[]⟩, .int .i64 0, .int .i64 0]) Tryd.underlying22 info27 rfl (by omega) (.slice B0 j.l.length d0) j.l.length (eRow j.l) (by simp [L.evE, L.lk, Act.eval]) HOW.out (some ⟨wg.heap.size, 0, none⟩) 1 1 [.int .i64 e.f0, .int .i64 e.f1, .int .i64 e.f2, .string e.f3, .int .i64 e.f4, .int .i64 e.f5] (by simp [L.evE, L.lk, Act.eval]) rfl (fun _ => ⟨_, rfl, cellsAt_row HPN.out⟩) (by simp [Value.oneCell']) (by have := HJ.out.2.1; unfold maxLen; omega) (by have := HJ.out.2.1; omega) HGB.out ?_
    intro A8 c8 w8 hb8 ho8 hk8
    refine ⟨ho8, ?_⟩
    have HB8 := Lib.hid (show w8.ownsRow W0.heap.size 27 6 (.slice A8 (j.l.length + 1) c8) (j.l.length + 1) (eRow (j.l ++ [e])) by rw [eRow_append]; exact hb8)
    have HO8 := Lib.hid (HAL.out.mono (T := (Value.slice B0 j.l.length d0).ownBlock.toList) (by simp) |>.trans ho8)
    have HR8 := Lib.hid (HO8.out.heap HBG.out.row HBN.out)
    have HK8 := Lib.hid (show ∀ k, (Value.slice A8 (j.l.length + 1) c8).ownBlock = some k → (Value.slice B0 j.l.length d0).ownBlock = some k ∨ wg.heap.size ≤ k from fun k hk => (hk8 k hk).imp id (fun h => Nat.le_trans HAL.out.size h))
    clear hb8 ho8 hk8 HPN HOW HAL
    iterate 3 (first | (refine L.ge_off rfl rfl rfl (by rfl) ?_) | (refine L.ge_move rfl rfl rfl (by rfl) rfl (by simp [L.evE, L.lk, Act.eval]; rfl) ?_) | (refine L.ge_pick rfl rfl rfl (by rfl) rfl (by simp [L.evE, L.lk, Act.eval]; rfl) (by simp [L.evE, L.lk, Act.eval]; rfl) ?_) | (refine L.ge_val rfl rfl rfl (by rfl) (by intro w' hw'; simp [execOp, L.evE, L.lk, Act.eval]; go_simp; rfl) ?_))
    refine ge_last_in rfl rfl (by rfl) _ (.tmp 74) (.tmp 71) rfl bp 0 (.slice A8 (j.l.length + 1) c8) (by simp [L.evE, L.lk, Act.eval]) (by simp [L.evE, L.lk, Act.eval]) [.slice A8 (j.l.length + 1) c8] rfl 56 [.slice B0 j.l.length d0, .slice B1 (j.q).length d1, .int .i64 j.g] HR8.out (by kernel_rfl) (by simp) (by simp [Value.oneCell']) ?_
    intro W9 hr9 ho9
    simp only [L.puts, Act.put, goInt, List.setIfInBounds_toArray, List.set_cons_zero, List.set_cons_succ]
    have HN8 := Lib.hid (show (Value.slice A8 (j.l.length + 1) c8).ownBlock ≠ some bp from fun h => by
      rcases HK8.out _ h with h | h
      · exact HBG.out.nl h
      · have := heap_lt HBG.out.row; omega)
    have HN9 := Lib.hid (show (Value.slice A8 (j.l.length + 1) c8).ownBlock ≠ some (wb + 2) from fun h => by
      rcases HK8.out _ h with h | h
      · have := (ownsRow_lt HBG.out.ol h).1; have := HW0S.out; omega
      · have := heap_lt HE2.out; omega)
    have HN7 := Lib.hid (show (Value.slice B1 (j.q).length d1).ownBlock ≠ some (wb + 2) from fun h => by have := (ownsRow_lt HBG.out.oq h).1; have := HW0S.out; omega)
    have HRR9 := Lib.hid (show W9.heap[bp]? = some (.cells #[.slice A8 (j.l.length + 1) c8, .slice B1 (j.q).length d1, .int .i64 j.g] 56 (0, 0)) from hr9.out)
    have HL9 := Lib.hid (ownsRow_only HB8.out ho9.out (fun k hk h => by simp at h; subst h; exact HN8.out hk))
    have HQ9 := Lib.hid (ownsRow_only (ownsRow_only HBG.out.oq HO8.out (fun k hk h => HBG.out.nlq k (by simpa using h) hk)) ho9.out (fun k hk h => by simp at h; subst h; exact HBG.out.nq hk))
    have HY9 := Lib.hid (ho9.out.heap (HO8.out.heap HE2.out (fun h => by have := (ownsRow_lt HBG.out.ol (show (Value.slice B0 j.l.length d0).ownBlock = some (wb + 2) by simpa using h)).1; have := HW0S.out; omega)) (by simp; have := HBP.out; omega))
    have HW9 := Lib.hid ((HWG.out.then HO8.out (fun k hk => .inr (by have := (ownsRow_lt HBG.out.ol (show (Value.slice B0 j.l.length d0).ownBlock = some k by simpa using hk)).1; have := HW0S.out; have := HBB.out; omega))).then ho9.out (fun k hk => .inr (by simp at hk; subst hk; have := HBP.out; have := HBB.out; omega)))
    clear HBG HE1 HE2 HWG HHN HBN HB8 HO8 HR8 HK8 HN8 hr9 ho9
    go_wp2_with (first
      | (with_reducible refine wpList_load_at rfl 25 (.tmp 77) rfl ⟨bp, 0, none⟩ rfl _ _ (cellsAt_row HRR9.out) Tryd.underlying25 rfl (by kernel_rfl) ?_)
      | (with_reducible refine wpList_store_new rfl 25 (.tmp 4) (.tmp 78) rfl (wb + 2) #[.slice A8 (j.l.length + 1) c8, .slice B1 (j.q).length d1, .int .i64 j.g] rfl rfl 25 _ HY9.out (size3_25 _ _ _) rfl (by simp [Value.oneCell']) ?_; intro w9 hh9 ho9))
    refine bodyPost_ret (results_row rfl _ _ (wb + 2) _ _ _ _ rfl hh9.out Tryd.underlying25 rfl (size3_25 _ _ _)) rfl ?_
    rw [HRR.out]
    have hz9 := ((HW9.out.mono (T := [wb + 2]) (by simp)).trans ho9).pop (show w.heap.size ≤ wb + 2 by rw [HBB.out]; omega)
    refine ⟨_, rfl, ?_, hz9.nil_below⟩
    have hll : (j.l ++ [e]).length = j.l.length + 1 := by simp
    have hl9 := ownsRow_only HL9.out ho9 (fun k hk h => by simp at h; subst h; exact HN9.out hk)
    have hq9 := ownsRow_only HQ9.out ho9 (fun k hk h => by simp at h; subst h; exact HN7.out hk)
    rw [← hll] at hl9
    show JR w9 _ _ (j.l ++ [e]) (j.q) j.g
    rw [← hll]
    exact ⟨A8, c8, B1, d1, rfl, ownsRow_mono hl9 (by have := HW0S.out; have := HBB.out; omega), ownsRow_mono hq9 (by have := HW0S.out; have := HBB.out; omega)⟩
  · have hlt := placeB_lt hpb
    have HRR := Lib.hid (HRR.out.trans (if_pos hpb))
    clear hpb
    obtain ⟨i, hi⟩ : ∃ i, i = placeI j.q e.f1 := ⟨_, rfl⟩
    rw [← hi] at HRR HPI hlt ⊢
    clear hi
    have hqb := HJ.out.2.2
    have hi0 : (0 : Int) ≤ i := by omega
    have hilt : (i : Int) < j.q.length := by omega
    rcases HBK6.out.oq.2 with ⟨_, hz⟩ | ⟨gq, cap, cur0, e0, hgb, hg0, hnc, hcm, hcs, htk⟩
    · omega
    injection e0 with e0 e1 e2
    subst e0 e2
    obtain ⟨cur, rfl⟩ : ∃ cur : List Value, cur0 = cur.toArray := ⟨cur0.toList, by simp⟩
    have htk2 : cur.take (j.q.length * 3) = qRow j.q := by simpa using htk
    have hcl : cur.length = d1 * 3 := by simpa using hcs
    have hsp := row_split cur j.q i hlt htk2
    have hset := fun v => (row_set cur j.q i hlt htk2 v).1
    have hrl : (qRow (j.q.take i)).length = i * 3 := by rw [qRow_length, List.length_take, Nat.min_eq_left (by omega)]
    have hc1 : W6.cell? ⟨gq, i * 3 + 1, none⟩ = some (.int .i64 (qAt j.q i).f1) := by
      rw [cell_of_row W6 gq _ _ _ _ hg0, List.getElem?_toArray, hsp, ← hrl, List.getElem?_append_right (by omega)]
      simp
    have hlf : 0 ≤ (qAt j.q i).f1 ∧ (qAt j.q i).f1 ≤ 40 := by
      have e : qAt j.q i = j.q[i] := by unfold qAt; simp [List.getD_eq_getElem?_getD, List.getElem?_eq_getElem hlt]
      rw [e]
      exact hL _ (List.getElem_mem hlt)
    have HG := Lib.hid hg0
    have HCL := Lib.hid hcl
    have HSET := Lib.hid hset
    have HQB := Lib.hid hgb
    have HDM := Lib.hid hcm
    have HNC := Lib.hid hnc
    have HLF := Lib.hid (show lessAt j.q i = j.q.set i ⟨(qAt j.q i).f0, (qAt j.q i).f1 - 1, (qAt j.q i).f2⟩ from rfl)
    obtain ⟨hf0, hf9⟩ := hlf
    clear hsp hset hrl hcs htk htk2 hcl hg0 hgb hcm hnc e1
    generalize (qAt j.q i).f1 = lf at *
    have a1 : W6.cell? ⟨bp, 1, none⟩ = some (.slice (some ⟨gq, 0, none⟩) j.q.length d1) := (cell_of_row W6 bp 1 _ _ _ HBK6.out.row).trans rfl
    by_cases hful : lf = 0
    · have HR0 := Lib.hid (HRR.out.trans (if_pos hful))
      clear HRR
      subst hful
      go_wp2_with (first
        | (with_reducible refine wpList_store_new rfl 25 (.tmp 4) (.tmp 49) rfl (wb + 2) #[.slice none 0 0, .slice none 0 0, .int .i64 0] rfl rfl 25 _ HZ2.out (size3_25 _ _ _) rfl (by simp [Value.oneCell']) ?_; intro w9 hh9 ho9))
      refine bodyPost_ret (results_row rfl _ _ (wb + 2) _ _ _ _ rfl hh9.out Tryd.underlying25 rfl (size3_25 _ _ _)) rfl ?_
      rw [HR0.out]
      exact ⟨_, rfl, jr_zero _ _, (((HW6.out.mono (T := [wb + 2]) (by simp)).trans ho9).pop (by rw [HBB.out]; omega)).nil_below⟩
    have HRR := Lib.hid (HRR.out.trans (if_neg hful))
    have hfu2 : (lf == 0) = false := by rw [beq_eq_false_iff_ne]; exact hful
    go_wp2_with (first
      | (with_reducible refine wpList_store_in rfl 3 (.tmp 62) (.tmp 60) rfl gq (i * 3 + 1) _ rfl rfl [.int .i64 (lf - 1)] rfl 35 cur HG.out (by kernel_rfl) (by rw [HCL.out]; have := HNC.out; simp; omega) (by simp [Value.oneCell']) ?_; intro W7 hr7 ho7; refine (fun (h : Hid _) => h.out) ?_))
    refine Lib.hid ?_
    have hll : (lessAt j.q i).length = j.q.length := by unfold lessAt; rw [List.length_set]
    have hbp7 : bp ∉ [gq] := fun h => HBK6.out.nq (by simp at h; rw [h]; rfl)
    have hbk7 : Bk W7 W0.heap.size bp B0 d0 (some ⟨gq, 0, none⟩) d1 j.l (lessAt j.q i) j.g := by
      refine ⟨?_, HBK6.out.hb, ?_, ?_, HBK6.out.nl, ?_, ?_⟩
      · rw [hll]; exact ho7.out.heap HBK6.out.row hbp7
      · exact ownsRow_only HBK6.out.ol ho7.out (fun k hk h => by simp at h; subst h; exact HBK6.out.nlq _ hk rfl)
      · rw [hll]
        refine ⟨by rw [qRow_length, hll], .inr ⟨gq, d1, _, rfl, HQB.out, hr7.out, HNC.out, HDM.out, ?_, ?_⟩⟩
        · rw [List.size_toArray, length_splice _ _ _ (by rw [HCL.out]; have := HNC.out; simp; omega)]; exact HCL.out
        · show (splice cur (i * 3 + 1) [.int .i64 (lf - 1)]).take (j.q.length * 3) = _
          rw [HSET.out (lf - 1), HLF.out]
      · exact HBK6.out.nq
      · exact HBK6.out.nlq
    have HBK7 := Lib.hid hbk7
    have HY1 := Lib.hid (ho7.out.heap HZ1.out (by have := HQB.out; have := HW0S.out; simp; omega))
    have HY2 := Lib.hid (ho7.out.heap HZ2.out (by have := HQB.out; have := HW0S.out; simp; omega))
    have HW7 := Lib.hid (HW6.out.then ho7.out (fun k hk => .inr (by simp at hk; subst hk; have := HQB.out; have := HW0S.out; have := HBB.out; omega)))
    clear hbk7 hbp7 hll a1 hr7 ho7 HBK6 HZ1 HZ2 HW6 HG HCL HSET HLF hc1
    go_wp2
    refine L.grow_start (Value.slice B0 j.l.length d0).ownBlock.toList 12 ((0, true, false) :: (1, true, false) :: (2, true, false) :: (3, true, false) :: (4, true, false) :: (5, true, false) :: (6, true, true) :: (7, false, true) :: (8, false, true) :: (9, true, true) :: (10, true, true) :: (11, true, true) :: (12, false, true) :: []) (by kernel_rfl) (([], [6], some 63) :: ([], [6], some 64) :: ([1], [64], some 65) :: ([2], [65], some 66) :: ([3], [66], some 67) :: ([4], [67], some 68) :: ([], [3], some 69) :: ([6], [69], some 70) :: ([5, 7], [68, 70], some 71) :: ([0, 0, 1, 2, 3, 4, 5, 6, 7, 8], [63], some 72) :: ([9, 0, 1, 2, 3, 4, 5, 6, 7, 8], [72], some 73) :: ([10, 0, 1, 2, 3, 4, 5, 6, 7, 8], [73], some 74) :: ([11, 8, 8, 0, 1, 2, 3, 4, 5, 6, 7, 8], [74, 71], none) :: []) (by kernel_rfl) (by kernel_rfl) (n := 13) rfl (by kernel_rfl) (fun _ _ _ _ _ h => h) (fun wg hog => ?_)
    refine L.growe_start (N := 79) (by rfl) ?_
    have HBG := Lib.hid (HBK7.out.below hog.nil_below)
    have HE1 := Lib.hid (hog.heap HY1.out (by simp))
    have HE2 := Lib.hid (hog.heap HY2.out (by simp))
    have HWG := Lib.hid (HW7.out.trans hog)
    have hbpn : bp ∉ (Value.slice B0 j.l.length d0).ownBlock.toList := fun h => HBG.out.nl (by simpa using h)
    have hypn : wb + 1 ∉ (Value.slice B0 j.l.length d0).ownBlock.toList := fun h => by
      have := (ownsRow_lt HBG.out.ol (show (Value.slice B0 j.l.length d0).ownBlock = some (wb + 1) by simpa using h)).1; have := HW0S.out; omega
    have HHN := Lib.hid hypn
    have HBN := Lib.hid hbpn
    clear hypn hbpn hog
    have e0 : ∀ w', Only (Value.slice B0 j.l.length d0).ownBlock.toList wg w' → w'.cell? ⟨bp, 0, none⟩ = some (.slice B0 j.l.length d0) := fun w' k => (cell_of_row w' bp 0 _ _ _ (k.heap HBG.out.row HBN.out)).trans rfl
    have y0 : ∀ w', Only (Value.slice B0 j.l.length d0).ownBlock.toList wg w' → w'.cell? ⟨wb + 1, 0, none⟩ = some (.int .i64 e.f0) := fun w' k => (cell_of_row w' (wb + 1) 0 _ _ _ (k.heap HE1.out HHN.out)).trans rfl
    have y1 : ∀ w', Only (Value.slice B0 j.l.length d0).ownBlock.toList wg w' → w'.cell? ⟨wb + 1, 1, none⟩ = some (.int .i64 e.f1) := fun w' k => (cell_of_row w' (wb + 1) 1 _ _ _ (k.heap HE1.out HHN.out)).trans rfl
    have y2 : ∀ w', Only (Value.slice B0 j.l.length d0).ownBlock.toList wg w' → w'.cell? ⟨wb + 1, 2, none⟩ = some (.int .i64 e.f2) := fun w' k => (cell_of_row w' (wb + 1) 2 _ _ _ (k.heap HE1.out HHN.out)).trans rfl
    have y3 : ∀ w', Only (Value.slice B0 j.l.length d0).ownBlock.toList wg w' → w'.cell? ⟨wb + 1, 3, none⟩ = some (.string e.f3) := fun w' k => (cell_of_row w' (wb + 1) 3 _ _ _ (k.heap HE1.out HHN.out)).trans rfl
    have y4 : ∀ w', Only (Value.slice B0 j.l.length d0).ownBlock.toList wg w' → w'.cell? ⟨wb + 1, 4, none⟩ = some (.int .i64 e.f4) := fun w' k => (cell_of_row w' (wb + 1) 4 _ _ _ (k.heap HE1.out HHN.out)).trans rfl
    have y5 : ∀ w', Only (Value.slice B0 j.l.length d0).ownBlock.toList wg w' → w'.cell? ⟨wb + 1, 5, none⟩ = some (.int .i64 e.f5) := fun w' k => (cell_of_row w' (wb + 1) 5 _ _ _ (k.heap HE1.out HHN.out)).trans rfl
    iterate 7 (first | (refine L.ge_off rfl rfl rfl (by rfl) ?_) | (refine L.ge_move rfl rfl rfl (by rfl) rfl (by simp [L.evE, L.lk, Act.eval]; rfl) ?_) | (refine L.ge_pick rfl rfl rfl (by rfl) rfl (by simp [L.evE, L.lk, Act.eval]; rfl) (by simp [L.evE, L.lk, Act.eval]; rfl) ?_) | (refine L.ge_val rfl rfl rfl (by rfl) (by intro w' hw'; simp [execOp, L.evE, L.lk, Act.eval]; go_simp; rfl) ?_))
    refine ge_one rfl rfl rfl (by rfl) _ (.tmp 69) rfl 27 Tryd.underlying22 (.agg #[.int .i64 0, .int .i64 0, .int .i64 0, .string ⟨#[]⟩, .int .i64 0, .int .i64 0]) 6 56 info27 (by omega) (by omega) #[.int .i64 e.f0, .int .i64 e.f1, .int .i64 e.f2, .string e.f3, .int .i64 e.f4, .int .i64 e.f5] (by have h := fill_one6 (.agg #[.int .i64 0, .int .i64 0, .int .i64 0, .string ⟨#[]⟩, .int .i64 0, .int .i64 0]) (.int .i64 e.f0) (.int .i64 e.f1) (.int .i64 e.f2) (.string e.f3) (.int .i64 e.f4) (.int .i64 e.f5) rfl rfl; simpa [L.evE, L.lk, Act.eval] using h) ?_
    have HPN := Lib.hid (heap_alloc_new wg (.cells #[.int .i64 e.f0, .int .i64 e.f1, .int .i64 e.f2, .string e.f3, .int .i64 e.f4, .int .i64 e.f5] 27))
    have hal : Only [] wg (wg.alloc (.cells #[.int .i64 e.f0, .int .i64 e.f1, .int .i64 e.f2, .string e.f3, .int .i64 e.f4, .int .i64 e.f5] 27)) := (Only.refl [] wg).alloc _
    have HOW := Lib.hid (ownsRow_only HBG.out.ol hal (by simp))
    have HAL := Lib.hid hal
    have HGB := Lib.hid (show W0.heap.size ≤ (wg.alloc (.cells #[.int .i64 e.f0, .int .i64 e.f1, .int .i64 e.f2, .string e.f3, .int .i64 e.f4, .int .i64 e.f5] 27)).heap.size from Nat.le_trans HBG.out.hb (Nat.le_trans (Nat.le_of_lt (heap_lt HBG.out.row)) hal.size))
    clear hal e0 y0 y1 y2 y3 y4 y5
    refine ge_append_row rfl rfl rfl (by rfl) (.tmp 68) (.tmp 70) 22 rfl W0.heap.size 27 6 56 (.agg #[.int .i64 0, .int .i64 0, .int .i64 0, .string ⟨#[]⟩, .int .i64 0, .int .i64 0]) Tryd.underlying22 info27 rfl (by omega) (.slice B0 j.l.length d0) j.l.length (eRow j.l) (by simp [L.evE, L.lk, Act.eval]) HOW.out (some ⟨wg.heap.size, 0, none⟩) 1 1 [.int .i64 e.f0, .int .i64 e.f1, .int .i64 e.f2, .string e.f3, .int .i64 e.f4, .int .i64 e.f5] (by simp [L.evE, L.lk, Act.eval]) rfl (fun _ => ⟨_, rfl, cellsAt_row HPN.out⟩) (by simp [Value.oneCell']) (by have := HJ.out.2.1; unfold maxLen; omega) (by have := HJ.out.2.1; omega) HGB.out ?_
    intro A8 c8 w8 hb8 ho8 hk8
    refine ⟨ho8, ?_⟩
    have HB8 := Lib.hid (show w8.ownsRow W0.heap.size 27 6 (.slice A8 (j.l.length + 1) c8) (j.l.length + 1) (eRow (j.l ++ [e])) by rw [eRow_append]; exact hb8)
    have HO8 := Lib.hid (HAL.out.mono (T := (Value.slice B0 j.l.length d0).ownBlock.toList) (by simp) |>.trans ho8)
    have HR8 := Lib.hid (HO8.out.heap HBG.out.row HBN.out)
    have HK8 := Lib.hid (show ∀ k, (Value.slice A8 (j.l.length + 1) c8).ownBlock = some k → (Value.slice B0 j.l.length d0).ownBlock = some k ∨ wg.heap.size ≤ k from fun k hk => (hk8 k hk).imp id (fun h => Nat.le_trans HAL.out.size h))
    clear hb8 ho8 hk8 HPN HOW HAL
    iterate 3 (first | (refine L.ge_off rfl rfl rfl (by rfl) ?_) | (refine L.ge_move rfl rfl rfl (by rfl) rfl (by simp [L.evE, L.lk, Act.eval]; rfl) ?_) | (refine L.ge_pick rfl rfl rfl (by rfl) rfl (by simp [L.evE, L.lk, Act.eval]; rfl) (by simp [L.evE, L.lk, Act.eval]; rfl) ?_) | (refine L.ge_val rfl rfl rfl (by rfl) (by intro w' hw'; simp [execOp, L.evE, L.lk, Act.eval]; go_simp; rfl) ?_))
    refine ge_last_in rfl rfl (by rfl) _ (.tmp 74) (.tmp 71) rfl bp 0 (.slice A8 (j.l.length + 1) c8) (by simp [L.evE, L.lk, Act.eval]) (by simp [L.evE, L.lk, Act.eval]) [.slice A8 (j.l.length + 1) c8] rfl 56 [.slice B0 j.l.length d0, .slice (some ⟨gq, 0, none⟩) (lessAt j.q i).length d1, .int .i64 j.g] HR8.out (by kernel_rfl) (by simp) (by simp [Value.oneCell']) ?_
    intro W9 hr9 ho9
    simp only [L.puts, Act.put, goInt, List.setIfInBounds_toArray, List.set_cons_zero, List.set_cons_succ]
    have HN8 := Lib.hid (show (Value.slice A8 (j.l.length + 1) c8).ownBlock ≠ some bp from fun h => by
      rcases HK8.out _ h with h | h
      · exact HBG.out.nl h
      · have := heap_lt HBG.out.row; omega)
    have HN9 := Lib.hid (show (Value.slice A8 (j.l.length + 1) c8).ownBlock ≠ some (wb + 2) from fun h => by
      rcases HK8.out _ h with h | h
      · have := (ownsRow_lt HBG.out.ol h).1; have := HW0S.out; omega
      · have := heap_lt HE2.out; omega)
    have HN7 := Lib.hid (show (Value.slice (some ⟨gq, 0, none⟩) (lessAt j.q i).length d1).ownBlock ≠ some (wb + 2) from fun h => by have := (ownsRow_lt HBG.out.oq h).1; have := HW0S.out; omega)
    have HRR9 := Lib.hid (show W9.heap[bp]? = some (.cells #[.slice A8 (j.l.length + 1) c8, .slice (some ⟨gq, 0, none⟩) (lessAt j.q i).length d1, .int .i64 j.g] 56 (0, 0)) from hr9.out)
    have HL9 := Lib.hid (ownsRow_only HB8.out ho9.out (fun k hk h => by simp at h; subst h; exact HN8.out hk))
    have HQ9 := Lib.hid (ownsRow_only (ownsRow_only HBG.out.oq HO8.out (fun k hk h => HBG.out.nlq k (by simpa using h) hk)) ho9.out (fun k hk h => by simp at h; subst h; exact HBG.out.nq hk))
    have HY9 := Lib.hid (ho9.out.heap (HO8.out.heap HE2.out (fun h => by have := (ownsRow_lt HBG.out.ol (show (Value.slice B0 j.l.length d0).ownBlock = some (wb + 2) by simpa using h)).1; have := HW0S.out; omega)) (by simp; have := HBP.out; omega))
    have HW9 := Lib.hid ((HWG.out.then HO8.out (fun k hk => .inr (by have := (ownsRow_lt HBG.out.ol (show (Value.slice B0 j.l.length d0).ownBlock = some k by simpa using hk)).1; have := HW0S.out; have := HBB.out; omega))).then ho9.out (fun k hk => .inr (by simp at hk; subst hk; have := HBP.out; have := HBB.out; omega)))
    clear HBG HE1 HE2 HWG HHN HBN HB8 HO8 HR8 HK8 HN8 hr9 ho9
    go_wp2_with (first
      | (with_reducible refine wpList_load_at rfl 25 (.tmp 77) rfl ⟨bp, 0, none⟩ rfl _ _ (cellsAt_row HRR9.out) Tryd.underlying25 rfl (by kernel_rfl) ?_)
      | (with_reducible refine wpList_store_new rfl 25 (.tmp 4) (.tmp 78) rfl (wb + 2) #[.slice A8 (j.l.length + 1) c8, .slice (some ⟨gq, 0, none⟩) (lessAt j.q i).length d1, .int .i64 j.g] rfl rfl 25 _ HY9.out (size3_25 _ _ _) rfl (by simp [Value.oneCell']) ?_; intro w9 hh9 ho9))
    refine bodyPost_ret (results_row rfl _ _ (wb + 2) _ _ _ _ rfl hh9.out Tryd.underlying25 rfl (size3_25 _ _ _)) rfl ?_
    rw [HRR.out]
    have hz9 := ((HW9.out.mono (T := [wb + 2]) (by simp)).trans ho9).pop (show w.heap.size ≤ wb + 2 by rw [HBB.out]; omega)
    refine ⟨_, rfl, ?_, hz9.nil_below⟩
    have hll : (j.l ++ [e]).length = j.l.length + 1 := by simp
    have hl9 := ownsRow_only HL9.out ho9 (fun k hk h => by simp at h; subst h; exact HN9.out hk)
    have hq9 := ownsRow_only HQ9.out ho9 (fun k hk h => by simp at h; subst h; exact HN7.out hk)
    rw [← hll] at hl9
    show JR w9 _ _ (j.l ++ [e]) (lessAt j.q i) j.g
    rw [← hll]
    exact ⟨A8, c8, (some ⟨gq, 0, none⟩), d1, rfl, ownsRow_mono hl9 (by have := HW0S.out; have := HBB.out; omega), ownsRow_mono hq9 (by have := HW0S.out; have := HBB.out; omega)⟩
end Go.Proofs.YtghpmpjoedbpcaaDoor.Print
/-! ### EJNote -/
namespace Go.Proofs.YtghpmpjoedbpcaaDoor.Print
open Go.RowKit Go.Proofs.YtghpmpjoedbpcaaDoorW.PrintWords Go.Proofs.YtghpmpjoedbpcaaDoorW.PrintLast Go.Proofs.YtghpmpjoedbpcaaDoorW.PrintMore
attribute [local go_sem] min2_int min_two
set_option linter.unusedSimpArgs false
set_option linter.unusedVariables false
/-- One entry more was lost there. -/
def lostAt (q : List S35) (i : Nat) : List S35 := q.set i ⟨(qAt q i).f0, (qAt q i).f1, mn ((qAt q i).f2 + 1) 1099511627776⟩
def noteJ (j : Jn) (e : S27) : Jn × Int :=
  if (addJ j e).2 = 180 then (if placeB j.q e.f1 = true then (⟨j.l, lostAt j.q (placeI j.q e.f1), j.g⟩, 0) else (j, 0)) else addJ j e
theorem add_full {j : Jn} {e : S27} (h : (addJ j e).2 = 180) : rightJ j.l j.q j.g = true ∧ strangeB e = false := by
  unfold addJ at h
  split at h
  · cases h
  · rename_i h1
    cases hr : rightJ j.l j.q j.g <;> cases hs : strangeB e <;> simp [hr, hs] at h1 ⊢
theorem strange_batch {e : S27} (h : strangeB e = false) : 0 ≤ e.f1 ∧ e.f1 ≤ 1099511627776 := by
  unfold strangeB at h
  simp only [Bool.or_eq_false_iff, Bool.not_eq_false'] at h
  have := h.1.1.2
  unfold wi at this
  simp only [Bool.and_eq_true, decide_eq_true_eq] at this
  exact this
theorem odd_lost {q : List S35} (h : q.any oddB = false) : ∀ x ∈ q, 0 ≤ x.f2 ∧ x.f2 ≤ 1099511627776 := by
  intro x hx
  have h1 : oddB x = false := by
    cases hb : oddB x with
    | false => rfl
    | true =>
      have : q.any oddB = true := List.any_eq_true.2 ⟨x, hx, hb⟩
      rw [this] at h; cases h
  unfold oddB at h1
  simp only [Bool.or_eq_false_iff, Bool.not_eq_false'] at h1
  have := h1.2
  unfold wi at this
  simp only [Bool.and_eq_true, decide_eq_true_eq] at this
  exact this
set_option maxHeartbeats 8000000 in
set_option maxRecDepth 100000 in
theorem note_calls (A0 : Option Addr) (c0 : Nat) (A1 : Option Addr) (c1 : Nat) (j : Jn) (e : S27) (w : World) (h0 : j.l.length ≤ c0 ∧ Kd.C k27 w A0 j.l.length j.l) (h1 : j.q.length ≤ c1 ∧ Kd.C k35 w A1 j.q.length j.q) (hT : Tabs w) (hj : Jok j) (he : e.f3.size ≤ 1000000000) :
    Calls Tryd.prog 11 #[.agg #[.slice A0 j.l.length c0, .slice A1 j.q.length c1, .int .i64 j.g], .agg #[.int .i64 e.f0, .int .i64 e.f1, .int .i64 e.f2, .string e.f3, .int .i64 e.f4, .int .i64 e.f5]] w fun x w' => ∃ v, x = .returned (.tuple #[v, .int .i64 (noteJ j e).2]) ∧ JR w' w.heap.size v (noteJ j e).1.l (noteJ j e).1.q (noteJ j e).1.g ∧ Below w.heap.size w w' := by
  obtain ⟨R, hR⟩ : ∃ R, R = noteJ j e := ⟨_, rfl⟩
  rw [← hR]
  have HRR := Lib.hid hR
  have HA := Lib.hid h0
  have HB := Lib.hid h1
  have HT := Lib.hid hT
  have HJ := Lib.hid hj
  have HE := Lib.hid he
  clear hR h0 h1 hT hj he
  go_enter Tryd.func11, Tryd.ntmps11
  go_wp2_with (go_at_call 10; refine (fun (h : Hid _) => h.out) ?_)
  refine Lib.hid ?_
  have HX0 := Lib.hid (show (((w.alloc (.cells #[.slice A0 j.l.length c0, .slice A1 j.q.length c1, .int .i64 j.g] 25)).alloc (.cells #[.int .i64 e.f0, .int .i64 e.f1, .int .i64 e.f2, .string e.f3, .int .i64 e.f4, .int .i64 e.f5] 27)).alloc (.cells #[.slice none 0 0, .slice none 0 0, .int .i64 0] 25)).heap[w.heap.size]? = some (.cells #[.slice A0 j.l.length c0, .slice A1 j.q.length c1, .int .i64 j.g] 25 (0, 0)) from (Below.heap_alloc _ _ _ (by simp; omega)).trans ((Below.heap_alloc _ _ _ (by simp)).trans (heap_alloc_new _ _)))
  have HX1 := Lib.hid (show (((w.alloc (.cells #[.slice A0 j.l.length c0, .slice A1 j.q.length c1, .int .i64 j.g] 25)).alloc (.cells #[.int .i64 e.f0, .int .i64 e.f1, .int .i64 e.f2, .string e.f3, .int .i64 e.f4, .int .i64 e.f5] 27)).alloc (.cells #[.slice none 0 0, .slice none 0 0, .int .i64 0] 25)).heap[w.heap.size + 1]? = some (.cells #[.int .i64 e.f0, .int .i64 e.f1, .int .i64 e.f2, .string e.f3, .int .i64 e.f4, .int .i64 e.f5] 27 (0, 0)) from by
    have := heap_alloc_new (w.alloc (.cells #[.slice A0 j.l.length c0, .slice A1 j.q.length c1, .int .i64 j.g] 25)) (.cells #[.int .i64 e.f0, .int .i64 e.f1, .int .i64 e.f2, .string e.f3, .int .i64 e.f4, .int .i64 e.f5] 27)
    rw [show (w.alloc (.cells #[.slice A0 j.l.length c0, .slice A1 j.q.length c1, .int .i64 j.g] 25)).heap.size = w.heap.size + 1 by simp] at this
    exact (Below.heap_alloc _ _ _ (by simp)).trans this)
  have HX2 := Lib.hid (show (((w.alloc (.cells #[.slice A0 j.l.length c0, .slice A1 j.q.length c1, .int .i64 j.g] 25)).alloc (.cells #[.int .i64 e.f0, .int .i64 e.f1, .int .i64 e.f2, .string e.f3, .int .i64 e.f4, .int .i64 e.f5] 27)).alloc (.cells #[.slice none 0 0, .slice none 0 0, .int .i64 0] 25)).heap[w.heap.size + 2]? = some (.cells #[.slice none 0 0, .slice none 0 0, .int .i64 0] 25 (0, 0)) from by
    have := heap_alloc_new ((w.alloc (.cells #[.slice A0 j.l.length c0, .slice A1 j.q.length c1, .int .i64 j.g] 25)).alloc (.cells #[.int .i64 e.f0, .int .i64 e.f1, .int .i64 e.f2, .string e.f3, .int .i64 e.f4, .int .i64 e.f5] 27)) (.cells #[.slice none 0 0, .slice none 0 0, .int .i64 0] 25)
    rw [show ((w.alloc (.cells #[.slice A0 j.l.length c0, .slice A1 j.q.length c1, .int .i64 j.g] 25)).alloc (.cells #[.int .i64 e.f0, .int .i64 e.f1, .int .i64 e.f2, .string e.f3, .int .i64 e.f4, .int .i64 e.f5] 27)).heap.size = w.heap.size + 2 by simp] at this
    exact this)
  have HO0 := Lib.hid ((((Only.refl [] w).alloc (.cells #[.slice A0 j.l.length c0, .slice A1 j.q.length c1, .int .i64 j.g] 25)).alloc (.cells #[.int .i64 e.f0, .int .i64 e.f1, .int .i64 e.f2, .string e.f3, .int .i64 e.f4, .int .i64 e.f5] 27)).alloc (.cells #[.slice none 0 0, .slice none 0 0, .int .i64 0] 25))
  generalize ((w.alloc (.cells #[.slice A0 j.l.length c0, .slice A1 j.q.length c1, .int .i64 j.g] 25)).alloc (.cells #[.int .i64 e.f0, .int .i64 e.f1, .int .i64 e.f2, .string e.f3, .int .i64 e.f4, .int .i64 e.f5] 27)).alloc (.cells #[.slice none 0 0, .slice none 0 0, .int .i64 0] 25) = W0 at *
  generalize hb : w.heap.size = wb at *
  have HBB := Lib.hid hb
  clear hb
  have HW0S := Lib.hid (show wb + 2 < W0.heap.size from heap_lt HX2.out)
  refine (add_calls A0 c0 A1 c1 j e W0 ⟨HA.out.1, Kd.C_below HA.out.2 HO0.out.nil_below⟩ ⟨HB.out.1, Kd.C_below HB.out.2 HO0.out.nil_below⟩ (HT.out.below HO0.out.nil_below) HJ.out HE.out).mono ?_
  rintro x W1 ⟨v1, rfl, hjr1, hb1⟩
  have HY0 := Lib.hid ((Only.of_below hb1).heap HX0.out (by simp))
  have HY1 := Lib.hid ((Only.of_below hb1).heap HX1.out (by simp))
  have HY2 := Lib.hid ((Only.of_below hb1).heap HX2.out (by simp))
  have HW1 := Lib.hid (HO0.out.trans (Only.of_below hb1))
  have HJR := Lib.hid hjr1
  clear hb1 HX0 HX1 HX2 HO0 hjr1
  have HFUL : Hid ((addJ j e).2 = 180 → rightJ j.l j.q j.g = true ∧ strangeB e = false) := Lib.hid add_full
  unfold noteJ at HRR
  obtain ⟨RA, hRA⟩ : ∃ RA, RA = addJ j e := ⟨_, rfl⟩
  rw [← hRA] at HRR HJR HFUL ⊢
  clear hRA
  obtain ⟨j9, r9⟩ := RA
  have HJ9 := Lib.hid HJR.out
  obtain ⟨E0, k0, E1, k1, rfl, hE0, hE1⟩ := HJR.out
  clear hE0 hE1 HJR
  have hal : Only [] W1 (W1.alloc (.cells #[.slice E0 j9.l.length k0, .slice E1 j9.q.length k1, .int .i64 j9.g] 25)) := (Only.refl [] W1).alloc _
  have HYA := Lib.hid (hal.heap HY2.out (by simp))
  have HYB := Lib.hid (hal.heap HY0.out (by simp))
  have HYC := Lib.hid (hal.heap HY1.out (by simp))
  have HWA := Lib.hid (HW1.out.trans hal)
  have HBA := Lib.hid hal
  clear hal
  by_cases h180 : r9 = 180
  rotate_left
  · have HR0 := Lib.hid (HRR.out.trans (if_neg h180))
    clear HRR
    go_wp2_with (first
      | (with_reducible refine wpList_store_new rfl 25 (.tmp 4) (.tmp 19) rfl (wb + 2) #[.slice E0 j9.l.length k0, .slice E1 j9.q.length k1, .int .i64 j9.g] rfl rfl 25 _ HYA.out (size3_25 _ _ _) rfl (by simp [Value.oneCell']) ?_; intro w9 hh9 ho9))
    refine bodyPost_ret (results_row rfl _ _ (wb + 2) _ _ _ _ rfl hh9.out Tryd.underlying25 rfl (size3_25 _ _ _)) rfl ?_
    rw [HR0.out]
    refine ⟨_, rfl, ?_, (((HWA.out.mono (T := [wb + 2]) (by simp)).trans ho9).pop (by rw [HBB.out]; omega)).nil_below⟩
    exact (((HJ9.out.only HBA.out (by simp)).only ho9 (fun k hk => by simp at hk; subst hk; exact HW0S.out)).mono (by have := HW0S.out; have := HBB.out; omega))
  · obtain ⟨hr, hst⟩ := HFUL.out h180
    replace HRR := Lib.hid (HRR.out.trans (if_pos h180))
    subst h180
    obtain ⟨hL, hBt, hRi, hG, hU, hE9, hOd⟩ := right_parts hr
    obtain ⟨hb0, hb9⟩ := strange_batch hst
    clear hr hst HFUL
    have HOWN := Lib.hid (own_any A0 c0 A1 c1 j.l j.q j.g (W1.alloc (.cells #[.slice E0 j9.l.length k0, .slice E1 j9.q.length k1, .int .i64 j9.g] 25)) (Kd.C_below HA.out.2 HWA.out.nil_below) (Kd.C_below HB.out.2 HWA.out.nil_below) HJ.out.2.1 HJ.out.2.2)
    go_wp2_with (first
      | (with_reducible refine wpList_load_at rfl 25 (.tmp 2) rfl ⟨wb, 0, none⟩ rfl _ _ (cellsAt_row HYB.out) Tryd.underlying25 rfl (by kernel_rfl) ?_)
      | (go_at_call 30; refine HOWN.out.mono ?_; rintro x W3 ⟨bp, B0, d0, B1, d1, rfl, hbk, ho3⟩; refine (fun (h : Hid _) => h.out) ?_))
    refine Lib.hid ?_
    have HBK := Lib.hid hbk
    have HZ1 := Lib.hid (ho3.heap HYC.out (by simp))
    have HZ2 := Lib.hid (ho3.heap HYA.out (by simp))
    have HW3 := Lib.hid (HWA.out.trans ho3)
    have HBS := Lib.hid (show wb + 2 < (W1.alloc (.cells #[.slice E0 j9.l.length k0, .slice E1 j9.q.length k1, .int .i64 j9.g] 25)).heap.size from heap_lt HYA.out)
    generalize W1.alloc (.cells #[.slice E0 j9.l.length k0, .slice E1 j9.q.length k1, .int .i64 j9.g] 25) = W2 at *
    have HBP := Lib.hid (show wb + 2 < bp from Nat.lt_of_lt_of_le HBS.out hbk.hb)
    clear hbk ho3 HYA HYB HYC HWA HBA HOWN HY0 HY1 HY2
    have HPL := Lib.hid (place_any bp j.l.length d0 B0 B1 d1 j.q j.g e.f1 W3 HBK.out.row HBK.out.reads.2.2 (by have := HJ.out.2.2; omega) hRi hBt hb0 hb9)
    have y1 : W3.cell? ⟨wb + 1, 1, none⟩ = some (.int .i64 e.f1) := (cell_of_row W3 (wb + 1) 1 _ _ _ HZ1.out).trans rfl
    go_wp2_with (go_at_call 33; refine HPL.out.mono ?_; rintro x W6 ⟨rfl, hb6⟩; refine (fun (h : Hid _) => h.out) ?_)
    refine Lib.hid ?_
    clear y1
    have HBK6 := Lib.hid (HBK.out.below hb6)
    have HY2 := Lib.hid ((Only.of_below hb6).heap HZ2.out (by simp))
    have HW6 := Lib.hid (HW3.out.trans (Only.of_below hb6))
    clear hb6 HBK HZ1 HZ2 HW3 HPL
    cases hpb : placeB j.q e.f1
    · replace HRR := Lib.hid (HRR.out.trans (if_neg (by rw [hpb]; simp)))
      clear hpb
      have HNLW := Lib.hid (show (Value.slice B0 j.l.length d0).ownBlock ≠ some (wb + 2) from fun h => by have := (ownsRow_lt HBK6.out.ol h).1; have := HBS.out; omega)
      have HNBW := Lib.hid (show (Value.slice B1 j.q.length d1).ownBlock ≠ some (wb + 2) from fun h => by have := (ownsRow_lt HBK6.out.oq h).1; have := HBS.out; omega)
      have HRW := Lib.hid HBK6.out.row
      go_wp2_with (first
        | (with_reducible refine wpList_load_at rfl 25 (.tmp 52) rfl ⟨bp, 0, none⟩ rfl _ _ (cellsAt_row HRW.out) Tryd.underlying25 rfl (by kernel_rfl) ?_)
        | (with_reducible refine wpList_store_new rfl 25 (.tmp 4) (.tmp 53) rfl (wb + 2) #[.slice B0 j.l.length d0, .slice B1 j.q.length d1, .int .i64 j.g] rfl rfl 25 _ HY2.out (size3_25 _ _ _) rfl (by simp [Value.oneCell']) ?_; intro w9 hh9 ho9))
      refine bodyPost_ret (results_row rfl _ _ (wb + 2) _ _ _ _ rfl hh9.out Tryd.underlying25 rfl (size3_25 _ _ _)) rfl ?_
      rw [HRR.out]
      have hz9 := ((HW6.out.mono (T := [wb + 2]) (by simp)).trans ho9).pop (show w.heap.size ≤ wb + 2 by rw [HBB.out]; omega)
      refine ⟨_, rfl, ?_, hz9.nil_below⟩
      have hl9 := ownsRow_only HBK6.out.ol ho9 (fun k hk h => by simp at h; subst h; exact HNLW.out hk)
      have hq9 := ownsRow_only HBK6.out.oq ho9 (fun k hk h => by simp at h; subst h; exact HNBW.out hk)
      exact ⟨B0, d0, B1, d1, rfl, ownsRow_mono hl9 (by have := HBS.out; have := HBB.out; omega), ownsRow_mono hq9 (by have := HBS.out; have := HBB.out; omega)⟩
    · have hlt := placeB_lt hpb
      replace HRR := Lib.hid (HRR.out.trans (if_pos hpb))
      clear hpb
      obtain ⟨i, hi⟩ : ∃ i, i = placeI j.q e.f1 := ⟨_, rfl⟩
      rw [← hi] at HRR hlt ⊢
      clear hi
      have hqb := HJ.out.2.2
      have hi0 : (0 : Int) ≤ i := by omega
      have hilt : (i : Int) < j.q.length := by omega
      rcases HBK6.out.oq.2 with ⟨_, hz⟩ | ⟨gq, cap, cur0, e0, hgb, hg0, hnc, hcm, hcs, htk⟩
      · omega
      injection e0 with e0 e1 e2
      subst e0 e2
      obtain ⟨cur, rfl⟩ : ∃ cur : List Value, cur0 = cur.toArray := ⟨cur0.toList, by simp⟩
      have htk2 : cur.take (j.q.length * 3) = qRow j.q := by simpa using htk
      have hcl : cur.length = d1 * 3 := by simpa using hcs
      have hsp := row_split cur j.q i hlt htk2
      have hset := fun v => (row_set cur j.q i hlt htk2 v).2
      have hrl : (qRow (j.q.take i)).length = i * 3 := by rw [qRow_length, List.length_take, Nat.min_eq_left (by omega)]
      have hc2 : W6.cell? ⟨gq, i * 3 + 2, none⟩ = some (.int .i64 (qAt j.q i).f2) := by
        rw [cell_of_row W6 gq _ _ _ _ hg0, List.getElem?_toArray, hsp, ← hrl, List.getElem?_append_right (by omega)]
        simp
      have hlf : 0 ≤ (qAt j.q i).f2 ∧ (qAt j.q i).f2 ≤ 1099511627776 := by
        have e : qAt j.q i = j.q[i] := by unfold qAt; simp [List.getD_eq_getElem?_getD, List.getElem?_eq_getElem hlt]
        rw [e]
        exact odd_lost hOd _ (List.getElem_mem hlt)
      have HG := Lib.hid hg0
      have HCL := Lib.hid hcl
      have HSET := Lib.hid hset
      have HQB := Lib.hid hgb
      have HDM := Lib.hid hcm
      have HNC := Lib.hid hnc
      have HLF := Lib.hid (show lostAt j.q i = j.q.set i ⟨(qAt j.q i).f0, (qAt j.q i).f1, mn ((qAt j.q i).f2 + 1) 1099511627776⟩ from rfl)
      obtain ⟨hf0, hf9⟩ := hlf
      have HC2 := Lib.hid hc2
      clear hsp hset hrl hcs htk htk2 hcl hg0 hgb hcm hnc e1 hc2
      generalize (qAt j.q i).f2 = lf at *
      obtain ⟨lv, hlv⟩ : ∃ lv, lv = mn (lf + 1) 1099511627776 := ⟨_, rfl⟩
      rw [← hlv] at HLF
      have HLV := Lib.hid hlv
      clear hlv
      go_wp2_with fail
      refine L.grow_start [] 19 ((0, true, false) :: (1, true, false) :: (2, true, false) :: (3, true, false) :: (4, true, false) :: (5, true, false) :: (6, true, false) :: (7, true, false) :: (8, true, false) :: (9, true, false) :: (10, true, false) :: (11, true, true) :: (12, true, true) :: (13, true, true) :: (14, true, true) :: (15, true, true) :: (16, true, true) :: (17, true, true) :: (18, true, true) :: (19, false, true) :: []) (by kernel_rfl) (([], [8], some 31) :: ([0], [31], some 32) :: ([1], [32], some 33) :: ([2], [33], some 34) :: ([3], [34], some 35) :: ([], [9], some 36) :: ([], [8], some 37) :: ([6], [37], some 38) :: ([7], [38], some 39) :: ([8], [39], some 40) :: ([9], [40], some 41) :: ([], [9], some 42) :: ([10, 11], [41, 42], some 43) :: ([12], [43], some 44) :: ([13], [44], some 45) :: ([14], [45], some 46) :: ([15], [46], some 47) :: ([4, 5, 0, 1, 2, 3, 4, 5, 6, 7, 8, 9, 10, 11, 12, 13, 14, 15, 16], [35, 36], some 48) :: ([17, 0, 1, 2, 3, 4, 5, 6, 7, 8, 9, 10, 11, 12, 13, 14, 15, 16], [48], some 49) :: ([18, 16, 0, 1, 2, 3, 4, 5, 6, 7, 8, 9, 10, 11, 12, 13, 14, 15, 16], [49, 47], none) :: []) (by kernel_rfl) (by kernel_rfl) (n := 20) rfl (by kernel_rfl) (fun _ _ _ _ _ h => h) (fun wg hog => ?_)
      refine L.growe_start (N := 54) (by rfl) ?_
      have HBG := Lib.hid (HBK6.out.below hog.nil_below)
      have HE2 := Lib.hid (hog.heap HY2.out (by simp))
      have HWG := Lib.hid (HW6.out.trans hog)
      have HGG := Lib.hid (hog.heap HG.out (by simp))
      have e1 : ∀ w', Only [] wg w' → w'.cell? ⟨bp, 1, none⟩ = some (.slice (some ⟨gq, 0, none⟩) j.q.length d1) := fun w' k => (cell_of_row w' bp 1 _ _ _ (k.heap HBG.out.row (by simp))).trans rfl
      have e2 : ∀ w', Only [] wg w' → w'.cell? ⟨gq, i * 3 + 2, none⟩ = some (.int .i64 lf) := fun w' k => (hog.trans k).cell HC2.out (by simp)
      clear hog HBK6 HY2 HW6 HG HC2
      have hw1 : IntKind.i64.wrap (lf + 1) = lf + 1 := by rw [IntKind.wrap_i64]; omega
      iterate 16 (first | (refine L.ge_off rfl rfl rfl (by rfl) ?_) | (refine L.ge_move rfl rfl rfl (by rfl) rfl (by simp [L.evE, L.lk, Act.eval]; rfl) ?_) | (refine L.ge_pick rfl rfl rfl (by rfl) rfl (by simp [L.evE, L.lk, Act.eval]; rfl) (by simp [L.evE, L.lk, Act.eval]; rfl) ?_) | (refine L.ge_val rfl rfl rfl (by rfl) (by intro w' hw'; simp [execOp, L.evE, L.lk, Act.eval]; go_simp; rfl) ?_))
      refine L.ge_val (v := .int .i64 lv) rfl rfl rfl (by rfl) (by intro w' hw'; simp [execOp, L.evE, L.lk, Act.eval, hw1]; go_simp; rw [HLV.out]; unfold mn; try rfl) ?_
      iterate 2 (first | (refine L.ge_off rfl rfl rfl (by rfl) ?_) | (refine L.ge_move rfl rfl rfl (by rfl) rfl (by simp [L.evE, L.lk, Act.eval]; rfl) ?_) | (refine L.ge_pick rfl rfl rfl (by rfl) rfl (by simp [L.evE, L.lk, Act.eval]; rfl) (by simp [L.evE, L.lk, Act.eval]; rfl) ?_) | (refine L.ge_val rfl rfl rfl (by rfl) (by intro w' hw'; simp [execOp, L.evE, L.lk, Act.eval]; go_simp; rfl) ?_))
      refine ge_last_in rfl rfl (by rfl) _ (.tmp 49) (.tmp 47) rfl gq (i * 3 + 2) (.int .i64 lv) (by simp [L.evE, L.lk, Act.eval]) (by simp [L.evE, L.lk, Act.eval]) [.int .i64 lv] rfl 35 cur HGG.out (by kernel_rfl) (by rw [HCL.out]; have := HNC.out; simp; omega) (by simp [Value.oneCell']) ?_
      intro W7 hr7 ho7
      simp only [L.puts, Act.put, goInt, List.setIfInBounds_toArray, List.set_cons_zero, List.set_cons_succ]
      have hll : (lostAt j.q i).length = j.q.length := by unfold lostAt; rw [List.length_set]
      have hbp7 : bp ∉ [gq] := fun h => HBG.out.nq (by simp at h; rw [h]; rfl)
      have hgq : gq ≠ wb + 2 := by have := HQB.out; have := HBS.out; omega
      have hbk7 : Bk W7 W2.heap.size bp B0 d0 (some ⟨gq, 0, none⟩) d1 j.l (lostAt j.q i) j.g := by
        refine ⟨?_, HBG.out.hb, ?_, ?_, HBG.out.nl, ?_, ?_⟩
        · rw [hll]; exact ho7.out.heap HBG.out.row hbp7
        · exact ownsRow_only HBG.out.ol ho7.out (fun k hk h => by simp at h; subst h; exact HBG.out.nlq _ hk rfl)
        · rw [hll]
          refine ⟨by rw [qRow_length, hll], .inr ⟨gq, d1, _, rfl, HQB.out, hr7.out, HNC.out, HDM.out, ?_, ?_⟩⟩
          · rw [List.size_toArray, length_splice _ _ _ (by rw [HCL.out]; have := HNC.out; simp; omega)]; exact HCL.out
          · show (splice cur (i * 3 + 2) [.int .i64 lv]).take (j.q.length * 3) = _
            rw [HSET.out lv, HLF.out]
        · exact HBG.out.nq
        · exact HBG.out.nlq
      have HBK7 := Lib.hid hbk7
      have HY7 := Lib.hid (ho7.out.heap HE2.out (by simpa using hgq.symm))
      have HW7 := Lib.hid (HWG.out.then ho7.out (fun k hk => .inr (by simp at hk; subst hk; have := HQB.out; have := HBS.out; have := HBB.out; omega)))
      have HNLW := Lib.hid (show (Value.slice B0 j.l.length d0).ownBlock ≠ some (wb + 2) from fun h => by have := (ownsRow_lt HBG.out.ol h).1; have := HBS.out; omega)
      have HNBW := Lib.hid (show (Value.slice (some (⟨gq, 0, none⟩ : Addr)) (lostAt j.q i).length d1).ownBlock ≠ some (wb + 2) from fun h => hgq (Option.some.inj h))
      have HRW := Lib.hid hbk7.row
      clear hbk7 hbp7 hll hr7 ho7 HBG HE2 HWG HGG hgq
      go_wp2_with (first
        | (with_reducible refine wpList_load_at rfl 25 (.tmp 52) rfl ⟨bp, 0, none⟩ rfl _ _ (cellsAt_row HRW.out) Tryd.underlying25 rfl (by kernel_rfl) ?_)
        | (with_reducible refine wpList_store_new rfl 25 (.tmp 4) (.tmp 53) rfl (wb + 2) #[.slice B0 j.l.length d0, .slice (some ⟨gq, 0, none⟩) (lostAt j.q i).length d1, .int .i64 j.g] rfl rfl 25 _ HY7.out (size3_25 _ _ _) rfl (by simp [Value.oneCell']) ?_; intro w9 hh9 ho9))
      refine bodyPost_ret (results_row rfl _ _ (wb + 2) _ _ _ _ rfl hh9.out Tryd.underlying25 rfl (size3_25 _ _ _)) rfl ?_
      rw [HRR.out]
      have hz9 := ((HW7.out.mono (T := [wb + 2]) (by simp)).trans ho9).pop (show w.heap.size ≤ wb + 2 by rw [HBB.out]; omega)
      refine ⟨_, rfl, ?_, hz9.nil_below⟩
      have hl9 := ownsRow_only HBK7.out.ol ho9 (fun k hk h => by simp at h; subst h; exact HNLW.out hk)
      have hq9 := ownsRow_only HBK7.out.oq ho9 (fun k hk h => by simp at h; subst h; exact HNBW.out hk)
      exact ⟨B0, d0, (some ⟨gq, 0, none⟩), d1, rfl, ownsRow_mono hl9 (by have := HBS.out; have := HBB.out; omega), ownsRow_mono hq9 (by have := HBS.out; have := HBB.out; omega)⟩
end Go.Proofs.YtghpmpjoedbpcaaDoor.Print
/-! ### EJTrim -/
namespace Go.Proofs.YtghpmpjoedbpcaaDoor.Print
open Go.RowKit Go.Proofs.YtghpmpjoedbpcaaDoorW.PrintWords Go.Proofs.YtghpmpjoedbpcaaDoorW.PrintLast Go.Proofs.YtghpmpjoedbpcaaDoorW.PrintMore
set_option linter.unusedSimpArgs false
set_option linter.unusedVariables false
def trimJ (j : Jn) (n : Int) : Jn × Int :=
  if rightJ j.l j.q j.g = false ∨ n < 0 ∨ (j.l.length : Int) < n then (zJn, 1)
  else if 1099511627776 < j.g + n then (zJn, 3)
  else (⟨j.l.drop n.toNat, j.q, j.g + n⟩, 0)
set_option maxHeartbeats 8000000 in
set_option maxRecDepth 100000 in
theorem trim_calls (A0 : Option Addr) (c0 : Nat) (A1 : Option Addr) (c1 : Nat) (j : Jn) (n : Int) (w : World) (h0 : j.l.length ≤ c0 ∧ Kd.C k27 w A0 j.l.length j.l) (h1 : j.q.length ≤ c1 ∧ Kd.C k35 w A1 j.q.length j.q) (hT : Tabs w) (hj : Jok j) :
    Calls Tryd.prog 25 #[.agg #[.slice A0 j.l.length c0, .slice A1 j.q.length c1, .int .i64 j.g], .int .i64 n] w fun x w' => ∃ v, x = .returned (.tuple #[v, .int .i64 (trimJ j n).2]) ∧ JR w' w.heap.size v (trimJ j n).1.l (trimJ j n).1.q (trimJ j n).1.g ∧ Below w.heap.size w w' := by
  obtain ⟨R, hR⟩ : ∃ R, R = trimJ j n := ⟨_, rfl⟩
  rw [← hR]
  have HRR := Lib.hid hR
  have HA := Lib.hid h0
  have HB := Lib.hid h1
  have HT := Lib.hid hT
  have HJ := Lib.hid hj
  clear hR h0 h1 hT hj
  go_enter Tryd.func25, Tryd.ntmps25
  go_wp2_with (go_at_call 30; refine (fun (h : Hid _) => h.out) ?_)
  refine Lib.hid ?_
  have HX1 := Lib.hid (show ((w.alloc (.cells #[.slice A0 j.l.length c0, .slice A1 j.q.length c1, .int .i64 j.g] 25)).alloc (.cells #[.slice none 0 0, .slice none 0 0, .int .i64 0] 25)).heap[w.heap.size + 1]? = some (.cells #[.slice none 0 0, .slice none 0 0, .int .i64 0] 25 (0, 0)) from by
    have := heap_alloc_new (w.alloc (.cells #[.slice A0 j.l.length c0, .slice A1 j.q.length c1, .int .i64 j.g] 25)) (.cells #[.slice none 0 0, .slice none 0 0, .int .i64 0] 25)
    rw [show (w.alloc (.cells #[.slice A0 j.l.length c0, .slice A1 j.q.length c1, .int .i64 j.g] 25)).heap.size = w.heap.size + 1 by simp] at this
    exact this)
  have HO0 := Lib.hid (((Only.refl [] w).alloc (.cells #[.slice A0 j.l.length c0, .slice A1 j.q.length c1, .int .i64 j.g] 25)).alloc (.cells #[.slice none 0 0, .slice none 0 0, .int .i64 0] 25))
  generalize (w.alloc (.cells #[.slice A0 j.l.length c0, .slice A1 j.q.length c1, .int .i64 j.g] 25)).alloc (.cells #[.slice none 0 0, .slice none 0 0, .int .i64 0] 25) = W0 at *
  generalize hb : w.heap.size = wb at *
  have HBB := Lib.hid hb
  clear hb
  refine (own_any A0 c0 A1 c1 j.l j.q j.g W0 (Kd.C_below HA.out.2 HO0.out.nil_below) (Kd.C_below HB.out.2 HO0.out.nil_below) HJ.out.2.1 HJ.out.2.2).mono ?_
  rintro x W3 ⟨bp, B0, d0, B1, d1, rfl, hbk, ho3⟩
  have HBK := Lib.hid hbk
  have HBP := Lib.hid (show wb + 1 < bp from Nat.lt_of_lt_of_le (heap_lt HX1.out) hbk.hb)
  have HW0S := Lib.hid (show wb + 1 < W0.heap.size from heap_lt HX1.out)
  have HY1 := Lib.hid (ho3.heap HX1.out (by simp))
  have HW3 := Lib.hid (HO0.out.trans ho3)
  clear hbk ho3 HX1 HO0
  have HRI := Lib.hid (right_any bp d0 B0 j.l B1 d1 j.q j.g W3 HBK.out.row HBK.out.reads.1.2 HBK.out.reads.2.2 HJ.out.1 (HT.out.below HW3.out.nil_below) (by have := HJ.out.2.1; omega) (by have := HJ.out.2.2; omega))
  unfold trimJ at HRR
  go_wp2_with (go_at_call 31; refine HRI.out.mono ?_; rintro x W4 ⟨rfl, hb4⟩; refine (fun (h : Hid _) => h.out) ?_)
  refine Lib.hid ?_
  have HBK4 := Lib.hid (HBK.out.below hb4)
  have HZ1 := Lib.hid ((Only.of_below hb4).heap HY1.out (by simp))
  have HW4 := Lib.hid (HW3.out.trans (Only.of_below hb4))
  clear hb4 HBK HY1 HW3 HRI
  cases hr : rightJ j.l j.q j.g
  · have HR0 := Lib.hid (HRR.out.trans (if_pos (.inl hr)))
    clear hr HRR
    go_wp2_with (first
      | (with_reducible refine wpList_store_new rfl 25 (.tmp 4) (.tmp 23) rfl (wb + 1) #[.slice none 0 0, .slice none 0 0, .int .i64 0] rfl rfl 25 _ HZ1.out (size3_25 _ _ _) rfl (by simp [Value.oneCell']) ?_; intro w9 hh9 ho9))
    refine bodyPost_ret (results_row rfl _ _ (wb + 1) _ _ _ _ rfl hh9.out Tryd.underlying25 rfl (size3_25 _ _ _)) rfl ?_
    rw [HR0.out]
    exact ⟨_, rfl, jr_zero _ _, (((HW4.out.mono (T := [wb + 1]) (by simp)).trans ho9).pop (by rw [HBB.out]; omega)).nil_below⟩
  obtain ⟨hL, hBt, hRi, hG, hU, hE9, hOd⟩ := right_parts hr
  rw [hr] at HRR
  have hgb : 0 ≤ j.g ∧ j.g ≤ 1099511627776 := by
    unfold wi at hG
    simp only [Bool.and_eq_true, decide_eq_true_eq] at hG
    exact hG
  obtain ⟨hg0, hg9⟩ := hgb
  have hlb := HJ.out.2.1
  by_cases hn0 : n < 0
  · have HR0 := Lib.hid (HRR.out.trans (if_pos (.inr (.inl hn0))))
    clear HRR
    go_wp2_with (first
      | (with_reducible refine wpList_store_new rfl 25 (.tmp 4) (.tmp 23) rfl (wb + 1) #[.slice none 0 0, .slice none 0 0, .int .i64 0] rfl rfl 25 _ HZ1.out (size3_25 _ _ _) rfl (by simp [Value.oneCell']) ?_; intro w9 hh9 ho9))
    refine bodyPost_ret (results_row rfl _ _ (wb + 1) _ _ _ _ rfl hh9.out Tryd.underlying25 rfl (size3_25 _ _ _)) rfl ?_
    rw [HR0.out]
    exact ⟨_, rfl, jr_zero _ _, (((HW4.out.mono (T := [wb + 1]) (by simp)).trans ho9).pop (by rw [HBB.out]; omega)).nil_below⟩
  have a0 : W4.cell? ⟨bp, 0, none⟩ = some (.slice B0 j.l.length d0) := (cell_of_row W4 bp 0 _ _ _ HBK4.out.row).trans rfl
  have a2 : W4.cell? ⟨bp, 2, none⟩ = some (.int .i64 j.g) := (cell_of_row W4 bp 2 _ _ _ HBK4.out.row).trans rfl
  by_cases hn1 : (j.l.length : Int) < n
  · have HR0 := Lib.hid (HRR.out.trans (if_pos (.inr (.inr hn1))))
    clear HRR
    go_wp2_with (first
      | (with_reducible refine wpList_store_new rfl 25 (.tmp 4) (.tmp 23) rfl (wb + 1) #[.slice none 0 0, .slice none 0 0, .int .i64 0] rfl rfl 25 _ HZ1.out (size3_25 _ _ _) rfl (by simp [Value.oneCell']) ?_; intro w9 hh9 ho9))
    refine bodyPost_ret (results_row rfl _ _ (wb + 1) _ _ _ _ rfl hh9.out Tryd.underlying25 rfl (size3_25 _ _ _)) rfl ?_
    rw [HR0.out]
    exact ⟨_, rfl, jr_zero _ _, (((HW4.out.mono (T := [wb + 1]) (by simp)).trans ho9).pop (by rw [HBB.out]; omega)).nil_below⟩
  replace HRR := Lib.hid (HRR.out.trans (if_neg (by simp; omega)))
  by_cases hf : 1099511627776 < j.g + n
  · have HR0 := Lib.hid (HRR.out.trans (if_pos hf))
    clear HRR
    go_wp2_with (first
      | (with_reducible refine wpList_store_new rfl 25 (.tmp 4) (.tmp 33) rfl (wb + 1) #[.slice none 0 0, .slice none 0 0, .int .i64 0] rfl rfl 25 _ HZ1.out (size3_25 _ _ _) rfl (by simp [Value.oneCell']) ?_; intro w9 hh9 ho9))
    refine bodyPost_ret (results_row rfl _ _ (wb + 1) _ _ _ _ rfl hh9.out Tryd.underlying25 rfl (size3_25 _ _ _)) rfl ?_
    rw [HR0.out]
    exact ⟨_, rfl, jr_zero _ _, (((HW4.out.mono (T := [wb + 1]) (by simp)).trans ho9).pop (by rw [HBB.out]; omega)).nil_below⟩
  replace HRR := Lib.hid (HRR.out.trans (if_neg hf))
  obtain ⟨k, rfl⟩ : ∃ k : Nat, n = (k : Int) := ⟨n.toNat, by omega⟩
  have hkl : k ≤ j.l.length := by omega
  have HDL := Lib.hid (delown_e _ j.l.length 0 k W0.heap.size (eRow j.l) W4 HBK4.out.ol (eRow_one _) (by omega) hkl hlb)
  clear hr
  go_wp2_with (go_at_call 45; refine HDL.out.mono ?_; rintro x W7 ⟨v7, rfl, hown7, hk7, ho7⟩; refine (fun (h : Hid _) => h.out) ?_)
  refine Lib.hid ?_
  clear a0 a2
  have hml : ∀ k, k ∈ (Value.slice B0 j.l.length d0).ownBlock.toList → (Value.slice B0 j.l.length d0).ownBlock = some k := fun k hk => by simpa using hk
  have HR7 := Lib.hid (ho7.heap HBK4.out.row (fun h => HBK4.out.nl (hml _ h)))
  have HQ7 := Lib.hid (ownsRow_only HBK4.out.oq ho7 (fun k hk h => HBK4.out.nlq k (hml _ h) hk))
  have HL7 := Lib.hid hown7
  have HY7 := Lib.hid (ho7.heap HZ1.out (fun h => by have := (ownsRow_lt HBK4.out.ol (hml _ h)).1; have := HW0S.out; omega))
  have HW7 := Lib.hid (HW4.out.then ho7 (fun k hk => .inr (by have := (ownsRow_lt HBK4.out.ol (hml _ hk)).1; have := HW0S.out; have := HBB.out; omega)))
  have HNB := Lib.hid (show v7.ownBlock ≠ some bp from fun h => HBK4.out.nl (hk7 ▸ h))
  have HNQ := Lib.hid (HBK4.out.nq)
  have HNLW := Lib.hid (show v7.ownBlock ≠ some (wb + 1) from fun h => by
    have := (ownsRow_lt HBK4.out.ol (hk7 ▸ h)).1; have := HW0S.out; omega)
  have HNBW := Lib.hid (show (Value.slice B1 j.q.length d1).ownBlock ≠ some (wb + 1) from fun h => by have := (ownsRow_lt HBK4.out.oq h).1; have := HW0S.out; omega)
  clear HBK4 HZ1 HW4 hown7 hk7 ho7 hml HDL
  have e7 : j.l.length - (k - 0) = (j.l.drop k).length := by rw [List.length_drop]; omega
  have e8 : (eRow j.l).take (0 * 6) ++ (eRow j.l).drop (k * 6) = eRow (j.l.drop k) := by rw [eRow_drop]; simp
  rw [e7, e8] at HL7
  clear e7 e8
  obtain ⟨A7, c7, rfl⟩ := slice_of_own HL7.out
  go_wp2_with (first
    | (with_reducible refine wpList_store_in rfl 22 (.tmp 44) (.tmp 41) rfl bp 0 _ rfl rfl [.slice A7 (j.l.drop k).length c7] rfl 56 [.slice B0 j.l.length d0, .slice B1 j.q.length d1, .int .i64 j.g] HR7.out (by kernel_rfl) (by simp) (by simp [Value.oneCell']) ?_; intro W8 hr8 ho8; refine (fun (h : Hid _) => h.out) ?_))
  refine Lib.hid ?_
  have HR8 := Lib.hid (show W8.heap[bp]? = some (.cells #[.slice A7 (j.l.drop k).length c7, .slice B1 j.q.length d1, .int .i64 j.g] 56 (0, 0)) from hr8.out)
  have HL8 := Lib.hid (ownsRow_only HL7.out ho8.out (fun k hk h => by simp at h; subst h; exact HNB.out hk))
  have HQ8 := Lib.hid (ownsRow_only HQ7.out ho8.out (fun k hk h => by simp at h; subst h; exact HNQ.out hk))
  have HY8 := Lib.hid (ho8.out.heap HY7.out (by simp; have := HBP.out; omega))
  have HW8 := Lib.hid (HW7.out.then ho8.out (fun k hk => .inr (by simp at hk; subst hk; have := HBP.out; have := HBB.out; omega)))
  clear HR7 HL7 HQ7 HY7 HW7 hr8 ho8
  have a2 : W8.cell? ⟨bp, 2, none⟩ = some (.int .i64 j.g) := (cell_of_row W8 bp 2 _ _ _ HR8.out).trans rfl
  go_wp2_with (first
    | (with_reducible refine wpList_store_in rfl 3 (.tmp 54) (.tmp 51) rfl bp 2 (.int .i64 (j.g + k)) rfl rfl [.int .i64 (j.g + k)] rfl 56 [.slice A7 (j.l.drop k).length c7, .slice B1 j.q.length d1, .int .i64 j.g] HR8.out (by kernel_rfl) (by simp) (by simp [Value.oneCell']) ?_; intro W9 hr9 ho9; refine (fun (h : Hid _) => h.out) ?_))
  refine Lib.hid ?_
  clear a2
  have HR9 := Lib.hid (show W9.heap[bp]? = some (.cells #[.slice A7 (j.l.drop k).length c7, .slice B1 j.q.length d1, .int .i64 (j.g + k)] 56 (0, 0)) from hr9.out)
  have HL9 := Lib.hid (ownsRow_only HL8.out ho9.out (fun k hk h => by simp at h; subst h; exact HNB.out hk))
  have HQ9 := Lib.hid (ownsRow_only HQ8.out ho9.out (fun k hk h => by simp at h; subst h; exact HNQ.out hk))
  have HY9 := Lib.hid (ho9.out.heap HY8.out (by simp; have := HBP.out; omega))
  have HW9 := Lib.hid (HW8.out.then ho9.out (fun k hk => .inr (by simp at hk; subst hk; have := HBP.out; have := HBB.out; omega)))
  clear HR8 HL8 HQ8 HY8 HW8 hr9 ho9
  go_wp2_with (first
    | (with_reducible refine wpList_load_at rfl 25 (.tmp 57) rfl ⟨bp, 0, none⟩ rfl _ _ (cellsAt_row HR9.out) Tryd.underlying25 rfl (by kernel_rfl) ?_)
    | (with_reducible refine wpList_store_new rfl 25 (.tmp 4) (.tmp 58) rfl (wb + 1) #[.slice A7 (j.l.drop k).length c7, .slice B1 j.q.length d1, .int .i64 (j.g + k)] rfl rfl 25 _ HY9.out (size3_25 _ _ _) rfl (by simp [Value.oneCell']) ?_; intro w9 hh9 ho9))
  refine bodyPost_ret (results_row rfl _ _ (wb + 1) _ _ _ _ rfl hh9.out Tryd.underlying25 rfl (size3_25 _ _ _)) rfl ?_
  rw [HRR.out]
  have hz9 := ((HW9.out.mono (T := [wb + 1]) (by simp)).trans ho9).pop (show w.heap.size ≤ wb + 1 by rw [HBB.out]; omega)
  refine ⟨_, rfl, ?_, hz9.nil_below⟩
  have hl9 := ownsRow_only HL9.out ho9 (fun k hk h => by simp at h; subst h; exact HNLW.out hk)
  have hq9 := ownsRow_only HQ9.out ho9 (fun k hk h => by simp at h; subst h; exact HNBW.out hk)
  exact ⟨A7, c7, B1, d1, rfl, ownsRow_mono hl9 (by have := HW0S.out; have := HBB.out; omega), ownsRow_mono hq9 (by have := HW0S.out; have := HBB.out; omega)⟩
end Go.Proofs.YtghpmpjoedbpcaaDoor.Print
/-! ### EJOf -/
namespace Go.Proofs.YtghpmpjoedbpcaaDoor.Print
open Go.RowKit Go.Proofs.YtghpmpjoedbpcaaDoorW.PrintWords Go.Proofs.YtghpmpjoedbpcaaDoorW.PrintLast Go.Proofs.YtghpmpjoedbpcaaDoorW.PrintMore
set_option linter.unusedSimpArgs false
set_option linter.unusedVariables false
def ofJ (j : Jn) (n : Int) : List S27 := if rightJ j.l j.q j.g = false then [] else j.l.filter (fun x => decide (x.f1 = n))
set_option maxHeartbeats 8000000 in
set_option maxRecDepth 100000 in
theorem of_calls (A0 : Option Addr) (c0 : Nat) (A1 : Option Addr) (c1 : Nat) (j : Jn) (n : Int) (w : World) (h0 : j.l.length ≤ c0 ∧ Kd.C k27 w A0 j.l.length j.l) (h1 : j.q.length ≤ c1 ∧ Kd.C k35 w A1 j.q.length j.q) (hT : Tabs w) (hj : Jok j) :
    Calls Tryd.prog 15 #[.agg #[.slice A0 j.l.length c0, .slice A1 j.q.length c1, .int .i64 j.g], .int .i64 n] w fun x w' => ∃ v, x = .returned v ∧ w'.ownsRow w.heap.size 27 6 v (ofJ j n).length (eRow (ofJ j n)) ∧ Below w.heap.size w w' := by
  obtain ⟨R, hR⟩ : ∃ R, R = ofJ j n := ⟨_, rfl⟩
  rw [← hR]
  have HRR := Lib.hid hR
  have HA := Lib.hid h0
  have HB := Lib.hid h1
  have HT := Lib.hid hT
  have HJ := Lib.hid hj
  clear hR h0 h1 hT hj
  go_enter Tryd.func15, Tryd.ntmps15
  go_wp2_with (go_at_call 14; refine (fun (h : Hid _) => h.out) ?_)
  refine Lib.hid ?_
  have HX0 := Lib.hid (show ((w.alloc (.cells #[.slice A0 j.l.length c0, .slice A1 j.q.length c1, .int .i64 j.g] 25)).alloc (.cells #[.int .i64 n] 3)).heap[w.heap.size]? = some (.cells #[.slice A0 j.l.length c0, .slice A1 j.q.length c1, .int .i64 j.g] 25 (0, 0)) from (Below.heap_alloc _ _ _ (by simp)).trans (heap_alloc_new _ _))
  have HX1 := Lib.hid (show ((w.alloc (.cells #[.slice A0 j.l.length c0, .slice A1 j.q.length c1, .int .i64 j.g] 25)).alloc (.cells #[.int .i64 n] 3)).heap[w.heap.size + 1]? = some (.cells #[.int .i64 n] 3 (0, 0)) from by
    have := heap_alloc_new (w.alloc (.cells #[.slice A0 j.l.length c0, .slice A1 j.q.length c1, .int .i64 j.g] 25)) (.cells #[.int .i64 n] 3)
    rw [show (w.alloc (.cells #[.slice A0 j.l.length c0, .slice A1 j.q.length c1, .int .i64 j.g] 25)).heap.size = w.heap.size + 1 by simp] at this
    exact this)
  have HO0 := Lib.hid (((Only.refl [] w).alloc (.cells #[.slice A0 j.l.length c0, .slice A1 j.q.length c1, .int .i64 j.g] 25)).alloc (.cells #[.int .i64 n] 3))
  generalize (w.alloc (.cells #[.slice A0 j.l.length c0, .slice A1 j.q.length c1, .int .i64 j.g] 25)).alloc (.cells #[.int .i64 n] 3) = W0 at *
  generalize hb : w.heap.size = wb at *
  have HBB := Lib.hid hb
  clear hb
  refine (right_calls A0 c0 A1 c1 j W0 ⟨HA.out.1, Kd.C_below HA.out.2 HO0.out.nil_below⟩ ⟨HB.out.1, Kd.C_below HB.out.2 HO0.out.nil_below⟩ (HT.out.below HO0.out.nil_below) HJ.out).mono ?_
  rintro e W1 ⟨rfl, hb1⟩
  have HO1 := Lib.hid (HO0.out.trans (Only.of_below hb1))
  have HY0 := Lib.hid ((Only.of_below hb1).heap HX0.out (by simp))
  have HY1 := Lib.hid ((Only.of_below hb1).heap HX1.out (by simp))
  clear hb1 HX0 HX1 HO0
  unfold ofJ at HRR
  cases hr : rightJ j.l j.q j.g
  · have HR0 := Lib.hid (HRR.out.trans (if_pos hr))
    clear hr HRR
    go_wp2
    go_ret
    rw [HR0.out]
    exact ⟨_, rfl, ownsRow_nil _ _ _ _, HO1.out.nil_below⟩
  · replace HRR := Lib.hid (HRR.out.trans (if_neg (by rw [hr]; simp)))
    clear hr
    have HC := Lib.hid (clone_e A0 c0 j.l W1 (Kd.C_below HA.out.2 HO1.out.nil_below) HJ.out.2.1)
    have a0 : W1.cell? ⟨wb, 0, none⟩ = some (.slice A0 j.l.length c0) := (cell_of_row W1 wb 0 _ _ _ HY0.out).trans rfl
    go_wp2_with (go_at_call 36; refine HC.out.mono ?_; rintro e W2 ⟨v2, rfl, hown2, ho2⟩; refine (fun (h : Hid _) => h.out) ?_)
    refine Lib.hid ?_
    clear a0
    have HS2 := Lib.hid (show wb ≤ W1.heap.size from by have := HO1.out.size; have := HBB.out; omega)
    have HNB := Lib.hid (show v2.ownBlock ≠ some (wb + 1) from fun h => by have := (ownsRow_lt hown2 h).1; have := heap_lt HY1.out; omega)
    have HLT := Lib.hid (show ∀ k, v2.ownBlock = some k → W1.heap.size ≤ k from fun k hk => (ownsRow_lt hown2 hk).1)
    have HD := Lib.hid (delfunc_any v2 W1.heap.size (wb + 1) n j.l W2 hown2 (ho2.heap HY1.out (by simp)) HNB.out HJ.out.2.1 ho2.size)
    have HO2 := Lib.hid (HO1.out.trans ho2)
    clear hown2 ho2 HC
    go_wp2_with (go_at_call 35; refine HD.out.mono ?_; rintro e W3 ⟨v3, rfl, hown3, ho3⟩; have HOW := Lib.hid hown3; have HO3 := Lib.hid ho3; clear hown3 ho3)
    go_ret
    rw [HRR.out]
    refine ⟨_, rfl, ownsRow_mono HOW.out (by rw [HBB.out]; exact HS2.out), (HO2.out.then HO3.out (fun k hk => .inr ?_)).nil_below⟩
    have := HLT.out k (by simpa using hk)
    have := HS2.out
    have := HBB.out
    omega
def journal_Of.f (l0_0 : List S27) (l0_1 : List S35) (a0_2 : Int) (a1 : Int) : Option (List S27) := if namesOk l0_0 ∧ l0_0.length ≤ 1000000000 ∧ l0_1.length ≤ 1000000000 then some (ofJ ⟨l0_0, l0_1, a0_2⟩ a1) else none
theorem journal_Of.calls (A0_0 : Option Addr) (c0_0 : Nat) (l0_0 : List S27) (A0_1 : Option Addr) (c0_1 : Nat) (l0_1 : List S35) (a0_2 : Int) (a1 : Int) (r : List S27) (w : World) (hr0_0 : Kd.C k27 w A0_0 l0_0.length l0_0) (hc0_0 : l0_0.length ≤ c0_0) (hr0_1 : Kd.C k35 w A0_1 l0_1.length l0_1) (hc0_1 : l0_1.length ≤ c0_1) (hT : Tabs w) (h : journal_Of.f l0_0 l0_1 a0_2 a1 = some r) :
    Calls Tryd.prog 15 #[.agg #[.slice A0_0 l0_0.length c0_0, .slice A0_1 l0_1.length c0_1, .int .i64 a0_2], .int .i64 a1] w fun e w' => ∃ v0_ : Value, e = .returned (v0_) ∧ Kd.R k27 27 w' w.heap.size (fun _ => True) v0_ r ∧ Below w.heap.size w w' := by
  unfold journal_Of.f at h
  split at h
  case isFalse => cases h
  rename_i hok
  obtain rfl := Option.some.inj h
  refine (of_calls A0_0 c0_0 A0_1 c0_1 ⟨l0_0, l0_1, a0_2⟩ a1 w ⟨hc0_0, hr0_0⟩ ⟨hc0_1, hr0_1⟩ hT hok).mono ?_
  rintro e w' ⟨v, rfl, ho, hb⟩
  exact ⟨v, rfl, R_e ho, hb⟩
end Go.Proofs.YtghpmpjoedbpcaaDoor.Print
/-! ### EAwake -/
namespace Go.Proofs.YtghpmpjoedbpcaaDoor.Print
open Go.RowKit Go.Proofs.YtghpmpjoedbpcaaDoorW.PrintWords Go.Proofs.YtghpmpjoedbpcaaDoorW.PrintLast Go.Proofs.YtghpmpjoedbpcaaDoorW.PrintMore
set_option linter.unusedSimpArgs false
set_option linter.unusedVariables false
def exE : S27 := ⟨3, 1, 2, ⟨#[97]⟩, 0, 0⟩
theorem ex_open : openJ zJn 1 2 = (⟨[], [⟨1, 2, 0⟩], 0⟩, 0) := by kernel_rfl
theorem ex_add1 : addJ ⟨[], [⟨1, 2, 0⟩], 0⟩ exE = (⟨[exE], [⟨1, 1, 0⟩], 0⟩, 0) := by kernel_rfl
theorem ex_add2 : addJ ⟨[exE], [⟨1, 1, 0⟩], 0⟩ exE = (⟨[exE, exE], [⟨1, 0, 0⟩], 0⟩, 0) := by kernel_rfl
theorem ex_add3 : addJ ⟨[exE, exE], [⟨1, 0, 0⟩], 0⟩ exE = (zJn, 180) := by kernel_rfl
theorem ex_note : noteJ ⟨[exE, exE], [⟨1, 0, 0⟩], 0⟩ exE = (⟨[exE, exE], [⟨1, 0, 1⟩], 0⟩, 0) := by kernel_rfl
theorem exc_open (W : World) (hT : Tabs W) (base : Nat) (A0 : Option Addr) (c0 : Nat) (A1 : Option Addr) (c1 : Nat) (h0 : W.ownsRow base 27 6 (.slice A0 0 c0) 0 (eRow [])) (h1 : W.ownsRow base 35 3 (.slice A1 0 c1) 0 (qRow [])) :
    Calls Tryd.prog 19 #[.agg #[.slice A0 0 c0, .slice A1 0 c1, .int .i64 0], .int .i64 1, .int .i64 2] W fun e w' => ∃ A c B d, e = .returned (.tuple #[.agg #[.slice A 0 c, .slice B 1 d, .int .i64 0], .int .i64 0]) ∧ w'.ownsRow W.heap.size 27 6 (.slice A 0 c) 0 (eRow []) ∧ w'.ownsRow W.heap.size 35 3 (.slice B 1 d) 1 (qRow [⟨1, 2, 0⟩]) ∧ Below W.heap.size W w' := by
  have h := open_calls A0 c0 A1 c1 ⟨[], [], 0⟩ 1 2 W (own_e_reads h0) (own_q_reads h1) hT ⟨by unfold namesOk; decide, by decide, by decide⟩
  rw [show openJ ⟨[], [], 0⟩ 1 2 = _ from ex_open] at h
  refine h.mono ?_
  rintro e w' ⟨v, he, ⟨A, c, B, d, rfl, q1, q2⟩, hb⟩
  exact ⟨A, c, B, d, he, q1, q2, hb⟩
theorem exc_add1 (W : World) (hT : Tabs W) (base : Nat) (A0 : Option Addr) (c0 : Nat) (A1 : Option Addr) (c1 : Nat) (h0 : W.ownsRow base 27 6 (.slice A0 0 c0) 0 (eRow [])) (h1 : W.ownsRow base 35 3 (.slice A1 1 c1) 1 (qRow [⟨1, 2, 0⟩])) :
    Calls Tryd.prog 10 #[.agg #[.slice A0 0 c0, .slice A1 1 c1, .int .i64 0], .agg #[.int .i64 3, .int .i64 1, .int .i64 2, .string ⟨#[97]⟩, .int .i64 0, .int .i64 0]] W fun e w' => ∃ A c B d, e = .returned (.tuple #[.agg #[.slice A 1 c, .slice B 1 d, .int .i64 0], .int .i64 0]) ∧ w'.ownsRow W.heap.size 27 6 (.slice A 1 c) 1 (eRow [exE]) ∧ w'.ownsRow W.heap.size 35 3 (.slice B 1 d) 1 (qRow [⟨1, 1, 0⟩]) ∧ Below W.heap.size W w' := by
  have h := add_calls A0 c0 A1 c1 ⟨[], [⟨1, 2, 0⟩], 0⟩ exE W (own_e_reads h0) (own_q_reads h1) hT ⟨by unfold namesOk; decide, by decide, by decide⟩ (by decide)
  rw [ex_add1] at h
  refine h.mono ?_
  rintro e w' ⟨v, he, ⟨A, c, B, d, rfl, q1, q2⟩, hb⟩
  exact ⟨A, c, B, d, he, q1, q2, hb⟩
theorem exc_add2 (W : World) (hT : Tabs W) (base : Nat) (A0 : Option Addr) (c0 : Nat) (A1 : Option Addr) (c1 : Nat) (h0 : W.ownsRow base 27 6 (.slice A0 1 c0) 1 (eRow [exE])) (h1 : W.ownsRow base 35 3 (.slice A1 1 c1) 1 (qRow [⟨1, 1, 0⟩])) :
    Calls Tryd.prog 10 #[.agg #[.slice A0 1 c0, .slice A1 1 c1, .int .i64 0], .agg #[.int .i64 3, .int .i64 1, .int .i64 2, .string ⟨#[97]⟩, .int .i64 0, .int .i64 0]] W fun e w' => ∃ A c B d, e = .returned (.tuple #[.agg #[.slice A 2 c, .slice B 1 d, .int .i64 0], .int .i64 0]) ∧ w'.ownsRow W.heap.size 27 6 (.slice A 2 c) 2 (eRow [exE, exE]) ∧ w'.ownsRow W.heap.size 35 3 (.slice B 1 d) 1 (qRow [⟨1, 0, 0⟩]) ∧ Below W.heap.size W w' := by
  have h := add_calls A0 c0 A1 c1 ⟨[exE], [⟨1, 1, 0⟩], 0⟩ exE W (own_e_reads h0) (own_q_reads h1) hT ⟨by unfold namesOk; decide, by decide, by decide⟩ (by decide)
  rw [ex_add2] at h
  refine h.mono ?_
  rintro e w' ⟨v, he, ⟨A, c, B, d, rfl, q1, q2⟩, hb⟩
  exact ⟨A, c, B, d, he, q1, q2, hb⟩
theorem exc_add3 (W : World) (hT : Tabs W) (base : Nat) (A0 : Option Addr) (c0 : Nat) (A1 : Option Addr) (c1 : Nat) (h0 : W.ownsRow base 27 6 (.slice A0 2 c0) 2 (eRow [exE, exE])) (h1 : W.ownsRow base 35 3 (.slice A1 1 c1) 1 (qRow [⟨1, 0, 0⟩])) :
    Calls Tryd.prog 10 #[.agg #[.slice A0 2 c0, .slice A1 1 c1, .int .i64 0], .agg #[.int .i64 3, .int .i64 1, .int .i64 2, .string ⟨#[97]⟩, .int .i64 0, .int .i64 0]] W fun e w' => ∃ A c B d, e = .returned (.tuple #[.agg #[.slice A 0 c, .slice B 0 d, .int .i64 0], .int .i64 180]) ∧ w'.ownsRow W.heap.size 27 6 (.slice A 0 c) 0 (eRow []) ∧ w'.ownsRow W.heap.size 35 3 (.slice B 0 d) 0 (qRow []) ∧ Below W.heap.size W w' := by
  have h := add_calls A0 c0 A1 c1 ⟨[exE, exE], [⟨1, 0, 0⟩], 0⟩ exE W (own_e_reads h0) (own_q_reads h1) hT ⟨by unfold namesOk; decide, by decide, by decide⟩ (by decide)
  rw [ex_add3] at h
  refine h.mono ?_
  rintro e w' ⟨v, he, ⟨A, c, B, d, rfl, q1, q2⟩, hb⟩
  exact ⟨A, c, B, d, he, q1, q2, hb⟩
theorem exc_note (W : World) (hT : Tabs W) (base : Nat) (A0 : Option Addr) (c0 : Nat) (A1 : Option Addr) (c1 : Nat) (h0 : W.ownsRow base 27 6 (.slice A0 2 c0) 2 (eRow [exE, exE])) (h1 : W.ownsRow base 35 3 (.slice A1 1 c1) 1 (qRow [⟨1, 0, 0⟩])) :
    Calls Tryd.prog 11 #[.agg #[.slice A0 2 c0, .slice A1 1 c1, .int .i64 0], .agg #[.int .i64 3, .int .i64 1, .int .i64 2, .string ⟨#[97]⟩, .int .i64 0, .int .i64 0]] W fun e w' => ∃ A c B d, e = .returned (.tuple #[.agg #[.slice A 2 c, .slice B 1 d, .int .i64 0], .int .i64 0]) ∧ w'.ownsRow W.heap.size 27 6 (.slice A 2 c) 2 (eRow [exE, exE]) ∧ w'.ownsRow W.heap.size 35 3 (.slice B 1 d) 1 (qRow [⟨1, 0, 1⟩]) ∧ Below W.heap.size W w' := by
  have h := note_calls A0 c0 A1 c1 ⟨[exE, exE], [⟨1, 0, 0⟩], 0⟩ exE W (own_e_reads h0) (own_q_reads h1) hT ⟨by unfold namesOk; decide, by decide, by decide⟩ (by decide)
  rw [ex_note] at h
  refine h.mono ?_
  rintro e w' ⟨v, he, ⟨A, c, B, d, rfl, q1, q2⟩, hb⟩
  exact ⟨A, c, B, d, he, q1, q2, hb⟩
theorem exc_used (W : World) (hT : Tabs W) (base : Nat) (A0 : Option Addr) (c0 : Nat) (A1 : Option Addr) (c1 : Nat) (h0 : W.ownsRow base 27 6 (.slice A0 2 c0) 2 (eRow [exE, exE])) (h1 : W.ownsRow base 35 3 (.slice A1 1 c1) 1 (qRow [⟨1, 0, 1⟩])) :
    Calls Tryd.prog 18 #[.agg #[.slice A0 2 c0, .slice A1 1 c1, .int .i64 0]] W fun e w' => e = .returned (.int .i64 2) ∧ Below W.heap.size W w' :=
  journal_Used.calls A0 c0 [exE, exE] A1 c1 [⟨1, 0, 1⟩] 0 2 W (own_e_reads h0).2 (own_e_reads h0).1 (own_q_reads h1).2 (own_q_reads h1).1 hT (by kernel_rfl)
def malthouselaw18_awake.f : Option Bool := some true
set_option maxHeartbeats 8000000 in
set_option maxRecDepth 100000 in
theorem malthouselaw18_awake.calls (r : Bool) (w : World) (hT : Tabs w) (h : malthouselaw18_awake.f = some r) :
    Calls Tryd.prog 8 #[] w fun e w' => e = .returned (.bool r) ∧ Below w.heap.size w w' := by
  obtain rfl := Option.some.inj h
  clear h
  have HT := Lib.hid hT
  clear hT
  go_enter Tryd.func8, Tryd.ntmps8
  go_wp2_with (go_at_call 19; refine (exc_open w HT.out 0 none 0 none 0 (ownsRow_nil _ _ _ _) (ownsRow_nil _ _ _ _)).mono ?_; rintro e w1 ⟨A, c, B, d, rfl, h0, h1, hb⟩; have H0 := Lib.hid h0; have H1 := Lib.hid h1; have HB := Lib.hid (Only.of_below hb); clear h0 h1 hb; refine (fun (h : Hid _) => h.out) ?_)
  refine Lib.hid ?_
  go_wp2_with (go_at_call 10; refine (fun (h : Hid _) => h.out) ?_)
  refine Lib.hid ?_
  have hV := (Below.heap_alloc (w1.alloc (.cells #[.slice A 0 c, .slice B 1 d, .int .i64 0] 25)) (.cells #[.int .i64 3, .int .i64 1, .int .i64 2, .string ⟨#[97]⟩, .int .i64 0, .int .i64 0] 27) w1.heap.size (by simp)).trans (heap_alloc_new w1 (.cells #[.slice A 0 c, .slice B 1 d, .int .i64 0] 25))
  have hX := heap_alloc_new (w1.alloc (.cells #[.slice A 0 c, .slice B 1 d, .int .i64 0] 25)) (.cells #[.int .i64 3, .int .i64 1, .int .i64 2, .string ⟨#[97]⟩, .int .i64 0, .int .i64 0] 27)
  rw [show (w1.alloc (.cells #[.slice A 0 c, .slice B 1 d, .int .i64 0] 25)).heap.size = w1.heap.size + 1 by simp] at hX
  have ho : Only [] w1 ((w1.alloc (.cells #[.slice A 0 c, .slice B 1 d, .int .i64 0] 25)).alloc (.cells #[.int .i64 3, .int .i64 1, .int .i64 2, .string ⟨#[97]⟩, .int .i64 0, .int .i64 0] 27)) := ((Only.refl [] w1).alloc _).alloc _
  have HV := Lib.hid hV
  have HX := Lib.hid hX
  have HO := Lib.hid (HB.out.trans ho)
  have HP0 := Lib.hid (ownsRow_only H0.out ho (by simp))
  have HP1 := Lib.hid (ownsRow_only H1.out ho (by simp))
  have HS := Lib.hid (show w.heap.size ≤ w1.heap.size from HB.out.size)
  clear hV hX ho H0 H1 HB
  generalize (w1.alloc (.cells #[.slice A 0 c, .slice B 1 d, .int .i64 0] 25)).alloc (.cells #[.int .i64 3, .int .i64 1, .int .i64 2, .string ⟨#[97]⟩, .int .i64 0, .int .i64 0] 27) = W2 at *
  generalize hvb : w1.heap.size = vb at *
  clear hvb
  refine (exc_add1 W2 (HT.out.below HO.out.nil_below) _ A c B d HP0.out HP1.out).mono ?_
  rintro e U1 ⟨A1, c1, B1, d1, rfl, h0, h1, hb⟩
  have G1 := Lib.hid h0
  have K1 := Lib.hid h1
  have HB1 := Lib.hid (Only.of_below hb)
  clear h0 h1 hb
  have HVa1 := Lib.hid (HB1.out.heap HV.out (by simp))
  have HXa1 := Lib.hid (HB1.out.heap HX.out (by simp))
  have HOa1 := Lib.hid (HO.out.trans HB1.out)
  have HL1 := Lib.hid (show ∀ z, (Value.slice A1 1 c1).ownBlock = some z → vb + 1 < z from fun z hz => Nat.lt_of_lt_of_le (heap_lt HX.out) (ownsRow_lt G1.out hz).1)
  have HM1 := Lib.hid (show ∀ z, (Value.slice B1 1 d1).ownBlock = some z → vb + 1 < z from fun z hz => Nat.lt_of_lt_of_le (heap_lt HX.out) (ownsRow_lt K1.out hz).1)
  go_wp2_with (first
    | (with_reducible refine wpList_store_new rfl 25 (.tmp 1) (.tmp 20) rfl vb #[.slice A1 1 c1, .slice B1 1 d1, .int .i64 0] rfl rfl 25 _ HVa1.out (size3_25 _ _ _) rfl (by simp [Value.oneCell']) ?_; intro V1 hh ho; have HVb1 := Lib.hid hh.out; have HOs1 := Lib.hid ho; clear hh ho; refine (fun (h : Hid _) => h.out) ?_))
  refine Lib.hid ?_
  have HXb1 := Lib.hid (HOs1.out.heap HXa1.out (by simp))
  have HOb1 := Lib.hid (HOa1.out.then HOs1.out (fun i hi => .inr (by simp at hi; subst hi; exact HS.out)))
  have Ga1 := Lib.hid (ownsRow_only G1.out HOs1.out (fun z hz h => by have := HL1.out z hz; simp at h; omega))
  have Ka1 := Lib.hid (ownsRow_only K1.out HOs1.out (fun z hz h => by have := HM1.out z hz; simp at h; omega))
  clear HVa1 HXa1 HOa1 HOs1 G1 K1 HB1 HV HX HO
  go_wp2_with (first
    | (with_reducible refine wpList_load_at rfl 25 (.tmp 1) rfl ⟨vb, 0, none⟩ rfl _ _ (cellsAt_row HVb1.out) Tryd.underlying25 rfl (by kernel_rfl) ?_)
    | (with_reducible refine wpList_load_at rfl 27 (.tmp 3) rfl ⟨vb + 1, 0, none⟩ rfl _ _ (cellsAt_row HXb1.out) Tryd.underlying27 rfl (by kernel_rfl) ?_)
    | (go_at_call 10; refine (exc_add2 V1 (HT.out.below HOb1.out.nil_below) _ A1 c1 B1 d1 Ga1.out Ka1.out).mono ?_; rintro e U2 ⟨A2, c2, B2, d2, rfl, h0, h1, hb⟩; have G2 := Lib.hid h0; have K2 := Lib.hid h1; have HB2 := Lib.hid (Only.of_below hb); clear h0 h1 hb; refine (fun (h : Hid _) => h.out) ?_))
  refine Lib.hid ?_
  have HVa2 := Lib.hid (HB2.out.heap HVb1.out (by simp))
  have HXa2 := Lib.hid (HB2.out.heap HXb1.out (by simp))
  have HOa2 := Lib.hid (HOb1.out.trans HB2.out)
  have HL2 := Lib.hid (show ∀ z, (Value.slice A2 2 c2).ownBlock = some z → vb + 1 < z from fun z hz => Nat.lt_of_lt_of_le (heap_lt HXb1.out) (ownsRow_lt G2.out hz).1)
  have HM2 := Lib.hid (show ∀ z, (Value.slice B2 1 d2).ownBlock = some z → vb + 1 < z from fun z hz => Nat.lt_of_lt_of_le (heap_lt HXb1.out) (ownsRow_lt K2.out hz).1)
  go_wp2_with (first
    | (with_reducible refine wpList_store_new rfl 25 (.tmp 1) (.tmp 26) rfl vb #[.slice A2 2 c2, .slice B2 1 d2, .int .i64 0] rfl rfl 25 _ HVa2.out (size3_25 _ _ _) rfl (by simp [Value.oneCell']) ?_; intro V2 hh ho; have HVb2 := Lib.hid hh.out; have HOs2 := Lib.hid ho; clear hh ho; refine (fun (h : Hid _) => h.out) ?_))
  refine Lib.hid ?_
  have HXb2 := Lib.hid (HOs2.out.heap HXa2.out (by simp))
  have HOb2 := Lib.hid (HOa2.out.then HOs2.out (fun i hi => .inr (by simp at hi; subst hi; exact HS.out)))
  have Ga2 := Lib.hid (ownsRow_only G2.out HOs2.out (fun z hz h => by have := HL2.out z hz; simp at h; omega))
  have Ka2 := Lib.hid (ownsRow_only K2.out HOs2.out (fun z hz h => by have := HM2.out z hz; simp at h; omega))
  clear HVa2 HXa2 HOa2 HOs2 G2 K2 HB2 HVb1 HXb1 HOb1
  go_wp2_with (first
    | (with_reducible refine wpList_load_at rfl 25 (.tmp 1) rfl ⟨vb, 0, none⟩ rfl _ _ (cellsAt_row HVb2.out) Tryd.underlying25 rfl (by kernel_rfl) ?_)
    | (with_reducible refine wpList_load_at rfl 27 (.tmp 3) rfl ⟨vb + 1, 0, none⟩ rfl _ _ (cellsAt_row HXb2.out) Tryd.underlying27 rfl (by kernel_rfl) ?_)
    | (go_at_call 10; refine (exc_add3 V2 (HT.out.below HOb2.out.nil_below) _ A2 c2 B2 d2 Ga2.out Ka2.out).mono ?_; rintro e U3 ⟨A3, c3, B3, d3, rfl, h0, h1, hb⟩; have G3 := Lib.hid h0; have K3 := Lib.hid h1; have HB3 := Lib.hid (Only.of_below hb); clear h0 h1 hb; refine (fun (h : Hid _) => h.out) ?_))
  refine Lib.hid ?_
  have HVc := Lib.hid (HB3.out.heap HVb2.out (by simp))
  have HXc := Lib.hid (HB3.out.heap HXb2.out (by simp))
  have HOc := Lib.hid (HOb2.out.trans HB3.out)
  have Gc := Lib.hid (ownsRow_only Ga2.out HB3.out (by simp))
  have Kc := Lib.hid (ownsRow_only Ka2.out HB3.out (by simp))
  have hal : Only [] U3 (U3.alloc (.cells #[.slice A3 0 c3, .slice B3 0 d3, .int .i64 0] 25)) := (Only.refl [] U3).alloc _
  have HVd := Lib.hid (hal.heap HVc.out (by simp))
  have HXd := Lib.hid (hal.heap HXc.out (by simp))
  have HOd := Lib.hid (HOc.out.trans hal)
  have Gd := Lib.hid (ownsRow_only Gc.out hal (by simp))
  have Kd_ := Lib.hid (ownsRow_only Kc.out hal (by simp))
  clear hal HVc HXc HOc Gc Kc
  go_wp2_with (first
    | (with_reducible refine wpList_load_at rfl 25 (.tmp 1) rfl ⟨vb, 0, none⟩ rfl _ _ (cellsAt_row HVd.out) Tryd.underlying25 rfl (by kernel_rfl) ?_)
    | (with_reducible refine wpList_load_at rfl 27 (.tmp 3) rfl ⟨vb + 1, 0, none⟩ rfl _ _ (cellsAt_row HXd.out) Tryd.underlying27 rfl (by kernel_rfl) ?_)
    | (go_at_call 11; refine (fun (h : Hid _) => h.out) ?_))
  refine Lib.hid ?_
  generalize U3.alloc (.cells #[.slice A3 0 c3, .slice B3 0 d3, .int .i64 0] 25) = U4 at *
  refine (exc_note U4 (HT.out.below HOd.out.nil_below) _ A2 c2 B2 d2 Gd.out Kd_.out).mono ?_
  rintro e U5 ⟨A5, c5, B5, d5, rfl, h0, h1, hb⟩
  have G5 := Lib.hid h0
  have K5 := Lib.hid h1
  have HB5 := Lib.hid (Only.of_below hb)
  clear h0 h1 hb
  have HVe := Lib.hid (HOd.out.trans HB5.out)
  have hal : Only [] U5 (U5.alloc (.cells #[.slice A5 2 c5, .slice B5 1 d5, .int .i64 0] 25)) := (Only.refl [] U5).alloc _
  have HR := Lib.hid (heap_alloc_new U5 (.cells #[.slice A5 2 c5, .slice B5 1 d5, .int .i64 0] 25))
  have HOf := Lib.hid (HVe.out.trans hal)
  have Gf := Lib.hid (ownsRow_only G5.out hal (by simp))
  have Kf := Lib.hid (ownsRow_only K5.out hal (by simp))
  clear hal
  have hq : (U5.alloc (.cells #[.slice A5 2 c5, .slice B5 1 d5, .int .i64 0] 25)).cell? ⟨U5.heap.size, 1, none⟩ = some (.slice B5 1 d5) := (cell_of_row _ _ 1 _ _ _ HR.out).trans rfl
  have hl : (U5.alloc (.cells #[.slice A5 2 c5, .slice B5 1 d5, .int .i64 0] 25)).cell? ⟨U5.heap.size, 0, none⟩ = some (.slice A5 2 c5) := (cell_of_row _ _ 0 _ _ _ HR.out).trans rfl
  obtain ⟨g5, hB5, hd2⟩ : ∃ g5, B5 = some ⟨g5, 0, none⟩ ∧ (U5.alloc (.cells #[.slice A5 2 c5, .slice B5 1 d5, .int .i64 0] 25)).cell? ⟨g5, 2, none⟩ = some (.int .i64 1) := by
    rcases Kf.out.2 with ⟨_, hz⟩ | ⟨g, cap, cur, e1, hb, hh, hn, _, hs, ht⟩
    · cases hz
    · injection e1 with e1 e2 e3
      refine ⟨g, e1, ?_⟩
      have h2 : (cur.toList.take (1 * 3))[2]? = some (Value.int .i64 1) := by rw [ht]; rfl
      rw [List.getElem?_take_of_lt (by omega)] at h2
      rw [cell_of_row _ g _ _ _ _ hh, ← Array.getElem?_toList]
      exact h2
  subst hB5
  go_wp2_with (first
    | (with_reducible refine wpList_load_at rfl 25 (.tmp 8) rfl ⟨U5.heap.size, 0, none⟩ rfl _ _ (cellsAt_row HR.out) Tryd.underlying25 rfl (by kernel_rfl) ?_)
    | (go_at_call 18; refine (exc_used _ (HT.out.below HOf.out.nil_below) _ _ _ _ _ Gf.out Kf.out).mono ?_; rintro e U7 ⟨rfl, hb⟩; have HB7 := Lib.hid (Only.of_below hb); clear hb))
  go_ret
  exact ⟨rfl, (HOf.out.trans HB7.out).nil_below⟩
end Go.Proofs.YtghpmpjoedbpcaaDoor.Print
/-! ### Print3 -/
namespace Go.Proofs.YtghpmpjoedbpcaaDoor.Print
open Go.RowKit Go.Proofs.YtghpmpjoedbpcaaDoorW.PrintWords Go.Proofs.YtghpmpjoedbpcaaDoorW.PrintLast Go.Proofs.YtghpmpjoedbpcaaDoorW.PrintMore
attribute [local go_sem] min2_int min_two
set_option linter.unusedVariables false
set_option linter.unusedSimpArgs false
mutual
def malthouseref18_Light.j0 : Nat → Bool → List (S27) → List (S35) → Int → Option (Bool)
  | 0, _, _, _, _ => none
  | k + 1, x13, x102000, x102001, x102002 => if x13 = true then (some false) else (malthouseref18_Light.l0 k 0 x102000 x102001 x102002)
def malthouseref18_Light.l0 : Nat → Int → List (S27) → List (S35) → Int → Option (Bool)
  | 0, _, _, _, _ => none
  | k + 1, x3, x102000, x102001, x102002 => if x3 < (x102000.length : Int) then (if 0 ≤ x3 then (if (((rd_T27 x102000 x3).f3).size : Int) > 200 then (some false) else (malthouseref18_Light.l0 k (wrap64 (x3 + 1)) x102000 x102001 x102002)) else (none)) else (some true)
end
def malthouseref18_Light.f (k : Nat) (l0_0 : List (S27)) (l0_1 : List (S35)) (a0_2 : Int) : Option (Bool) := if (l0_0.length : Int) > 300 then (malthouseref18_Light.j0 k true l0_0 l0_1 a0_2) else (malthouseref18_Light.j0 k (decide ((l0_1.length : Int) > 300)) l0_0 l0_1 a0_2)
set_option maxHeartbeats 8000000 in
set_option maxRecDepth 100000 in
theorem malthouseref18_Light.calls (k : Nat) (A0_0 : Option Addr) (c0_0 : Nat) (l0_0 : List (S27)) (A0_1 : Option Addr) (c0_1 : Nat) (l0_1 : List (S35)) (a0_2 : Int) (r : Bool) (w : World) (hr0_0 : Kd.C k27 w A0_0 l0_0.length l0_0) (hc0_0 : l0_0.length ≤ c0_0) (hr0_1 : Kd.C k35 w A0_1 l0_1.length l0_1) (hc0_1 : l0_1.length ≤ c0_1) (h : malthouseref18_Light.f k l0_0 l0_1 a0_2 = some r) :
    Calls Tryd.prog 9 #[.agg #[.slice A0_0 l0_0.length c0_0, .slice A0_1 l0_1.length c0_1, .int .i64 a0_2]] w fun e w' => e = .returned (.bool r) ∧ Below w.heap.size w w' := by
  have hu25 := Tryd.underlying25
  have HR0_0 := Aside0.mk hr0_0
  have HC0_0 := Aside0.mk hc0_0
  clear hr0_0 hc0_0
  have HR0_1 := Aside0.mk hr0_1
  have HC0_1 := Aside0.mk hc0_1
  clear hr0_1 hc0_1
  have HB := Aside0.mk (Below.refl w.heap.size w)
  have H : (if (l0_0.length : Int) > 300 then (malthouseref18_Light.j0 k true l0_0 l0_1 a0_2) else (malthouseref18_Light.j0 k (decide ((l0_1.length : Int) > 300)) l0_0 l0_1 a0_2)) = some r := h
  clear h
  have HC2 := Aside0.mk H
  clear H
  go_enter Tryd.func9, Tryd.ntmps9
  go_upto_region 1 with (first | ((with_reducible refine gate_dst (N := 1) rfl ?_); (try (refine gate_guard (by rfl) ?_; dsimp only)); refine box_event ?hg (N := 1) ?hd (cs := #[.slice A0_0 l0_0.length c0_0, .slice A0_1 l0_1.length c0_1, .int .i64 a0_2]) (t := 25) ?hr ?_; (case hd => rfl); (case hg => rfl); (case hr => first | (go_simp; done) | (go_simp; rfl)); intro gb101 hg w3 hbox hb; have n0_ := Aside0.mk (below_step (by repeat (first | (with_reducible first | exact HB.out | apply below_alloc | apply pw_below_drewN | apply below_drew1) | exact HB.out)) hb); have n1_ := Aside0.mk (hbox); have n2_ := Aside0.mk ((by rw [hg]; exact (below_size (by repeat (first | (with_reducible first | exact HB.out | apply below_alloc | apply pw_below_drewN | apply below_drew1) | exact HB.out))) : w.heap.size ≤ gb101)); have n3_ := Aside0.mk ((by rw [hg]; exact (below_size (by repeat (first | (with_reducible first | exact HB.out | apply below_alloc | apply pw_below_drewN | apply below_drew1) | exact HB.out))) : w.heap.size ≤ gb101)); clear HB; have HB := n0_; have BK101 := n1_; have GW101 := n2_; have GE101 := n3_; clear n0_ n1_ n2_ n3_; clear hb hbox hg))
  (try simp only [Act.put, List.setIfInBounds_toArray, List.set_cons_zero, List.set_cons_succ])
  go_cut [13] (fun v13 wc => ∃ (kq : Nat) (x13_1 : Bool), v13 = .bool x13_1 ∧ Aside0 (malthouseref18_Light.j0 kq x13_1 l0_0 l0_1 a0_2 = some r) ∧ Aside0 (kq ≤ k) ∧ Aside0 (wc.heap[gb101]? = some (.cells #[(.slice A0_0 l0_0.length c0_0), (.slice A0_1 l0_1.length c0_1), .int .i64 a0_2] 25 (0, 0))) ∧ Aside0 (Below w.heap.size w wc))
  case first =>
    have H := HC2.out
    clear HC2
    by_cases c4 : (l0_0.length : Int) > 300
    · rw [if_pos c4] at H
      have c4b0 : decide (300 < (l0_0.length : Int)) = true := decide_eq_true c4
      have c4b1 : decide (300 < l0_0.length) = true := decide_eq_true (by omega)
      clear c4
      (first | rw [c4b0] | (simp only [i64_w, i32_w]; rw [c4b0]) | skip)
      have H' := Aside0.mk H
      clear H
      have hcz5_0 : w3.cell? ⟨gb101, 0, none⟩ = some (.slice A0_0 l0_0.length c0_0) := (blk_cell BK101.out 0).trans rfl
      have hcz5_1 : w3.cell? ⟨gb101, 1, none⟩ = some (.slice A0_1 l0_1.length c0_1) := (blk_cell BK101.out 1).trans rfl
      have hcz5_2 : w3.cell? ⟨gb101, 2, none⟩ = some (.int .i64 a0_2) := (blk_cell BK101.out 2).trans rfl
      have hfz5_0 := blk_frozen BK101.out 0
      have hfz5_1 := blk_frozen BK101.out 1
      have hfz5_2 := blk_frozen BK101.out 2
      go_wp2
      go_meet
      case rel => exact ⟨_, (true), (by first | rfl | (simp; done) | (simp [*]; done)), H', ⟨by first | omega | exact Nat.le_refl _⟩, ⟨by (with_reducible repeat (first | refine blk_drewN ?_ _ | refine blk_drew ?_ | refine blk_alloc ?_ _)); exact BK101.out⟩, ⟨by repeat (first | (with_reducible first | exact HB.out | apply below_alloc | apply pw_below_drewN | apply below_drew1 | refine below_set ?_ GE101.out) | exact HB.out)⟩⟩
    · rw [if_neg c4] at H
      have c4b0 : decide (300 < (l0_0.length : Int)) = false := decide_eq_false c4
      have c4b1 : decide (300 < l0_0.length) = false := decide_eq_false (by omega)
      clear c4
      (first | rw [c4b0] | (simp only [i64_w, i32_w]; rw [c4b0]) | skip)
      have H' := Aside0.mk H
      clear H
      have hcz6_0 : w3.cell? ⟨gb101, 0, none⟩ = some (.slice A0_0 l0_0.length c0_0) := (blk_cell BK101.out 0).trans rfl
      have hcz6_1 : w3.cell? ⟨gb101, 1, none⟩ = some (.slice A0_1 l0_1.length c0_1) := (blk_cell BK101.out 1).trans rfl
      have hcz6_2 : w3.cell? ⟨gb101, 2, none⟩ = some (.int .i64 a0_2) := (blk_cell BK101.out 2).trans rfl
      have hfz6_0 := blk_frozen BK101.out 0
      have hfz6_1 := blk_frozen BK101.out 1
      have hfz6_2 := blk_frozen BK101.out 2
      go_wp2
      go_meet
      case rel => exact ⟨_, (decide ((l0_1.length : Int) > 300)), (by first | rfl | (simp; done) | (simp [*]; done)), H', ⟨by first | omega | exact Nat.le_refl _⟩, ⟨by (with_reducible repeat (first | refine blk_drewN ?_ _ | refine blk_drew ?_ | refine blk_alloc ?_ _)); exact BK101.out⟩, ⟨by repeat (first | (with_reducible first | exact HB.out | apply below_alloc | apply pw_below_drewN | apply below_drew1 | refine below_set ?_ GE101.out) | exact HB.out)⟩⟩
  case rest =>
    clear HC2
    try clear p2
    try clear c4
    try clear c4b0
    try clear c4b1
    try clear hcz5_0
    try clear hcz5_1
    try clear hcz5_2
    try clear hcz6_0
    try clear hcz6_1
    try clear hcz6_2
    try clear hfz5_0
    try clear hfz5_1
    try clear hfz5_2
    try clear hfz6_0
    try clear hfz6_1
    try clear hfz6_2
    obtain ⟨kq, x13_1, rfl, HA, HJ1, BK101, HB⟩ := hcut
    cases kq with
    | zero => exact absurd HA.out (by simp [malthouseref18_Light.j0])
    | succ kj1 =>
      have H := HA.out
      clear HA
      simp only [malthouseref18_Light.j0] at H
      by_cases c7 : x13_1 = true
      · subst c7
        have H1 : (some false) = some r := by rw [if_pos rfl] at H; exact H
        clear H
        have H := H1
        clear H1
        obtain rfl := Option.some.inj H
        go_wp2
        go_ret
        exact ⟨by first | rfl | (simp [errW_none, errW_some] <;> rfl) | (simp [*, errW_none, errW_some] <;> rfl), by repeat (first | (with_reducible first | exact HB.out | apply below_alloc | apply pw_below_drewN | apply below_drew1 | refine below_set ?_ GE101.out) | exact HB.out)⟩
      · replace c7 := Bool.eq_false_iff.mpr c7
        subst c7
        have H1 : (malthouseref18_Light.l0 kj1 0 l0_0 l0_1 a0_2) = some r := by rw [if_neg (show ¬ (false = true) by decide)] at H; exact H
        clear H
        have H := H1
        clear H1
        have H' := Aside0.mk H
        clear H
        go_wp2
        go_loopg [3] kj1 (fun kq v3 w' => ∃ (x3_2 : Int), v3 = .int .i64 x3_2 ∧ Aside0 (malthouseref18_Light.l0 kq x3_2 l0_0 l0_1 a0_2 = some r) ∧ Aside0 (kq ≤ kj1) ∧ Aside0 (w'.heap[gb101]? = some (.cells #[(.slice A0_0 l0_0.length c0_0), (.slice A0_1 l0_1.length c0_1), .int .i64 a0_2] 25 (0, 0))) ∧ Aside0 (Below w.heap.size w w'))
        case atStart => exact ⟨(0), (by first | rfl | (simp; done) | (simp [*]; done)), H', ⟨Nat.le_refl _⟩, ⟨by (with_reducible repeat (first | refine blk_drewN ?_ _ | refine blk_drew ?_ | refine blk_alloc ?_ _)); exact BK101.out⟩, ⟨by repeat (first | (with_reducible first | exact HB.out | apply below_alloc | apply pw_below_drewN | apply below_drew1 | refine below_set ?_ GE101.out) | exact HB.out)⟩⟩
        case round =>
          clear H'
          try clear p2
          try clear c4
          try clear c4b0
          try clear c4b1
          try clear c7
          try clear hcz5_0
          try clear hcz5_1
          try clear hcz5_2
          try clear hcz6_0
          try clear hcz6_1
          try clear hcz6_2
          try clear hfz5_0
          try clear hfz5_1
          try clear hfz5_2
          try clear hfz6_0
          try clear hfz6_1
          try clear hfz6_2
          try clear p2
          obtain ⟨x3_2, rfl, HA, HK2, BK101, HB⟩ := hrel
          cases gk with
          | zero => exact absurd HA.out (by simp [malthouseref18_Light.l0])
          | succ k2 =>
            have H := HA.out
            clear HA
            simp only [malthouseref18_Light.l0] at H
            by_cases c8 : x3_2 < (l0_0.length : Int)
            · rw [if_pos c8] at H
              have c8b0 : decide (x3_2 < (l0_0.length : Int)) = true := decide_eq_true c8
              clear c8
              by_cases c9 : 0 ≤ x3_2
              · rw [if_pos c9] at H
                have c9b0 : decide (0 ≤ x3_2) = true := decide_eq_true c9
                clear c9
                by_cases c10 : (((rd_T27 l0_0 x3_2).f3).size : Int) > 200
                · rw [if_pos c10] at H
                  have c10b0 : decide (200 < (((rd_T27 l0_0 x3_2).f3).size : Int)) = true := decide_eq_true c10
                  have c10b1 : decide (200 < ((rd_T27 l0_0 x3_2).f3).size) = true := decide_eq_true (by omega)
                  clear c10
                  obtain rfl := Option.some.inj H
                  have hcz11_0 : wr.cell? ⟨gb101, 0, none⟩ = some (.slice A0_0 l0_0.length c0_0) := (blk_cell BK101.out 0).trans rfl
                  have hcz11_1 : wr.cell? ⟨gb101, 1, none⟩ = some (.slice A0_1 l0_1.length c0_1) := (blk_cell BK101.out 1).trans rfl
                  have hcz11_2 : wr.cell? ⟨gb101, 2, none⟩ = some (.int .i64 a0_2) := (blk_cell BK101.out 2).trans rfl
                  have hfz11_0 := blk_frozen BK101.out 0
                  have hfz11_1 := blk_frozen BK101.out 1
                  have hfz11_2 := blk_frozen BK101.out 2
                  have p102 : 0 ≤ (x3_2 : Int) := of_decide_eq_true (by first | (with_reducible assumption) | assumption)
                  have q102 : x3_2 < (l0_0.length : Int) := of_decide_eq_true (by first | (with_reducible assumption) | assumption)
                  obtain ⟨ad102, e102, hx102_0, hx102_1, hx102_2, hx102_3, hx102_4, hx102_5⟩ := at_T27 HR0_0.out x3_2 p102 q102
                  cases e102
                  replace hx102_0 := (HB.out.cell (World.block_lt_of_cell? w _ hx102_0)).trans hx102_0
                  replace hx102_1 := (HB.out.cell (World.block_lt_of_cell? w _ hx102_1)).trans hx102_1
                  replace hx102_2 := (HB.out.cell (World.block_lt_of_cell? w _ hx102_2)).trans hx102_2
                  replace hx102_3 := (HB.out.cell (World.block_lt_of_cell? w _ hx102_3)).trans hx102_3
                  replace hx102_4 := (HB.out.cell (World.block_lt_of_cell? w _ hx102_4)).trans hx102_4
                  replace hx102_5 := (HB.out.cell (World.block_lt_of_cell? w _ hx102_5)).trans hx102_5
                  replace p102 := eq_true p102
                  replace q102 := eq_true q102
                  go_wp2
                  go_ret
                  exact ⟨by first | rfl | (simp [errW_none, errW_some] <;> rfl) | (simp [*, errW_none, errW_some] <;> rfl), by repeat (first | (with_reducible first | exact HB.out | apply below_alloc | apply pw_below_drewN | apply below_drew1 | refine below_set ?_ GE101.out) | exact HB.out)⟩
                · rw [if_neg c10] at H
                  have c10b0 : decide (200 < (((rd_T27 l0_0 x3_2).f3).size : Int)) = false := decide_eq_false c10
                  have c10b1 : decide (200 < ((rd_T27 l0_0 x3_2).f3).size) = false := decide_eq_false (by omega)
                  clear c10
                  have H' := Aside0.mk H
                  clear H
                  have hcz12_0 : wr.cell? ⟨gb101, 0, none⟩ = some (.slice A0_0 l0_0.length c0_0) := (blk_cell BK101.out 0).trans rfl
                  have hcz12_1 : wr.cell? ⟨gb101, 1, none⟩ = some (.slice A0_1 l0_1.length c0_1) := (blk_cell BK101.out 1).trans rfl
                  have hcz12_2 : wr.cell? ⟨gb101, 2, none⟩ = some (.int .i64 a0_2) := (blk_cell BK101.out 2).trans rfl
                  have hfz12_0 := blk_frozen BK101.out 0
                  have hfz12_1 := blk_frozen BK101.out 1
                  have hfz12_2 := blk_frozen BK101.out 2
                  have p102 : 0 ≤ (x3_2 : Int) := of_decide_eq_true (by first | (with_reducible assumption) | assumption)
                  have q102 : x3_2 < (l0_0.length : Int) := of_decide_eq_true (by first | (with_reducible assumption) | assumption)
                  obtain ⟨ad102, e102, hx102_0, hx102_1, hx102_2, hx102_3, hx102_4, hx102_5⟩ := at_T27 HR0_0.out x3_2 p102 q102
                  cases e102
                  replace hx102_0 := (HB.out.cell (World.block_lt_of_cell? w _ hx102_0)).trans hx102_0
                  replace hx102_1 := (HB.out.cell (World.block_lt_of_cell? w _ hx102_1)).trans hx102_1
                  replace hx102_2 := (HB.out.cell (World.block_lt_of_cell? w _ hx102_2)).trans hx102_2
                  replace hx102_3 := (HB.out.cell (World.block_lt_of_cell? w _ hx102_3)).trans hx102_3
                  replace hx102_4 := (HB.out.cell (World.block_lt_of_cell? w _ hx102_4)).trans hx102_4
                  replace hx102_5 := (HB.out.cell (World.block_lt_of_cell? w _ hx102_5)).trans hx102_5
                  replace p102 := eq_true p102
                  replace q102 := eq_true q102
                  go_wp2
                  go_roundg k2
                  case measure => have := HJ1.out; have := HK2.out; omega
                  case rel => exact ⟨(wrap64 (x3_2 + 1)), (by first | rfl | (simp; done) | (simp [*]; done)), H', ⟨by have := HJ1.out; have := HK2.out; omega⟩, ⟨by (with_reducible repeat (first | refine blk_drewN ?_ _ | refine blk_drew ?_ | refine blk_alloc ?_ _)); exact BK101.out⟩, ⟨by repeat (first | (with_reducible first | exact HB.out | apply below_alloc | apply pw_below_drewN | apply below_drew1 | refine below_set ?_ GE101.out) | exact HB.out)⟩⟩
              · rw [if_neg c9] at H
                exact absurd H (by simp)
            · rw [if_neg c8] at H
              have c8b0 : decide (x3_2 < (l0_0.length : Int)) = false := decide_eq_false c8
              clear c8
              obtain rfl := Option.some.inj H
              have hcz13_0 : wr.cell? ⟨gb101, 0, none⟩ = some (.slice A0_0 l0_0.length c0_0) := (blk_cell BK101.out 0).trans rfl
              have hcz13_1 : wr.cell? ⟨gb101, 1, none⟩ = some (.slice A0_1 l0_1.length c0_1) := (blk_cell BK101.out 1).trans rfl
              have hcz13_2 : wr.cell? ⟨gb101, 2, none⟩ = some (.int .i64 a0_2) := (blk_cell BK101.out 2).trans rfl
              have hfz13_0 := blk_frozen BK101.out 0
              have hfz13_1 := blk_frozen BK101.out 1
              have hfz13_2 := blk_frozen BK101.out 2
              go_wp2
              go_ret
              exact ⟨by first | rfl | (simp [errW_none, errW_some] <;> rfl) | (simp [*, errW_none, errW_some] <;> rfl), by repeat (first | (with_reducible first | exact HB.out | apply below_alloc | apply pw_below_drewN | apply below_drew1 | refine below_set ?_ GE101.out) | exact HB.out)⟩
end Go.Proofs.YtghpmpjoedbpcaaDoor.Print
/-! ### Print1 -/
namespace Go.Proofs.YtghpmpjoedbpcaaDoor.Print
open Go.RowKit Go.Proofs.YtghpmpjoedbpcaaDoorW.PrintWords Go.Proofs.YtghpmpjoedbpcaaDoorW.PrintLast Go.Proofs.YtghpmpjoedbpcaaDoorW.PrintMore
attribute [local go_sem] min2_int min_two
set_option linter.unusedVariables false
set_option linter.unusedSimpArgs false
theorem eqA27 (d : Nat) (w : World) (x0 y0 : Int) (x1 y1 : Int) (x2 y2 : Int) (x3 y3 : ByteArray) (x4 y4 : Int) (x5 y5 : Int) :
    (Op.equalIn (d + 2) 27 (.agg #[.int .i64 x0, .int .i64 x1, .int .i64 x2, .string x3, .int .i64 x4, .int .i64 x5]) (.agg #[.int .i64 y0, .int .i64 y1, .int .i64 y2, .string y3, .int .i64 y4, .int .i64 y5])).run Tryd.prog w = .ok (x0 == y0 && (x1 == y1 && (x2 == y2 && (x3.toList == y3.toList && (x4 == y4 && (x5 == y5)))))) w := by
  refine eqA_of Tryd.underlying27 (by kernel_rfl) ?_
  refine eqf_cons (by rfl) (by go_simp; rfl) (by go_simp; rfl) (by go_simp) ?_
  refine eqf_cons (by rfl) (by go_simp; rfl) (by go_simp; rfl) (by go_simp) ?_
  refine eqf_cons (by rfl) (by go_simp; rfl) (by go_simp; rfl) (by go_simp) ?_
  refine eqf_cons (by rfl) (by go_simp; rfl) (by go_simp; rfl) (by go_simp) ?_
  refine eqf_cons (by rfl) (by go_simp; rfl) (by go_simp; rfl) (by go_simp) ?_
  exact eqf_last (by rfl) (by go_simp; rfl) (by go_simp; rfl) (by go_simp)
end Go.Proofs.YtghpmpjoedbpcaaDoor.Print
/-! ### Print2 -/
namespace Go.Proofs.YtghpmpjoedbpcaaDoor.Print
open Go.RowKit Go.Proofs.YtghpmpjoedbpcaaDoorW.PrintWords Go.Proofs.YtghpmpjoedbpcaaDoorW.PrintLast Go.Proofs.YtghpmpjoedbpcaaDoorW.PrintMore
attribute [local go_sem] min2_int min_two
set_option linter.unusedVariables false
set_option linter.unusedSimpArgs false
theorem eqA35 (d : Nat) (w : World) (x0 y0 : Int) (x1 y1 : Int) (x2 y2 : Int) :
    (Op.equalIn (d + 2) 35 (.agg #[.int .i64 x0, .int .i64 x1, .int .i64 x2]) (.agg #[.int .i64 y0, .int .i64 y1, .int .i64 y2])).run Tryd.prog w = .ok (x0 == y0 && (x1 == y1 && (x2 == y2))) w := by
  refine eqA_of Tryd.underlying35 (by kernel_rfl) ?_
  refine eqf_cons (by rfl) (by go_simp; rfl) (by go_simp; rfl) (by go_simp) ?_
  refine eqf_cons (by rfl) (by go_simp; rfl) (by go_simp; rfl) (by go_simp) ?_
  exact eqf_last (by rfl) (by go_simp; rfl) (by go_simp; rfl) (by go_simp)
end Go.Proofs.YtghpmpjoedbpcaaDoor.Print
/-! ### Print4 -/
namespace Go.Proofs.YtghpmpjoedbpcaaDoor.Print
open Go.RowKit Go.Proofs.YtghpmpjoedbpcaaDoorW.PrintWords Go.Proofs.YtghpmpjoedbpcaaDoorW.PrintLast Go.Proofs.YtghpmpjoedbpcaaDoorW.PrintMore
attribute [local go_sem] min2_int min_two
set_option linter.unusedVariables false
set_option linter.unusedSimpArgs false
attribute [local go_sem high] eqA27 eqA35
def malthouseref18_Entries.l0 : Nat → List (S27) → List (S27) → Int → Option (Bool)
  | 0, _, _, _ => none
  | k + 1, x0, x1, x5 => if x5 < (x0.length : Int) then (if 0 ≤ x5 then (if x5 < (x1.length : Int) then (if (!(((rd_T27 x0 x5).f0) == ((rd_T27 x1 x5).f0)) || (!(((rd_T27 x0 x5).f1) == ((rd_T27 x1 x5).f1)) || (!(((rd_T27 x0 x5).f2) == ((rd_T27 x1 x5).f2)) || (!((((rd_T27 x0 x5).f3).toList) == (((rd_T27 x1 x5).f3).toList)) || (!(((rd_T27 x0 x5).f4) == ((rd_T27 x1 x5).f4)) || (!(((rd_T27 x0 x5).f5) == ((rd_T27 x1 x5).f5)))))))) = true then (some false) else (malthouseref18_Entries.l0 k x0 x1 (wrap64 (x5 + 1)))) else (none)) else (none)) else (some true)
def malthouseref18_Entries.f (k : Nat) (l0 : List (S27)) (l1 : List (S27)) : Option (Bool) := if (l0.length : Int) = (l1.length : Int) then (malthouseref18_Entries.l0 k l0 l1 0) else (some false)
set_option maxHeartbeats 8000000 in
set_option maxRecDepth 100000 in
theorem malthouseref18_Entries.calls (k : Nat) (A0 : Option Addr) (c0 : Nat) (l0 : List (S27)) (A1 : Option Addr) (c1 : Nat) (l1 : List (S27)) (r : Bool) (w : World) (hr0 : Kd.C k27 w A0 l0.length l0) (hc0 : l0.length ≤ c0) (hr1 : Kd.C k27 w A1 l1.length l1) (hc1 : l1.length ≤ c1) (h : malthouseref18_Entries.f k l0 l1 = some r) :
    Calls Tryd.prog 13 #[.slice A0 l0.length c0, .slice A1 l1.length c1] w fun e w' => e = .returned (.bool r) ∧ Drawn0 w w' := by
  have hu27 := Tryd.underlying27
  have HR0 := Aside0.mk hr0
  have HC0 := Aside0.mk hc0
  clear hr0 hc0
  have HR1 := Aside0.mk hr1
  have HC1 := Aside0.mk hc1
  clear hr1 hc1
  have H : (if (l0.length : Int) = (l1.length : Int) then (malthouseref18_Entries.l0 k l0 l1 0) else (some false)) = some r := h
  clear h
  by_cases c3 : (l0.length : Int) = (l1.length : Int)
  · rw [if_pos c3] at H
    have c3b0 : ((l0.length : Int) == (l1.length : Int)) = true := beq_iff_eq.mpr c3
    have c3b1 : ((l0.length : Int) != (l1.length : Int)) = false := bne_eq_false_iff_eq.mpr c3
    have c3b2 : (l0.length == l1.length) = true := by first | simpa using c3 | (simp at c3 ⊢; omega)
    clear c3
    have H' := Aside0.mk H
    clear H
    go_enter Tryd.func13, Tryd.ntmps13
    go_wp2
    repeat (go_quiet (fail); try go_wp2)
    go_loopg [5] k (fun kq v5 w' => ∃ (x5_1 : Int), v5 = .int .i64 x5_1 ∧ Aside0 (malthouseref18_Entries.l0 kq l0 l1 x5_1 = some r) ∧ Aside0 (kq ≤ k) ∧ Drawn0 w w')
    case atStart => exact ⟨(0), (by first | rfl | (simp; done) | (simp [*]; done)), H', ⟨Nat.le_refl _⟩, by repeat (first | exact Drawn0.refl _ | apply Drawn0.step)⟩
    case round =>
      clear H'
      try clear c1
      try clear p2
      try clear c3
      try clear c3b0
      try clear c3b1
      try clear c3b2
      obtain ⟨x5_1, rfl, HA, HK1, ⟨m1, rfl⟩⟩ := hrel
      cases gk with
      | zero => exact absurd HA.out (by simp [malthouseref18_Entries.l0])
      | succ k1 =>
        have H := HA.out
        clear HA
        simp only [malthouseref18_Entries.l0] at H
        by_cases c4 : x5_1 < (l0.length : Int)
        · rw [if_pos c4] at H
          have c4b0 : decide (x5_1 < (l0.length : Int)) = true := decide_eq_true c4
          clear c4
          by_cases c5 : 0 ≤ x5_1
          · rw [if_pos c5] at H
            have c5b0 : decide (0 ≤ x5_1) = true := decide_eq_true c5
            clear c5
            by_cases c6 : x5_1 < (l1.length : Int)
            · rw [if_pos c6] at H
              have c6b0 : decide (x5_1 < (l1.length : Int)) = true := decide_eq_true c6
              clear c6
              by_cases c7 : (!(((rd_T27 l0 x5_1).f0) == ((rd_T27 l1 x5_1).f0)) || (!(((rd_T27 l0 x5_1).f1) == ((rd_T27 l1 x5_1).f1)) || (!(((rd_T27 l0 x5_1).f2) == ((rd_T27 l1 x5_1).f2)) || (!((((rd_T27 l0 x5_1).f3).toList) == (((rd_T27 l1 x5_1).f3).toList)) || (!(((rd_T27 l0 x5_1).f4) == ((rd_T27 l1 x5_1).f4)) || (!(((rd_T27 l0 x5_1).f5) == ((rd_T27 l1 x5_1).f5)))))))) = true
              · rw [if_pos c7] at H
                have c7b0 : (!(((rd_T27 l0 x5_1).f0) == ((rd_T27 l1 x5_1).f0)) || (!(((rd_T27 l0 x5_1).f1) == ((rd_T27 l1 x5_1).f1)) || (!(((rd_T27 l0 x5_1).f2) == ((rd_T27 l1 x5_1).f2)) || (!((((rd_T27 l0 x5_1).f3).toList) == (((rd_T27 l1 x5_1).f3).toList)) || (!(((rd_T27 l0 x5_1).f4) == ((rd_T27 l1 x5_1).f4)) || (!(((rd_T27 l0 x5_1).f5) == ((rd_T27 l1 x5_1).f5)))))))) = true := c7
                clear c7
                obtain rfl := Option.some.inj H
                have p103 : 0 ≤ (x5_1 : Int) := of_decide_eq_true (by first | (with_reducible assumption) | assumption)
                have q103 : x5_1 < (l0.length : Int) := of_decide_eq_true (by first | (with_reducible assumption) | assumption)
                obtain ⟨ad103, e103, hx103_0, hx103_1, hx103_2, hx103_3, hx103_4, hx103_5⟩ := at_T27 HR0.out x5_1 p103 q103
                cases e103
                replace p103 := eq_true p103
                replace q103 := eq_true q103
                have p104 : 0 ≤ (x5_1 : Int) := of_decide_eq_true (by first | (with_reducible assumption) | assumption)
                have q104 : x5_1 < (l1.length : Int) := of_decide_eq_true (by first | (with_reducible assumption) | assumption)
                obtain ⟨ad104, e104, hx104_0, hx104_1, hx104_2, hx104_3, hx104_4, hx104_5⟩ := at_T27 HR1.out x5_1 p104 q104
                cases e104
                replace p104 := eq_true p104
                replace q104 := eq_true q104
                go_wp2
                repeat (go_quiet (fail); try go_wp2)
                go_ret
                exact ⟨by first | rfl | (simp; done) | (simp [*]; done), by repeat (first | exact Drawn0.refl _ | apply Drawn0.step)⟩
              · rw [if_neg c7] at H
                have c7b0 : (!(((rd_T27 l0 x5_1).f0) == ((rd_T27 l1 x5_1).f0)) || (!(((rd_T27 l0 x5_1).f1) == ((rd_T27 l1 x5_1).f1)) || (!(((rd_T27 l0 x5_1).f2) == ((rd_T27 l1 x5_1).f2)) || (!((((rd_T27 l0 x5_1).f3).toList) == (((rd_T27 l1 x5_1).f3).toList)) || (!(((rd_T27 l0 x5_1).f4) == ((rd_T27 l1 x5_1).f4)) || (!(((rd_T27 l0 x5_1).f5) == ((rd_T27 l1 x5_1).f5)))))))) = false := by simpa using c7
                clear c7
                have H' := Aside0.mk H
                clear H
                have p103 : 0 ≤ (x5_1 : Int) := of_decide_eq_true (by first | (with_reducible assumption) | assumption)
                have q103 : x5_1 < (l0.length : Int) := of_decide_eq_true (by first | (with_reducible assumption) | assumption)
                obtain ⟨ad103, e103, hx103_0, hx103_1, hx103_2, hx103_3, hx103_4, hx103_5⟩ := at_T27 HR0.out x5_1 p103 q103
                cases e103
                replace p103 := eq_true p103
                replace q103 := eq_true q103
                have p104 : 0 ≤ (x5_1 : Int) := of_decide_eq_true (by first | (with_reducible assumption) | assumption)
                have q104 : x5_1 < (l1.length : Int) := of_decide_eq_true (by first | (with_reducible assumption) | assumption)
                obtain ⟨ad104, e104, hx104_0, hx104_1, hx104_2, hx104_3, hx104_4, hx104_5⟩ := at_T27 HR1.out x5_1 p104 q104
                cases e104
                replace p104 := eq_true p104
                replace q104 := eq_true q104
                go_wp2
                repeat (go_quiet (fail); try go_wp2)
                go_roundg k1
                case measure => have := HK1.out; omega
                case rel => exact ⟨(wrap64 (x5_1 + 1)), (by first | rfl | (simp; done) | (simp [*]; done)), H', ⟨by have := HK1.out; omega⟩, by repeat (first | exact Drawn0.refl _ | apply Drawn0.step)⟩
            · rw [if_neg c6] at H
              exact absurd H (by simp)
          · rw [if_neg c5] at H
            exact absurd H (by simp)
        · rw [if_neg c4] at H
          have c4b0 : decide (x5_1 < (l0.length : Int)) = false := decide_eq_false c4
          clear c4
          obtain rfl := Option.some.inj H
          go_wp2
          repeat (go_quiet (fail); try go_wp2)
          go_ret
          exact ⟨by first | rfl | (simp; done) | (simp [*]; done), by repeat (first | exact Drawn0.refl _ | apply Drawn0.step)⟩
  · rw [if_neg c3] at H
    have c3b0 : ((l0.length : Int) == (l1.length : Int)) = false := beq_eq_false_iff_ne.mpr c3
    have c3b1 : ((l0.length : Int) != (l1.length : Int)) = true := bne_iff_ne.mpr c3
    have c3b2 : (l0.length == l1.length) = false := by first | simpa using c3 | (simp at c3 ⊢; omega)
    obtain rfl := Option.some.inj H
    go_enter Tryd.func13, Tryd.ntmps13
    go_wp2
    repeat (go_quiet (fail); try go_wp2)
    go_ret
    exact ⟨by first | rfl | (simp; done) | (simp [*]; done), by repeat (first | exact Drawn0.refl _ | apply Drawn0.step)⟩
mutual
def malthouseref18_Same.j0 : Nat → Bool → List (S27) → List (S35) → Int → List (S27) → List (S35) → Int → Option (Bool)
  | 0, _, _, _, _, _, _, _ => none
  | k + 1, x19, x106000, x106001, x106002, x107000, x107001, x107002 => if x19 = true then (some false) else (malthouseref18_Same.l0 k 0 x106000 x106001 x106002 x107000 x107001 x107002)
def malthouseref18_Same.l0 : Nat → Int → List (S27) → List (S35) → Int → List (S27) → List (S35) → Int → Option (Bool)
  | 0, _, _, _, _, _, _, _ => none
  | k + 1, x5, x106000, x106001, x106002, x107000, x107001, x107002 => if x5 < (x106001.length : Int) then (if 0 ≤ x5 then (if x5 < (x107001.length : Int) then (if (!(((rd_T35 x106001 x5).f0) == ((rd_T35 x107001 x5).f0)) || (!(((rd_T35 x106001 x5).f1) == ((rd_T35 x107001 x5).f1)) || (!(((rd_T35 x106001 x5).f2) == ((rd_T35 x107001 x5).f2))))) = true then (some false) else (malthouseref18_Same.l0 k (wrap64 (x5 + 1)) x106000 x106001 x106002 x107000 x107001 x107002)) else (none)) else (none)) else ((malthouseref18_Entries.f k x106000 x107000).bind fun t109 => (some t109))
end
def malthouseref18_Same.f (k : Nat) (l0_0 : List (S27)) (l0_1 : List (S35)) (a0_2 : Int) (l1_0 : List (S27)) (l1_1 : List (S35)) (a1_2 : Int) : Option (Bool) := if (l0_1.length : Int) = (l1_1.length : Int) then (malthouseref18_Same.j0 k (a0_2 != a1_2) l0_0 l0_1 a0_2 l1_0 l1_1 a1_2) else (malthouseref18_Same.j0 k true l0_0 l0_1 a0_2 l1_0 l1_1 a1_2)
set_option maxHeartbeats 8000000 in
set_option maxRecDepth 100000 in
theorem malthouseref18_Same.calls (k : Nat) (A0_0 : Option Addr) (c0_0 : Nat) (l0_0 : List (S27)) (A0_1 : Option Addr) (c0_1 : Nat) (l0_1 : List (S35)) (a0_2 : Int) (A1_0 : Option Addr) (c1_0 : Nat) (l1_0 : List (S27)) (A1_1 : Option Addr) (c1_1 : Nat) (l1_1 : List (S35)) (a1_2 : Int) (r : Bool) (w : World) (hr0_0 : Kd.C k27 w A0_0 l0_0.length l0_0) (hc0_0 : l0_0.length ≤ c0_0) (hr0_1 : Kd.C k35 w A0_1 l0_1.length l0_1) (hc0_1 : l0_1.length ≤ c0_1) (hr1_0 : Kd.C k27 w A1_0 l1_0.length l1_0) (hc1_0 : l1_0.length ≤ c1_0) (hr1_1 : Kd.C k35 w A1_1 l1_1.length l1_1) (hc1_1 : l1_1.length ≤ c1_1) (h : malthouseref18_Same.f k l0_0 l0_1 a0_2 l1_0 l1_1 a1_2 = some r) :
    Calls Tryd.prog 12 #[.agg #[.slice A0_0 l0_0.length c0_0, .slice A0_1 l0_1.length c0_1, .int .i64 a0_2], .agg #[.slice A1_0 l1_0.length c1_0, .slice A1_1 l1_1.length c1_1, .int .i64 a1_2]] w fun e w' => e = .returned (.bool r) ∧ Below w.heap.size w w' := by
  have hu25 := Tryd.underlying25
  have hu35 := Tryd.underlying35
  have HR0_0 := Aside0.mk hr0_0
  have HC0_0 := Aside0.mk hc0_0
  clear hr0_0 hc0_0
  have HR0_1 := Aside0.mk hr0_1
  have HC0_1 := Aside0.mk hc0_1
  clear hr0_1 hc0_1
  have HR1_0 := Aside0.mk hr1_0
  have HC1_0 := Aside0.mk hc1_0
  clear hr1_0 hc1_0
  have HR1_1 := Aside0.mk hr1_1
  have HC1_1 := Aside0.mk hc1_1
  clear hr1_1 hc1_1
  have HB := Aside0.mk (Below.refl w.heap.size w)
  have H : (if (l0_1.length : Int) = (l1_1.length : Int) then (malthouseref18_Same.j0 k (a0_2 != a1_2) l0_0 l0_1 a0_2 l1_0 l1_1 a1_2) else (malthouseref18_Same.j0 k true l0_0 l0_1 a0_2 l1_0 l1_1 a1_2)) = some r := h
  clear h
  have HC3 := Aside0.mk H
  clear H
  go_enter Tryd.func12, Tryd.ntmps12
  go_upto_region 1 with (first | ((with_reducible refine gate_dst (N := 2) rfl ?_); refine box_event ?hg (N := 2) ?hd (cs := #[.slice A0_0 l0_0.length c0_0, .slice A0_1 l0_1.length c0_1, .int .i64 a0_2]) (t := 25) ?hr ?_; (case hd => rfl); (case hg => rfl); (case hr => first | (go_simp; done) | (go_simp; rfl)); intro gb105 hg w4 hbox hb; have n0_ := Aside0.mk (below_step (by repeat (first | (with_reducible first | exact HB.out | apply below_alloc | apply pw_below_drewN | apply below_drew1) | exact HB.out)) hb); have n1_ := Aside0.mk (hbox); have n2_ := Aside0.mk ((by rw [hg]; exact (below_size (by repeat (first | (with_reducible first | exact HB.out | apply below_alloc | apply pw_below_drewN | apply below_drew1) | exact HB.out))) : w.heap.size ≤ gb105)); have n3_ := Aside0.mk ((by rw [hg]; exact (below_size (by repeat (first | (with_reducible first | exact HB.out | apply below_alloc | apply pw_below_drewN | apply below_drew1) | exact HB.out))) : w.heap.size ≤ gb105)); clear HB; have HB := n0_; have BK105 := n1_; have GW105 := n2_; have GE105 := n3_; clear n0_ n1_ n2_ n3_; clear hb hbox hg) | ((with_reducible refine gate_dst (N := 3) rfl ?_); refine box_event ?hg (N := 3) ?hd (cs := #[.slice A1_0 l1_0.length c1_0, .slice A1_1 l1_1.length c1_1, .int .i64 a1_2]) (t := 25) ?hr ?_; (case hd => rfl); (case hg => rfl); (case hr => first | (go_simp; done) | (go_simp; rfl)); intro gb106 hg w5 hbox hb; have n0_ := Aside0.mk (blk_below (g := gb105) (o := .cells #[.slice A0_0 l0_0.length c0_0, .slice A0_1 l0_1.length c0_1, .int .i64 a0_2] 25 (0, 0)) (by (with_reducible repeat (first | refine blk_drewN ?_ _ | refine blk_drew ?_ | refine blk_alloc ?_ _)); exact BK105.out) hb); have n1_ := Aside0.mk (below_step (by repeat (first | (with_reducible first | exact HB.out | apply below_alloc | apply pw_below_drewN | apply below_drew1 | refine below_set ?_ GE105.out) | exact HB.out)) hb); have n2_ := Aside0.mk (hbox); have n3_ := Aside0.mk ((by rw [hg]; exact (below_size (by repeat (first | (with_reducible first | exact HB.out | apply below_alloc | apply pw_below_drewN | apply below_drew1 | refine below_set ?_ GE105.out) | exact HB.out))) : w.heap.size ≤ gb106)); have n4_ := Aside0.mk ((by rw [hg]; exact (below_size (by repeat (first | (with_reducible first | exact HB.out | apply below_alloc | apply pw_below_drewN | apply below_drew1 | refine below_set ?_ GE105.out) | exact HB.out))) : w.heap.size ≤ gb106)); have n5_ := Aside0.mk ((by rw [hg]; exact Nat.ne_of_lt (blk_lt (g := gb105) (o := .cells #[.slice A0_0 l0_0.length c0_0, .slice A0_1 l0_1.length c0_1, .int .i64 a0_2] 25 (0, 0)) (by (with_reducible repeat (first | refine blk_drewN ?_ _ | refine blk_drew ?_ | refine blk_alloc ?_ _)); exact BK105.out)) : gb105 ≠ gb106)); have n6_ := Aside0.mk ((by rw [hg]; exact Nat.ne_of_gt (blk_lt (g := gb105) (o := .cells #[.slice A0_0 l0_0.length c0_0, .slice A0_1 l0_1.length c0_1, .int .i64 a0_2] 25 (0, 0)) (by (with_reducible repeat (first | refine blk_drewN ?_ _ | refine blk_drew ?_ | refine blk_alloc ?_ _)); exact BK105.out)) : gb106 ≠ gb105)); clear BK105; clear HB; have BK105 := n0_; have HB := n1_; have BK106 := n2_; have GW106 := n3_; have GE106 := n4_; have NB105_106 := n5_; have NB106_105 := n6_; clear n0_ n1_ n2_ n3_ n4_ n5_ n6_; clear hb hbox hg))
  repeat (go_quiet (first | ((with_reducible refine gate_dst (N := 2) rfl ?_); refine box_event ?hg (N := 2) ?hd (cs := #[.slice A0_0 l0_0.length c0_0, .slice A0_1 l0_1.length c0_1, .int .i64 a0_2]) (t := 25) ?hr ?_; (case hd => rfl); (case hg => rfl); (case hr => first | (go_simp; done) | (go_simp; rfl)); intro gb105 hg w4 hbox hb; have n0_ := Aside0.mk (below_step (by repeat (first | (with_reducible first | exact HB.out | apply below_alloc | apply pw_below_drewN | apply below_drew1) | exact HB.out)) hb); have n1_ := Aside0.mk (hbox); have n2_ := Aside0.mk ((by rw [hg]; exact (below_size (by repeat (first | (with_reducible first | exact HB.out | apply below_alloc | apply pw_below_drewN | apply below_drew1) | exact HB.out))) : w.heap.size ≤ gb105)); have n3_ := Aside0.mk ((by rw [hg]; exact (below_size (by repeat (first | (with_reducible first | exact HB.out | apply below_alloc | apply pw_below_drewN | apply below_drew1) | exact HB.out))) : w.heap.size ≤ gb105)); clear HB; have HB := n0_; have BK105 := n1_; have GW105 := n2_; have GE105 := n3_; clear n0_ n1_ n2_ n3_; clear hb hbox hg) | ((with_reducible refine gate_dst (N := 3) rfl ?_); refine box_event ?hg (N := 3) ?hd (cs := #[.slice A1_0 l1_0.length c1_0, .slice A1_1 l1_1.length c1_1, .int .i64 a1_2]) (t := 25) ?hr ?_; (case hd => rfl); (case hg => rfl); (case hr => first | (go_simp; done) | (go_simp; rfl)); intro gb106 hg w5 hbox hb; have n0_ := Aside0.mk (blk_below (g := gb105) (o := .cells #[.slice A0_0 l0_0.length c0_0, .slice A0_1 l0_1.length c0_1, .int .i64 a0_2] 25 (0, 0)) (by (with_reducible repeat (first | refine blk_drewN ?_ _ | refine blk_drew ?_ | refine blk_alloc ?_ _)); exact BK105.out) hb); have n1_ := Aside0.mk (below_step (by repeat (first | (with_reducible first | exact HB.out | apply below_alloc | apply pw_below_drewN | apply below_drew1 | refine below_set ?_ GE105.out) | exact HB.out)) hb); have n2_ := Aside0.mk (hbox); have n3_ := Aside0.mk ((by rw [hg]; exact (below_size (by repeat (first | (with_reducible first | exact HB.out | apply below_alloc | apply pw_below_drewN | apply below_drew1 | refine below_set ?_ GE105.out) | exact HB.out))) : w.heap.size ≤ gb106)); have n4_ := Aside0.mk ((by rw [hg]; exact (below_size (by repeat (first | (with_reducible first | exact HB.out | apply below_alloc | apply pw_below_drewN | apply below_drew1 | refine below_set ?_ GE105.out) | exact HB.out))) : w.heap.size ≤ gb106)); have n5_ := Aside0.mk ((by rw [hg]; exact Nat.ne_of_lt (blk_lt (g := gb105) (o := .cells #[.slice A0_0 l0_0.length c0_0, .slice A0_1 l0_1.length c0_1, .int .i64 a0_2] 25 (0, 0)) (by (with_reducible repeat (first | refine blk_drewN ?_ _ | refine blk_drew ?_ | refine blk_alloc ?_ _)); exact BK105.out)) : gb105 ≠ gb106)); have n6_ := Aside0.mk ((by rw [hg]; exact Nat.ne_of_gt (blk_lt (g := gb105) (o := .cells #[.slice A0_0 l0_0.length c0_0, .slice A0_1 l0_1.length c0_1, .int .i64 a0_2] 25 (0, 0)) (by (with_reducible repeat (first | refine blk_drewN ?_ _ | refine blk_drew ?_ | refine blk_alloc ?_ _)); exact BK105.out)) : gb106 ≠ gb105)); clear BK105; clear HB; have BK105 := n0_; have HB := n1_; have BK106 := n2_; have GW106 := n3_; have GE106 := n4_; have NB105_106 := n5_; have NB106_105 := n6_; clear n0_ n1_ n2_ n3_ n4_ n5_ n6_; clear hb hbox hg)); go_upto_region 1 with (first | ((with_reducible refine gate_dst (N := 2) rfl ?_); refine box_event ?hg (N := 2) ?hd (cs := #[.slice A0_0 l0_0.length c0_0, .slice A0_1 l0_1.length c0_1, .int .i64 a0_2]) (t := 25) ?hr ?_; (case hd => rfl); (case hg => rfl); (case hr => first | (go_simp; done) | (go_simp; rfl)); intro gb105 hg w4 hbox hb; have n0_ := Aside0.mk (below_step (by repeat (first | (with_reducible first | exact HB.out | apply below_alloc | apply pw_below_drewN | apply below_drew1) | exact HB.out)) hb); have n1_ := Aside0.mk (hbox); have n2_ := Aside0.mk ((by rw [hg]; exact (below_size (by repeat (first | (with_reducible first | exact HB.out | apply below_alloc | apply pw_below_drewN | apply below_drew1) | exact HB.out))) : w.heap.size ≤ gb105)); have n3_ := Aside0.mk ((by rw [hg]; exact (below_size (by repeat (first | (with_reducible first | exact HB.out | apply below_alloc | apply pw_below_drewN | apply below_drew1) | exact HB.out))) : w.heap.size ≤ gb105)); clear HB; have HB := n0_; have BK105 := n1_; have GW105 := n2_; have GE105 := n3_; clear n0_ n1_ n2_ n3_; clear hb hbox hg) | ((with_reducible refine gate_dst (N := 3) rfl ?_); refine box_event ?hg (N := 3) ?hd (cs := #[.slice A1_0 l1_0.length c1_0, .slice A1_1 l1_1.length c1_1, .int .i64 a1_2]) (t := 25) ?hr ?_; (case hd => rfl); (case hg => rfl); (case hr => first | (go_simp; done) | (go_simp; rfl)); intro gb106 hg w5 hbox hb; have n0_ := Aside0.mk (blk_below (g := gb105) (o := .cells #[.slice A0_0 l0_0.length c0_0, .slice A0_1 l0_1.length c0_1, .int .i64 a0_2] 25 (0, 0)) (by (with_reducible repeat (first | refine blk_drewN ?_ _ | refine blk_drew ?_ | refine blk_alloc ?_ _)); exact BK105.out) hb); have n1_ := Aside0.mk (below_step (by repeat (first | (with_reducible first | exact HB.out | apply below_alloc | apply pw_below_drewN | apply below_drew1 | refine below_set ?_ GE105.out) | exact HB.out)) hb); have n2_ := Aside0.mk (hbox); have n3_ := Aside0.mk ((by rw [hg]; exact (below_size (by repeat (first | (with_reducible first | exact HB.out | apply below_alloc | apply pw_below_drewN | apply below_drew1 | refine below_set ?_ GE105.out) | exact HB.out))) : w.heap.size ≤ gb106)); have n4_ := Aside0.mk ((by rw [hg]; exact (below_size (by repeat (first | (with_reducible first | exact HB.out | apply below_alloc | apply pw_below_drewN | apply below_drew1 | refine below_set ?_ GE105.out) | exact HB.out))) : w.heap.size ≤ gb106)); have n5_ := Aside0.mk ((by rw [hg]; exact Nat.ne_of_lt (blk_lt (g := gb105) (o := .cells #[.slice A0_0 l0_0.length c0_0, .slice A0_1 l0_1.length c0_1, .int .i64 a0_2] 25 (0, 0)) (by (with_reducible repeat (first | refine blk_drewN ?_ _ | refine blk_drew ?_ | refine blk_alloc ?_ _)); exact BK105.out)) : gb105 ≠ gb106)); have n6_ := Aside0.mk ((by rw [hg]; exact Nat.ne_of_gt (blk_lt (g := gb105) (o := .cells #[.slice A0_0 l0_0.length c0_0, .slice A0_1 l0_1.length c0_1, .int .i64 a0_2] 25 (0, 0)) (by (with_reducible repeat (first | refine blk_drewN ?_ _ | refine blk_drew ?_ | refine blk_alloc ?_ _)); exact BK105.out)) : gb106 ≠ gb105)); clear BK105; clear HB; have BK105 := n0_; have HB := n1_; have BK106 := n2_; have GW106 := n3_; have GE106 := n4_; have NB105_106 := n5_; have NB106_105 := n6_; clear n0_ n1_ n2_ n3_ n4_ n5_ n6_; clear hb hbox hg)))
  (try simp only [Act.put, List.setIfInBounds_toArray, List.set_cons_zero, List.set_cons_succ])
  go_cut [19] (fun v19 wc => ∃ (kq : Nat) (x19_2 : Bool), v19 = .bool x19_2 ∧ Aside0 (malthouseref18_Same.j0 kq x19_2 l0_0 l0_1 a0_2 l1_0 l1_1 a1_2 = some r) ∧ Aside0 (kq ≤ k) ∧ Aside0 (wc.heap[gb105]? = some (.cells #[(.slice A0_0 l0_0.length c0_0), (.slice A0_1 l0_1.length c0_1), .int .i64 a0_2] 25 (0, 0))) ∧ Aside0 (wc.heap[gb106]? = some (.cells #[(.slice A1_0 l1_0.length c1_0), (.slice A1_1 l1_1.length c1_1), .int .i64 a1_2] 25 (0, 0))) ∧ Aside0 (Below w.heap.size w wc))
  case first =>
    have H := HC3.out
    clear HC3
    by_cases c6 : (l0_1.length : Int) = (l1_1.length : Int)
    · rw [if_pos c6] at H
      have c6b0 : ((l0_1.length : Int) == (l1_1.length : Int)) = true := beq_iff_eq.mpr c6
      have c6b1 : ((l0_1.length : Int) != (l1_1.length : Int)) = false := bne_eq_false_iff_eq.mpr c6
      have c6b2 : (l0_1.length == l1_1.length) = true := by first | simpa using c6 | (simp at c6 ⊢; omega)
      clear c6
      (first | rw [c6b0] | (simp only [i64_w, i32_w]; rw [c6b0]) | skip)
      have H' := Aside0.mk H
      clear H
      have hnb7 := NB105_106.out
      have hnc7 := NB106_105.out
      have hcz8_0 : w5.cell? ⟨gb105, 0, none⟩ = some (.slice A0_0 l0_0.length c0_0) := (blk_cell BK105.out 0).trans rfl
      have hcz8_1 : w5.cell? ⟨gb105, 1, none⟩ = some (.slice A0_1 l0_1.length c0_1) := (blk_cell BK105.out 1).trans rfl
      have hcz8_2 : w5.cell? ⟨gb105, 2, none⟩ = some (.int .i64 a0_2) := (blk_cell BK105.out 2).trans rfl
      have hfz8_0 := blk_frozen BK105.out 0
      have hfz8_1 := blk_frozen BK105.out 1
      have hfz8_2 := blk_frozen BK105.out 2
      have hcz9_0 : w5.cell? ⟨gb106, 0, none⟩ = some (.slice A1_0 l1_0.length c1_0) := (blk_cell BK106.out 0).trans rfl
      have hcz9_1 : w5.cell? ⟨gb106, 1, none⟩ = some (.slice A1_1 l1_1.length c1_1) := (blk_cell BK106.out 1).trans rfl
      have hcz9_2 : w5.cell? ⟨gb106, 2, none⟩ = some (.int .i64 a1_2) := (blk_cell BK106.out 2).trans rfl
      have hfz9_0 := blk_frozen BK106.out 0
      have hfz9_1 := blk_frozen BK106.out 1
      have hfz9_2 := blk_frozen BK106.out 2
      go_wp2
      repeat (go_quiet (fail); try go_wp2)
      go_meet
      case rel => exact ⟨_, ((a0_2 != a1_2)), (by first | rfl | (simp; done) | (simp [*]; done)), H', ⟨by first | omega | exact Nat.le_refl _⟩, ⟨by (with_reducible repeat (first | refine blk_drewN ?_ _ | refine blk_drew ?_ | refine blk_alloc ?_ _)); exact BK105.out⟩, ⟨by (with_reducible repeat (first | refine blk_drewN ?_ _ | refine blk_drew ?_ | refine blk_alloc ?_ _)); exact BK106.out⟩, ⟨by repeat (first | (with_reducible first | exact HB.out | apply below_alloc | apply pw_below_drewN | apply below_drew1 | refine below_set ?_ GE105.out | refine below_set ?_ GE106.out) | exact HB.out)⟩⟩
    · rw [if_neg c6] at H
      have c6b0 : ((l0_1.length : Int) == (l1_1.length : Int)) = false := beq_eq_false_iff_ne.mpr c6
      have c6b1 : ((l0_1.length : Int) != (l1_1.length : Int)) = true := bne_iff_ne.mpr c6
      have c6b2 : (l0_1.length == l1_1.length) = false := by first | simpa using c6 | (simp at c6 ⊢; omega)
      (first | rw [c6b0] | (simp only [i64_w, i32_w]; rw [c6b0]) | skip)
      have H' := Aside0.mk H
      clear H
      have hnb10 := NB105_106.out
      have hnc10 := NB106_105.out
      have hcz11_0 : w5.cell? ⟨gb105, 0, none⟩ = some (.slice A0_0 l0_0.length c0_0) := (blk_cell BK105.out 0).trans rfl
      have hcz11_1 : w5.cell? ⟨gb105, 1, none⟩ = some (.slice A0_1 l0_1.length c0_1) := (blk_cell BK105.out 1).trans rfl
      have hcz11_2 : w5.cell? ⟨gb105, 2, none⟩ = some (.int .i64 a0_2) := (blk_cell BK105.out 2).trans rfl
      have hfz11_0 := blk_frozen BK105.out 0
      have hfz11_1 := blk_frozen BK105.out 1
      have hfz11_2 := blk_frozen BK105.out 2
      have hcz12_0 : w5.cell? ⟨gb106, 0, none⟩ = some (.slice A1_0 l1_0.length c1_0) := (blk_cell BK106.out 0).trans rfl
      have hcz12_1 : w5.cell? ⟨gb106, 1, none⟩ = some (.slice A1_1 l1_1.length c1_1) := (blk_cell BK106.out 1).trans rfl
      have hcz12_2 : w5.cell? ⟨gb106, 2, none⟩ = some (.int .i64 a1_2) := (blk_cell BK106.out 2).trans rfl
      have hfz12_0 := blk_frozen BK106.out 0
      have hfz12_1 := blk_frozen BK106.out 1
      have hfz12_2 := blk_frozen BK106.out 2
      go_wp2
      repeat (go_quiet (fail); try go_wp2)
      go_meet
      case rel => exact ⟨_, (true), (by first | rfl | (simp; done) | (simp [*]; done)), H', ⟨by first | omega | exact Nat.le_refl _⟩, ⟨by (with_reducible repeat (first | refine blk_drewN ?_ _ | refine blk_drew ?_ | refine blk_alloc ?_ _)); exact BK105.out⟩, ⟨by (with_reducible repeat (first | refine blk_drewN ?_ _ | refine blk_drew ?_ | refine blk_alloc ?_ _)); exact BK106.out⟩, ⟨by repeat (first | (with_reducible first | exact HB.out | apply below_alloc | apply pw_below_drewN | apply below_drew1 | refine below_set ?_ GE105.out | refine below_set ?_ GE106.out) | exact HB.out)⟩⟩
  case rest =>
    clear HC3
    try clear c1
    try clear p2
    try clear c6
    try clear c6b0
    try clear c6b1
    try clear c6b2
    try clear c7
    try clear c10
    try clear c12
    try clear hcz11_0
    try clear hcz11_1
    try clear hcz11_2
    try clear hcz12_0
    try clear hcz12_1
    try clear hcz12_2
    try clear hcz8_0
    try clear hcz8_1
    try clear hcz8_2
    try clear hcz9_0
    try clear hcz9_1
    try clear hcz9_2
    try clear hfz11_0
    try clear hfz11_1
    try clear hfz11_2
    try clear hfz12_0
    try clear hfz12_1
    try clear hfz12_2
    try clear hfz8_0
    try clear hfz8_1
    try clear hfz8_2
    try clear hfz9_0
    try clear hfz9_1
    try clear hfz9_2
    obtain ⟨kq, x19_2, rfl, HA, HJ2, BK105, BK106, HB⟩ := hcut
    cases kq with
    | zero => exact absurd HA.out (by simp [malthouseref18_Same.j0])
    | succ kj2 =>
      have H := HA.out
      clear HA
      simp only [malthouseref18_Same.j0] at H
      by_cases c13 : x19_2 = true
      · subst c13
        have H1 : (some false) = some r := by rw [if_pos rfl] at H; exact H
        clear H
        have H := H1
        clear H1
        obtain rfl := Option.some.inj H
        go_wp2
        repeat (go_quiet (fail); try go_wp2)
        go_ret
        exact ⟨by first | rfl | (simp [errW_none, errW_some] <;> rfl) | (simp [*, errW_none, errW_some] <;> rfl), by repeat (first | (with_reducible first | exact HB.out | apply below_alloc | apply pw_below_drewN | apply below_drew1 | refine below_set ?_ GE105.out | refine below_set ?_ GE106.out) | exact HB.out)⟩
      · replace c13 := Bool.eq_false_iff.mpr c13
        subst c13
        have H1 : (malthouseref18_Same.l0 kj2 0 l0_0 l0_1 a0_2 l1_0 l1_1 a1_2) = some r := by rw [if_neg (show ¬ (false = true) by decide)] at H; exact H
        clear H
        have H := H1
        clear H1
        have H' := Aside0.mk H
        clear H
        go_wp2
        repeat (go_quiet (fail); try go_wp2)
        go_loopg [5] kj2 (fun kq v5 w' => ∃ (x5_2 : Int), v5 = .int .i64 x5_2 ∧ Aside0 (malthouseref18_Same.l0 kq x5_2 l0_0 l0_1 a0_2 l1_0 l1_1 a1_2 = some r) ∧ Aside0 (kq ≤ kj2) ∧ Aside0 (w'.heap[gb105]? = some (.cells #[(.slice A0_0 l0_0.length c0_0), (.slice A0_1 l0_1.length c0_1), .int .i64 a0_2] 25 (0, 0))) ∧ Aside0 (w'.heap[gb106]? = some (.cells #[(.slice A1_0 l1_0.length c1_0), (.slice A1_1 l1_1.length c1_1), .int .i64 a1_2] 25 (0, 0))) ∧ Aside0 (Below w.heap.size w w'))
        case atStart => exact ⟨(0), (by first | rfl | (simp; done) | (simp [*]; done)), H', ⟨Nat.le_refl _⟩, ⟨by (with_reducible repeat (first | refine blk_drewN ?_ _ | refine blk_drew ?_ | refine blk_alloc ?_ _)); exact BK105.out⟩, ⟨by (with_reducible repeat (first | refine blk_drewN ?_ _ | refine blk_drew ?_ | refine blk_alloc ?_ _)); exact BK106.out⟩, ⟨by repeat (first | (with_reducible first | exact HB.out | apply below_alloc | apply pw_below_drewN | apply below_drew1 | refine below_set ?_ GE105.out | refine below_set ?_ GE106.out) | exact HB.out)⟩⟩
        case round =>
          clear H'
          try clear c1
          try clear p2
          try clear c6
          try clear c6b0
          try clear c6b1
          try clear c6b2
          try clear c7
          try clear c10
          try clear c12
          try clear c13
          try clear hcz11_0
          try clear hcz11_1
          try clear hcz11_2
          try clear hcz12_0
          try clear hcz12_1
          try clear hcz12_2
          try clear hcz8_0
          try clear hcz8_1
          try clear hcz8_2
          try clear hcz9_0
          try clear hcz9_1
          try clear hcz9_2
          try clear hfz11_0
          try clear hfz11_1
          try clear hfz11_2
          try clear hfz12_0
          try clear hfz12_1
          try clear hfz12_2
          try clear hfz8_0
          try clear hfz8_1
          try clear hfz8_2
          try clear hfz9_0
          try clear hfz9_1
          try clear hfz9_2
          try clear p2
          obtain ⟨x5_2, rfl, HA, HK2, BK105, BK106, HB⟩ := hrel
          cases gk with
          | zero => exact absurd HA.out (by simp [malthouseref18_Same.l0])
          | succ k2 =>
            have H := HA.out
            clear HA
            simp only [malthouseref18_Same.l0] at H
            by_cases c14 : x5_2 < (l0_1.length : Int)
            · rw [if_pos c14] at H
              have c14b0 : decide (x5_2 < (l0_1.length : Int)) = true := decide_eq_true c14
              clear c14
              by_cases c15 : 0 ≤ x5_2
              · rw [if_pos c15] at H
                have c15b0 : decide (0 ≤ x5_2) = true := decide_eq_true c15
                clear c15
                by_cases c16 : x5_2 < (l1_1.length : Int)
                · rw [if_pos c16] at H
                  have c16b0 : decide (x5_2 < (l1_1.length : Int)) = true := decide_eq_true c16
                  clear c16
                  by_cases c17 : (!(((rd_T35 l0_1 x5_2).f0) == ((rd_T35 l1_1 x5_2).f0)) || (!(((rd_T35 l0_1 x5_2).f1) == ((rd_T35 l1_1 x5_2).f1)) || (!(((rd_T35 l0_1 x5_2).f2) == ((rd_T35 l1_1 x5_2).f2))))) = true
                  · rw [if_pos c17] at H
                    have c17b0 : (!(((rd_T35 l0_1 x5_2).f0) == ((rd_T35 l1_1 x5_2).f0)) || (!(((rd_T35 l0_1 x5_2).f1) == ((rd_T35 l1_1 x5_2).f1)) || (!(((rd_T35 l0_1 x5_2).f2) == ((rd_T35 l1_1 x5_2).f2))))) = true := c17
                    clear c17
                    obtain rfl := Option.some.inj H
                    have hnb18 := NB105_106.out
                    have hnc18 := NB106_105.out
                    have hcz19_0 : wr.cell? ⟨gb105, 0, none⟩ = some (.slice A0_0 l0_0.length c0_0) := (blk_cell BK105.out 0).trans rfl
                    have hcz19_1 : wr.cell? ⟨gb105, 1, none⟩ = some (.slice A0_1 l0_1.length c0_1) := (blk_cell BK105.out 1).trans rfl
                    have hcz19_2 : wr.cell? ⟨gb105, 2, none⟩ = some (.int .i64 a0_2) := (blk_cell BK105.out 2).trans rfl
                    have hfz19_0 := blk_frozen BK105.out 0
                    have hfz19_1 := blk_frozen BK105.out 1
                    have hfz19_2 := blk_frozen BK105.out 2
                    have p107 : 0 ≤ (x5_2 : Int) := of_decide_eq_true (by first | (with_reducible assumption) | assumption)
                    have q107 : x5_2 < (l0_1.length : Int) := of_decide_eq_true (by first | (with_reducible assumption) | assumption)
                    obtain ⟨ad107, e107, hx107_0, hx107_1, hx107_2⟩ := at_T35 HR0_1.out x5_2 p107 q107
                    cases e107
                    replace hx107_0 := (HB.out.cell (World.block_lt_of_cell? w _ hx107_0)).trans hx107_0
                    replace hx107_1 := (HB.out.cell (World.block_lt_of_cell? w _ hx107_1)).trans hx107_1
                    replace hx107_2 := (HB.out.cell (World.block_lt_of_cell? w _ hx107_2)).trans hx107_2
                    replace p107 := eq_true p107
                    replace q107 := eq_true q107
                    have hcz20_0 : wr.cell? ⟨gb106, 0, none⟩ = some (.slice A1_0 l1_0.length c1_0) := (blk_cell BK106.out 0).trans rfl
                    have hcz20_1 : wr.cell? ⟨gb106, 1, none⟩ = some (.slice A1_1 l1_1.length c1_1) := (blk_cell BK106.out 1).trans rfl
                    have hcz20_2 : wr.cell? ⟨gb106, 2, none⟩ = some (.int .i64 a1_2) := (blk_cell BK106.out 2).trans rfl
                    have hfz20_0 := blk_frozen BK106.out 0
                    have hfz20_1 := blk_frozen BK106.out 1
                    have hfz20_2 := blk_frozen BK106.out 2
                    have p108 : 0 ≤ (x5_2 : Int) := of_decide_eq_true (by first | (with_reducible assumption) | assumption)
                    have q108 : x5_2 < (l1_1.length : Int) := of_decide_eq_true (by first | (with_reducible assumption) | assumption)
                    obtain ⟨ad108, e108, hx108_0, hx108_1, hx108_2⟩ := at_T35 HR1_1.out x5_2 p108 q108
                    cases e108
                    replace hx108_0 := (HB.out.cell (World.block_lt_of_cell? w _ hx108_0)).trans hx108_0
                    replace hx108_1 := (HB.out.cell (World.block_lt_of_cell? w _ hx108_1)).trans hx108_1
                    replace hx108_2 := (HB.out.cell (World.block_lt_of_cell? w _ hx108_2)).trans hx108_2
                    replace p108 := eq_true p108
                    replace q108 := eq_true q108
                    go_wp2
                    repeat (go_quiet (fail); try go_wp2)
                    go_ret
                    exact ⟨by first | rfl | (simp [errW_none, errW_some] <;> rfl) | (simp [*, errW_none, errW_some] <;> rfl), by repeat (first | (with_reducible first | exact HB.out | apply below_alloc | apply pw_below_drewN | apply below_drew1 | refine below_set ?_ GE105.out | refine below_set ?_ GE106.out) | exact HB.out)⟩
                  · rw [if_neg c17] at H
                    have c17b0 : (!(((rd_T35 l0_1 x5_2).f0) == ((rd_T35 l1_1 x5_2).f0)) || (!(((rd_T35 l0_1 x5_2).f1) == ((rd_T35 l1_1 x5_2).f1)) || (!(((rd_T35 l0_1 x5_2).f2) == ((rd_T35 l1_1 x5_2).f2))))) = false := by simpa using c17
                    clear c17
                    have H' := Aside0.mk H
                    clear H
                    have hnb21 := NB105_106.out
                    have hnc21 := NB106_105.out
                    have hcz22_0 : wr.cell? ⟨gb105, 0, none⟩ = some (.slice A0_0 l0_0.length c0_0) := (blk_cell BK105.out 0).trans rfl
                    have hcz22_1 : wr.cell? ⟨gb105, 1, none⟩ = some (.slice A0_1 l0_1.length c0_1) := (blk_cell BK105.out 1).trans rfl
                    have hcz22_2 : wr.cell? ⟨gb105, 2, none⟩ = some (.int .i64 a0_2) := (blk_cell BK105.out 2).trans rfl
                    have hfz22_0 := blk_frozen BK105.out 0
                    have hfz22_1 := blk_frozen BK105.out 1
                    have hfz22_2 := blk_frozen BK105.out 2
                    have p107 : 0 ≤ (x5_2 : Int) := of_decide_eq_true (by first | (with_reducible assumption) | assumption)
                    have q107 : x5_2 < (l0_1.length : Int) := of_decide_eq_true (by first | (with_reducible assumption) | assumption)
                    obtain ⟨ad107, e107, hx107_0, hx107_1, hx107_2⟩ := at_T35 HR0_1.out x5_2 p107 q107
                    cases e107
                    replace hx107_0 := (HB.out.cell (World.block_lt_of_cell? w _ hx107_0)).trans hx107_0
                    replace hx107_1 := (HB.out.cell (World.block_lt_of_cell? w _ hx107_1)).trans hx107_1
                    replace hx107_2 := (HB.out.cell (World.block_lt_of_cell? w _ hx107_2)).trans hx107_2
                    replace p107 := eq_true p107
                    replace q107 := eq_true q107
                    have hcz23_0 : wr.cell? ⟨gb106, 0, none⟩ = some (.slice A1_0 l1_0.length c1_0) := (blk_cell BK106.out 0).trans rfl
                    have hcz23_1 : wr.cell? ⟨gb106, 1, none⟩ = some (.slice A1_1 l1_1.length c1_1) := (blk_cell BK106.out 1).trans rfl
                    have hcz23_2 : wr.cell? ⟨gb106, 2, none⟩ = some (.int .i64 a1_2) := (blk_cell BK106.out 2).trans rfl
                    have hfz23_0 := blk_frozen BK106.out 0
                    have hfz23_1 := blk_frozen BK106.out 1
                    have hfz23_2 := blk_frozen BK106.out 2
                    have p108 : 0 ≤ (x5_2 : Int) := of_decide_eq_true (by first | (with_reducible assumption) | assumption)
                    have q108 : x5_2 < (l1_1.length : Int) := of_decide_eq_true (by first | (with_reducible assumption) | assumption)
                    obtain ⟨ad108, e108, hx108_0, hx108_1, hx108_2⟩ := at_T35 HR1_1.out x5_2 p108 q108
                    cases e108
                    replace hx108_0 := (HB.out.cell (World.block_lt_of_cell? w _ hx108_0)).trans hx108_0
                    replace hx108_1 := (HB.out.cell (World.block_lt_of_cell? w _ hx108_1)).trans hx108_1
                    replace hx108_2 := (HB.out.cell (World.block_lt_of_cell? w _ hx108_2)).trans hx108_2
                    replace p108 := eq_true p108
                    replace q108 := eq_true q108
                    go_wp2
                    repeat (go_quiet (fail); try go_wp2)
                    go_roundg k2
                    case measure => have := HJ2.out; have := HK2.out; omega
                    case rel => exact ⟨(wrap64 (x5_2 + 1)), (by first | rfl | (simp; done) | (simp [*]; done)), H', ⟨by have := HJ2.out; have := HK2.out; omega⟩, ⟨by (with_reducible repeat (first | refine blk_drewN ?_ _ | refine blk_drew ?_ | refine blk_alloc ?_ _)); exact BK105.out⟩, ⟨by (with_reducible repeat (first | refine blk_drewN ?_ _ | refine blk_drew ?_ | refine blk_alloc ?_ _)); exact BK106.out⟩, ⟨by repeat (first | (with_reducible first | exact HB.out | apply below_alloc | apply pw_below_drewN | apply below_drew1 | refine below_set ?_ GE105.out | refine below_set ?_ GE106.out) | exact HB.out)⟩⟩
                · rw [if_neg c16] at H
                  exact absurd H (by simp)
              · rw [if_neg c15] at H
                exact absurd H (by simp)
            · rw [if_neg c14] at H
              have c14b0 : decide (x5_2 < (l0_1.length : Int)) = false := decide_eq_false c14
              clear c14
              replace H := Option.bind_eq_some_iff.mp H
              obtain ⟨t109, A240, H⟩ := H
              replace H : (some t109) = some r := H
              have A24 := Aside0.mk A240
              clear A240
              obtain rfl := Option.some.inj H
              have hnb25 := NB105_106.out
              have hnc25 := NB106_105.out
              have hcz26_0 : wr.cell? ⟨gb105, 0, none⟩ = some (.slice A0_0 l0_0.length c0_0) := (blk_cell BK105.out 0).trans rfl
              have hcz26_1 : wr.cell? ⟨gb105, 1, none⟩ = some (.slice A0_1 l0_1.length c0_1) := (blk_cell BK105.out 1).trans rfl
              have hcz26_2 : wr.cell? ⟨gb105, 2, none⟩ = some (.int .i64 a0_2) := (blk_cell BK105.out 2).trans rfl
              have hfz26_0 := blk_frozen BK105.out 0
              have hfz26_1 := blk_frozen BK105.out 1
              have hfz26_2 := blk_frozen BK105.out 2
              have hcz27_0 : wr.cell? ⟨gb106, 0, none⟩ = some (.slice A1_0 l1_0.length c1_0) := (blk_cell BK106.out 0).trans rfl
              have hcz27_1 : wr.cell? ⟨gb106, 1, none⟩ = some (.slice A1_1 l1_1.length c1_1) := (blk_cell BK106.out 1).trans rfl
              have hcz27_2 : wr.cell? ⟨gb106, 2, none⟩ = some (.int .i64 a1_2) := (blk_cell BK106.out 2).trans rfl
              have hfz27_0 := blk_frozen BK106.out 0
              have hfz27_1 := blk_frozen BK106.out 1
              have hfz27_2 := blk_frozen BK106.out 2
              go_wp2_with (first | (go_at_call 13; (with_reducible refine (malthouseref18_Entries.calls k2 _ _ l0_0 _ _ l1_0 t109 _ ?side1 ?side2 ?side3 ?side4 A24.out).mono ?_); (case side1 => repeat (first | exact (Kd.C_below HR0_0.out HB.out) | (with_reducible refine Kd.C_alloc ?_ _) | (with_reducible refine Kd.C_drewN ?_ _) | (with_reducible refine Kd.C_drew ?_))); (case side2 => exact HC0_0.out); (case side3 => repeat (first | exact (Kd.C_below HR1_0.out HB.out) | (with_reducible refine Kd.C_alloc ?_ _) | (with_reducible refine Kd.C_drewN ?_ _) | (with_reducible refine Kd.C_drew ?_))); (case side4 => exact HC1_0.out); rintro e w' ⟨rfl, ⟨nd, rfl⟩⟩; (try first | exact ⟨rfl, _, World.drewN_drewN _ _ _⟩ | exact ⟨rfl, _, Eq.trans (World.drewN_drewN _ _ _) (congrArg (World.drewN _) (Nat.add_assoc _ _ _))⟩)))
              repeat (go_quiet (first | (go_at_call 13; (with_reducible refine (malthouseref18_Entries.calls k2 _ _ l0_0 _ _ l1_0 t109 _ ?side1 ?side2 ?side3 ?side4 A24.out).mono ?_); (case side1 => repeat (first | exact (Kd.C_below HR0_0.out HB.out) | (with_reducible refine Kd.C_alloc ?_ _) | (with_reducible refine Kd.C_drewN ?_ _) | (with_reducible refine Kd.C_drew ?_))); (case side2 => exact HC0_0.out); (case side3 => repeat (first | exact (Kd.C_below HR1_0.out HB.out) | (with_reducible refine Kd.C_alloc ?_ _) | (with_reducible refine Kd.C_drewN ?_ _) | (with_reducible refine Kd.C_drew ?_))); (case side4 => exact HC1_0.out); rintro e w' ⟨rfl, ⟨nd, rfl⟩⟩; (try first | exact ⟨rfl, _, World.drewN_drewN _ _ _⟩ | exact ⟨rfl, _, Eq.trans (World.drewN_drewN _ _ _) (congrArg (World.drewN _) (Nat.add_assoc _ _ _))⟩))); try go_wp2_with (first | (go_at_call 13; (with_reducible refine (malthouseref18_Entries.calls k2 _ _ l0_0 _ _ l1_0 t109 _ ?side1 ?side2 ?side3 ?side4 A24.out).mono ?_); (case side1 => repeat (first | exact (Kd.C_below HR0_0.out HB.out) | (with_reducible refine Kd.C_alloc ?_ _) | (with_reducible refine Kd.C_drewN ?_ _) | (with_reducible refine Kd.C_drew ?_))); (case side2 => exact HC0_0.out); (case side3 => repeat (first | exact (Kd.C_below HR1_0.out HB.out) | (with_reducible refine Kd.C_alloc ?_ _) | (with_reducible refine Kd.C_drewN ?_ _) | (with_reducible refine Kd.C_drew ?_))); (case side4 => exact HC1_0.out); rintro e w' ⟨rfl, ⟨nd, rfl⟩⟩; (try first | exact ⟨rfl, _, World.drewN_drewN _ _ _⟩ | exact ⟨rfl, _, Eq.trans (World.drewN_drewN _ _ _) (congrArg (World.drewN _) (Nat.add_assoc _ _ _))⟩))))
              go_ret
              exact ⟨by first | rfl | (simp [errW_none, errW_some] <;> rfl) | (simp [*, errW_none, errW_some] <;> rfl), by repeat (first | (with_reducible first | exact HB.out | apply below_alloc | apply pw_below_drewN | apply below_drew1 | refine below_set ?_ GE105.out | refine below_set ?_ GE106.out) | exact HB.out)⟩
end Go.Proofs.YtghpmpjoedbpcaaDoor.Print
