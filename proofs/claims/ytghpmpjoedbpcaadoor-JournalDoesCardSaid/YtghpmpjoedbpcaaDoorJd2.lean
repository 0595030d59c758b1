import Derived.Test.YtghpmpjoedbpcaaDoorJd1
set_option linter.unusedVariables false
set_option linter.unusedSimpArgs false
namespace Go.Proofs.YtghpmpjoedbpcaaDoorW.PrintWords
end Go.Proofs.YtghpmpjoedbpcaaDoorW.PrintWords
namespace Go.Proofs.YtghpmpjoedbpcaaDoorW.PrintLast
end Go.Proofs.YtghpmpjoedbpcaaDoorW.PrintLast
namespace Go.Proofs.YtghpmpjoedbpcaaDoorW.PrintMore
end Go.Proofs.YtghpmpjoedbpcaaDoorW.PrintMore
/-! ### EJAdd -/
namespace Go.Proofs.YtghpmpjoedbpcaaDoor.Print
open Go.RowKit Go.Proofs.YtghpmpjoedbpcaaDoorW.PrintWords Go.Proofs.YtghpmpjoedbpcaaDoorW.PrintLast Go.Proofs.YtghpmpjoedbpcaaDoorW.PrintMore
set_option linter.unusedSimpArgs false
set_option linter.unusedVariables false
theorem fill_one6 (z a b c d e f : Value) (hz : z.cells.size = 6) (h1 : (Value.agg #[a, b, c, d, e, f]).cells = #[a, b, c, d, e, f]) : Instr.fill (fun i => some (i * 6, 6)) ((Array.range (1 * 6)).map (z.cells[· % z.cells.size]!)) [(0, .agg #[a, b, c, d, e, f])] = some #[a, b, c, d, e, f] := by
  generalize hA : ((Array.range (1 * 6)).map (z.cells[· % z.cells.size]!)) = arr
  have h2 : arr.size = 6 := by rw [← hA]; simp
  match arr, h2 with
  | ⟨[x, y, u, v, s, t]⟩, _ => simp [Instr.fill, Value.cells]
def qAt (q : List S35) (i : Nat) : S35 := q.getD i ⟨0, 0, 0⟩
/-- One entry fewer is kept free there. -/
def lessAt (q : List S35) (i : Nat) : List S35 := q.set i ⟨(qAt q i).f0, (qAt q i).f1 - 1, (qAt q i).f2⟩
theorem splice_one (a b : List Value) (x y z v : Value) : splice (a ++ x :: y :: z :: b) (a.length + 1) [v] = a ++ x :: v :: z :: b := by
  unfold splice
  rw [show [v].length = 1 from rfl, List.take_append, List.drop_append, List.take_of_length_le (by omega), List.drop_eq_nil_of_le (by omega), show a.length + 1 - a.length = 1 by omega, show a.length + 1 + 1 - a.length = 2 by omega]
  simp
theorem splice_two (a b : List Value) (x y z v : Value) : splice (a ++ x :: y :: z :: b) (a.length + 2) [v] = a ++ x :: y :: v :: b := by
  unfold splice
  rw [show [v].length = 1 from rfl, List.take_append, List.drop_append, List.take_of_length_le (by omega), List.drop_eq_nil_of_le (by omega), show a.length + 2 - a.length = 2 by omega, show a.length + 2 + 1 - a.length = 3 by omega]
  simp
theorem row_split (cur : List Value) (q : List S35) (i : Nat) (hi : i < q.length) (ht : cur.take (q.length * 3) = qRow q) :
    cur = qRow (q.take i) ++ .int .i64 (qAt q i).f0 :: .int .i64 (qAt q i).f1 :: .int .i64 (qAt q i).f2 :: (qRow (q.drop (i + 1)) ++ cur.drop (q.length * 3)) := by
  have h1 : qAt q i = q[i] := by unfold qAt; simp [List.getD_eq_getElem?_getD, List.getElem?_eq_getElem hi]
  have h2 : qRow q = qRow (q.take i) ++ (.int .i64 q[i].f0 :: .int .i64 q[i].f1 :: .int .i64 q[i].f2 :: qRow (q.drop (i + 1))) := by
    conv => lhs; rw [← List.take_append_drop i q, List.drop_eq_getElem_cons hi, qRow_append]
    rfl
  have h3 : cur = cur.take (q.length * 3) ++ cur.drop (q.length * 3) := (List.take_append_drop _ _).symm
  rw [ht, h2] at h3
  rw [h1]
  simpa using h3
theorem row_set (cur : List Value) (q : List S35) (i : Nat) (hi : i < q.length) (ht : cur.take (q.length * 3) = qRow q) (v : Int) :
    (splice cur (i * 3 + 1) [.int .i64 v]).take (q.length * 3) = qRow (q.set i ⟨(qAt q i).f0, v, (qAt q i).f2⟩) ∧ (splice cur (i * 3 + 2) [.int .i64 v]).take (q.length * 3) = qRow (q.set i ⟨(qAt q i).f0, (qAt q i).f1, v⟩) := by
  have h := row_split cur q i hi ht
  have hl : (qRow (q.take i)).length = i * 3 := by rw [qRow_length, List.length_take, Nat.min_eq_left (by omega)]
  have hr : ∀ y : S35, qRow (q.set i y) = qRow (q.take i) ++ .int .i64 y.f0 :: .int .i64 y.f1 :: .int .i64 y.f2 :: qRow (q.drop (i + 1)) := fun y => by
    rw [List.set_eq_take_append_cons_drop, if_pos hi, qRow_append]; rfl
  have e1 := splice_one (qRow (q.take i)) (qRow (q.drop (i + 1)) ++ cur.drop (q.length * 3)) (.int .i64 (qAt q i).f0) (.int .i64 (qAt q i).f1) (.int .i64 (qAt q i).f2) (.int .i64 v)
  have e2 := splice_two (qRow (q.take i)) (qRow (q.drop (i + 1)) ++ cur.drop (q.length * 3)) (.int .i64 (qAt q i).f0) (.int .i64 (qAt q i).f1) (.int .i64 (qAt q i).f2) (.int .i64 v)
  rw [← h, hl] at e1 e2
  have hq : ∀ y : S35, (qRow (q.set i y)).length = q.length * 3 := fun y => by rw [qRow_length, List.length_set]
  constructor
  · have hn := hq ⟨(qAt q i).f0, v, (qAt q i).f2⟩
    rw [hr] at hn
    rw [e1, hr]
    have e3 := List.take_left' (l₂ := cur.drop (q.length * 3)) hn
    simp only [List.append_assoc, List.cons_append] at e3
    exact e3
  · have hn := hq ⟨(qAt q i).f0, (qAt q i).f1, v⟩
    rw [hr] at hn
    rw [e2, hr]
    have e3 := List.take_left' (l₂ := cur.drop (q.length * 3)) hn
    simp only [List.append_assoc, List.cons_append] at e3
    exact e3
def addJ (j : Jn) (e : S27) : Jn × Int :=
  if rightJ j.l j.q j.g = false ∨ strangeB e = true then (zJn, 1)
  else if placeB j.q e.f1 = true then
    if (qAt j.q (placeI j.q e.f1)).f1 = 0 then (zJn, 180) else (⟨j.l ++ [e], lessAt j.q (placeI j.q e.f1), j.g⟩, 0)
  else if usedZ j.l j.q = 120 then (zJn, 180) else (⟨j.l ++ [e], j.q, j.g⟩, 0)
set_option maxHeartbeats 8000000 in
set_option maxRecDepth 100000 in
theorem add_calls (A0 : Option Addr) (c0 : Nat) (A1 : Option Addr) (c1 : Nat) (j : Jn) (e : S27) (w : World) (h0 : j.l.length ≤ c0 ∧ Kd.C k27 w A0 j.l.length j.l) (h1 : j.q.length ≤ c1 ∧ Kd.C k35 w A1 j.q.length j.q) (hT : Tabs w) (hj : Jok j) (he : e.f3.size ≤ 1000000000) :
    Calls Tryd.prog 10 #[.agg #[.slice A0 j.l.length c0, .slice A1 j.q.length c1, .int .i64 j.g], .agg #[.int .i64 e.f0, .int .i64 e.f1, .int .i64 e.f2, .string e.f3, .int .i64 e.f4, .int .i64 e.f5]] w fun x w' => ∃ v, x = .returned (.tuple #[v, .int .i64 (addJ j e).2]) ∧ JR w' w.heap.size v (addJ j e).1.l (addJ j e).1.q (addJ j e).1.g ∧ Below w.heap.size w w' := by
  obtain ⟨R, hR⟩ : ∃ R, R = addJ j e := ⟨_, rfl⟩
  rw [← hR]
  have HRR := Lib.hid hR
  have HA := Lib.hid h0
  have HB := Lib.hid h1
  have HT := Lib.hid hT
  have HJ := Lib.hid hj
  have HE := Lib.hid he
  clear hR h0 h1 hT hj he
  go_enter Tryd.func10, Tryd.ntmps10
  go_wp2_with (go_at_call 30; refine (fun (h : Hid _) => h.out) ?_)
  refine Lib.hid ?_
  have HX0 := Lib.hid (show (((w.alloc (.cells #[.slice A0 j.l.length c0, .slice A1 j.q.length c1, .int .i64 j.g] 25)).alloc (.cells #[.int .i64 e.f0, .int .i64 e.f1, .int .i64 e.f2, .string e.f3, .int .i64 e.f4, .int .i64 e.f5] 27)).alloc (.cells #[.slice none 0 0, .slice none 0 0, .int .i64 0] 25)).heap[w.heap.size]? = some (.cells #[.slice A0 j.l.length c0, .slice A1 j.q.length c1, .int .i64 j.g] 25 (0, 0)) from (Below.heap_alloc _ _ _ (by simp; omega)).trans ((Below.heap_alloc _ _ _ (by simp)).trans (heap_alloc_new _ _)))
  have HX1 := Lib.hid (show (((w.alloc (.cells #[.slice A0 j.l.length c0, .slice A1 j.q.length c1, .int .i64 j.g] 25)).alloc (.cells #[.int .i64 e.f0, .int .i64 e.f1, .int .i64 e.f2, .string e.f3, .int .i64 e.f4, .int .i64 e.f5] 27)).alloc (.cells #[.slice none 0 0, .slice none 0 0, .int .i64 0] 25)).heap[w.heap.size + 1]? = some (.cells #[.int .i64 e.f0, .int .i64 e.f1, .int .i64 e.f2, .string e.f3, .int .i64 e.f4, .int .i64 e.f5] 27 (0, 0)) from by
    have := heap_alloc_new (w.alloc (.cells #[.slice A0 j.l.length c0, .slice A1 j.q.length c1, .int .i64 j.g] 25)) (.cells #[.int .i64 e.f0, .int .i64 e.f1, .int .i64 e.f2, .string e.f3, .int .i64 e.f4, .int .i64 e.f5] 27)
    rw [show (w.alloc (.cells #[.slice A0 j.l.length c0, .slice A1 j.q.length c1, .int .i64 j.g] 25)).heap.size = w.heap.size + 1 by simp] at this
    exact (Below.heap_alloc _ _ _ (by simp)).trans this)
  have HX2 := Lib.hid (show (((w.alloc (.cells #[.slice A0 j.l.length c0, .slice A1 j.q.length c1, .int .i64 j.g] 25)).alloc (.cells #[.int .i64 e.f0, .int .i64 e.f1, .int .i64 e.f2, .string e.f3, .int .i64 e.f4, .int .i64 e.f5] 27)).alloc (.cells #[.slice none 0 0, .slice none 0 0, .int .i64 0] 25)).heap[w.heap.size + 2]? = some (.cells #[.slice none 0 0, .slice none 0 0, .int .i64 0] 25 (0, 0)) from by
    have := heap_alloc_new ((w.alloc (.cells #[.slice A0 j.l.length c0, .slice A1 j.q.length c1, .int .i64 j.g] 25)).alloc (.cells #[.int .i64 e.f0, .int .i64 e.f1, .int .i64 e.f2, .string e.f3, .int .i64 e.f4, .int .i64 e.f5] 27)) (.cells #[.slice none 0 0, .slice none 0 0, .int .i64 0] 25)
    rw [show ((w.alloc (.cells #[.slice A0 j.l.length c0, .slice A1 j.q.length c1, .int .i64 j.g] 25)).alloc (.cells #[.int .i64 e.f0, .int .i64 e.f1, .int .i64 e.f2, .string e.f3, .int .i64 e.f4, .int .i64 e.f5] 27)).heap.size = w.heap.size + 2 by simp] at this
    exact this)
  have HO0 := Lib.hid ((((Only.refl [] w).alloc (.cells #[.slice A0 j.l.length c0, .slice A1 j.q.length c1, .int .i64 j.g] 25)).alloc (.cells #[.int .i64 e.f0, .int .i64 e.f1, .int .i64 e.f2, .string e.f3, .int .i64 e.f4, .int .i64 e.f5] 27)).alloc (.cells #[.slice none 0 0, .slice none 0 0, .int .i64 0] 25))
  generalize ((w.alloc (.cells #[.slice A0 j.l.length c0, .slice A1 j.q.length c1, .int .i64 j.g] 25)).alloc (.cells #[.int .i64 e.f0, .int .i64 e.f1, .int .i64 e.f2, .string e.f3, .int .i64 e.f4, .int .i64 e.f5] 27)).alloc (.cells #[.slice none 0 0, .slice none 0 0, .int .i64 0] 25) = W0 at *
  generalize hb : w.heap.size = wb at *
  have HBB := Lib.hid hb
  clear hb
  refine (own_any A0 c0 A1 c1 j.l j.q j.g W0 (Kd.C_below HA.out.2 HO0.out.nil_below) (Kd.C_below HB.out.2 HO0.out.nil_below) HJ.out.2.1 HJ.out.2.2).mono ?_
  rintro x W3 ⟨bp, B0, d0, B1, d1, rfl, hbk, ho3⟩
  have HBK := Lib.hid hbk
  have HBP := Lib.hid (show wb + 2 < bp from Nat.lt_of_lt_of_le (heap_lt HX2.out) hbk.hb)
  have HW0S := Lib.hid (show wb + 2 < W0.heap.size from heap_lt HX2.out)
  have HY1 := Lib.hid (ho3.heap HX1.out (by simp))
  have HY2 := Lib.hid (ho3.heap HX2.out (by simp))
  have HW3 := Lib.hid (HO0.out.trans ho3)
  clear hbk ho3 HX0 HX1 HX2 HO0
  have HRI := Lib.hid (right_any bp d0 B0 j.l B1 d1 j.q j.g W3 HBK.out.row HBK.out.reads.1.2 HBK.out.reads.2.2 HJ.out.1 (HT.out.below HW3.out.nil_below) (by have := HJ.out.2.1; omega) (by have := HJ.out.2.2; omega))
  unfold addJ at HRR
  go_wp2_with (go_at_call 31; refine HRI.out.mono ?_; rintro x W4 ⟨rfl, hb4⟩; refine (fun (h : Hid _) => h.out) ?_)
  refine Lib.hid ?_
  have HBK4 := Lib.hid (HBK.out.below hb4)
  have HZ1 := Lib.hid ((Only.of_below hb4).heap HY1.out (by simp))
  have HZ2 := Lib.hid ((Only.of_below hb4).heap HY2.out (by simp))
  have HW4 := Lib.hid (HW3.out.trans (Only.of_below hb4))
  clear hb4 HBK HY1 HY2 HW3 HRI
  cases hr : rightJ j.l j.q j.g
  · have HR0 := Lib.hid (HRR.out.trans (if_pos (.inl hr)))
    clear hr HRR
    go_wp2_with (first
      | (with_reducible refine wpList_store_new rfl 25 (.tmp 4) (.tmp 19) rfl (wb + 2) #[.slice none 0 0, .slice none 0 0, .int .i64 0] rfl rfl 25 _ HZ2.out (size3_25 _ _ _) rfl (by simp [Value.oneCell']) ?_; intro w9 hh9 ho9))
    refine bodyPost_ret (results_row rfl _ _ (wb + 2) _ _ _ _ rfl hh9.out Tryd.underlying25 rfl (size3_25 _ _ _)) rfl ?_
    rw [HR0.out]
    exact ⟨_, rfl, jr_zero _ _, (((HW4.out.mono (T := [wb + 2]) (by simp)).trans ho9).pop (by rw [HBB.out]; omega)).nil_below⟩
  obtain ⟨hL, hBt, hRi, hG, hU, hE9, hOd⟩ := right_parts hr
  have hU0 := usedZ_ge j.l j.q hL
  have hrr := HRR.out
  rw [hr] at hrr
  have HRR := Lib.hid hrr
  clear hrr
  have HST := Lib.hid (strange_any (.pointer (some ⟨bp, 0, none⟩)) e W4 HE.out (HT.out.below HW4.out.nil_below))
  have y0 : W4.cell? ⟨wb + 1, 0, none⟩ = some (.int .i64 e.f0) := (cell_of_row W4 (wb + 1) 0 _ _ _ HZ1.out).trans rfl
  have y1 : W4.cell? ⟨wb + 1, 1, none⟩ = some (.int .i64 e.f1) := (cell_of_row W4 (wb + 1) 1 _ _ _ HZ1.out).trans rfl
  have y2 : W4.cell? ⟨wb + 1, 2, none⟩ = some (.int .i64 e.f2) := (cell_of_row W4 (wb + 1) 2 _ _ _ HZ1.out).trans rfl
  have y3 : W4.cell? ⟨wb + 1, 3, none⟩ = some (.string e.f3) := (cell_of_row W4 (wb + 1) 3 _ _ _ HZ1.out).trans rfl
  have y4 : W4.cell? ⟨wb + 1, 4, none⟩ = some (.int .i64 e.f4) := (cell_of_row W4 (wb + 1) 4 _ _ _ HZ1.out).trans rfl
  have y5 : W4.cell? ⟨wb + 1, 5, none⟩ = some (.int .i64 e.f5) := (cell_of_row W4 (wb + 1) 5 _ _ _ HZ1.out).trans rfl
  go_wp2_with (go_at_call 32; refine HST.out.mono ?_; rintro x W5 ⟨rfl, hb5⟩; refine (fun (h : Hid _) => h.out) ?_)
  refine Lib.hid ?_
  have HBK5 := Lib.hid (HBK4.out.below hb5)
  have HY1 := Lib.hid ((Only.of_below hb5).heap HZ1.out (by simp))
  have HY2 := Lib.hid ((Only.of_below hb5).heap HZ2.out (by simp))
  have HW5 := Lib.hid (HW4.out.trans (Only.of_below hb5))
  clear hb5 HBK4 HZ1 HZ2 HW4 HST y0 y1 y2 y3 y4 y5
  cases hst : strangeB e
  rotate_left
  · have HR0 := Lib.hid (HRR.out.trans (if_pos (.inr hst)))
    clear hst HRR
    go_wp2_with (first
      | (with_reducible refine wpList_store_new rfl 25 (.tmp 4) (.tmp 19) rfl (wb + 2) #[.slice none 0 0, .slice none 0 0, .int .i64 0] rfl rfl 25 _ HY2.out (size3_25 _ _ _) rfl (by simp [Value.oneCell']) ?_; intro w9 hh9 ho9))
    refine bodyPost_ret (results_row rfl _ _ (wb + 2) _ _ _ _ rfl hh9.out Tryd.underlying25 rfl (size3_25 _ _ _)) rfl ?_
    rw [HR0.out]
    exact ⟨_, rfl, jr_zero _ _, (((HW5.out.mono (T := [wb + 2]) (by simp)).trans ho9).pop (by rw [HBB.out]; omega)).nil_below⟩
  have HRR := Lib.hid (HRR.out.trans (if_neg (by rw [hst]; simp)))
  have hbb : 0 ≤ e.f1 ∧ e.f1 ≤ 1099511627776 := by
    unfold strangeB at hst
    simp only [Bool.or_eq_false_iff, Bool.not_eq_false'] at hst
    have := hst.1.1.2
    unfold wi at this
    simp only [Bool.and_eq_true, decide_eq_true_eq] at this
    exact this
  obtain ⟨hb0, hb9⟩ := hbb
  clear hst
  have HPL := Lib.hid (place_any bp j.l.length d0 B0 B1 d1 j.q j.g e.f1 W5 HBK5.out.row HBK5.out.reads.2.2 (by have := HJ.out.2.2; omega) hRi hBt hb0 hb9)
  have y1 : W5.cell? ⟨wb + 1, 1, none⟩ = some (.int .i64 e.f1) := (cell_of_row W5 (wb + 1) 1 _ _ _ HY1.out).trans rfl
  go_wp2_with (go_at_call 33; refine HPL.out.mono ?_; rintro x W6 ⟨rfl, hb6⟩; refine (fun (h : Hid _) => h.out) ?_)
  refine Lib.hid ?_
  clear y1
  have HBK6 := Lib.hid (HBK5.out.below hb6)
  have HZ1 := Lib.hid ((Only.of_below hb6).heap HY1.out (by simp))
  have HZ2 := Lib.hid ((Only.of_below hb6).heap HY2.out (by simp))
  have HW6 := Lib.hid (HW5.out.trans (Only.of_below hb6))
  clear hb6 HBK5 HY1 HY2 HW5 HPL
  have HPI := Lib.hid (placeI_le j.q e.f1)
  cases hpb : placeB j.q e.f1
  · have HRR := Lib.hid (HRR.out.trans (if_neg (by rw [hpb]; simp)))
    clear hpb
    have HUS := Lib.hid (used_any bp j.l.length d0 B0 B1 d1 j.q j.g W6 HBK6.out.row HBK6.out.reads.2.2 hL (by have := HJ.out.2.1; omega) (by have := HJ.out.2.2; omega))
    unfold usedZ at hU hU0 HRR
    generalize usedFrom (mn (j.l.length : Int) 121) j.q = uz at *
    go_wp2_with (go_at_call 34; refine HUS.out.mono ?_; rintro x W7 ⟨rfl, hb7⟩; refine (fun (h : Hid _) => h.out) ?_)
    refine Lib.hid ?_
    have HBK7 := Lib.hid (HBK6.out.below hb7)
    have HY1 := Lib.hid ((Only.of_below hb7).heap HZ1.out (by simp))
    have HY2 := Lib.hid ((Only.of_below hb7).heap HZ2.out (by simp))
    have HW7 := Lib.hid (HW6.out.trans (Only.of_below hb7))
    clear hb7 HBK6 HZ1 HZ2 HW6 HUS
    by_cases hful : uz = 120
    · have HR0 := Lib.hid (HRR.out.trans (if_pos hful))
      clear HRR
      subst hful
      go_wp2_with (first
        | (with_reducible refine wpList_store_new rfl 25 (.tmp 4) (.tmp 49) rfl (wb + 2) #[.slice none 0 0, .slice none 0 0, .int .i64 0] rfl rfl 25 _ HY2.out (size3_25 _ _ _) rfl (by simp [Value.oneCell']) ?_; intro w9 hh9 ho9))
      refine bodyPost_ret (results_row rfl _ _ (wb + 2) _ _ _ _ rfl hh9.out Tryd.underlying25 rfl (size3_25 _ _ _)) rfl ?_
      rw [HR0.out]
      exact ⟨_, rfl, jr_zero _ _, (((HW7.out.mono (T := [wb + 2]) (by simp)).trans ho9).pop (by rw [HBB.out]; omega)).nil_below⟩
    have HRR := Lib.hid (HRR.out.trans (if_neg hful))
    have hfu2 : (uz == 120) = false := by rw [beq_eq_false_iff_ne]; exact hful
    go_wp2
    refine L.grow_start (Value.slice B0 j.l.length d0).ownBlock.toList 12 ((0, true, false) :: (1, true, false) :: (2, true, false) :: (3, true, false) :: (4, true, false) :: (5, true, false) :: (6, true, true) :: (7, false, true) :: (8, false, true) :: (9, true, true) :: (10, true, true) :: (11, true, true) :: (12, false, true) :: []) (by kernel_rfl) (([], [6], some 63) :: ([], [6], some 64) :: ([1], [64], some 65) :: ([2], [65], some 66) :: ([3], [66], some 67) :: ([4], [67], some 68) :: ([], [3], some 69) :: ([6], [69], some 70) :: ([5, 7], [68, 70], some 71) :: ([0, 0, 1, 2, 3, 4, 5, 6, 7, 8], [63], some 72) :: ([9, 0, 1, 2, 3, 4, 5, 6, 7, 8], [72], some 73) :: ([10, 0, 1, 2, 3, 4, 5, 6, 7, 8], [73], some 74) :: ([11, 8, 8, 0, 1, 2, 3, 4, 5, 6, 7, 8], [74, 71], none) :: []) (by kernel_rfl) (by kernel_rfl) (n := 13) rfl (by kernel_rfl) (fun _ _ _ _ _ h => h) (fun wg hog => ?_)
    refine L.growe_start (N := 79) (by rfl) ?_
    have HBG := Lib.hid (HBK7.out.below hog.nil_below)
    have HE1 := Lib.hid (hog.heap HY1.out (by simp))
    have HE2 := Lib.hid (hog.heap HY2.out (by simp))
    have HWG := Lib.hid (HW7.out.trans hog)
    have hbpn : bp ∉ (Value.slice B0 j.l.length d0).ownBlock.toList := fun h => HBG.out.nl (by simpa using h)
    have hypn : wb + 1 ∉ (Value.slice B0 j.l.length d0).ownBlock.toList := fun h => by
      have := (ownsRow_lt HBG.out.ol (show (Value.slice B0 j.l.length d0).ownBlock = some (wb + 1) by simpa using h)).1; have := HW0S.out; omega
    have HHN := Lib.hid hypn
    have HBN := Lib.hid hbpn
    clear hypn hbpn hog
    have e0 : ∀ w', Only (Value.slice B0 j.l.length d0).ownBlock.toList wg w' → w'.cell? ⟨bp, 0, none⟩ = some (.slice B0 j.l.length d0) := fun w' k => (cell_of_row w' bp 0 _ _ _ (k.heap HBG.out.row HBN.out)).trans rfl
    have y0 : ∀ w', Only (Value.slice B0 j.l.length d0).ownBlock.toList wg w' → w'.cell? ⟨wb + 1, 0, none⟩ = some (.int .i64 e.f0) := fun w' k => (cell_of_row w' (wb + 1) 0 _ _ _ (k.heap HE1.out HHN.out)).trans rfl
    have y1 : ∀ w', Only (Value.slice B0 j.l.length d0).ownBlock.toList wg w' → w'.cell? ⟨wb + 1, 1, none⟩ = some (.int .i64 e.f1) := fun w' k => (cell_of_row w' (wb + 1) 1 _ _ _ (k.heap HE1.out HHN.out)).trans rfl
    have y2 : ∀ w', Only (Value.slice B0 j.l.length d0).ownBlock.toList wg w' → w'.cell? ⟨wb + 1, 2, none⟩ = some (.int .i64 e.f2) := fun w' k => (cell_of_row w' (wb + 1) 2 _ _ _ (k.heap HE1.out HHN.out)).trans rfl
    have y3 : ∀ w', Only (Value.slice B0 j.l.length d0).ownBlock.toList wg w' → w'.cell? ⟨wb + 1, 3, none⟩ = some (.string e.f3) := fun w' k => (cell_of_row w' (wb + 1) 3 _ _ _ (k.heap HE1.out HHN.out)).trans rfl
    have y4 : ∀ w', Only (Value.slice B0 j.l.length d0).ownBlock.toList wg w' → w'.cell? ⟨wb + 1, 4, none⟩ = some (.int .i64 e.f4) := fun w' k => (cell_of_row w' (wb + 1) 4 _ _ _ (k.heap HE1.out HHN.out)).trans rfl
    have y5 : ∀ w', Only (Value.slice B0 j.l.length d0).ownBlock.toList wg w' → w'.cell? ⟨wb + 1, 5, none⟩ = some (.int .i64 e.f5) := fun w' k => (cell_of_row w' (wb + 1) 5 _ _ _ (k.heap HE1.out HHN.out)).trans rfl
    iterate 7 (first | (refine L.ge_off rfl rfl rfl (by rfl) ?_) | (refine L.ge_move rfl rfl rfl (by rfl) rfl (by simp [L.evE, L.lk, Act.eval]; rfl) ?_) | (refine L.ge_pick rfl rfl rfl (by rfl) rfl (by simp [L.evE, L.lk, Act.eval]; rfl) (by simp [L.evE, L.lk, Act.eval]; rfl) ?_) | (refine L.ge_val rfl rfl rfl (by rfl) (by intro w' hw'; simp [execOp, L.evE, L.lk, Act.eval]; go_simp; rfl) ?_))
    refine ge_one rfl rfl rfl (by rfl) _ (.tmp 69) rfl 27 Tryd.underlying22 (.agg #[.int .i64 0, .int .i64 0, .int .i64 0, .string ⟨#[]⟩, .int .i64 0, .int .i64 0]) 6 56 info27 (by omega) (by omega) #[.int .i64 e.f0, .int .i64 e.f1, .int .i64 e.f2, .string e.f3, .int .i64 e.f4, .int .i64 e.f5] (by have h := fill_one6 (.agg #[.int .i64 0, .int .i64 0, .int .i64 0, .string ⟨#[]⟩, .int .i64 0, .int .i64 0]) (.int .i64 e.f0) (.int .i64 e.f1) (.int .i64 e.f2) (.string e.f3) (.int .i64 e.f4) (.int .i64 e.f5) rfl rfl; simpa [L.evE, L.lk, Act.eval] using h) ?_
    have HPN := Lib.hid (heap_alloc_new wg (.cells #[.int .i64 e.f0, .int .i64 e.f1, .int .i64 e.f2, .string e.f3, .int .i64 e.f4, .int .i64 e.f5] 27))
    have hal : Only [] wg (wg.alloc (.cells #[.int .i64 e.f0, .int .i64 e.f1, .int .i64 e.f2, .string e.f3, .int .i64 e.f4, .int .i64 e.f5] 27)) := (Only.refl [] wg).alloc _
    have HOW := Lib.hid (ownsRow_only HBG.out.ol hal (by simp))
    have HAL := Lib.hid hal
    have HGB := Lib.hid (show W0.heap.size ≤ (wg.alloc (.cells #[.int .i64 e.f0, .int .i64 e.f1, .int .i64 e.f2, .string e.f3, .int .i64 e.f4, .int .i64 e.f5] 27)).heap.size from Nat.le_trans HBG.out.hb (Nat.le_trans (Nat.le_of_lt (heap_lt HBG.out.row)) hal.size))
    clear hal e0 y0 y1 y2 y3 y4 y5
    refine ge_append_row rfl rfl rfl (by rfl) (.tmp 68) (.tmp 70) 22 rfl W0.heap.size 27 6 56 (.agg #[.int .i64 0, .int .i64 0, .int .i64 0, .string ⟨#[]⟩, .int .i64 0, .int .i64 0]) Tryd.underlying22 info27 rfl (by omega) (.slice B0 j.l.length d0) j.l.length (eRow j.l) (by simp [L.evE, L.lk, Act.eval]) HOW.out (some ⟨wg.heap.size, 0, none⟩) 1 1 [.int .i64 e.f0, .int .i64 e.f1, .int .i64 e.f2, .string e.f3, .int .i64 e.f4, .int .i64 e.f5] (by simp [L.evE, L.lk, Act.eval]) rfl (fun _ => ⟨_, rfl, cellsAt_row HPN.out⟩) (by simp [Value.oneCell']) (by have := HJ.out.2.1; unfold maxLen; omega) (by have := HJ.out.2.1; omega) HGB.out ?_
    intro A8 c8 w8 hb8 ho8 hk8
    refine ⟨ho8, ?_⟩
    have HB8 := Lib.hid (show w8.ownsRow W0.heap.size 27 6 (.slice A8 (j.l.length + 1) c8) (j.l.length + 1) (eRow (j.l ++ [e])) by rw [eRow_append]; exact hb8)
    have HO8 := Lib.hid (HAL.out.mono (T := (Value.slice B0 j.l.length d0).ownBlock.toList) (by simp) |>.trans ho8)
    have HR8 := Lib.hid (HO8.out.heap HBG.out.row HBN.out)
    have HK8 := Lib.hid (show ∀ k, (Value.slice A8 (j.l.length + 1) c8).ownBlock = some k → (Value.slice B0 j.l.length d0).ownBlock = some k ∨ wg.heap.size ≤ k from fun k hk => (hk8 k hk).imp id (fun h => Nat.le_trans HAL.out.size h))
    clear hb8 ho8 hk8 HPN HOW HAL
    iterate 3 (first | (refine L.ge_off rfl rfl rfl (by rfl) ?_) | (refine L.ge_move rfl rfl rfl (by rfl) rfl (by simp [L.evE, L.lk, Act.eval]; rfl) ?_) | (refine L.ge_pick rfl rfl rfl (by rfl) rfl (by simp [L.evE, L.lk, Act.eval]; rfl) (by simp [L.evE, L.lk, Act.eval]; rfl) ?_) | (refine L.ge_val rfl rfl rfl (by rfl) (by intro w' hw'; simp [execOp, L.evE, L.lk, Act.eval]; go_simp; rfl) ?_))
    refine ge_last_in rfl rfl (by rfl) _ (.tmp 74) (.tmp 71) rfl bp 0 (.slice A8 (j.l.length + 1) c8) (by simp [L.evE, L.lk, Act.eval]) (by simp [L.evE, L.lk, Act.eval]) [.slice A8 (j.l.length + 1) c8] rfl 56 [.slice B0 j.l.length d0, .slice B1 (j.q).length d1, .int .i64 j.g] HR8.out (by kernel_rfl) (by simp) (by simp [Value.oneCell']) ?_
    intro W9 hr9 ho9
    simp only [L.puts, Act.put, goInt, List.setIfInBounds_toArray, List.set_cons_zero, List.set_cons_succ]
    have HN8 := Lib.hid (show (Value.slice A8 (j.l.length + 1) c8).ownBlock ≠ some bp from fun h => by
      rcases HK8.out _ h with h | h
      · exact HBG.out.nl h
      · have := heap_lt HBG.out.row; omega)
    have HN9 := Lib.hid (show (Value.slice A8 (j.l.length + 1) c8).ownBlock ≠ some (wb + 2) from fun h => by
      rcases HK8.out _ h with h | h
      · have := (ownsRow_lt HBG.out.ol h).1; have := HW0S.out; omega
      · have := heap_lt HE2.out; omega)
    have HN7 := Lib.hid (show (Value.slice B1 (j.q).length d1).ownBlock ≠ some (wb + 2) from fun h => by have := (ownsRow_lt HBG.out.oq h).1; have := HW0S.out; omega)
    have HRR9 := Lib.hid (show W9.heap[bp]? = some (.cells #[.slice A8 (j.l.length + 1) c8, .slice B1 (j.q).length d1, .int .i64 j.g] 56 (0, 0)) from hr9.out)
    have HL9 := Lib.hid (ownsRow_only HB8.out ho9.out (fun k hk h => by simp at h; subst h; exact HN8.out hk))
    have HQ9 := Lib.hid (ownsRow_only (ownsRow_only HBG.out.oq HO8.out (fun k hk h => HBG.out.nlq k (by simpa using h) hk)) ho9.out (fun k hk h => by simp at h; subst h; exact HBG.out.nq hk))
    have HY9 := Lib.hid (ho9.out.heap (HO8.out.heap HE2.out (fun h => by have := (ownsRow_lt HBG.out.ol (show (Value.slice B0 j.l.length d0).ownBlock = some (wb + 2) by simpa using h)).1; have := HW0S.out; omega)) (by simp; have := HBP.out; omega))
    have HW9 := Lib.hid ((HWG.out.then HO8.out (fun k hk => .inr (by have := (ownsRow_lt HBG.out.ol (show (Value.slice B0 j.l.length d0).ownBlock = some k by simpa using hk)).1; have := HW0S.out; have := HBB.out; omega))).then ho9.out (fun k hk => .inr (by simp at hk; subst hk; have := HBP.out; have := HBB.out; omega)))
    clear HBG HE1 HE2 HWG HHN HBN HB8 HO8 HR8 HK8 HN8 hr9 ho9
    go_wp2_with (first
      | (with_reducible refine wpList_load_at rfl 25 (.tmp 77) rfl ⟨bp, 0, none⟩ rfl _ _ (cellsAt_row HRR9.out) Tryd.underlying25 rfl (by kernel_rfl) ?_)
      | (with_reducible refine wpList_store_new rfl 25 (.tmp 4) (.tmp 78) rfl (wb + 2) #[.slice A8 (j.l.length + 1) c8, .slice B1 (j.q).length d1, .int .i64 j.g] rfl rfl 25 _ HY9.out (size3_25 _ _ _) rfl (by simp [Value.oneCell']) ?_; intro w9 hh9 ho9))
    refine bodyPost_ret (results_row rfl _ _ (wb + 2) _ _ _ _ rfl hh9.out Tryd.underlying25 rfl (size3_25 _ _ _)) rfl ?_
    rw [HRR.out]
    have hz9 := ((HW9.out.mono (T := [wb + 2]) (by simp)).trans ho9).pop (show w.heap.size ≤ wb + 2 by rw [HBB.out]; omega)
    refine ⟨_, rfl, ?_, hz9.nil_below⟩
    have hll : (j.l ++ [e]).length = j.l.length + 1 := by simp
    have hl9 := ownsRow_only HL9.out ho9 (fun k hk h => by simp at h; subst h; exact HN9.out hk)
    have hq9 := ownsRow_only HQ9.out ho9 (fun k hk h => by simp at h; subst h; exact HN7.out hk)
    rw [← hll] at hl9
    show JR w9 _ _ (j.l ++ [e]) (j.q) j.g
    rw [← hll]
    exact ⟨A8, c8, B1, d1, rfl, ownsRow_mono hl9 (by have := HW0S.out; have := HBB.out; omega), ownsRow_mono hq9 (by have := HW0S.out; have := HBB.out; omega)⟩
  · have hlt := placeB_lt hpb
    have HRR := Lib.hid (HRR.out.trans (if_pos hpb))
    clear hpb
    obtain ⟨i, hi⟩ : ∃ i, i = placeI j.q e.f1 := ⟨_, rfl⟩
    rw [← hi] at HRR HPI hlt ⊢
    clear hi
    have hqb := HJ.out.2.2
    have hi0 : (0 : Int) ≤ i := by omega
    have hilt : (i : Int) < j.q.length := by omega
    rcases HBK6.out.oq.2 with ⟨_, hz⟩ | ⟨gq, cap, cur0, e0, hgb, hg0, hnc, hcm, hcs, htk⟩
    · omega
    injection e0 with e0 e1 e2
    subst e0 e2
    obtain ⟨cur, rfl⟩ : ∃ cur : List Value, cur0 = cur.toArray := ⟨cur0.toList, by simp⟩
    have htk2 : cur.take (j.q.length * 3) = qRow j.q := by simpa using htk
    have hcl : cur.length = d1 * 3 := by simpa using hcs
    have hsp := row_split cur j.q i hlt htk2
    have hset := fun v => (row_set cur j.q i hlt htk2 v).1
    have hrl : (qRow (j.q.take i)).length = i * 3 := by rw [qRow_length, List.length_take, Nat.min_eq_left (by omega)]
    have hc1 : W6.cell? ⟨gq, i * 3 + 1, none⟩ = some (.int .i64 (qAt j.q i).f1) := by
      rw [cell_of_row W6 gq _ _ _ _ hg0, List.getElem?_toArray, hsp, ← hrl, List.getElem?_append_right (by omega)]
      simp
    have hlf : 0 ≤ (qAt j.q i).f1 ∧ (qAt j.q i).f1 ≤ 40 := by
      have e : qAt j.q i = j.q[i] := by unfold qAt; simp [List.getD_eq_getElem?_getD, List.getElem?_eq_getElem hlt]
      rw [e]
      exact hL _ (List.getElem_mem hlt)
    have HG := Lib.hid hg0
    have HCL := Lib.hid hcl
    have HSET := Lib.hid hset
    have HQB := Lib.hid hgb
    have HDM := Lib.hid hcm
    have HNC := Lib.hid hnc
    have HLF := Lib.hid (show lessAt j.q i = j.q.set i ⟨(qAt j.q i).f0, (qAt j.q i).f1 - 1, (qAt j.q i).f2⟩ from rfl)
    obtain ⟨hf0, hf9⟩ := hlf
    clear hsp hset hrl hcs htk htk2 hcl hg0 hgb hcm hnc e1
    generalize (qAt j.q i).f1 = lf at *
    have a1 : W6.cell? ⟨bp, 1, none⟩ = some (.slice (some ⟨gq, 0, none⟩) j.q.length d1) := (cell_of_row W6 bp 1 _ _ _ HBK6.out.row).trans rfl
    by_cases hful : lf = 0
    · have HR0 := Lib.hid (HRR.out.trans (if_pos hful))
      clear HRR
      subst hful
      go_wp2_with (first
        | (with_reducible refine wpList_store_new rfl 25 (.tmp 4) (.tmp 49) rfl (wb + 2) #[.slice none 0 0, .slice none 0 0, .int .i64 0] rfl rfl 25 _ HZ2.out (size3_25 _ _ _) rfl (by simp [Value.oneCell']) ?_; intro w9 hh9 ho9))
      refine bodyPost_ret (results_row rfl _ _ (wb + 2) _ _ _ _ rfl hh9.out Tryd.underlying25 rfl (size3_25 _ _ _)) rfl ?_
      rw [HR0.out]
      exact ⟨_, rfl, jr_zero _ _, (((HW6.out.mono (T := [wb + 2]) (by simp)).trans ho9).pop (by rw [HBB.out]; omega)).nil_below⟩
    have HRR := Lib.hid (HRR.out.trans (if_neg hful))
    have hfu2 : (lf == 0) = false := by rw [beq_eq_false_iff_ne]; exact hful
    go_wp2_with (first
      | (with_reducible refine wpList_store_in rfl 3 (.tmp 62) (.tmp 60) rfl gq (i * 3 + 1) _ rfl rfl [.int .i64 (lf - 1)] rfl 35 cur HG.out (by kernel_rfl) (by rw [HCL.out]; have := HNC.out; simp; omega) (by simp [Value.oneCell']) ?_; intro W7 hr7 ho7; refine (fun (h : Hid _) => h.out) ?_))
    refine Lib.hid ?_
    have hll : (lessAt j.q i).length = j.q.length := by unfold lessAt; rw [List.length_set]
    have hbp7 : bp ∉ [gq] := fun h => HBK6.out.nq (by simp at h; rw [h]; rfl)
    have hbk7 : Bk W7 W0.heap.size bp B0 d0 (some ⟨gq, 0, none⟩) d1 j.l (lessAt j.q i) j.g := by
      refine ⟨?_, HBK6.out.hb, ?_, ?_, HBK6.out.nl, ?_, ?_⟩
      · rw [hll]; exact ho7.out.heap HBK6.out.row hbp7
      · exact ownsRow_only HBK6.out.ol ho7.out (fun k hk h => by simp at h; subst h; exact HBK6.out.nlq _ hk rfl)
      · rw [hll]
        refine ⟨by rw [qRow_length, hll], .inr ⟨gq, d1, _, rfl, HQB.out, hr7.out, HNC.out, HDM.out, ?_, ?_⟩⟩
        · rw [List.size_toArray, length_splice _ _ _ (by rw [HCL.out]; have := HNC.out; simp; omega)]; exact HCL.out
        · show (splice cur (i * 3 + 1) [.int .i64 (lf - 1)]).take (j.q.length * 3) = _
          rw [HSET.out (lf - 1), HLF.out]
      · exact HBK6.out.nq
      · exact HBK6.out.nlq
    have HBK7 := Lib.hid hbk7
    have HY1 := Lib.hid (ho7.out.heap HZ1.out (by have := HQB.out; have := HW0S.out; simp; omega))
    have HY2 := Lib.hid (ho7.out.heap HZ2.out (by have := HQB.out; have := HW0S.out; simp; omega))
    have HW7 := Lib.hid (HW6.out.then ho7.out (fun k hk => .inr (by simp at hk; subst hk; have := HQB.out; have := HW0S.out; have := HBB.out; omega)))
    clear hbk7 hbp7 hll a1 hr7 ho7 HBK6 HZ1 HZ2 HW6 HG HCL HSET HLF hc1
    go_wp2
    refine L.grow_start (Value.slice B0 j.l.length d0).ownBlock.toList 12 ((0, true, false) :: (1, true, false) :: (2, true, false) :: (3, true, false) :: (4, true, false) :: (5, true, false) :: (6, true, true) :: (7, false, true) :: (8, false, true) :: (9, true, true) :: (10, true, true) :: (11, true, true) :: (12, false, true) :: []) (by kernel_rfl) (([], [6], some 63) :: ([], [6], some 64) :: ([1], [64], some 65) :: ([2], [65], some 66) :: ([3], [66], some 67) :: ([4], [67], some 68) :: ([], [3], some 69) :: ([6], [69], some 70) :: ([5, 7], [68, 70], some 71) :: ([0, 0, 1, 2, 3, 4, 5, 6, 7, 8], [63], some 72) :: ([9, 0, 1, 2, 3, 4, 5, 6, 7, 8], [72], some 73) :: ([10, 0, 1, 2, 3, 4, 5, 6, 7, 8], [73], some 74) :: ([11, 8, 8, 0, 1, 2, 3, 4, 5, 6, 7, 8], [74, 71], none) :: []) (by kernel_rfl) (by kernel_rfl) (n := 13) rfl (by kernel_rfl) (fun _ _ _ _ _ h => h) (fun wg hog => ?_)
    refine L.growe_start (N := 79) (by rfl) ?_
    have HBG := Lib.hid (HBK7.out.below hog.nil_below)
    have HE1 := Lib.hid (hog.heap HY1.out (by simp))
    have HE2 := Lib.hid (hog.heap HY2.out (by simp))
    have HWG := Lib.hid (HW7.out.trans hog)
    have hbpn : bp ∉ (Value.slice B0 j.l.length d0).ownBlock.toList := fun h => HBG.out.nl (by simpa using h)
    have hypn : wb + 1 ∉ (Value.slice B0 j.l.length d0).ownBlock.toList := fun h => by
      have := (ownsRow_lt HBG.out.ol (show (Value.slice B0 j.l.length d0).ownBlock = some (wb + 1) by simpa using h)).1; have := HW0S.out; omega
    have HHN := Lib.hid hypn
    have HBN := Lib.hid hbpn
    clear hypn hbpn hog
    have e0 : ∀ w', Only (Value.slice B0 j.l.length d0).ownBlock.toList wg w' → w'.cell? ⟨bp, 0, none⟩ = some (.slice B0 j.l.length d0) := fun w' k => (cell_of_row w' bp 0 _ _ _ (k.heap HBG.out.row HBN.out)).trans rfl
    have y0 : ∀ w', Only (Value.slice B0 j.l.length d0).ownBlock.toList wg w' → w'.cell? ⟨wb + 1, 0, none⟩ = some (.int .i64 e.f0) := fun w' k => (cell_of_row w' (wb + 1) 0 _ _ _ (k.heap HE1.out HHN.out)).trans rfl
    have y1 : ∀ w', Only (Value.slice B0 j.l.length d0).ownBlock.toList wg w' → w'.cell? ⟨wb + 1, 1, none⟩ = some (.int .i64 e.f1) := fun w' k => (cell_of_row w' (wb + 1) 1 _ _ _ (k.heap HE1.out HHN.out)).trans rfl
    have y2 : ∀ w', Only (Value.slice B0 j.l.length d0).ownBlock.toList wg w' → w'.cell? ⟨wb + 1, 2, none⟩ = some (.int .i64 e.f2) := fun w' k => (cell_of_row w' (wb + 1) 2 _ _ _ (k.heap HE1.out HHN.out)).trans rfl
    have y3 : ∀ w', Only (Value.slice B0 j.l.length d0).ownBlock.toList wg w' → w'.cell? ⟨wb + 1, 3, none⟩ = some (.string e.f3) := fun w' k => (cell_of_row w' (wb + 1) 3 _ _ _ (k.heap HE1.out HHN.out)).trans rfl
    have y4 : ∀ w', Only (Value.slice B0 j.l.length d0).ownBlock.toList wg w' → w'.cell? ⟨wb + 1, 4, none⟩ = some (.int .i64 e.f4) := fun w' k => (cell_of_row w' (wb + 1) 4 _ _ _ (k.heap HE1.out HHN.out)).trans rfl
    have y5 : ∀ w', Only (Value.slice B0 j.l.length d0).ownBlock.toList wg w' → w'.cell? ⟨wb + 1, 5, none⟩ = some (.int .i64 e.f5) := fun w' k => (cell_of_row w' (wb + 1) 5 _ _ _ (k.heap HE1.out HHN.out)).trans rfl
    iterate 7 (first | (refine L.ge_off rfl rfl rfl (by rfl) ?_) | (refine L.ge_move rfl rfl rfl (by rfl) rfl (by simp [L.evE, L.lk, Act.eval]; rfl) ?_) | (refine L.ge_pick rfl rfl rfl (by rfl) rfl (by simp [L.evE, L.lk, Act.eval]; rfl) (by simp [L.evE, L.lk, Act.eval]; rfl) ?_) | (refine L.ge_val rfl rfl rfl (by rfl) (by intro w' hw'; simp [execOp, L.evE, L.lk, Act.eval]; go_simp; rfl) ?_))
    refine ge_one rfl rfl rfl (by rfl) _ (.tmp 69) rfl 27 Tryd.underlying22 (.agg #[.int .i64 0, .int .i64 0, .int .i64 0, .string ⟨#[]⟩, .int .i64 0, .int .i64 0]) 6 56 info27 (by omega) (by omega) #[.int .i64 e.f0, .int .i64 e.f1, .int .i64 e.f2, .string e.f3, .int .i64 e.f4, .int .i64 e.f5] (by have h := fill_one6 (.agg #[.int .i64 0, .int .i64 0, .int .i64 0, .string ⟨#[]⟩, .int .i64 0, .int .i64 0]) (.int .i64 e.f0) (.int .i64 e.f1) (.int .i64 e.f2) (.string e.f3) (.int .i64 e.f4) (.int .i64 e.f5) rfl rfl; simpa [L.evE, L.lk, Act.eval] using h) ?_
    have HPN := Lib.hid (heap_alloc_new wg (.cells #[.int .i64 e.f0, .int .i64 e.f1, .int .i64 e.f2, .string e.f3, .int .i64 e.f4, .int .i64 e.f5] 27))
    have hal : Only [] wg (wg.alloc (.cells #[.int .i64 e.f0, .int .i64 e.f1, .int .i64 e.f2, .string e.f3, .int .i64 e.f4, .int .i64 e.f5] 27)) := (Only.refl [] wg).alloc _
    have HOW := Lib.hid (ownsRow_only HBG.out.ol hal (by simp))
    have HAL := Lib.hid hal
    have HGB := Lib.hid (show W0.heap.size ≤ (wg.alloc (.cells #[.int .i64 e.f0, .int .i64 e.f1, .int .i64 e.f2, .string e.f3, .int .i64 e.f4, .int .i64 e.f5] 27)).heap.size from Nat.le_trans HBG.out.hb (Nat.le_trans (Nat.le_of_lt (heap_lt HBG.out.row)) hal.size))
    clear hal e0 y0 y1 y2 y3 y4 y5
    refine ge_append_row rfl rfl rfl (by rfl) (.tmp 68) (.tmp 70) 22 rfl W0.heap.size 27 6 56 (.agg #[.int .i64 0, .int .i64 0, .int .i64 0, .string ⟨#[]⟩, .int .i64 0, .int .i64 0]) Tryd.underlying22 info27 rfl (by omega) (.slice B0 j.l.length d0) j.l.length (eRow j.l) (by simp [L.evE, L.lk, Act.eval]) HOW.out (some ⟨wg.heap.size, 0, none⟩) 1 1 [.int .i64 e.f0, .int .i64 e.f1, .int .i64 e.f2, .string e.f3, .int .i64 e.f4, .int .i64 e.f5] (by simp [L.evE, L.lk, Act.eval]) rfl (fun _ => ⟨_, rfl, cellsAt_row HPN.out⟩) (by simp [Value.oneCell']) (by have := HJ.out.2.1; unfold maxLen; omega) (by have := HJ.out.2.1; omega) HGB.out ?_
    intro A8 c8 w8 hb8 ho8 hk8
    refine ⟨ho8, ?_⟩
    have HB8 := Lib.hid (show w8.ownsRow W0.heap.size 27 6 (.slice A8 (j.l.length + 1) c8) (j.l.length + 1) (eRow (j.l ++ [e])) by rw [eRow_append]; exact hb8)
    have HO8 := Lib.hid (HAL.out.mono (T := (Value.slice B0 j.l.length d0).ownBlock.toList) (by simp) |>.trans ho8)
    have HR8 := Lib.hid (HO8.out.heap HBG.out.row HBN.out)
    have HK8 := Lib.hid (show ∀ k, (Value.slice A8 (j.l.length + 1) c8).ownBlock = some k → (Value.slice B0 j.l.length d0).ownBlock = some k ∨ wg.heap.size ≤ k from fun k hk => (hk8 k hk).imp id (fun h => Nat.le_trans HAL.out.size h))
    clear hb8 ho8 hk8 HPN HOW HAL
    iterate 3 (first | (refine L.ge_off rfl rfl rfl (by rfl) ?_) | (refine L.ge_move rfl rfl rfl (by rfl) rfl (by simp [L.evE, L.lk, Act.eval]; rfl) ?_) | (refine L.ge_pick rfl rfl rfl (by rfl) rfl (by simp [L.evE, L.lk, Act.eval]; rfl) (by simp [L.evE, L.lk, Act.eval]; rfl) ?_) | (refine L.ge_val rfl rfl rfl (by rfl) (by intro w' hw'; simp [execOp, L.evE, L.lk, Act.eval]; go_simp; rfl) ?_))
    refine ge_last_in rfl rfl (by rfl) _ (.tmp 74) (.tmp 71) rfl bp 0 (.slice A8 (j.l.length + 1) c8) (by simp [L.evE, L.lk, Act.eval]) (by simp [L.evE, L.lk, Act.eval]) [.slice A8 (j.l.length + 1) c8] rfl 56 [.slice B0 j.l.length d0, .slice (some ⟨gq, 0, none⟩) (lessAt j.q i).length d1, .int .i64 j.g] HR8.out (by kernel_rfl) (by simp) (by simp [Value.oneCell']) ?_
    intro W9 hr9 ho9
    simp only [L.puts, Act.put, goInt, List.setIfInBounds_toArray, List.set_cons_zero, List.set_cons_succ]
    have HN8 := Lib.hid (show (Value.slice A8 (j.l.length + 1) c8).ownBlock ≠ some bp from fun h => by
      rcases HK8.out _ h with h | h
      · exact HBG.out.nl h
      · have := heap_lt HBG.out.row; omega)
    have HN9 := Lib.hid (show (Value.slice A8 (j.l.length + 1) c8).ownBlock ≠ some (wb + 2) from fun h => by
      rcases HK8.out _ h with h | h
      · have := (ownsRow_lt HBG.out.ol h).1; have := HW0S.out; omega
      · have := heap_lt HE2.out; omega)
    have HN7 := Lib.hid (show (Value.slice (some ⟨gq, 0, none⟩) (lessAt j.q i).length d1).ownBlock ≠ some (wb + 2) from fun h => by have := (ownsRow_lt HBG.out.oq h).1; have := HW0S.out; omega)
    have HRR9 := Lib.hid (show W9.heap[bp]? = some (.cells #[.slice A8 (j.l.length + 1) c8, .slice (some ⟨gq, 0, none⟩) (lessAt j.q i).length d1, .int .i64 j.g] 56 (0, 0)) from hr9.out)
    have HL9 := Lib.hid (ownsRow_only HB8.out ho9.out (fun k hk h => by simp at h; subst h; exact HN8.out hk))
    have HQ9 := Lib.hid (ownsRow_only (ownsRow_only HBG.out.oq HO8.out (fun k hk h => HBG.out.nlq k (by simpa using h) hk)) ho9.out (fun k hk h => by simp at h; subst h; exact HBG.out.nq hk))
    have HY9 := Lib.hid (ho9.out.heap (HO8.out.heap HE2.out (fun h => by have := (ownsRow_lt HBG.out.ol (show (Value.slice B0 j.l.length d0).ownBlock = some (wb + 2) by simpa using h)).1; have := HW0S.out; omega)) (by simp; have := HBP.out; omega))
    have HW9 := Lib.hid ((HWG.out.then HO8.out (fun k hk => .inr (by have := (ownsRow_lt HBG.out.ol (show (Value.slice B0 j.l.length d0).ownBlock = some k by simpa using hk)).1; have := HW0S.out; have := HBB.out; omega))).then ho9.out (fun k hk => .inr (by simp at hk; subst hk; have := HBP.out; have := HBB.out; omega)))
    clear HBG HE1 HE2 HWG HHN HBN HB8 HO8 HR8 HK8 HN8 hr9 ho9
    go_wp2_with (first
      | (with_reducible refine wpList_load_at rfl 25 (.tmp 77) rfl ⟨bp, 0, none⟩ rfl _ _ (cellsAt_row HRR9.out) Tryd.underlying25 rfl (by kernel_rfl) ?_)
      | (with_reducible refine wpList_store_new rfl 25 (.tmp 4) (.tmp 78) rfl (wb + 2) #[.slice A8 (j.l.length + 1) c8, .slice (some ⟨gq, 0, none⟩) (lessAt j.q i).length d1, .int .i64 j.g] rfl rfl 25 _ HY9.out (size3_25 _ _ _) rfl (by simp [Value.oneCell']) ?_; intro w9 hh9 ho9))
    refine bodyPost_ret (results_row rfl _ _ (wb + 2) _ _ _ _ rfl hh9.out Tryd.underlying25 rfl (size3_25 _ _ _)) rfl ?_
    rw [HRR.out]
    have hz9 := ((HW9.out.mono (T := [wb + 2]) (by simp)).trans ho9).pop (show w.heap.size ≤ wb + 2 by rw [HBB.out]; omega)
    refine ⟨_, rfl, ?_, hz9.nil_below⟩
    have hll : (j.l ++ [e]).length = j.l.length + 1 := by simp
    have hl9 := ownsRow_only HL9.out ho9 (fun k hk h => by simp at h; subst h; exact HN9.out hk)
    have hq9 := ownsRow_only HQ9.out ho9 (fun k hk h => by simp at h; subst h; exact HN7.out hk)
    rw [← hll] at hl9
    show JR w9 _ _ (j.l ++ [e]) (lessAt j.q i) j.g
    rw [← hll]
    exact ⟨A8, c8, (some ⟨gq, 0, none⟩), d1, rfl, ownsRow_mono hl9 (by have := HW0S.out; have := HBB.out; omega), ownsRow_mono hq9 (by have := HW0S.out; have := HBB.out; omega)⟩
end Go.Proofs.YtghpmpjoedbpcaaDoor.Print
/-! ### EJNote -/
namespace Go.Proofs.YtghpmpjoedbpcaaDoor.Print
open Go.RowKit Go.Proofs.YtghpmpjoedbpcaaDoorW.PrintWords Go.Proofs.YtghpmpjoedbpcaaDoorW.PrintLast Go.Proofs.YtghpmpjoedbpcaaDoorW.PrintMore
attribute [local go_sem] min2_int min_two
set_option linter.unusedSimpArgs false
set_option linter.unusedVariables false
/-- One entry more was lost there. -/
def lostAt (q : List S35) (i : Nat) : List S35 := q.set i ⟨(qAt q i).f0, (qAt q i).f1, mn ((qAt q i).f2 + 1) 1099511627776⟩
def noteJ (j : Jn) (e : S27) : Jn × Int :=
  if (addJ j e).2 = 180 then (if placeB j.q e.f1 = true then (⟨j.l, lostAt j.q (placeI j.q e.f1), j.g⟩, 0) else (j, 0)) else addJ j e
theorem add_full {j : Jn} {e : S27} (h : (addJ j e).2 = 180) : rightJ j.l j.q j.g = true ∧ strangeB e = false := by
  unfold addJ at h
  split at h
  · cases h
  · rename_i h1
    cases hr : rightJ j.l j.q j.g <;> cases hs : strangeB e <;> simp [hr, hs] at h1 ⊢
theorem strange_batch {e : S27} (h : strangeB e = false) : 0 ≤ e.f1 ∧ e.f1 ≤ 1099511627776 := by
  unfold strangeB at h
  simp only [Bool.or_eq_false_iff, Bool.not_eq_false'] at h
  have := h.1.1.2
  unfold wi at this
  simp only [Bool.and_eq_true, decide_eq_true_eq] at this
  exact this
theorem odd_lost {q : List S35} (h : q.any oddB = false) : ∀ x ∈ q, 0 ≤ x.f2 ∧ x.f2 ≤ 1099511627776 := by
  intro x hx
  have h1 : oddB x = false := by
    cases hb : oddB x with
    | false => rfl
    | true =>
      have : q.any oddB = true := List.any_eq_true.2 ⟨x, hx, hb⟩
      rw [this] at h; cases h
  unfold oddB at h1
  simp only [Bool.or_eq_false_iff, Bool.not_eq_false'] at h1
  have := h1.2
  unfold wi at this
  simp only [Bool.and_eq_true, decide_eq_true_eq] at this
  exact this
set_option maxHeartbeats 8000000 in
set_option maxRecDepth 100000 in
theorem note_calls (A0 : Option Addr) (c0 : Nat) (A1 : Option Addr) (c1 : Nat) (j : Jn) (e : S27) (w : World) (h0 : j.l.length ≤ c0 ∧ Kd.C k27 w A0 j.l.length j.l) (h1 : j.q.length ≤ c1 ∧ Kd.C k35 w A1 j.q.length j.q) (hT : Tabs w) (hj : Jok j) (he : e.f3.size ≤ 1000000000) :
    Calls Tryd.prog 11 #[.agg #[.slice A0 j.l.length c0, .slice A1 j.q.length c1, .int .i64 j.g], .agg #[.int .i64 e.f0, .int .i64 e.f1, .int .i64 e.f2, .string e.f3, .int .i64 e.f4, .int .i64 e.f5]] w fun x w' => ∃ v, x = .returned (.tuple #[v, .int .i64 (noteJ j e).2]) ∧ JR w' w.heap.size v (noteJ j e).1.l (noteJ j e).1.q (noteJ j e).1.g ∧ Below w.heap.size w w' := by
  obtain ⟨R, hR⟩ : ∃ R, R = noteJ j e := ⟨_, rfl⟩
  rw [← hR]
  have HRR := Lib.hid hR
  have HA := Lib.hid h0
  have HB := Lib.hid h1
  have HT := Lib.hid hT
  have HJ := Lib.hid hj
  have HE := Lib.hid he
  clear hR h0 h1 hT hj he
  go_enter Tryd.func11, Tryd.ntmps11
  go_wp2_with (go_at_call 10; refine (fun (h : Hid _) => h.out) ?_)
  refine Lib.hid ?_
  have HX0 := Lib.hid (show (((w.alloc (.cells #[.slice A0 j.l.length c0, .slice A1 j.q.length c1, .int .i64 j.g] 25)).alloc (.cells #[.int .i64 e.f0, .int .i64 e.f1, .int .i64 e.f2, .string e.f3, .int .i64 e.f4, .int .i64 e.f5] 27)).alloc (.cells #[.slice none 0 0, .slice none 0 0, .int .i64 0] 25)).heap[w.heap.size]? = some (.cells #[.slice A0 j.l.length c0, .slice A1 j.q.length c1, .int .i64 j.g] 25 (0, 0)) from (Below.heap_alloc _ _ _ (by simp; omega)).trans ((Below.heap_alloc _ _ _ (by simp)).trans (heap_alloc_new _ _)))
  have HX1 := Lib.hid (show (((w.alloc (.cells #[.slice A0 j.l.length c0, .slice A1 j.q.length c1, .int .i64 j.g] 25)).alloc (.cells #[.int .i64 e.f0, .int .i64 e.f1, .int .i64 e.f2, .string e.f3, .int .i64 e.f4, .int .i64 e.f5] 27)).alloc (.cells #[.slice none 0 0, .slice none 0 0, .int .i64 0] 25)).heap[w.heap.size + 1]? = some (.cells #[.int .i64 e.f0, .int .i64 e.f1, .int .i64 e.f2, .string e.f3, .int .i64 e.f4, .int .i64 e.f5] 27 (0, 0)) from by
    have := heap_alloc_new (w.alloc (.cells #[.slice A0 j.l.length c0, .slice A1 j.q.length c1, .int .i64 j.g] 25)) (.cells #[.int .i64 e.f0, .int .i64 e.f1, .int .i64 e.f2, .string e.f3, .int .i64 e.f4, .int .i64 e.f5] 27)
    rw [show (w.alloc (.cells #[.slice A0 j.l.length c0, .slice A1 j.q.length c1, .int .i64 j.g] 25)).heap.size = w.heap.size + 1 by simp] at this
    exact (Below.heap_alloc _ _ _ (by simp)).trans this)
  have HX2 := Lib.hid (show (((w.alloc (.cells #[.slice A0 j.l.length c0, .slice A1 j.q.length c1, .int .i64 j.g] 25)).alloc (.cells #[.int .i64 e.f0, .int .i64 e.f1, .int .i64 e.f2, .string e.f3, .int .i64 e.f4, .int .i64 e.f5] 27)).alloc (.cells #[.slice none 0 0, .slice none 0 0, .int .i64 0] 25)).heap[w.heap.size + 2]? = some (.cells #[.slice none 0 0, .slice none 0 0, .int .i64 0] 25 (0, 0)) from by
    have := heap_alloc_new ((w.alloc (.cells #[.slice A0 j.l.length c0, .slice A1 j.q.length c1, .int .i64 j.g] 25)).alloc (.cells #[.int .i64 e.f0, .int .i64 e.f1, .int .i64 e.f2, .string e.f3, .int .i64 e.f4, .int .i64 e.f5] 27)) (.cells #[.slice none 0 0, .slice none 0 0, .int .i64 0] 25)
    rw [show ((w.alloc (.cells #[.slice A0 j.l.length c0, .slice A1 j.q.length c1, .int .i64 j.g] 25)).alloc (.cells #[.int .i64 e.f0, .int .i64 e.f1, .int .i64 e.f2, .string e.f3, .int .i64 e.f4, .int .i64 e.f5] 27)).heap.size = w.heap.size + 2 by simp] at this
    exact this)
  have HO0 := Lib.hid ((((Only.refl [] w).alloc (.cells #[.slice A0 j.l.length c0, .slice A1 j.q.length c1, .int .i64 j.g] 25)).alloc (.cells #[.int .i64 e.f0, .int .i64 e.f1, .int .i64 e.f2, .string e.f3, .int .i64 e.f4, .int .i64 e.f5] 27)).alloc (.cells #[.slice none 0 0, .slice none 0 0, .int .i64 0] 25))
  generalize ((w.alloc (.cells #[.slice A0 j.l.length c0, .slice A1 j.q.length c1, .int .i64 j.g] 25)).alloc (.cells #[.int .i64 e.f0, .int .i64 e.f1, .int .i64 e.f2, .string e.f3, .int .i64 e.f4, .int .i64 e.f5] 27)).alloc (.cells #[.slice none 0 0, .slice none 0 0, .int .i64 0] 25) = W0 at *
  generalize hb : w.heap.size = wb at *
  have HBB := Lib.hid hb
  clear hb
  have HW0S := Lib.hid (show wb + 2 < W0.heap.size from heap_lt HX2.out)
  refine (add_calls A0 c0 A1 c1 j e W0 ⟨HA.out.1, Kd.C_below HA.out.2 HO0.out.nil_below⟩ ⟨HB.out.1, Kd.C_below HB.out.2 HO0.out.nil_below⟩ (HT.out.below HO0.out.nil_below) HJ.out HE.out).mono ?_
  rintro x W1 ⟨v1, rfl, hjr1, hb1⟩
  have HY0 := Lib.hid ((Only.of_below hb1).heap HX0.out (by simp))
  have HY1 := Lib.hid ((Only.of_below hb1).heap HX1.out (by simp))
  have HY2 := Lib.hid ((Only.of_below hb1).heap HX2.out (by simp))
  have HW1 := Lib.hid (HO0.out.trans (Only.of_below hb1))
  have HJR := Lib.hid hjr1
  clear hb1 HX0 HX1 HX2 HO0 hjr1
  have HFUL : Hid ((addJ j e).2 = 180 → rightJ j.l j.q j.g = true ∧ strangeB e = false) := Lib.hid add_full
  unfold noteJ at HRR
  obtain ⟨RA, hRA⟩ : ∃ RA, RA = addJ j e := ⟨_, rfl⟩
  rw [← hRA] at HRR HJR HFUL ⊢
  clear hRA
  obtain ⟨j9, r9⟩ := RA
  have HJ9 := Lib.hid HJR.out
  obtain ⟨E0, k0, E1, k1, rfl, hE0, hE1⟩ := HJR.out
  clear hE0 hE1 HJR
  have hal : Only [] W1 (W1.alloc (.cells #[.slice E0 j9.l.length k0, .slice E1 j9.q.length k1, .int .i64 j9.g] 25)) := (Only.refl [] W1).alloc _
  have HYA := Lib.hid (hal.heap HY2.out (by simp))
  have HYB := Lib.hid (hal.heap HY0.out (by simp))
  have HYC := Lib.hid (hal.heap HY1.out (by simp))
  have HWA := Lib.hid (HW1.out.trans hal)
  have HBA := Lib.hid hal
  clear hal
  by_cases h180 : r9 = 180
  rotate_left
  · have HR0 := Lib.hid (HRR.out.trans (if_neg h180))
    clear HRR
    go_wp2_with (first
      | (with_reducible refine wpList_store_new rfl 25 (.tmp 4) (.tmp 19) rfl (wb + 2) #[.slice E0 j9.l.length k0, .slice E1 j9.q.length k1, .int .i64 j9.g] rfl rfl 25 _ HYA.out (size3_25 _ _ _) rfl (by simp [Value.oneCell']) ?_; intro w9 hh9 ho9))
    refine bodyPost_ret (results_row rfl _ _ (wb + 2) _ _ _ _ rfl hh9.out Tryd.underlying25 rfl (size3_25 _ _ _)) rfl ?_
    rw [HR0.out]
    refine ⟨_, rfl, ?_, (((HWA.out.mono (T := [wb + 2]) (by simp)).trans ho9).pop (by rw [HBB.out]; omega)).nil_below⟩
    exact (((HJ9.out.only HBA.out (by simp)).only ho9 (fun k hk => by simp at hk; subst hk; exact HW0S.out)).mono (by have := HW0S.out; have := HBB.out; omega))
  · obtain ⟨hr, hst⟩ := HFUL.out h180
    replace HRR := Lib.hid (HRR.out.trans (if_pos h180))
    subst h180
    obtain ⟨hL, hBt, hRi, hG, hU, hE9, hOd⟩ := right_parts hr
    obtain ⟨hb0, hb9⟩ := strange_batch hst
    clear hr hst HFUL
    have HOWN := Lib.hid (own_any A0 c0 A1 c1 j.l j.q j.g (W1.alloc (.cells #[.slice E0 j9.l.length k0, .slice E1 j9.q.length k1, .int .i64 j9.g] 25)) (Kd.C_below HA.out.2 HWA.out.nil_below) (Kd.C_below HB.out.2 HWA.out.nil_below) HJ.out.2.1 HJ.out.2.2)
    go_wp2_with (first
      | (with_reducible refine wpList_load_at rfl 25 (.tmp 2) rfl ⟨wb, 0, none⟩ rfl _ _ (cellsAt_row HYB.out) Tryd.underlying25 rfl (by kernel_rfl) ?_)
      | (go_at_call 30; refine HOWN.out.mono ?_; rintro x W3 ⟨bp, B0, d0, B1, d1, rfl, hbk, ho3⟩; refine (fun (h : Hid _) => h.out) ?_))
    refine Lib.hid ?_
    have HBK := Lib.hid hbk
    have HZ1 := Lib.hid (ho3.heap HYC.out (by simp))
    have HZ2 := Lib.hid (ho3.heap HYA.out (by simp))
    have HW3 := Lib.hid (HWA.out.trans ho3)
    have HBS := Lib.hid (show wb + 2 < (W1.alloc (.cells #[.slice E0 j9.l.length k0, .slice E1 j9.q.length k1, .int .i64 j9.g] 25)).heap.size from heap_lt HYA.out)
    generalize W1.alloc (.cells #[.slice E0 j9.l.length k0, .slice E1 j9.q.length k1, .int .i64 j9.g] 25) = W2 at *
    have HBP := Lib.hid (show wb + 2 < bp from Nat.lt_of_lt_of_le HBS.out hbk.hb)
    clear hbk ho3 HYA HYB HYC HWA HBA HOWN HY0 HY1 HY2
    have HPL := Lib.hid (place_any bp j.l.length d0 B0 B1 d1 j.q j.g e.f1 W3 HBK.out.row HBK.out.reads.2.2 (by have := HJ.out.2.2; omega) hRi hBt hb0 hb9)
    have y1 : W3.cell? ⟨wb + 1, 1, none⟩ = some (.int .i64 e.f1) := (cell_of_row W3 (wb + 1) 1 _ _ _ HZ1.out).trans rfl
    go_wp2_with (go_at_call 33; refine HPL.out.mono ?_; rintro x W6 ⟨rfl, hb6⟩; refine (fun (h : Hid _) => h.out) ?_)
    refine Lib.hid ?_
    clear y1
    have HBK6 := Lib.hid (HBK.out.below hb6)
    have HY2 := Lib.hid ((Only.of_below hb6).heap HZ2.out (by simp))
    have HW6 := Lib.hid (HW3.out.trans (Only.of_below hb6))
    clear hb6 HBK HZ1 HZ2 HW3 HPL
    cases hpb : placeB j.q e.f1
    · replace HRR := Lib.hid (HRR.out.trans (if_neg (by rw [hpb]; simp)))
      clear hpb
      have HNLW := Lib.hid (show (Value.slice B0 j.l.length d0).ownBlock ≠ some (wb + 2) from fun h => by have := (ownsRow_lt HBK6.out.ol h).1; have := HBS.out; omega)
      have HNBW := Lib.hid (show (Value.slice B1 j.q.length d1).ownBlock ≠ some (wb + 2) from fun h => by have := (ownsRow_lt HBK6.out.oq h).1; have := HBS.out; omega)
      have HRW := Lib.hid HBK6.out.row
      go_wp2_with (first
        | (with_reducible refine wpList_load_at rfl 25 (.tmp 52) rfl ⟨bp, 0, none⟩ rfl _ _ (cellsAt_row HRW.out) Tryd.underlying25 rfl (by kernel_rfl) ?_)
        | (with_reducible refine wpList_store_new rfl 25 (.tmp 4) (.tmp 53) rfl (wb + 2) #[.slice B0 j.l.length d0, .slice B1 j.q.length d1, .int .i64 j.g] rfl rfl 25 _ HY2.out (size3_25 _ _ _) rfl (by simp [Value.oneCell']) ?_; intro w9 hh9 ho9))
      refine bodyPost_ret (results_row rfl _ _ (wb + 2) _ _ _ _ rfl hh9.out Tryd.underlying25 rfl (size3_25 _ _ _)) rfl ?_
      rw [HRR.out]
      have hz9 := ((HW6.out.mono (T := [wb + 2]) (by simp)).trans ho9).pop (show w.heap.size ≤ wb + 2 by rw [HBB.out]; omega)
      refine ⟨_, rfl, ?_, hz9.nil_below⟩
      have hl9 := ownsRow_only HBK6.out.ol ho9 (fun k hk h => by simp at h; subst h; exact HNLW.out hk)
      have hq9 := ownsRow_only HBK6.out.oq ho9 (fun k hk h => by simp at h; subst h; exact HNBW.out hk)
      exact ⟨B0, d0, B1, d1, rfl, ownsRow_mono hl9 (by have := HBS.out; have := HBB.out; omega), ownsRow_mono hq9 (by have := HBS.out; have := HBB.out; omega)⟩
    · have hlt := placeB_lt hpb
      replace HRR := Lib.hid (HRR.out.trans (if_pos hpb))
      clear hpb
      obtain ⟨i, hi⟩ : ∃ i, i = placeI j.q e.f1 := ⟨_, rfl⟩
      rw [← hi] at HRR hlt ⊢
      clear hi
      have hqb := HJ.out.2.2
      have hi0 : (0 : Int) ≤ i := by omega
      have hilt : (i : Int) < j.q.length := by omega
      rcases HBK6.out.oq.2 with ⟨_, hz⟩ | ⟨gq, cap, cur0, e0, hgb, hg0, hnc, hcm, hcs, htk⟩
      · omega
      injection e0 with e0 e1 e2
      subst e0 e2
      obtain ⟨cur, rfl⟩ : ∃ cur : List Value, cur0 = cur.toArray := ⟨cur0.toList, by simp⟩
      have htk2 : cur.take (j.q.length * 3) = qRow j.q := by simpa using htk
      have hcl : cur.length = d1 * 3 := by simpa using hcs
      have hsp := row_split cur j.q i hlt htk2
      have hset := fun v => (row_set cur j.q i hlt htk2 v).2
      have hrl : (qRow (j.q.take i)).length = i * 3 := by rw [qRow_length, List.length_take, Nat.min_eq_left (by omega)]
      have hc2 : W6.cell? ⟨gq, i * 3 + 2, none⟩ = some (.int .i64 (qAt j.q i).f2) := by
        rw [cell_of_row W6 gq _ _ _ _ hg0, List.getElem?_toArray, hsp, ← hrl, List.getElem?_append_right (by omega)]
        simp
      have hlf : 0 ≤ (qAt j.q i).f2 ∧ (qAt j.q i).f2 ≤ 1099511627776 := by
        have e : qAt j.q i = j.q[i] := by unfold qAt; simp [List.getD_eq_getElem?_getD, List.getElem?_eq_getElem hlt]
        rw [e]
        exact odd_lost hOd _ (List.getElem_mem hlt)
      have HG := Lib.hid hg0
      have HCL := Lib.hid hcl
      have HSET := Lib.hid hset
      have HQB := Lib.hid hgb
      have HDM := Lib.hid hcm
      have HNC := Lib.hid hnc
      have HLF := Lib.hid (show lostAt j.q i = j.q.set i ⟨(qAt j.q i).f0, (qAt j.q i).f1, mn ((qAt j.q i).f2 + 1) 1099511627776⟩ from rfl)
      obtain ⟨hf0, hf9⟩ := hlf
      have HC2 := Lib.hid hc2
      clear hsp hset hrl hcs htk htk2 hcl hg0 hgb hcm hnc e1 hc2
      generalize (qAt j.q i).f2 = lf at *
      obtain ⟨lv, hlv⟩ : ∃ lv, lv = mn (lf + 1) 1099511627776 := ⟨_, rfl⟩
      rw [← hlv] at HLF
      have HLV := Lib.hid hlv
      clear hlv
      go_wp2_with fail
      refine L.grow_start [] 19 ((0, true, false) :: (1, true, false) :: (2, true, false) :: (3, true, false) :: (4, true, false) :: (5, true, false) :: (6, true, false) :: (7, true, false) :: (8, true, false) :: (9, true, false) :: (10, true, false) :: (11, true, true) :: (12, true, true) :: (13, true, true) :: (14, true, true) :: (15, true, true) :: (16, true, true) :: (17, true, true) :: (18, true, true) :: (19, false, true) :: []) (by kernel_rfl) (([], [8], some 31) :: ([0], [31], some 32) :: ([1], [32], some 33) :: ([2], [33], some 34) :: ([3], [34], some 35) :: ([], [9], some 36) :: ([], [8], some 37) :: ([6], [37], some 38) :: ([7], [38], some 39) :: ([8], [39], some 40) :: ([9], [40], some 41) :: ([], [9], some 42) :: ([10, 11], [41, 42], some 43) :: ([12], [43], some 44) :: ([13], [44], some 45) :: ([14], [45], some 46) :: ([15], [46], some 47) :: ([4, 5, 0, 1, 2, 3, 4, 5, 6, 7, 8, 9, 10, 11, 12, 13, 14, 15, 16], [35, 36], some 48) :: ([17, 0, 1, 2, 3, 4, 5, 6, 7, 8, 9, 10, 11, 12, 13, 14, 15, 16], [48], some 49) :: ([18, 16, 0, 1, 2, 3, 4, 5, 6, 7, 8, 9, 10, 11, 12, 13, 14, 15, 16], [49, 47], none) :: []) (by kernel_rfl) (by kernel_rfl) (n := 20) rfl (by kernel_rfl) (fun _ _ _ _ _ h => h) (fun wg hog => ?_)
      refine L.growe_start (N := 54) (by rfl) ?_
      have HBG := Lib.hid (HBK6.out.below hog.nil_below)
      have HE2 := Lib.hid (hog.heap HY2.out (by simp))
      have HWG := Lib.hid (HW6.out.trans hog)
      have HGG := Lib.hid (hog.heap HG.out (by simp))
      have e1 : ∀ w', Only [] wg w' → w'.cell? ⟨bp, 1, none⟩ = some (.slice (some ⟨gq, 0, none⟩) j.q.length d1) := fun w' k => (cell_of_row w' bp 1 _ _ _ (k.heap HBG.out.row (by simp))).trans rfl
      have e2 : ∀ w', Only [] wg w' → w'.cell? ⟨gq, i * 3 + 2, none⟩ = some (.int .i64 lf) := fun w' k => (hog.trans k).cell HC2.out (by simp)
      clear hog HBK6 HY2 HW6 HG HC2
      have hw1 : IntKind.i64.wrap (lf + 1) = lf + 1 := by rw [IntKind.wrap_i64]; omega
      iterate 16 (first | (refine L.ge_off rfl rfl rfl (by rfl) ?_) | (refine L.ge_move rfl rfl rfl (by rfl) rfl (by simp [L.evE, L.lk, Act.eval]; rfl) ?_) | (refine L.ge_pick rfl rfl rfl (by rfl) rfl (by simp [L.evE, L.lk, Act.eval]; rfl) (by simp [L.evE, L.lk, Act.eval]; rfl) ?_) | (refine L.ge_val rfl rfl rfl (by rfl) (by intro w' hw'; simp [execOp, L.evE, L.lk, Act.eval]; go_simp; rfl) ?_))
      refine L.ge_val (v := .int .i64 lv) rfl rfl rfl (by rfl) (by intro w' hw'; simp [execOp, L.evE, L.lk, Act.eval, hw1]; go_simp; rw [HLV.out]; unfold mn; try rfl) ?_
      iterate 2 (first | (refine L.ge_off rfl rfl rfl (by rfl) ?_) | (refine L.ge_move rfl rfl rfl (by rfl) rfl (by simp [L.evE, L.lk, Act.eval]; rfl) ?_) | (refine L.ge_pick rfl rfl rfl (by rfl) rfl (by simp [L.evE, L.lk, Act.eval]; rfl) (by simp [L.evE, L.lk, Act.eval]; rfl) ?_) | (refine L.ge_val rfl rfl rfl (by rfl) (by intro w' hw'; simp [execOp, L.evE, L.lk, Act.eval]; go_simp; rfl) ?_))
      refine ge_last_in rfl rfl (by rfl) _ (.tmp 49) (.tmp 47) rfl gq (i * 3 + 2) (.int .i64 lv) (by simp [L.evE, L.lk, Act.eval]) (by simp [L.evE, L.lk, Act.eval]) [.int .i64 lv] rfl 35 cur HGG.out (by kernel_rfl) (by rw [HCL.out]; have := HNC.out; simp; omega) (by simp [Value.oneCell']) ?_
      intro W7 hr7 ho7
      simp only [L.puts, Act.put, goInt, List.setIfInBounds_toArray, List.set_cons_zero, List.set_cons_succ]
      have hll : (lostAt j.q i).length = j.q.length := by unfold lostAt; rw [List.length_set]
      have hbp7 : bp ∉ [gq] := fun h => HBG.out.nq (by simp at h; rw [h]; rfl)
      have hgq : gq ≠ wb + 2 := by have := HQB.out; have := HBS.out; omega
      have hbk7 : Bk W7 W2.heap.size bp B0 d0 (some ⟨gq, 0, none⟩) d1 j.l (lostAt j.q i) j.g := by
        refine ⟨?_, HBG.out.hb, ?_, ?_, HBG.out.nl, ?_, ?_⟩
        · rw [hll]; exact ho7.out.heap HBG.out.row hbp7
        · exact ownsRow_only HBG.out.ol ho7.out (fun k hk h => by simp at h; subst h; exact HBG.out.nlq _ hk rfl)
        · rw [hll]
          refine ⟨by rw [qRow_length, hll], .inr ⟨gq, d1, _, rfl, HQB.out, hr7.out, HNC.out, HDM.out, ?_, ?_⟩⟩
          · rw [List.size_toArray, length_splice _ _ _ (by rw [HCL.out]; have := HNC.out; simp; omega)]; exact HCL.out
          · show (splice cur (i * 3 + 2) [.int .i64 lv]).take (j.q.length * 3) = _
            rw [HSET.out lv, HLF.out]
        · exact HBG.out.nq
        · exact HBG.out.nlq
      have HBK7 := Lib.hid hbk7
      have HY7 := Lib.hid (ho7.out.heap HE2.out (by simpa using hgq.symm))
      have HW7 := Lib.hid (HWG.out.then ho7.out (fun k hk => .inr (by simp at hk; subst hk; have := HQB.out; have := HBS.out; have := HBB.out; omega)))
      have HNLW := Lib.hid (show (Value.slice B0 j.l.length d0).ownBlock ≠ some (wb + 2) from fun h => by have := (ownsRow_lt HBG.out.ol h).1; have := HBS.out; omega)
      have HNBW := Lib.hid (show (Value.slice (some (⟨gq, 0, none⟩ : Addr)) (lostAt j.q i).length d1).ownBlock ≠ some (wb + 2) from fun h => hgq (Option.some.inj h))
      have HRW := Lib.hid hbk7.row
      clear hbk7 hbp7 hll hr7 ho7 HBG HE2 HWG HGG hgq
      go_wp2_with (first
        | (with_reducible refine wpList_load_at rfl 25 (.tmp 52) rfl ⟨bp, 0, none⟩ rfl _ _ (cellsAt_row HRW.out) Tryd.underlying25 rfl (by kernel_rfl) ?_)
        | (with_reducible refine wpList_store_new rfl 25 (.tmp 4) (.tmp 53) rfl (wb + 2) #[.slice B0 j.l.length d0, .slice (some ⟨gq, 0, none⟩) (lostAt j.q i).length d1, .int .i64 j.g] rfl rfl 25 _ HY7.out (size3_25 _ _ _) rfl (by simp [Value.oneCell']) ?_; intro w9 hh9 ho9))
      refine bodyPost_ret (results_row rfl _ _ (wb + 2) _ _ _ _ rfl hh9.out Tryd.underlying25 rfl (size3_25 _ _ _)) rfl ?_
      rw [HRR.out]
      have hz9 := ((HW7.out.mono (T := [wb + 2]) (by simp)).trans ho9).pop (show w.heap.size ≤ wb + 2 by rw [HBB.out]; omega)
      refine ⟨_, rfl, ?_, hz9.nil_below⟩
      have hl9 := ownsRow_only HBK7.out.ol ho9 (fun k hk h => by simp at h; subst h; exact HNLW.out hk)
      have hq9 := ownsRow_only HBK7.out.oq ho9 (fun k hk h => by simp at h; subst h; exact HNBW.out hk)
      exact ⟨B0, d0, (some ⟨gq, 0, none⟩), d1, rfl, ownsRow_mono hl9 (by have := HBS.out; have := HBB.out; omega), ownsRow_mono hq9 (by have := HBS.out; have := HBB.out; omega)⟩
end Go.Proofs.YtghpmpjoedbpcaaDoor.Print
/-! ### EJTrim -/
namespace Go.Proofs.YtghpmpjoedbpcaaDoor.Print
open Go.RowKit Go.Proofs.YtghpmpjoedbpcaaDoorW.PrintWords Go.Proofs.YtghpmpjoedbpcaaDoorW.PrintLast Go.Proofs.YtghpmpjoedbpcaaDoorW.PrintMore
set_option linter.unusedSimpArgs false
set_option linter.unusedVariables false
def trimJ (j : Jn) (n : Int) : Jn × Int :=
  if rightJ j.l j.q j.g = false ∨ n < 0 ∨ (j.l.length : Int) < n then (zJn, 1)
  else if 1099511627776 < j.g + n then (zJn, 3)
  else (⟨j.l.drop n.toNat, j.q, j.g + n⟩, 0)
set_option maxHeartbeats 8000000 in
set_option maxRecDepth 100000 in
theorem trim_calls (A0 : Option Addr) (c0 : Nat) (A1 : Option Addr) (c1 : Nat) (j : Jn) (n : Int) (w : World) (h0 : j.l.length ≤ c0 ∧ Kd.C k27 w A0 j.l.length j.l) (h1 : j.q.length ≤ c1 ∧ Kd.C k35 w A1 j.q.length j.q) (hT : Tabs w) (hj : Jok j) :
    Calls Tryd.prog 25 #[.agg #[.slice A0 j.l.length c0, .slice A1 j.q.length c1, .int .i64 j.g], .int .i64 n] w fun x w' => ∃ v, x = .returned (.tuple #[v, .int .i64 (trimJ j n).2]) ∧ JR w' w.heap.size v (trimJ j n).1.l (trimJ j n).1.q (trimJ j n).1.g ∧ Below w.heap.size w w' := by
  obtain ⟨R, hR⟩ : ∃ R, R = trimJ j n := ⟨_, rfl⟩
  rw [← hR]
  have HRR := Lib.hid hR
  have HA := Lib.hid h0
  have HB := Lib.hid h1
  have HT := Lib.hid hT
  have HJ := Lib.hid hj
  clear hR h0 h1 hT hj
  go_enter Tryd.func25, Tryd.ntmps25
  go_wp2_with (go_at_call 30; refine (fun (h : Hid _) => h.out) ?_)
  refine Lib.hid ?_
  have HX1 := Lib.hid (show ((w.alloc (.cells #[.slice A0 j.l.length c0, .slice A1 j.q.length c1, .int .i64 j.g] 25)).alloc (.cells #[.slice none 0 0, .slice none 0 0, .int .i64 0] 25)).heap[w.heap.size + 1]? = some (.cells #[.slice none 0 0, .slice none 0 0, .int .i64 0] 25 (0, 0)) from by
    have := heap_alloc_new (w.alloc (.cells #[.slice A0 j.l.length c0, .slice A1 j.q.length c1, .int .i64 j.g] 25)) (.cells #[.slice none 0 0, .slice none 0 0, .int .i64 0] 25)
    rw [show (w.alloc (.cells #[.slice A0 j.l.length c0, .slice A1 j.q.length c1, .int .i64 j.g] 25)).heap.size = w.heap.size + 1 by simp] at this
    exact this)
  have HO0 := Lib.hid (((Only.refl [] w).alloc (.cells #[.slice A0 j.l.length c0, .slice A1 j.q.length c1, .int .i64 j.g] 25)).alloc (.cells #[.slice none 0 0, .slice none 0 0, .int .i64 0] 25))
  generalize (w.alloc (.cells #[.slice A0 j.l.length c0, .slice A1 j.q.length c1, .int .i64 j.g] 25)).alloc (.cells #[.slice none 0 0, .slice none 0 0, .int .i64 0] 25) = W0 at *
  generalize hb : w.heap.size = wb at *
  have HBB := Lib.hid hb
  clear hb
  refine (own_any A0 c0 A1 c1 j.l j.q j.g W0 (Kd.C_below HA.out.2 HO0.out.nil_below) (Kd.C_below HB.out.2 HO0.out.nil_below) HJ.out.2.1 HJ.out.2.2).mono ?_
  rintro x W3 ⟨bp, B0, d0, B1, d1, rfl, hbk, ho3⟩
  have HBK := Lib.hid hbk
  have HBP := Lib.hid (show wb + 1 < bp from Nat.lt_of_lt_of_le (heap_lt HX1.out) hbk.hb)
  have HW0S := Lib.hid (show wb + 1 < W0.heap.size from heap_lt HX1.out)
  have HY1 := Lib.hid (ho3.heap HX1.out (by simp))
  have HW3 := Lib.hid (HO0.out.trans ho3)
  clear hbk ho3 HX1 HO0
  have HRI := Lib.hid (right_any bp d0 B0 j.l B1 d1 j.q j.g W3 HBK.out.row HBK.out.reads.1.2 HBK.out.reads.2.2 HJ.out.1 (HT.out.below HW3.out.nil_below) (by have := HJ.out.2.1; omega) (by have := HJ.out.2.2; omega))
  unfold trimJ at HRR
  go_wp2_with (go_at_call 31; refine HRI.out.mono ?_; rintro x W4 ⟨rfl, hb4⟩; refine (fun (h : Hid _) => h.out) ?_)
  refine Lib.hid ?_
  have HBK4 := Lib.hid (HBK.out.below hb4)
  have HZ1 := Lib.hid ((Only.of_below hb4).heap HY1.out (by simp))
  have HW4 := Lib.hid (HW3.out.trans (Only.of_below hb4))
  clear hb4 HBK HY1 HW3 HRI
  cases hr : rightJ j.l j.q j.g
  · have HR0 := Lib.hid (HRR.out.trans (if_pos (.inl hr)))
    clear hr HRR
    go_wp2_with (first
      | (with_reducible refine wpList_store_new rfl 25 (.tmp 4) (.tmp 23) rfl (wb + 1) #[.slice none 0 0, .slice none 0 0, .int .i64 0] rfl rfl 25 _ HZ1.out (size3_25 _ _ _) rfl (by simp [Value.oneCell']) ?_; intro w9 hh9 ho9))
    refine bodyPost_ret (results_row rfl _ _ (wb + 1) _ _ _ _ rfl hh9.out Tryd.underlying25 rfl (size3_25 _ _ _)) rfl ?_
    rw [HR0.out]
    exact ⟨_, rfl, jr_zero _ _, (((HW4.out.mono (T := [wb + 1]) (by simp)).trans ho9).pop (by rw [HBB.out]; omega)).nil_below⟩
  obtain ⟨hL, hBt, hRi, hG, hU, hE9, hOd⟩ := right_parts hr
  rw [hr] at HRR
  have hgb : 0 ≤ j.g ∧ j.g ≤ 1099511627776 := by
    unfold wi at hG
    simp only [Bool.and_eq_true, decide_eq_true_eq] at hG
    exact hG
  obtain ⟨hg0, hg9⟩ := hgb
  have hlb := HJ.out.2.1
  by_cases hn0 : n < 0
  · have HR0 := Lib.hid (HRR.out.trans (if_pos (.inr (.inl hn0))))
    clear HRR
    go_wp2_with (first
      | (with_reducible refine wpList_store_new rfl 25 (.tmp 4) (.tmp 23) rfl (wb + 1) #[.slice none 0 0, .slice none 0 0, .int .i64 0] rfl rfl 25 _ HZ1.out (size3_25 _ _ _) rfl (by simp [Value.oneCell']) ?_; intro w9 hh9 ho9))
    refine bodyPost_ret (results_row rfl _ _ (wb + 1) _ _ _ _ rfl hh9.out Tryd.underlying25 rfl (size3_25 _ _ _)) rfl ?_
    rw [HR0.out]
    exact ⟨_, rfl, jr_zero _ _, (((HW4.out.mono (T := [wb + 1]) (by simp)).trans ho9).pop (by rw [HBB.out]; omega)).nil_below⟩
  have a0 : W4.cell? ⟨bp, 0, none⟩ = some (.slice B0 j.l.length d0) := (cell_of_row W4 bp 0 _ _ _ HBK4.out.row).trans rfl
  have a2 : W4.cell? ⟨bp, 2, none⟩ = some (.int .i64 j.g) := (cell_of_row W4 bp 2 _ _ _ HBK4.out.row).trans rfl
  by_cases hn1 : (j.l.length : Int) < n
  · have HR0 := Lib.hid (HRR.out.trans (if_pos (.inr (.inr hn1))))
    clear HRR
    go_wp2_with (first
      | (with_reducible refine wpList_store_new rfl 25 (.tmp 4) (.tmp 23) rfl (wb + 1) #[.slice none 0 0, .slice none 0 0, .int .i64 0] rfl rfl 25 _ HZ1.out (size3_25 _ _ _) rfl (by simp [Value.oneCell']) ?_; intro w9 hh9 ho9))
    refine bodyPost_ret (results_row rfl _ _ (wb + 1) _ _ _ _ rfl hh9.out Tryd.underlying25 rfl (size3_25 _ _ _)) rfl ?_
    rw [HR0.out]
    exact ⟨_, rfl, jr_zero _ _, (((HW4.out.mono (T := [wb + 1]) (by simp)).trans ho9).pop (by rw [HBB.out]; omega)).nil_below⟩
  replace HRR := Lib.hid (HRR.out.trans (if_neg (by simp; omega)))
  by_cases hf : 1099511627776 < j.g + n
  · have HR0 := Lib.hid (HRR.out.trans (if_pos hf))
    clear HRR
    go_wp2_with (first
      | (with_reducible refine wpList_store_new rfl 25 (.tmp 4) (.tmp 33) rfl (wb + 1) #[.slice none 0 0, .slice none 0 0, .int .i64 0] rfl rfl 25 _ HZ1.out (size3_25 _ _ _) rfl (by simp [Value.oneCell']) ?_; intro w9 hh9 ho9))
    refine bodyPost_ret (results_row rfl _ _ (wb + 1) _ _ _ _ rfl hh9.out Tryd.underlying25 rfl (size3_25 _ _ _)) rfl ?_
    rw [HR0.out]
    exact ⟨_, rfl, jr_zero _ _, (((HW4.out.mono (T := [wb + 1]) (by simp)).trans ho9).pop (by rw [HBB.out]; omega)).nil_below⟩
  replace HRR := Lib.hid (HRR.out.trans (if_neg hf))
  obtain ⟨k, rfl⟩ : ∃ k : Nat, n = (k : Int) := ⟨n.toNat, by omega⟩
  have hkl : k ≤ j.l.length := by omega
  have HDL := Lib.hid (delown_e _ j.l.length 0 k W0.heap.size (eRow j.l) W4 HBK4.out.ol (eRow_one _) (by omega) hkl hlb)
  clear hr
  go_wp2_with (go_at_call 45; refine HDL.out.mono ?_; rintro x W7 ⟨v7, rfl, hown7, hk7, ho7⟩; refine (fun (h : Hid _) => h.out) ?_)
  refine Lib.hid ?_
  clear a0 a2
  have hml : ∀ k, k ∈ (Value.slice B0 j.l.length d0).ownBlock.toList → (Value.slice B0 j.l.length d0).ownBlock = some k := fun k hk => by simpa using hk
  have HR7 := Lib.hid (ho7.heap HBK4.out.row (fun h => HBK4.out.nl (hml _ h)))
  have HQ7 := Lib.hid (ownsRow_only HBK4.out.oq ho7 (fun k hk h => HBK4.out.nlq k (hml _ h) hk))
  have HL7 := Lib.hid hown7
  have HY7 := Lib.hid (ho7.heap HZ1.out (fun h => by have := (ownsRow_lt HBK4.out.ol (hml _ h)).1; have := HW0S.out; omega))
  have HW7 := Lib.hid (HW4.out.then ho7 (fun k hk => .inr (by have := (ownsRow_lt HBK4.out.ol (hml _ hk)).1; have := HW0S.out; have := HBB.out; omega)))
  have HNB := Lib.hid (show v7.ownBlock ≠ some bp from fun h => HBK4.out.nl (hk7 ▸ h))
  have HNQ := Lib.hid (HBK4.out.nq)
  have HNLW := Lib.hid (show v7.ownBlock ≠ some (wb + 1) from fun h => by
    have := (ownsRow_lt HBK4.out.ol (hk7 ▸ h)).1; have := HW0S.out; omega)
  have HNBW := Lib.hid (show (Value.slice B1 j.q.length d1).ownBlock ≠ some (wb + 1) from fun h => by have := (ownsRow_lt HBK4.out.oq h).1; have := HW0S.out; omega)
  clear HBK4 HZ1 HW4 hown7 hk7 ho7 hml HDL
  have e7 : j.l.length - (k - 0) = (j.l.drop k).length := by rw [List.length_drop]; omega
  have e8 : (eRow j.l).take (0 * 6) ++ (eRow j.l).drop (k * 6) = eRow (j.l.drop k) := by rw [eRow_drop]; simp
  rw [e7, e8] at HL7
  clear e7 e8
  obtain ⟨A7, c7, rfl⟩ := slice_of_own HL7.out
  go_wp2_with (first
    | (with_reducible refine wpList_store_in rfl 22 (.tmp 44) (.tmp 41) rfl bp 0 _ rfl rfl [.slice A7 (j.l.drop k).length c7] rfl 56 [.slice B0 j.l.length d0, .slice B1 j.q.length d1, .int .i64 j.g] HR7.out (by kernel_rfl) (by simp) (by simp [Value.oneCell']) ?_; intro W8 hr8 ho8; refine (fun (h : Hid _) => h.out) ?_))
  refine Lib.hid ?_
  have HR8 := Lib.hid (show W8.heap[bp]? = some (.cells #[.slice A7 (j.l.drop k).length c7, .slice B1 j.q.length d1, .int .i64 j.g] 56 (0, 0)) from hr8.out)
  have HL8 := Lib.hid (ownsRow_only HL7.out ho8.out (fun k hk h => by simp at h; subst h; exact HNB.out hk))
  have HQ8 := Lib.hid (ownsRow_only HQ7.out ho8.out (fun k hk h => by simp at h; subst h; exact HNQ.out hk))
  have HY8 := Lib.hid (ho8.out.heap HY7.out (by simp; have := HBP.out; omega))
  have HW8 := Lib.hid (HW7.out.then ho8.out (fun k hk => .inr (by simp at hk; subst hk; have := HBP.out; have := HBB.out; omega)))
  clear HR7 HL7 HQ7 HY7 HW7 hr8 ho8
  have a2 : W8.cell? ⟨bp, 2, none⟩ = some (.int .i64 j.g) := (cell_of_row W8 bp 2 _ _ _ HR8.out).trans rfl
  go_wp2_with (first
    | (with_reducible refine wpList_store_in rfl 3 (.tmp 54) (.tmp 51) rfl bp 2 (.int .i64 (j.g + k)) rfl rfl [.int .i64 (j.g + k)] rfl 56 [.slice A7 (j.l.drop k).length c7, .slice B1 j.q.length d1, .int .i64 j.g] HR8.out (by kernel_rfl) (by simp) (by simp [Value.oneCell']) ?_; intro W9 hr9 ho9; refine (fun (h : Hid _) => h.out) ?_))
  refine Lib.hid ?_
  clear a2
  have HR9 := Lib.hid (show W9.heap[bp]? = some (.cells #[.slice A7 (j.l.drop k).length c7, .slice B1 j.q.length d1, .int .i64 (j.g + k)] 56 (0, 0)) from hr9.out)
  have HL9 := Lib.hid (ownsRow_only HL8.out ho9.out (fun k hk h => by simp at h; subst h; exact HNB.out hk))
  have HQ9 := Lib.hid (ownsRow_only HQ8.out ho9.out (fun k hk h => by simp at h; subst h; exact HNQ.out hk))
  have HY9 := Lib.hid (ho9.out.heap HY8.out (by simp; have := HBP.out; omega))
  have HW9 := Lib.hid (HW8.out.then ho9.out (fun k hk => .inr (by simp at hk; subst hk; have := HBP.out; have := HBB.out; omega)))
  clear HR8 HL8 HQ8 HY8 HW8 hr9 ho9
  go_wp2_with (first
    | (with_reducible refine wpList_load_at rfl 25 (.tmp 57) rfl ⟨bp, 0, none⟩ rfl _ _ (cellsAt_row HR9.out) Tryd.underlying25 rfl (by kernel_rfl) ?_)
    | (with_reducible refine wpList_store_new rfl 25 (.tmp 4) (.tmp 58) rfl (wb + 1) #[.slice A7 (j.l.drop k).length c7, .slice B1 j.q.length d1, .int .i64 (j.g + k)] rfl rfl 25 _ HY9.out (size3_25 _ _ _) rfl (by simp [Value.oneCell']) ?_; intro w9 hh9 ho9))
  refine bodyPost_ret (results_row rfl _ _ (wb + 1) _ _ _ _ rfl hh9.out Tryd.underlying25 rfl (size3_25 _ _ _)) rfl ?_
  rw [HRR.out]
  have hz9 := ((HW9.out.mono (T := [wb + 1]) (by simp)).trans ho9).pop (show w.heap.size ≤ wb + 1 by rw [HBB.out]; omega)
  refine ⟨_, rfl, ?_, hz9.nil_below⟩
  have hl9 := ownsRow_only HL9.out ho9 (fun k hk h => by simp at h; subst h; exact HNLW.out hk)
  have hq9 := ownsRow_only HQ9.out ho9 (fun k hk h => by simp at h; subst h; exact HNBW.out hk)
  exact ⟨A7, c7, B1, d1, rfl, ownsRow_mono hl9 (by have := HW0S.out; have := HBB.out; omega), ownsRow_mono hq9 (by have := HW0S.out; have := HBB.out; omega)⟩
end Go.Proofs.YtghpmpjoedbpcaaDoor.Print
/-! ### EJOf -/
namespace Go.Proofs.YtghpmpjoedbpcaaDoor.Print
open Go.RowKit Go.Proofs.YtghpmpjoedbpcaaDoorW.PrintWords Go.Proofs.YtghpmpjoedbpcaaDoorW.PrintLast Go.Proofs.YtghpmpjoedbpcaaDoorW.PrintMore
set_option linter.unusedSimpArgs false
set_option linter.unusedVariables false
def ofJ (j : Jn) (n : Int) : List S27 := if rightJ j.l j.q j.g = false then [] else j.l.filter (fun x => decide (x.f1 = n))
set_option maxHeartbeats 8000000 in
set_option maxRecDepth 100000 in
theorem of_calls (A0 : Option Addr) (c0 : Nat) (A1 : Option Addr) (c1 : Nat) (j : Jn) (n : Int) (w : World) (h0 : j.l.length ≤ c0 ∧ Kd.C k27 w A0 j.l.length j.l) (h1 : j.q.length ≤ c1 ∧ Kd.C k35 w A1 j.q.length j.q) (hT : Tabs w) (hj : Jok j) :
    Calls Tryd.prog 15 #[.agg #[.slice A0 j.l.length c0, .slice A1 j.q.length c1, .int .i64 j.g], .int .i64 n] w fun x w' => ∃ v, x = .returned v ∧ w'.ownsRow w.heap.size 27 6 v (ofJ j n).length (eRow (ofJ j n)) ∧ Below w.heap.size w w' := by
  obtain ⟨R, hR⟩ : ∃ R, R = ofJ j n := ⟨_, rfl⟩
  rw [← hR]
  have HRR := Lib.hid hR
  have HA := Lib.hid h0
  have HB := Lib.hid h1
  have HT := Lib.hid hT
  have HJ := Lib.hid hj
  clear hR h0 h1 hT hj
  go_enter Tryd.func15, Tryd.ntmps15
  go_wp2_with (go_at_call 14; refine (fun (h : Hid _) => h.out) ?_)
  refine Lib.hid ?_
  have HX0 := Lib.hid (show ((w.alloc (.cells #[.slice A0 j.l.length c0, .slice A1 j.q.length c1, .int .i64 j.g] 25)).alloc (.cells #[.int .i64 n] 3)).heap[w.heap.size]? = some (.cells #[.slice A0 j.l.length c0, .slice A1 j.q.length c1, .int .i64 j.g] 25 (0, 0)) from (Below.heap_alloc _ _ _ (by simp)).trans (heap_alloc_new _ _))
  have HX1 := Lib.hid (show ((w.alloc (.cells #[.slice A0 j.l.length c0, .slice A1 j.q.length c1, .int .i64 j.g] 25)).alloc (.cells #[.int .i64 n] 3)).heap[w.heap.size + 1]? = some (.cells #[.int .i64 n] 3 (0, 0)) from by
    have := heap_alloc_new (w.alloc (.cells #[.slice A0 j.l.length c0, .slice A1 j.q.length c1, .int .i64 j.g] 25)) (.cells #[.int .i64 n] 3)
    rw [show (w.alloc (.cells #[.slice A0 j.l.length c0, .slice A1 j.q.length c1, .int .i64 j.g] 25)).heap.size = w.heap.size + 1 by simp] at this
    exact this)
  have HO0 := Lib.hid (((Only.refl [] w).alloc (.cells #[.slice A0 j.l.length c0, .slice A1 j.q.length c1, .int .i64 j.g] 25)).alloc (.cells #[.int .i64 n] 3))
  generalize (w.alloc (.cells #[.slice A0 j.l.length c0, .slice A1 j.q.length c1, .int .i64 j.g] 25)).alloc (.cells #[.int .i64 n] 3) = W0 at *
  generalize hb : w.heap.size = wb at *
  have HBB := Lib.hid hb
  clear hb
  refine (right_calls A0 c0 A1 c1 j W0 ⟨HA.out.1, Kd.C_below HA.out.2 HO0.out.nil_below⟩ ⟨HB.out.1, Kd.C_below HB.out.2 HO0.out.nil_below⟩ (HT.out.below HO0.out.nil_below) HJ.out).mono ?_
  rintro e W1 ⟨rfl, hb1⟩
  have HO1 := Lib.hid (HO0.out.trans (Only.of_below hb1))
  have HY0 := Lib.hid ((Only.of_below hb1).heap HX0.out (by simp))
  have HY1 := Lib.hid ((Only.of_below hb1).heap HX1.out (by simp))
  clear hb1 HX0 HX1 HO0
  unfold ofJ at HRR
  cases hr : rightJ j.l j.q j.g
  · have HR0 := Lib.hid (HRR.out.trans (if_pos hr))
    clear hr HRR
    go_wp2
    go_ret
    rw [HR0.out]
    exact ⟨_, rfl, ownsRow_nil _ _ _ _, HO1.out.nil_below⟩
  · replace HRR := Lib.hid (HRR.out.trans (if_neg (by rw [hr]; simp)))
    clear hr
    have HC := Lib.hid (clone_e A0 c0 j.l W1 (Kd.C_below HA.out.2 HO1.out.nil_below) HJ.out.2.1)
    have a0 : W1.cell? ⟨wb, 0, none⟩ = some (.slice A0 j.l.length c0) := (cell_of_row W1 wb 0 _ _ _ HY0.out).trans rfl
    go_wp2_with (go_at_call 36; refine HC.out.mono ?_; rintro e W2 ⟨v2, rfl, hown2, ho2⟩; refine (fun (h : Hid _) => h.out) ?_)
    refine Lib.hid ?_
    clear a0
    have HS2 := Lib.hid (show wb ≤ W1.heap.size from by have := HO1.out.size; have := HBB.out; omega)
    have HNB := Lib.hid (show v2.ownBlock ≠ some (wb + 1) from fun h => by have := (ownsRow_lt hown2 h).1; have := heap_lt HY1.out; omega)
    have HLT := Lib.hid (show ∀ k, v2.ownBlock = some k → W1.heap.size ≤ k from fun k hk => (ownsRow_lt hown2 hk).1)
    have HD := Lib.hid (delfunc_any v2 W1.heap.size (wb + 1) n j.l W2 hown2 (ho2.heap HY1.out (by simp)) HNB.out HJ.out.2.1 ho2.size)
    have HO2 := Lib.hid (HO1.out.trans ho2)
    clear hown2 ho2 HC
    go_wp2_with (go_at_call 35; refine HD.out.mono ?_; rintro e W3 ⟨v3, rfl, hown3, ho3⟩; have HOW := Lib.hid hown3; have HO3 := Lib.hid ho3; clear hown3 ho3)
    go_ret
    rw [HRR.out]
    refine ⟨_, rfl, ownsRow_mono HOW.out (by rw [HBB.out]; exact HS2.out), (HO2.out.then HO3.out (fun k hk => .inr ?_)).nil_below⟩
    have := HLT.out k (by simpa using hk)
    have := HS2.out
    have := HBB.out
    omega
end Go.Proofs.YtghpmpjoedbpcaaDoor.Print
/-! ### EAwake -/
namespace Go.Proofs.YtghpmpjoedbpcaaDoor.Print
open Go.RowKit Go.Proofs.YtghpmpjoedbpcaaDoorW.PrintWords Go.Proofs.YtghpmpjoedbpcaaDoorW.PrintLast Go.Proofs.YtghpmpjoedbpcaaDoorW.PrintMore
set_option linter.unusedSimpArgs false
set_option linter.unusedVariables false
def exE : S27 := ⟨3, 1, 2, ⟨#[97]⟩, 0, 0⟩
theorem ex_open : openJ zJn 1 2 = (⟨[], [⟨1, 2, 0⟩], 0⟩, 0) := by kernel_rfl
theorem ex_add1 : addJ ⟨[], [⟨1, 2, 0⟩], 0⟩ exE = (⟨[exE], [⟨1, 1, 0⟩], 0⟩, 0) := by kernel_rfl
theorem ex_add2 : addJ ⟨[exE], [⟨1, 1, 0⟩], 0⟩ exE = (⟨[exE, exE], [⟨1, 0, 0⟩], 0⟩, 0) := by kernel_rfl
theorem ex_add3 : addJ ⟨[exE, exE], [⟨1, 0, 0⟩], 0⟩ exE = (zJn, 180) := by kernel_rfl
theorem ex_note : noteJ ⟨[exE, exE], [⟨1, 0, 0⟩], 0⟩ exE = (⟨[exE, exE], [⟨1, 0, 1⟩], 0⟩, 0) := by kernel_rfl
theorem exc_open (W : World) (hT : Tabs W) (base : Nat) (A0 : Option Addr) (c0 : Nat) (A1 : Option Addr) (c1 : Nat) (h0 : W.ownsRow base 27 6 (.slice A0 0 c0) 0 (eRow [])) (h1 : W.ownsRow base 35 3 (.slice A1 0 c1) 0 (qRow [])) :
    Calls Tryd.prog 19 #[.agg #[.slice A0 0 c0, .slice A1 0 c1, .int .i64 0], .int .i64 1, .int .i64 2] W fun e w' => ∃ A c B d, e = .returned (.tuple #[.agg #[.slice A 0 c, .slice B 1 d, .int .i64 0], .int .i64 0]) ∧ w'.ownsRow W.heap.size 27 6 (.slice A 0 c) 0 (eRow []) ∧ w'.ownsRow W.heap.size 35 3 (.slice B 1 d) 1 (qRow [⟨1, 2, 0⟩]) ∧ Below W.heap.size W w' := by
  have h := open_calls A0 c0 A1 c1 ⟨[], [], 0⟩ 1 2 W (own_e_reads h0) (own_q_reads h1) hT ⟨by unfold namesOk; decide, by decide, by decide⟩
  rw [show openJ ⟨[], [], 0⟩ 1 2 = _ from ex_open] at h
  refine h.mono ?_
  rintro e w' ⟨v, he, ⟨A, c, B, d, rfl, q1, q2⟩, hb⟩
  exact ⟨A, c, B, d, he, q1, q2, hb⟩
theorem exc_add1 (W : World) (hT : Tabs W) (base : Nat) (A0 : Option Addr) (c0 : Nat) (A1 : Option Addr) (c1 : Nat) (h0 : W.ownsRow base 27 6 (.slice A0 0 c0) 0 (eRow [])) (h1 : W.ownsRow base 35 3 (.slice A1 1 c1) 1 (qRow [⟨1, 2, 0⟩])) :
    Calls Tryd.prog 10 #[.agg #[.slice A0 0 c0, .slice A1 1 c1, .int .i64 0], .agg #[.int .i64 3, .int .i64 1, .int .i64 2, .string ⟨#[97]⟩, .int .i64 0, .int .i64 0]] W fun e w' => ∃ A c B d, e = .returned (.tuple #[.agg #[.slice A 1 c, .slice B 1 d, .int .i64 0], .int .i64 0]) ∧ w'.ownsRow W.heap.size 27 6 (.slice A 1 c) 1 (eRow [exE]) ∧ w'.ownsRow W.heap.size 35 3 (.slice B 1 d) 1 (qRow [⟨1, 1, 0⟩]) ∧ Below W.heap.size W w' := by
  have h := add_calls A0 c0 A1 c1 ⟨[], [⟨1, 2, 0⟩], 0⟩ exE W (own_e_reads h0) (own_q_reads h1) hT ⟨by unfold namesOk; decide, by decide, by decide⟩ (by decide)
  rw [ex_add1] at h
  refine h.mono ?_
  rintro e w' ⟨v, he, ⟨A, c, B, d, rfl, q1, q2⟩, hb⟩
  exact ⟨A, c, B, d, he, q1, q2, hb⟩
theorem exc_add2 (W : World) (hT : Tabs W) (base : Nat) (A0 : Option Addr) (c0 : Nat) (A1 : Option Addr) (c1 : Nat) (h0 : W.ownsRow base 27 6 (.slice A0 1 c0) 1 (eRow [exE])) (h1 : W.ownsRow base 35 3 (.slice A1 1 c1) 1 (qRow [⟨1, 1, 0⟩])) :
    Calls Tryd.prog 10 #[.agg #[.slice A0 1 c0, .slice A1 1 c1, .int .i64 0], .agg #[.int .i64 3, .int .i64 1, .int .i64 2, .string ⟨#[97]⟩, .int .i64 0, .int .i64 0]] W fun e w' => ∃ A c B d, e = .returned (.tuple #[.agg #[.slice A 2 c, .slice B 1 d, .int .i64 0], .int .i64 0]) ∧ w'.ownsRow W.heap.size 27 6 (.slice A 2 c) 2 (eRow [exE, exE]) ∧ w'.ownsRow W.heap.size 35 3 (.slice B 1 d) 1 (qRow [⟨1, 0, 0⟩]) ∧ Below W.heap.size W w' := by
  have h := add_calls A0 c0 A1 c1 ⟨[exE], [⟨1, 1, 0⟩], 0⟩ exE W (own_e_reads h0) (own_q_reads h1) hT ⟨by unfold namesOk; decide, by decide, by decide⟩ (by decide)
  rw [ex_add2] at h
  refine h.mono ?_
  rintro e w' ⟨v, he, ⟨A, c, B, d, rfl, q1, q2⟩, hb⟩
  exact ⟨A, c, B, d, he, q1, q2, hb⟩
theorem exc_add3 (W : World) (hT : Tabs W) (base : Nat) (A0 : Option Addr) (c0 : Nat) (A1 : Option Addr) (c1 : Nat) (h0 : W.ownsRow base 27 6 (.slice A0 2 c0) 2 (eRow [exE, exE])) (h1 : W.ownsRow base 35 3 (.slice A1 1 c1) 1 (qRow [⟨1, 0, 0⟩])) :
    Calls Tryd.prog 10 #[.agg #[.slice A0 2 c0, .slice A1 1 c1, .int .i64 0], .agg #[.int .i64 3, .int .i64 1, .int .i64 2, .string ⟨#[97]⟩, .int .i64 0, .int .i64 0]] W fun e w' => ∃ A c B d, e = .returned (.tuple #[.agg #[.slice A 0 c, .slice B 0 d, .int .i64 0], .int .i64 180]) ∧ w'.ownsRow W.heap.size 27 6 (.slice A 0 c) 0 (eRow []) ∧ w'.ownsRow W.heap.size 35 3 (.slice B 0 d) 0 (qRow []) ∧ Below W.heap.size W w' := by
  have h := add_calls A0 c0 A1 c1 ⟨[exE, exE], [⟨1, 0, 0⟩], 0⟩ exE W (own_e_reads h0) (own_q_reads h1) hT ⟨by unfold namesOk; decide, by decide, by decide⟩ (by decide)
  rw [ex_add3] at h
  refine h.mono ?_
  rintro e w' ⟨v, he, ⟨A, c, B, d, rfl, q1, q2⟩, hb⟩
  exact ⟨A, c, B, d, he, q1, q2, hb⟩
theorem exc_note (W : World) (hT : Tabs W) (base : Nat) (A0 : Option Addr) (c0 : Nat) (A1 : Option Addr) (c1 : Nat) (h0 : W.ownsRow base 27 6 (.slice A0 2 c0) 2 (eRow [exE, exE])) (h1 : W.ownsRow base 35 3 (.slice A1 1 c1) 1 (qRow [⟨1, 0, 0⟩])) :
    Calls Tryd.prog 11 #[.agg #[.slice A0 2 c0, .slice A1 1 c1, .int .i64 0], .agg #[.int .i64 3, .int .i64 1, .int .i64 2, .string ⟨#[97]⟩, .int .i64 0, .int .i64 0]] W fun e w' => ∃ A c B d, e = .returned (.tuple #[.agg #[.slice A 2 c, .slice B 1 d, .int .i64 0], .int .i64 0]) ∧ w'.ownsRow W.heap.size 27 6 (.slice A 2 c) 2 (eRow [exE, exE]) ∧ w'.ownsRow W.heap.size 35 3 (.slice B 1 d) 1 (qRow [⟨1, 0, 1⟩]) ∧ Below W.heap.size W w' := by
  have h := note_calls A0 c0 A1 c1 ⟨[exE, exE], [⟨1, 0, 0⟩], 0⟩ exE W (own_e_reads h0) (own_q_reads h1) hT ⟨by unfold namesOk; decide, by decide, by decide⟩ (by decide)
  rw [ex_note] at h
  refine h.mono ?_
  rintro e w' ⟨v, he, ⟨A, c, B, d, rfl, q1, q2⟩, hb⟩
  exact ⟨A, c, B, d, he, q1, q2, hb⟩
theorem exc_used (W : World) (hT : Tabs W) (base : Nat) (A0 : Option Addr) (c0 : Nat) (A1 : Option Addr) (c1 : Nat) (h0 : W.ownsRow base 27 6 (.slice A0 2 c0) 2 (eRow [exE, exE])) (h1 : W.ownsRow base 35 3 (.slice A1 1 c1) 1 (qRow [⟨1, 0, 1⟩])) :
    Calls Tryd.prog 18 #[.agg #[.slice A0 2 c0, .slice A1 1 c1, .int .i64 0]] W fun e w' => e = .returned (.int .i64 2) ∧ Below W.heap.size W w' :=
  journal_Used.calls A0 c0 [exE, exE] A1 c1 [⟨1, 0, 1⟩] 0 2 W (own_e_reads h0).2 (own_e_reads h0).1 (own_q_reads h1).2 (own_q_reads h1).1 hT (by kernel_rfl)
def malthouselaw18_awake.f : Option Bool := some true
set_option maxHeartbeats 8000000 in
set_option maxRecDepth 100000 in
theorem malthouselaw18_awake.calls (r : Bool) (w : World) (hT : Tabs w) (h : malthouselaw18_awake.f = some r) :
    Calls Tryd.prog 8 #[] w fun e w' => e = .returned (.bool r) ∧ Below w.heap.size w w' := by
  obtain rfl := Option.some.inj h
  clear h
  have HT := Lib.hid hT
  clear hT
  go_enter Tryd.func8, Tryd.ntmps8
  go_wp2_with (go_at_call 19; refine (exc_open w HT.out 0 none 0 none 0 (ownsRow_nil _ _ _ _) (ownsRow_nil _ _ _ _)).mono ?_; rintro e w1 ⟨A, c, B, d, rfl, h0, h1, hb⟩; have H0 := Lib.hid h0; have H1 := Lib.hid h1; have HB := Lib.hid (Only.of_below hb); clear h0 h1 hb; refine (fun (h : Hid _) => h.out) ?_)
  refine Lib.hid ?_
  go_wp2_with (go_at_call 10; refine (fun (h : Hid _) => h.out) ?_)
  refine Lib.hid ?_
  have hV := (Below.heap_alloc (w1.alloc (.cells #[.slice A 0 c, .slice B 1 d, .int .i64 0] 25)) (.cells #[.int .i64 3, .int .i64 1, .int .i64 2, .string ⟨#[97]⟩, .int .i64 0, .int .i64 0] 27) w1.heap.size (by simp)).trans (heap_alloc_new w1 (.cells #[.slice A 0 c, .slice B 1 d, .int .i64 0] 25))
  have hX := heap_alloc_new (w1.alloc (.cells #[.slice A 0 c, .slice B 1 d, .int .i64 0] 25)) (.cells #[.int .i64 3, .int .i64 1, .int .i64 2, .string ⟨#[97]⟩, .int .i64 0, .int .i64 0] 27)
  rw [show (w1.alloc (.cells #[.slice A 0 c, .slice B 1 d, .int .i64 0] 25)).heap.size = w1.heap.size + 1 by simp] at hX
  have ho : Only [] w1 ((w1.alloc (.cells #[.slice A 0 c, .slice B 1 d, .int .i64 0] 25)).alloc (.cells #[.int .i64 3, .int .i64 1, .int .i64 2, .string ⟨#[97]⟩, .int .i64 0, .int .i64 0] 27)) := ((Only.refl [] w1).alloc _).alloc _
  have HV := Lib.hid hV
  have HX := Lib.hid hX
  have HO := Lib.hid (HB.out.trans ho)
  have HP0 := Lib.hid (ownsRow_only H0.out ho (by simp))
  have HP1 := Lib.hid (ownsRow_only H1.out ho (by simp))
  have HS := Lib.hid (show w.heap.size ≤ w1.heap.size from HB.out.size)
  clear hV hX ho H0 H1 HB
  generalize (w1.alloc (.cells #[.slice A 0 c, .slice B 1 d, .int .i64 0] 25)).alloc (.cells #[.int .i64 3, .int .i64 1, .int .i64 2, .string ⟨#[97]⟩, .int .i64 0, .int .i64 0] 27) = W2 at *
  generalize hvb : w1.heap.size = vb at *
  clear hvb
  refine (exc_add1 W2 (HT.out.below HO.out.nil_below) _ A c B d HP0.out HP1.out).mono ?_
  rintro e U1 ⟨A1, c1, B1, d1, rfl, h0, h1, hb⟩
  have G1 := Lib.hid h0
  have K1 := Lib.hid h1
  have HB1 := Lib.hid (Only.of_below hb)
  clear h0 h1 hb
  have HVa1 := Lib.hid (HB1.out.heap HV.out (by simp))
  have HXa1 := Lib.hid (HB1.out.heap HX.out (by simp))
  have HOa1 := Lib.hid (HO.out.trans HB1.out)
  have HL1 := Lib.hid (show ∀ z, (Value.slice A1 1 c1).ownBlock = some z → vb + 1 < z from fun z hz => Nat.lt_of_lt_of_le (heap_lt HX.out) (ownsRow_lt G1.out hz).1)
  have HM1 := Lib.hid (show ∀ z, (Value.slice B1 1 d1).ownBlock = some z → vb + 1 < z from fun z hz => Nat.lt_of_lt_of_le (heap_lt HX.out) (ownsRow_lt K1.out hz).1)
  go_wp2_with (first
    | (with_reducible refine wpList_store_new rfl 25 (.tmp 1) (.tmp 20) rfl vb #[.slice A1 1 c1, .slice B1 1 d1, .int .i64 0] rfl rfl 25 _ HVa1.out (size3_25 _ _ _) rfl (by simp [Value.oneCell']) ?_; intro V1 hh ho; have HVb1 := Lib.hid hh.out; have HOs1 := Lib.hid ho; clear hh ho; refine (fun (h : Hid _) => h.out) ?_))
  refine Lib.hid ?_
  have HXb1 := Lib.hid (HOs1.out.heap HXa1.out (by simp))
  have HOb1 := Lib.hid (HOa1.out.then HOs1.out (fun i hi => .inr (by simp at hi; subst hi; exact HS.out)))
  have Ga1 := Lib.hid (ownsRow_only G1.out HOs1.out (fun z hz h => by have := HL1.out z hz; simp at h; omega))
  have Ka1 := Lib.hid (ownsRow_only K1.out HOs1.out (fun z hz h => by have := HM1.out z hz; simp at h; omega))
  clear HVa1 HXa1 HOa1 HOs1 G1 K1 HB1 HV HX HO
  go_wp2_with (first
    | (with_reducible refine wpList_load_at rfl 25 (.tmp 1) rfl ⟨vb, 0, none⟩ rfl _ _ (cellsAt_row HVb1.out) Tryd.underlying25 rfl (by kernel_rfl) ?_)
    | (with_reducible refine wpList_load_at rfl 27 (.tmp 3) rfl ⟨vb + 1, 0, none⟩ rfl _ _ (cellsAt_row HXb1.out) Tryd.underlying27 rfl (by kernel_rfl) ?_)
    | (go_at_call 10; refine (exc_add2 V1 (HT.out.below HOb1.out.nil_below) _ A1 c1 B1 d1 Ga1.out Ka1.out).mono ?_; rintro e U2 ⟨A2, c2, B2, d2, rfl, h0, h1, hb⟩; have G2 := Lib.hid h0; have K2 := Lib.hid h1; have HB2 := Lib.hid (Only.of_below hb); clear h0 h1 hb; refine (fun (h : Hid _) => h.out) ?_))
  refine Lib.hid ?_
  have HVa2 := Lib.hid (HB2.out.heap HVb1.out (by simp))
  have HXa2 := Lib.hid (HB2.out.heap HXb1.out (by simp))
  have HOa2 := Lib.hid (HOb1.out.trans HB2.out)
  have HL2 := Lib.hid (show ∀ z, (Value.slice A2 2 c2).ownBlock = some z → vb + 1 < z from fun z hz => Nat.lt_of_lt_of_le (heap_lt HXb1.out) (ownsRow_lt G2.out hz).1)
  have HM2 := Lib.hid (show ∀ z, (Value.slice B2 1 d2).ownBlock = some z → vb + 1 < z from fun z hz => Nat.lt_of_lt_of_le (heap_lt HXb1.out) (ownsRow_lt K2.out hz).1)
  go_wp2_with (first
    | (with_reducible refine wpList_store_new rfl 25 (.tmp 1) (.tmp 26) rfl vb #[.slice A2 2 c2, .slice B2 1 d2, .int .i64 0] rfl rfl 25 _ HVa2.out (size3_25 _ _ _) rfl (by simp [Value.oneCell']) ?_; intro V2 hh ho; have HVb2 := Lib.hid hh.out; have HOs2 := Lib.hid ho; clear hh ho; refine (fun (h : Hid _) => h.out) ?_))
  refine Lib.hid ?_
  have HXb2 := Lib.hid (HOs2.out.heap HXa2.out (by simp))
  have HOb2 := Lib.hid (HOa2.out.then HOs2.out (fun i hi => .inr (by simp at hi; subst hi; exact HS.out)))
  have Ga2 := Lib.hid (ownsRow_only G2.out HOs2.out (fun z hz h => by have := HL2.out z hz; simp at h; omega))
  have Ka2 := Lib.hid (ownsRow_only K2.out HOs2.out (fun z hz h => by have := HM2.out z hz; simp at h; omega))
  clear HVa2 HXa2 HOa2 HOs2 G2 K2 HB2 HVb1 HXb1 HOb1
  go_wp2_with (first
    | (with_reducible refine wpList_load_at rfl 25 (.tmp 1) rfl ⟨vb, 0, none⟩ rfl _ _ (cellsAt_row HVb2.out) Tryd.underlying25 rfl (by kernel_rfl) ?_)
    | (with_reducible refine wpList_load_at rfl 27 (.tmp 3) rfl ⟨vb + 1, 0, none⟩ rfl _ _ (cellsAt_row HXb2.out) Tryd.underlying27 rfl (by kernel_rfl) ?_)
    | (go_at_call 10; refine (exc_add3 V2 (HT.out.below HOb2.out.nil_below) _ A2 c2 B2 d2 Ga2.out Ka2.out).mono ?_; rintro e U3 ⟨A3, c3, B3, d3, rfl, h0, h1, hb⟩; have G3 := Lib.hid h0; have K3 := Lib.hid h1; have HB3 := Lib.hid (Only.of_below hb); clear h0 h1 hb; refine (fun (h : Hid _) => h.out) ?_))
  refine Lib.hid ?_
  have HVc := Lib.hid (HB3.out.heap HVb2.out (by simp))
  have HXc := Lib.hid (HB3.out.heap HXb2.out (by simp))
  have HOc := Lib.hid (HOb2.out.trans HB3.out)
  have Gc := Lib.hid (ownsRow_only Ga2.out HB3.out (by simp))
  have Kc := Lib.hid (ownsRow_only Ka2.out HB3.out (by simp))
  have hal : Only [] U3 (U3.alloc (.cells #[.slice A3 0 c3, .slice B3 0 d3, .int .i64 0] 25)) := (Only.refl [] U3).alloc _
  have HVd := Lib.hid (hal.heap HVc.out (by simp))
  have HXd := Lib.hid (hal.heap HXc.out (by simp))
  have HOd := Lib.hid (HOc.out.trans hal)
  have Gd := Lib.hid (ownsRow_only Gc.out hal (by simp))
  have Kd_ := Lib.hid (ownsRow_only Kc.out hal (by simp))
  clear hal HVc HXc HOc Gc Kc
  go_wp2_with (first
    | (with_reducible refine wpList_load_at rfl 25 (.tmp 1) rfl ⟨vb, 0, none⟩ rfl _ _ (cellsAt_row HVd.out) Tryd.underlying25 rfl (by kernel_rfl) ?_)
    | (with_reducible refine wpList_load_at rfl 27 (.tmp 3) rfl ⟨vb + 1, 0, none⟩ rfl _ _ (cellsAt_row HXd.out) Tryd.underlying27 rfl (by kernel_rfl) ?_)
    | (go_at_call 11; refine (fun (h : Hid _) => h.out) ?_))
  refine Lib.hid ?_
  generalize U3.alloc (.cells #[.slice A3 0 c3, .slice B3 0 d3, .int .i64 0] 25) = U4 at *
  refine (exc_note U4 (HT.out.below HOd.out.nil_below) _ A2 c2 B2 d2 Gd.out Kd_.out).mono ?_
  rintro e U5 ⟨A5, c5, B5, d5, rfl, h0, h1, hb⟩
  have G5 := Lib.hid h0
  have K5 := Lib.hid h1
  have HB5 := Lib.hid (Only.of_below hb)
  clear h0 h1 hb
  have HVe := Lib.hid (HOd.out.trans HB5.out)
  have hal : Only [] U5 (U5.alloc (.cells #[.slice A5 2 c5, .slice B5 1 d5, .int .i64 0] 25)) := (Only.refl [] U5).alloc _
  have HR := Lib.hid (heap_alloc_new U5 (.cells #[.slice A5 2 c5, .slice B5 1 d5, .int .i64 0] 25))
  have HOf := Lib.hid (HVe.out.trans hal)
  have Gf := Lib.hid (ownsRow_only G5.out hal (by simp))
  have Kf := Lib.hid (ownsRow_only K5.out hal (by simp))
  clear hal
  have hq : (U5.alloc (.cells #[.slice A5 2 c5, .slice B5 1 d5, .int .i64 0] 25)).cell? ⟨U5.heap.size, 1, none⟩ = some (.slice B5 1 d5) := (cell_of_row _ _ 1 _ _ _ HR.out).trans rfl
  have hl : (U5.alloc (.cells #[.slice A5 2 c5, .slice B5 1 d5, .int .i64 0] 25)).cell? ⟨U5.heap.size, 0, none⟩ = some (.slice A5 2 c5) := (cell_of_row _ _ 0 _ _ _ HR.out).trans rfl
  obtain ⟨g5, hB5, hd2⟩ : ∃ g5, B5 = some ⟨g5, 0, none⟩ ∧ (U5.alloc (.cells #[.slice A5 2 c5, .slice B5 1 d5, .int .i64 0] 25)).cell? ⟨g5, 2, none⟩ = some (.int .i64 1) := by
    rcases Kf.out.2 with ⟨_, hz⟩ | ⟨g, cap, cur, e1, hb, hh, hn, _, hs, ht⟩
    · cases hz
    · injection e1 with e1 e2 e3
      refine ⟨g, e1, ?_⟩
      have h2 : (cur.toList.take (1 * 3))[2]? = some (Value.int .i64 1) := by rw [ht]; rfl
      rw [List.getElem?_take_of_lt (by omega)] at h2
      rw [cell_of_row _ g _ _ _ _ hh, ← Array.getElem?_toList]
      exact h2
  subst hB5
  go_wp2_with (first
    | (with_reducible refine wpList_load_at rfl 25 (.tmp 8) rfl ⟨U5.heap.size, 0, none⟩ rfl _ _ (cellsAt_row HR.out) Tryd.underlying25 rfl (by kernel_rfl) ?_)
    | (go_at_call 18; refine (exc_used _ (HT.out.below HOf.out.nil_below) _ _ _ _ _ Gf.out Kf.out).mono ?_; rintro e U7 ⟨rfl, hb⟩; have HB7 := Lib.hid (Only.of_below hb); clear hb))
  go_ret
  exact ⟨rfl, (HOf.out.trans HB7.out).nil_below⟩
end Go.Proofs.YtghpmpjoedbpcaaDoor.Print
/-! ### Print3 -/
namespace Go.Proofs.YtghpmpjoedbpcaaDoor.Print
open Go.RowKit Go.Proofs.YtghpmpjoedbpcaaDoorW.PrintWords Go.Proofs.YtghpmpjoedbpcaaDoorW.PrintLast Go.Proofs.YtghpmpjoedbpcaaDoorW.PrintMore
attribute [local go_sem] min2_int min_two
set_option linter.unusedVariables false
set_option linter.unusedSimpArgs false
mutual
def malthouseref18_Light.j0 : Nat → Bool → List (S27) → List (S35) → Int → Option (Bool)
  | 0, _, _, _, _ => none
  | k + 1, x13, x102000, x102001, x102002 => if x13 = true then (some false) else (malthouseref18_Light.l0 k 0 x102000 x102001 x102002)
def malthouseref18_Light.l0 : Nat → Int → List (S27) → List (S35) → Int → Option (Bool)
  | 0, _, _, _, _ => none
  | k + 1, x3, x102000, x102001, x102002 => if x3 < (x102000.length : Int) then (if 0 ≤ x3 then (if (((rd_T27 x102000 x3).f3).size : Int) > 200 then (some false) else (malthouseref18_Light.l0 k (wrap64 (x3 + 1)) x102000 x102001 x102002)) else (none)) else (some true)
end
def malthouseref18_Light.f (k : Nat) (l0_0 : List (S27)) (l0_1 : List (S35)) (a0_2 : Int) : Option (Bool) := if (l0_0.length : Int) > 300 then (malthouseref18_Light.j0 k true l0_0 l0_1 a0_2) else (malthouseref18_Light.j0 k (decide ((l0_1.length : Int) > 300)) l0_0 l0_1 a0_2)
set_option maxHeartbeats 8000000 in
set_option maxRecDepth 100000 in
theorem malthouseref18_Light.calls (k : Nat) (A0_0 : Option Addr) (c0_0 : Nat) (l0_0 : List (S27)) (A0_1 : Option Addr) (c0_1 : Nat) (l0_1 : List (S35)) (a0_2 : Int) (r : Bool) (w : World) (hr0_0 : Kd.C k27 w A0_0 l0_0.length l0_0) (hc0_0 : l0_0.length ≤ c0_0) (hr0_1 : Kd.C k35 w A0_1 l0_1.length l0_1) (hc0_1 : l0_1.length ≤ c0_1) (h : malthouseref18_Light.f k l0_0 l0_1 a0_2 = some r) :
    Calls Tryd.prog 9 #[.agg #[.slice A0_0 l0_0.length c0_0, .slice A0_1 l0_1.length c0_1, .int .i64 a0_2]] w fun e w' => e = .returned (.bool r) ∧ Below w.heap.size w w' := by
  have hu25 := Tryd.underlying25
  have HR0_0 := Aside0.mk hr0_0
  have HC0_0 := Aside0.mk hc0_0
  clear hr0_0 hc0_0
  have HR0_1 := Aside0.mk hr0_1
  have HC0_1 := Aside0.mk hc0_1
  clear hr0_1 hc0_1
  have HB := Aside0.mk (Below.refl w.heap.size w)
  have H : (if (l0_0.length : Int) > 300 then (malthouseref18_Light.j0 k true l0_0 l0_1 a0_2) else (malthouseref18_Light.j0 k (decide ((l0_1.length : Int) > 300)) l0_0 l0_1 a0_2)) = some r := h
  clear h
  have HC2 := Aside0.mk H
  clear H
  go_enter Tryd.func9, Tryd.ntmps9
  go_upto_region 1 with (first | ((with_reducible refine gate_dst (N := 1) rfl ?_); (try (refine gate_guard (by rfl) ?_; dsimp only)); refine box_event ?hg (N := 1) ?hd (cs := #[.slice A0_0 l0_0.length c0_0, .slice A0_1 l0_1.length c0_1, .int .i64 a0_2]) (t := 25) ?hr ?_; (case hd => rfl); (case hg => rfl); (case hr => first | (go_simp; done) | (go_simp; rfl)); intro gb101 hg w3 hbox hb; have n0_ := Aside0.mk (below_step (by repeat (first | (with_reducible first | exact HB.out | apply below_alloc | apply pw_below_drewN | apply below_drew1) | exact HB.out)) hb); have n1_ := Aside0.mk (hbox); have n2_ := Aside0.mk ((by rw [hg]; exact (below_size (by repeat (first | (with_reducible first | exact HB.out | apply below_alloc | apply pw_below_drewN | apply below_drew1) | exact HB.out))) : w.heap.size ≤ gb101)); have n3_ := Aside0.mk ((by rw [hg]; exact (below_size (by repeat (first | (with_reducible first | exact HB.out | apply below_alloc | apply pw_below_drewN | apply below_drew1) | exact HB.out))) : w.heap.size ≤ gb101)); clear HB; have HB := n0_; have BK101 := n1_; have GW101 := n2_; have GE101 := n3_; clear n0_ n1_ n2_ n3_; clear hb hbox hg))
  (try simp only [Act.put, List.setIfInBounds_toArray, List.set_cons_zero, List.set_cons_succ])
  go_cut [13] (fun v13 wc => ∃ (kq : Nat) (x13_1 : Bool), v13 = .bool x13_1 ∧ Aside0 (malthouseref18_Light.j0 kq x13_1 l0_0 l0_1 a0_2 = some r) ∧ Aside0 (kq ≤ k) ∧ Aside0 (wc.heap[gb101]? = some (.cells #[(.slice A0_0 l0_0.length c0_0), (.slice A0_1 l0_1.length c0_1), .int .i64 a0_2] 25 (0, 0))) ∧ Aside0 (Below w.heap.size w wc))
  case first =>
    have H := HC2.out
    clear HC2
    by_cases c4 : (l0_0.length : Int) > 300
    · rw [if_pos c4] at H
      have c4b0 : decide (300 < (l0_0.length : Int)) = true := decide_eq_true c4
      have c4b1 : decide (300 < l0_0.length) = true := decide_eq_true (by omega)
      clear c4
      (first | rw [c4b0] | (simp only [i64_w, i32_w]; rw [c4b0]) | skip)
      have H' := Aside0.mk H
      clear H
      have hcz5_0 : w3.cell? ⟨gb101, 0, none⟩ = some (.slice A0_0 l0_0.length c0_0) := (blk_cell BK101.out 0).trans rfl
      have hcz5_1 : w3.cell? ⟨gb101, 1, none⟩ = some (.slice A0_1 l0_1.length c0_1) := (blk_cell BK101.out 1).trans rfl
      have hcz5_2 : w3.cell? ⟨gb101, 2, none⟩ = some (.int .i64 a0_2) := (blk_cell BK101.out 2).trans rfl
      have hfz5_0 := blk_frozen BK101.out 0
      have hfz5_1 := blk_frozen BK101.out 1
      have hfz5_2 := blk_frozen BK101.out 2
      go_wp2
      go_meet
      case rel => exact ⟨_, (true), (by first | rfl | (simp; done) | (simp [*]; done)), H', ⟨by first | omega | exact Nat.le_refl _⟩, ⟨by (with_reducible repeat (first | refine blk_drewN ?_ _ | refine blk_drew ?_ | refine blk_alloc ?_ _)); exact BK101.out⟩, ⟨by repeat (first | (with_reducible first | exact HB.out | apply below_alloc | apply pw_below_drewN | apply below_drew1 | refine below_set ?_ GE101.out) | exact HB.out)⟩⟩
    · rw [if_neg c4] at H
      have c4b0 : decide (300 < (l0_0.length : Int)) = false := decide_eq_false c4
      have c4b1 : decide (300 < l0_0.length) = false := decide_eq_false (by omega)
      clear c4
      (first | rw [c4b0] | (simp only [i64_w, i32_w]; rw [c4b0]) | skip)
      have H' := Aside0.mk H
      clear H
      have hcz6_0 : w3.cell? ⟨gb101, 0, none⟩ = some (.slice A0_0 l0_0.length c0_0) := (blk_cell BK101.out 0).trans rfl
      have hcz6_1 : w3.cell? ⟨gb101, 1, none⟩ = some (.slice A0_1 l0_1.length c0_1) := (blk_cell BK101.out 1).trans rfl
      have hcz6_2 : w3.cell? ⟨gb101, 2, none⟩ = some (.int .i64 a0_2) := (blk_cell BK101.out 2).trans rfl
      have hfz6_0 := blk_frozen BK101.out 0
      have hfz6_1 := blk_frozen BK101.out 1
      have hfz6_2 := blk_frozen BK101.out 2
      go_wp2
      go_meet
      case rel => exact ⟨_, (decide ((l0_1.length : Int) > 300)), (by first | rfl | (simp; done) | (simp [*]; done)), H', ⟨by first | omega | exact Nat.le_refl _⟩, ⟨by (with_reducible repeat (first | refine blk_drewN ?_ _ | refine blk_drew ?_ | refine blk_alloc ?_ _)); exact BK101.out⟩, ⟨by repeat (first | (with_reducible first | exact HB.out | apply below_alloc | apply pw_below_drewN | apply below_drew1 | refine below_set ?_ GE101.out) | exact HB.out)⟩⟩
  case rest =>
    clear HC2
    try clear p2
    try clear c4
    try clear c4b0
    try clear c4b1
    try clear hcz5_0
    try clear hcz5_1
    try clear hcz5_2
    try clear hcz6_0
    try clear hcz6_1
    try clear hcz6_2
    try clear hfz5_0
    try clear hfz5_1
    try clear hfz5_2
    try clear hfz6_0
    try clear hfz6_1
    try clear hfz6_2
    obtain ⟨kq, x13_1, rfl, HA, HJ1, BK101, HB⟩ := hcut
    cases kq with
    | zero => exact absurd HA.out (by simp [malthouseref18_Light.j0])
    | succ kj1 =>
      have H := HA.out
      clear HA
      simp only [malthouseref18_Light.j0] at H
      by_cases c7 : x13_1 = true
      · subst c7
        have H1 : (some false) = some r := by rw [if_pos rfl] at H; exact H
        clear H
        have H := H1
        clear H1
        obtain rfl := Option.some.inj H
        go_wp2
        go_ret
        exact ⟨by first | rfl | (simp [errW_none, errW_some] <;> rfl) | (simp [*, errW_none, errW_some] <;> rfl), by repeat (first | (with_reducible first | exact HB.out | apply below_alloc | apply pw_below_drewN | apply below_drew1 | refine below_set ?_ GE101.out) | exact HB.out)⟩
      · replace c7 := Bool.eq_false_iff.mpr c7
        subst c7
        have H1 : (malthouseref18_Light.l0 kj1 0 l0_0 l0_1 a0_2) = some r := by rw [if_neg (show ¬ (false = true) by decide)] at H; exact H
        clear H
        have H := H1
        clear H1
        have H' := Aside0.mk H
        clear H
        go_wp2
        go_loopg [3] kj1 (fun kq v3 w' => ∃ (x3_2 : Int), v3 = .int .i64 x3_2 ∧ Aside0 (malthouseref18_Light.l0 kq x3_2 l0_0 l0_1 a0_2 = some r) ∧ Aside0 (kq ≤ kj1) ∧ Aside0 (w'.heap[gb101]? = some (.cells #[(.slice A0_0 l0_0.length c0_0), (.slice A0_1 l0_1.length c0_1), .int .i64 a0_2] 25 (0, 0))) ∧ Aside0 (Below w.heap.size w w'))
        case atStart => exact ⟨(0), (by first | rfl | (simp; done) | (simp [*]; done)), H', ⟨Nat.le_refl _⟩, ⟨by (with_reducible repeat (first | refine blk_drewN ?_ _ | refine blk_drew ?_ | refine blk_alloc ?_ _)); exact BK101.out⟩, ⟨by repeat (first | (with_reducible first | exact HB.out | apply below_alloc | apply pw_below_drewN | apply below_drew1 | refine below_set ?_ GE101.out) | exact HB.out)⟩⟩
        case round =>
          clear H'
          try clear p2
          try clear c4
          try clear c4b0
          try clear c4b1
          try clear c7
          try clear hcz5_0
          try clear hcz5_1
          try clear hcz5_2
          try clear hcz6_0
          try clear hcz6_1
          try clear hcz6_2
          try clear hfz5_0
          try clear hfz5_1
          try clear hfz5_2
          try clear hfz6_0
          try clear hfz6_1
          try clear hfz6_2
          try clear p2
          obtain ⟨x3_2, rfl, HA, HK2, BK101, HB⟩ := hrel
          cases gk with
          | zero => exact absurd HA.out (by simp [malthouseref18_Light.l0])
          | succ k2 =>
            have H := HA.out
            clear HA
            simp only [malthouseref18_Light.l0] at H
            by_cases c8 : x3_2 < (l0_0.length : Int)
            · rw [if_pos c8] at H
              have c8b0 : decide (x3_2 < (l0_0.length : Int)) = true := decide_eq_true c8
              clear c8
              by_cases c9 : 0 ≤ x3_2
              · rw [if_pos c9] at H
                have c9b0 : decide (0 ≤ x3_2) = true := decide_eq_true c9
                clear c9
                by_cases c10 : (((rd_T27 l0_0 x3_2).f3).size : Int) > 200
                · rw [if_pos c10] at H
                  have c10b0 : decide (200 < (((rd_T27 l0_0 x3_2).f3).size : Int)) = true := decide_eq_true c10
                  have c10b1 : decide (200 < ((rd_T27 l0_0 x3_2).f3).size) = true := decide_eq_true (by omega)
                  clear c10
                  obtain rfl := Option.some.inj H
                  have hcz11_0 : wr.cell? ⟨gb101, 0, none⟩ = some (.slice A0_0 l0_0.length c0_0) := (blk_cell BK101.out 0).trans rfl
                  have hcz11_1 : wr.cell? ⟨gb101, 1, none⟩ = some (.slice A0_1 l0_1.length c0_1) := (blk_cell BK101.out 1).trans rfl
                  have hcz11_2 : wr.cell? ⟨gb101, 2, none⟩ = some (.int .i64 a0_2) := (blk_cell BK101.out 2).trans rfl
                  have hfz11_0 := blk_frozen BK101.out 0
                  have hfz11_1 := blk_frozen BK101.out 1
                  have hfz11_2 := blk_frozen BK101.out 2
                  have p102 : 0 ≤ (x3_2 : Int) := of_decide_eq_true (by first | (with_reducible assumption) | assumption)
                  have q102 : x3_2 < (l0_0.length : Int) := of_decide_eq_true (by first | (with_reducible assumption) | assumption)
                  obtain ⟨ad102, e102, hx102_0, hx102_1, hx102_2, hx102_3, hx102_4, hx102_5⟩ := at_T27 HR0_0.out x3_2 p102 q102
                  cases e102
                  replace hx102_0 := (HB.out.cell (World.block_lt_of_cell? w _ hx102_0)).trans hx102_0
                  replace hx102_1 := (HB.out.cell (World.block_lt_of_cell? w _ hx102_1)).trans hx102_1
                  replace hx102_2 := (HB.out.cell (World.block_lt_of_cell? w _ hx102_2)).trans hx102_2
                  replace hx102_3 := (HB.out.cell (World.block_lt_of_cell? w _ hx102_3)).trans hx102_3
                  replace hx102_4 := (HB.out.cell (World.block_lt_of_cell? w _ hx102_4)).trans hx102_4
                  replace hx102_5 := (HB.out.cell (World.block_lt_of_cell? w _ hx102_5)).trans hx102_5
                  replace p102 := eq_true p102
                  replace q102 := eq_true q102
                  go_wp2
                  go_ret
                  exact ⟨by first | rfl | (simp [errW_none, errW_some] <;> rfl) | (simp [*, errW_none, errW_some] <;> rfl), by repeat (first | (with_reducible first | exact HB.out | apply below_alloc | apply pw_below_drewN | apply below_drew1 | refine below_set ?_ GE101.out) | exact HB.out)⟩
                · rw [if_neg c10] at H
                  have c10b0 : decide (200 < (((rd_T27 l0_0 x3_2).f3).size : Int)) = false := decide_eq_false c10
                  have c10b1 : decide (200 < ((rd_T27 l0_0 x3_2).f3).size) = false := decide_eq_false (by omega)
                  clear c10
                  have H' := Aside0.mk H
                  clear H
                  have hcz12_0 : wr.cell? ⟨gb101, 0, none⟩ = some (.slice A0_0 l0_0.length c0_0) := (blk_cell BK101.out 0).trans rfl
                  have hcz12_1 : wr.cell? ⟨gb101, 1, none⟩ = some (.slice A0_1 l0_1.length c0_1) := (blk_cell BK101.out 1).trans rfl
                  have hcz12_2 : wr.cell? ⟨gb101, 2, none⟩ = some (.int .i64 a0_2) := (blk_cell BK101.out 2).trans rfl
                  have hfz12_0 := blk_frozen BK101.out 0
                  have hfz12_1 := blk_frozen BK101.out 1
                  have hfz12_2 := blk_frozen BK101.out 2
                  have p102 : 0 ≤ (x3_2 : Int) := of_decide_eq_true (by first | (with_reducible assumption) | assumption)
                  have q102 : x3_2 < (l0_0.length : Int) := of_decide_eq_true (by first | (with_reducible assumption) | assumption)
                  obtain ⟨ad102, e102, hx102_0, hx102_1, hx102_2, hx102_3, hx102_4, hx102_5⟩ := at_T27 HR0_0.out x3_2 p102 q102
                  cases e102
                  replace hx102_0 := (HB.out.cell (World.block_lt_of_cell? w _ hx102_0)).trans hx102_0
                  replace hx102_1 := (HB.out.cell (World.block_lt_of_cell? w _ hx102_1)).trans hx102_1
                  replace hx102_2 := (HB.out.cell (World.block_lt_of_cell? w _ hx102_2)).trans hx102_2
                  replace hx102_3 := (HB.out.cell (World.block_lt_of_cell? w _ hx102_3)).trans hx102_3
                  replace hx102_4 := (HB.out.cell (World.block_lt_of_cell? w _ hx102_4)).trans hx102_4
                  replace hx102_5 := (HB.out.cell (World.block_lt_of_cell? w _ hx102_5)).trans hx102_5
                  replace p102 := eq_true p102
                  replace q102 := eq_true q102
                  go_wp2
                  go_roundg k2
                  case measure => have := HJ1.out; have := HK2.out; omega
                  case rel => exact ⟨(wrap64 (x3_2 + 1)), (by first | rfl | (simp; done) | (simp [*]; done)), H', ⟨by have := HJ1.out; have := HK2.out; omega⟩, ⟨by (with_reducible repeat (first | refine blk_drewN ?_ _ | refine blk_drew ?_ | refine blk_alloc ?_ _)); exact BK101.out⟩, ⟨by repeat (first | (with_reducible first | exact HB.out | apply below_alloc | apply pw_below_drewN | apply below_drew1 | refine below_set ?_ GE101.out) | exact HB.out)⟩⟩
              · rw [if_neg c9] at H
                exact absurd H (by simp)
            · rw [if_neg c8] at H
              have c8b0 : decide (x3_2 < (l0_0.length : Int)) = false := decide_eq_false c8
              clear c8
              obtain rfl := Option.some.inj H
              have hcz13_0 : wr.cell? ⟨gb101, 0, none⟩ = some (.slice A0_0 l0_0.length c0_0) := (blk_cell BK101.out 0).trans rfl
              have hcz13_1 : wr.cell? ⟨gb101, 1, none⟩ = some (.slice A0_1 l0_1.length c0_1) := (blk_cell BK101.out 1).trans rfl
              have hcz13_2 : wr.cell? ⟨gb101, 2, none⟩ = some (.int .i64 a0_2) := (blk_cell BK101.out 2).trans rfl
              have hfz13_0 := blk_frozen BK101.out 0
              have hfz13_1 := blk_frozen BK101.out 1
              have hfz13_2 := blk_frozen BK101.out 2
              go_wp2
              go_ret
              exact ⟨by first | rfl | (simp [errW_none, errW_some] <;> rfl) | (simp [*, errW_none, errW_some] <;> rfl), by repeat (first | (with_reducible first | exact HB.out | apply below_alloc | apply pw_below_drewN | apply below_drew1 | refine below_set ?_ GE101.out) | exact HB.out)⟩
end Go.Proofs.YtghpmpjoedbpcaaDoor.Print
/-! ### Print1 -/
namespace Go.Proofs.YtghpmpjoedbpcaaDoor.Print
open Go.RowKit Go.Proofs.YtghpmpjoedbpcaaDoorW.PrintWords Go.Proofs.YtghpmpjoedbpcaaDoorW.PrintLast Go.Proofs.YtghpmpjoedbpcaaDoorW.PrintMore
attribute [local go_sem] min2_int min_two
set_option linter.unusedVariables false
set_option linter.unusedSimpArgs false
theorem eqA27 (d : Nat) (w : World) (x0 y0 : Int) (x1 y1 : Int) (x2 y2 : Int) (x3 y3 : ByteArray) (x4 y4 : Int) (x5 y5 : Int) :
    (Op.equalIn (d + 2) 27 (.agg #[.int .i64 x0, .int .i64 x1, .int .i64 x2, .string x3, .int .i64 x4, .int .i64 x5]) (.agg #[.int .i64 y0, .int .i64 y1, .int .i64 y2, .string y3, .int .i64 y4, .int .i64 y5])).run Tryd.prog w = .ok (x0 == y0 && (x1 == y1 && (x2 == y2 && (x3.toList == y3.toList && (x4 == y4 && (x5 == y5)))))) w := by
  refine eqA_of Tryd.underlying27 (by kernel_rfl) ?_
  refine eqf_cons (by rfl) (by go_simp; rfl) (by go_simp; rfl) (by go_simp) ?_
  refine eqf_cons (by rfl) (by go_simp; rfl) (by go_simp; rfl) (by go_simp) ?_
  refine eqf_cons (by rfl) (by go_simp; rfl) (by go_simp; rfl) (by go_simp) ?_
  refine eqf_cons (by rfl) (by go_simp; rfl) (by go_simp; rfl) (by go_simp) ?_
  refine eqf_cons (by rfl) (by go_simp; rfl) (by go_simp; rfl) (by go_simp) ?_
  exact eqf_last (by rfl) (by go_simp; rfl) (by go_simp; rfl) (by go_simp)
end Go.Proofs.YtghpmpjoedbpcaaDoor.Print
/-! ### Print2 -/
namespace Go.Proofs.YtghpmpjoedbpcaaDoor.Print
open Go.RowKit Go.Proofs.YtghpmpjoedbpcaaDoorW.PrintWords Go.Proofs.YtghpmpjoedbpcaaDoorW.PrintLast Go.Proofs.YtghpmpjoedbpcaaDoorW.PrintMore
attribute [local go_sem] min2_int min_two
set_option linter.unusedVariables false
set_option linter.unusedSimpArgs false
theorem eqA35 (d : Nat) (w : World) (x0 y0 : Int) (x1 y1 : Int) (x2 y2 : Int) :
    (Op.equalIn (d + 2) 35 (.agg #[.int .i64 x0, .int .i64 x1, .int .i64 x2]) (.agg #[.int .i64 y0, .int .i64 y1, .int .i64 y2])).run Tryd.prog w = .ok (x0 == y0 && (x1 == y1 && (x2 == y2))) w := by
  refine eqA_of Tryd.underlying35 (by kernel_rfl) ?_
  refine eqf_cons (by rfl) (by go_simp; rfl) (by go_simp; rfl) (by go_simp) ?_
  refine eqf_cons (by rfl) (by go_simp; rfl) (by go_simp; rfl) (by go_simp) ?_
  exact eqf_last (by rfl) (by go_simp; rfl) (by go_simp; rfl) (by go_simp)
end Go.Proofs.YtghpmpjoedbpcaaDoor.Print
/-! ### Print4 -/
namespace Go.Proofs.YtghpmpjoedbpcaaDoor.Print
open Go.RowKit Go.Proofs.YtghpmpjoedbpcaaDoorW.PrintWords Go.Proofs.YtghpmpjoedbpcaaDoorW.PrintLast Go.Proofs.YtghpmpjoedbpcaaDoorW.PrintMore
attribute [local go_sem] min2_int min_two
set_option linter.unusedVariables false
set_option linter.unusedSimpArgs false
attribute [local go_sem high] eqA27 eqA35
def malthouseref18_Entries.l0 : Nat → List (S27) → List (S27) → Int → Option (Bool)
  | 0, _, _, _ => none
  | k + 1, x0, x1, x5 => if x5 < (x0.length : Int) then (if 0 ≤ x5 then (if x5 < (x1.length : Int) then (if (!(((rd_T27 x0 x5).f0) == ((rd_T27 x1 x5).f0)) || (!(((rd_T27 x0 x5).f1) == ((rd_T27 x1 x5).f1)) || (!(((rd_T27 x0 x5).f2) == ((rd_T27 x1 x5).f2)) || (!((((rd_T27 x0 x5).f3).toList) == (((rd_T27 x1 x5).f3).toList)) || (!(((rd_T27 x0 x5).f4) == ((rd_T27 x1 x5).f4)) || (!(((rd_T27 x0 x5).f5) == ((rd_T27 x1 x5).f5)))))))) = true then (some false) else (malthouseref18_Entries.l0 k x0 x1 (wrap64 (x5 + 1)))) else (none)) else (none)) else (some true)
def malthouseref18_Entries.f (k : Nat) (l0 : List (S27)) (l1 : List (S27)) : Option (Bool) := if (l0.length : Int) = (l1.length : Int) then (malthouseref18_Entries.l0 k l0 l1 0) else (some false)
set_option maxHeartbeats 8000000 in
set_option maxRecDepth 100000 in
theorem malthouseref18_Entries.calls (k : Nat) (A0 : Option Addr) (c0 : Nat) (l0 : List (S27)) (A1 : Option Addr) (c1 : Nat) (l1 : List (S27)) (r : Bool) (w : World) (hr0 : Kd.C k27 w A0 l0.length l0) (hc0 : l0.length ≤ c0) (hr1 : Kd.C k27 w A1 l1.length l1) (hc1 : l1.length ≤ c1) (h : malthouseref18_Entries.f k l0 l1 = some r) :
    Calls Tryd.prog 13 #[.slice A0 l0.length c0, .slice A1 l1.length c1] w fun e w' => e = .returned (.bool r) ∧ Drawn0 w w' := by
  have hu27 := Tryd.underlying27
  have HR0 := Aside0.mk hr0
  have HC0 := Aside0.mk hc0
  clear hr0 hc0
  have HR1 := Aside0.mk hr1
  have HC1 := Aside0.mk hc1
  clear hr1 hc1
  have H : (if (l0.length : Int) = (l1.length : Int) then (malthouseref18_Entries.l0 k l0 l1 0) else (some false)) = some r := h
  clear h
  by_cases c3 : (l0.length : Int) = (l1.length : Int)
  · rw [if_pos c3] at H
    have c3b0 : ((l0.length : Int) == (l1.length : Int)) = true := beq_iff_eq.mpr c3
    have c3b1 : ((l0.length : Int) != (l1.length : Int)) = false := bne_eq_false_iff_eq.mpr c3
    have c3b2 : (l0.length == l1.length) = true := by first | simpa using c3 | (simp at c3 ⊢; omega)
    clear c3
    have H' := Aside0.mk H
    clear H
    go_enter Tryd.func13, Tryd.ntmps13
    go_wp2
    repeat (go_quiet (fail); try go_wp2)
    go_loopg [5] k (fun kq v5 w' => ∃ (x5_1 : Int), v5 = .int .i64 x5_1 ∧ Aside0 (malthouseref18_Entries.l0 kq l0 l1 x5_1 = some r) ∧ Aside0 (kq ≤ k) ∧ Drawn0 w w')
    case atStart => exact ⟨(0), (by first | rfl | (simp; done) | (simp [*]; done)), H', ⟨Nat.le_refl _⟩, by repeat (first | exact Drawn0.refl _ | apply Drawn0.step)⟩
    case round =>
      clear H'
      try clear c1
      try clear p2
      try clear c3
      try clear c3b0
      try clear c3b1
      try clear c3b2
      obtain ⟨x5_1, rfl, HA, HK1, ⟨m1, rfl⟩⟩ := hrel
      cases gk with
      | zero => exact absurd HA.out (by simp [malthouseref18_Entries.l0])
      | succ k1 =>
        have H := HA.out
        clear HA
        simp only [malthouseref18_Entries.l0] at H
        by_cases c4 : x5_1 < (l0.length : Int)
        · rw [if_pos c4] at H
          have c4b0 : decide (x5_1 < (l0.length : Int)) = true := decide_eq_true c4
          clear c4
          by_cases c5 : 0 ≤ x5_1
          · rw [if_pos c5] at H
            have c5b0 : decide (0 ≤ x5_1) = true := decide_eq_true c5
            clear c5
            by_cases c6 : x5_1 < (l1.length : Int)
            · rw [if_pos c6] at H
              have c6b0 : decide (x5_1 < (l1.length : Int)) = true := decide_eq_true c6
              clear c6
              by_cases c7 : (!(((rd_T27 l0 x5_1).f0) == ((rd_T27 l1 x5_1).f0)) || (!(((rd_T27 l0 x5_1).f1) == ((rd_T27 l1 x5_1).f1)) || (!(((rd_T27 l0 x5_1).f2) == ((rd_T27 l1 x5_1).f2)) || (!((((rd_T27 l0 x5_1).f3).toList) == (((rd_T27 l1 x5_1).f3).toList)) || (!(((rd_T27 l0 x5_1).f4) == ((rd_T27 l1 x5_1).f4)) || (!(((rd_T27 l0 x5_1).f5) == ((rd_T27 l1 x5_1).f5)))))))) = true
              · rw [if_pos c7] at H
                have c7b0 : (!(((rd_T27 l0 x5_1).f0) == ((rd_T27 l1 x5_1).f0)) || (!(((rd_T27 l0 x5_1).f1) == ((rd_T27 l1 x5_1).f1)) || (!(((rd_T27 l0 x5_1).f2) == ((rd_T27 l1 x5_1).f2)) || (!((((rd_T27 l0 x5_1).f3).toList) == (((rd_T27 l1 x5_1).f3).toList)) || (!(((rd_T27 l0 x5_1).f4) == ((rd_T27 l1 x5_1).f4)) || (!(((rd_T27 l0 x5_1).f5) == ((rd_T27 l1 x5_1).f5)))))))) = true := c7
                clear c7
                obtain rfl := Option.some.inj H
                have p103 : 0 ≤ (x5_1 : Int) := of_decide_eq_true (by first | (with_reducible assumption) | assumption)
                have q103 : x5_1 < (l0.length : Int) := of_decide_eq_true (by first | (with_reducible assumption) | assumption)
                obtain ⟨ad103, e103, hx103_0, hx103_1, hx103_2, hx103_3, hx103_4, hx103_5⟩ := at_T27 HR0.out x5_1 p103 q103
                cases e103
                replace p103 := eq_true p103
                replace q103 := eq_true q103
                have p104 : 0 ≤ (x5_1 : Int) := of_decide_eq_true (by first | (with_reducible assumption) | assumption)
                have q104 : x5_1 < (l1.length : Int) := of_decide_eq_true (by first | (with_reducible assumption) | assumption)
                obtain ⟨ad104, e104, hx104_0, hx104_1, hx104_2, hx104_3, hx104_4, hx104_5⟩ := at_T27 HR1.out x5_1 p104 q104
                cases e104
                replace p104 := eq_true p104
                replace q104 := eq_true q104
                go_wp2
                repeat (go_quiet (fail); try go_wp2)
                go_ret
                exact ⟨by first | rfl | (simp; done) | (simp [*]; done), by repeat (first | exact Drawn0.refl _ | apply Drawn0.step)⟩
              · rw [if_neg c7] at H
                have c7b0 : (!(((rd_T27 l0 x5_1).f0) == ((rd_T27 l1 x5_1).f0)) || (!(((rd_T27 l0 x5_1).f1) == ((rd_T27 l1 x5_1).f1)) || (!(((rd_T27 l0 x5_1).f2) == ((rd_T27 l1 x5_1).f2)) || (!((((rd_T27 l0 x5_1).f3).toList) == (((rd_T27 l1 x5_1).f3).toList)) || (!(((rd_T27 l0 x5_1).f4) == ((rd_T27 l1 x5_1).f4)) || (!(((rd_T27 l0 x5_1).f5) == ((rd_T27 l1 x5_1).f5)))))))) = false := by simpa using c7
                clear c7
                have H' := Aside0.mk H
                clear H
                have p103 : 0 ≤ (x5_1 : Int) := of_decide_eq_true (by first | (with_reducible assumption) | assumption)
                have q103 : x5_1 < (l0.length : Int) := of_decide_eq_true (by first | (with_reducible assumption) | assumption)
                obtain ⟨ad103, e103, hx103_0, hx103_1, hx103_2, hx103_3, hx103_4, hx103_5⟩ := at_T27 HR0.out x5_1 p103 q103
                cases e103
                replace p103 := eq_true p103
                replace q103 := eq_true q103
                have p104 : 0 ≤ (x5_1 : Int) := of_decide_eq_true (by first | (with_reducible assumption) | assumption)
                have q104 : x5_1 < (l1.length : Int) := of_decide_eq_true (by first | (with_reducible assumption) | assumption)
                obtain ⟨ad104, e104, hx104_0, hx104_1, hx104_2, hx104_3, hx104_4, hx104_5⟩ := at_T27 HR1.out x5_1 p104 q104
                cases e104
                replace p104 := eq_true p104
                replace q104 := eq_true q104
                go_wp2
                repeat (go_quiet (fail); try go_wp2)
                go_roundg k1
                case measure => have := HK1.out; omega
                case rel => exact ⟨(wrap64 (x5_1 + 1)), (by first | rfl | (simp; done) | (simp [*]; done)), H', ⟨by have := HK1.out; omega⟩, by repeat (first | exact Drawn0.refl _ | apply Drawn0.step)⟩
            · rw [if_neg c6] at H
              exact absurd H (by simp)
          · rw [if_neg c5] at H
            exact absurd H (by simp)
        · rw [if_neg c4] at H
          have c4b0 : decide (x5_1 < (l0.length : Int)) = false := decide_eq_false c4
          clear c4
          obtain rfl := Option.some.inj H
          go_wp2
          repeat (go_quiet (fail); try go_wp2)
          go_ret
          exact ⟨by first | rfl | (simp; done) | (simp [*]; done), by repeat (first | exact Drawn0.refl _ | apply Drawn0.step)⟩
  · rw [if_neg c3] at H
    have c3b0 : ((l0.length : Int) == (l1.length : Int)) = false := beq_eq_false_iff_ne.mpr c3
    have c3b1 : ((l0.length : Int) != (l1.length : Int)) = true := bne_iff_ne.mpr c3
    have c3b2 : (l0.length == l1.length) = false := by first | simpa using c3 | (simp at c3 ⊢; omega)
    obtain rfl := Option.some.inj H
    go_enter Tryd.func13, Tryd.ntmps13
    go_wp2
    repeat (go_quiet (fail); try go_wp2)
    go_ret
    exact ⟨by first | rfl | (simp; done) | (simp [*]; done), by repeat (first | exact Drawn0.refl _ | apply Drawn0.step)⟩
mutual
def malthouseref18_Same.j0 : Nat → Bool → List (S27) → List (S35) → Int → List (S27) → List (S35) → Int → Option (Bool)
  | 0, _, _, _, _, _, _, _ => none
  | k + 1, x19, x106000, x106001, x106002, x107000, x107001, x107002 => if x19 = true then (some false) else (malthouseref18_Same.l0 k 0 x106000 x106001 x106002 x107000 x107001 x107002)
def malthouseref18_Same.l0 : Nat → Int → List (S27) → List (S35) → Int → List (S27) → List (S35) → Int → Option (Bool)
  | 0, _, _, _, _, _, _, _ => none
  | k + 1, x5, x106000, x106001, x106002, x107000, x107001, x107002 => if x5 < (x106001.length : Int) then (if 0 ≤ x5 then (if x5 < (x107001.length : Int) then (if (!(((rd_T35 x106001 x5).f0) == ((rd_T35 x107001 x5).f0)) || (!(((rd_T35 x106001 x5).f1) == ((rd_T35 x107001 x5).f1)) || (!(((rd_T35 x106001 x5).f2) == ((rd_T35 x107001 x5).f2))))) = true then (some false) else (malthouseref18_Same.l0 k (wrap64 (x5 + 1)) x106000 x106001 x106002 x107000 x107001 x107002)) else (none)) else (none)) else ((malthouseref18_Entries.f k x106000 x107000).bind fun t109 => (some t109))
end
def malthouseref18_Same.f (k : Nat) (l0_0 : List (S27)) (l0_1 : List (S35)) (a0_2 : Int) (l1_0 : List (S27)) (l1_1 : List (S35)) (a1_2 : Int) : Option (Bool) := if (l0_1.length : Int) = (l1_1.length : Int) then (malthouseref18_Same.j0 k (a0_2 != a1_2) l0_0 l0_1 a0_2 l1_0 l1_1 a1_2) else (malthouseref18_Same.j0 k true l0_0 l0_1 a0_2 l1_0 l1_1 a1_2)
set_option maxHeartbeats 8000000 in
set_option maxRecDepth 100000 in
theorem malthouseref18_Same.calls (k : Nat) (A0_0 : Option Addr) (c0_0 : Nat) (l0_0 : List (S27)) (A0_1 : Option Addr) (c0_1 : Nat) (l0_1 : List (S35)) (a0_2 : Int) (A1_0 : Option Addr) (c1_0 : Nat) (l1_0 : List (S27)) (A1_1 : Option Addr) (c1_1 : Nat) (l1_1 : List (S35)) (a1_2 : Int) (r : Bool) (w : World) (hr0_0 : Kd.C k27 w A0_0 l0_0.length l0_0) (hc0_0 : l0_0.length ≤ c0_0) (hr0_1 : Kd.C k35 w A0_1 l0_1.length l0_1) (hc0_1 : l0_1.length ≤ c0_1) (hr1_0 : Kd.C k27 w A1_0 l1_0.length l1_0) (hc1_0 : l1_0.length ≤ c1_0) (hr1_1 : Kd.C k35 w A1_1 l1_1.length l1_1) (hc1_1 : l1_1.length ≤ c1_1) (h : malthouseref18_Same.f k l0_0 l0_1 a0_2 l1_0 l1_1 a1_2 = some r) :
    Calls Tryd.prog 12 #[.agg #[.slice A0_0 l0_0.length c0_0, .slice A0_1 l0_1.length c0_1, .int .i64 a0_2], .agg #[.slice A1_0 l1_0.length c1_0, .slice A1_1 l1_1.length c1_1, .int .i64 a1_2]] w fun e w' => e = .returned (.bool r) ∧ Below w.heap.size w w' := by
  have hu25 := Tryd.underlying25
  have hu35 := Tryd.underlying35
  have HR0_0 := Aside0.mk hr0_0
  have HC0_0 := Aside0.mk hc0_0
  clear hr0_0 hc0_0
  have HR0_1 := Aside0.mk hr0_1
  have HC0_1 := Aside0.mk hc0_1
  clear hr0_1 hc0_1
  have HR1_0 := Aside0.mk hr1_0
  have HC1_0 := Aside0.mk hc1_0
  clear hr1_0 hc1_0
  have HR1_1 := Aside0.mk hr1_1
  have HC1_1 := Aside0.mk hc1_1
  clear hr1_1 hc1_1
  have HB := Aside0.mk (Below.refl w.heap.size w)
  have H : (if (l0_1.length : Int) = (l1_1.length : Int) then (malthouseref18_Same.j0 k (a0_2 != a1_2) l0_0 l0_1 a0_2 l1_0 l1_1 a1_2) else (malthouseref18_Same.j0 k true l0_0 l0_1 a0_2 l1_0 l1_1 a1_2)) = some r := h
  clear h
  have HC3 := Aside0.mk H
  clear H
  go_enter Tryd.func12, Tryd.ntmps12
  go_upto_region 1 with (first | ((with_reducible refine gate_dst (N := 2) rfl ?_); refine box_event ?hg (N := 2) ?hd (cs := #[.slice A0_0 l0_0.length c0_0, .slice A0_1 l0_1.length c0_1, .int .i64 a0_2]) (t := 25) ?hr ?_; (case hd => rfl); (case hg => rfl); (case hr => first | (go_simp; done) | (go_simp; rfl)); intro gb105 hg w4 hbox hb; have n0_ := Aside0.mk (below_step (by repeat (first | (with_reducible first | exact HB.out | apply below_alloc | apply pw_below_drewN | apply below_drew1) | exact HB.out)) hb); have n1_ := Aside0.mk (hbox); have n2_ := Aside0.mk ((by rw [hg]; exact (below_size (by repeat (first | (with_reducible first | exact HB.out | apply below_alloc | apply pw_below_drewN | apply below_drew1) | exact HB.out))) : w.heap.size ≤ gb105)); have n3_ := Aside0.mk ((by rw [hg]; exact (below_size (by repeat (first | (with_reducible first | exact HB.out | apply below_alloc | apply pw_below_drewN | apply below_drew1) | exact HB.out))) : w.heap.size ≤ gb105)); clear HB; have HB := n0_; have BK105 := n1_; have GW105 := n2_; have GE105 := n3_; clear n0_ n1_ n2_ n3_; clear hb hbox hg) | ((with_reducible refine gate_dst (N := 3) rfl ?_); refine box_event ?hg (N := 3) ?hd (cs := #[.slice A1_0 l1_0.length c1_0, .slice A1_1 l1_1.length c1_1, .int .i64 a1_2]) (t := 25) ?hr ?_; (case hd => rfl); (case hg => rfl); (case hr => first | (go_simp; done) | (go_simp; rfl)); intro gb106 hg w5 hbox hb; have n0_ := Aside0.mk (blk_below (g := gb105) (o := .cells #[.slice A0_0 l0_0.length c0_0, .slice A0_1 l0_1.length c0_1, .int .i64 a0_2] 25 (0, 0)) (by (with_reducible repeat (first | refine blk_drewN ?_ _ | refine blk_drew ?_ | refine blk_alloc ?_ _)); exact BK105.out) hb); have n1_ := Aside0.mk (below_step (by repeat (first | (with_reducible first | exact HB.out | apply below_alloc | apply pw_below_drewN | apply below_drew1 | refine below_set ?_ GE105.out) | exact HB.out)) hb); have n2_ := Aside0.mk (hbox); have n3_ := Aside0.mk ((by rw [hg]; exact (below_size (by repeat (first | (with_reducible first | exact HB.out | apply below_alloc | apply pw_below_drewN | apply below_drew1 | refine below_set ?_ GE105.out) | exact HB.out))) : w.heap.size ≤ gb106)); have n4_ := Aside0.mk ((by rw [hg]; exact (below_size (by repeat (first | (with_reducible first | exact HB.out | apply below_alloc | apply pw_below_drewN | apply below_drew1 | refine below_set ?_ GE105.out) | exact HB.out))) : w.heap.size ≤ gb106)); have n5_ := Aside0.mk ((by rw [hg]; exact Nat.ne_of_lt (blk_lt (g := gb105) (o := .cells #[.slice A0_0 l0_0.length c0_0, .slice A0_1 l0_1.length c0_1, .int .i64 a0_2] 25 (0, 0)) (by (with_reducible repeat (first | refine blk_drewN ?_ _ | refine blk_drew ?_ | refine blk_alloc ?_ _)); exact BK105.out)) : gb105 ≠ gb106)); have n6_ := Aside0.mk ((by rw [hg]; exact Nat.ne_of_gt (blk_lt (g := gb105) (o := .cells #[.slice A0_0 l0_0.length c0_0, .slice A0_1 l0_1.length c0_1, .int .i64 a0_2] 25 (0, 0)) (by (with_reducible repeat (first | refine blk_drewN ?_ _ | refine blk_drew ?_ | refine blk_alloc ?_ _)); exact BK105.out)) : gb106 ≠ gb105)); clear BK105; clear HB; have BK105 := n0_; have HB := n1_; have BK106 := n2_; have GW106 := n3_; have GE106 := n4_; have NB105_106 := n5_; have NB106_105 := n6_; clear n0_ n1_ n2_ n3_ n4_ n5_ n6_; clear hb hbox hg))
  repeat (go_quiet (first | ((with_reducible refine gate_dst (N := 2) rfl ?_); refine box_event ?hg (N := 2) ?hd (cs := #[.slice A0_0 l0_0.length c0_0, .slice A0_1 l0_1.length c0_1, .int .i64 a0_2]) (t := 25) ?hr ?_; (case hd => rfl); (case hg => rfl); (case hr => first | (go_simp; done) | (go_simp; rfl)); intro gb105 hg w4 hbox hb; have n0_ := Aside0.mk (below_step (by repeat (first | (with_reducible first | exact HB.out | apply below_alloc | apply pw_below_drewN | apply below_drew1) | exact HB.out)) hb); have n1_ := Aside0.mk (hbox); have n2_ := Aside0.mk ((by rw [hg]; exact (below_size (by repeat (first | (with_reducible first | exact HB.out | apply below_alloc | apply pw_below_drewN | apply below_drew1) | exact HB.out))) : w.heap.size ≤ gb105)); have n3_ := Aside0.mk ((by rw [hg]; exact (below_size (by repeat (first | (with_reducible first | exact HB.out | apply below_alloc | apply pw_below_drewN | apply below_drew1) | exact HB.out))) : w.heap.size ≤ gb105)); clear HB; have HB := n0_; have BK105 := n1_; have GW105 := n2_; have GE105 := n3_; clear n0_ n1_ n2_ n3_; clear hb hbox hg) | ((with_reducible refine gate_dst (N := 3) rfl ?_); refine box_event ?hg (N := 3) ?hd (cs := #[.slice A1_0 l1_0.length c1_0, .slice A1_1 l1_1.length c1_1, .int .i64 a1_2]) (t := 25) ?hr ?_; (case hd => rfl); (case hg => rfl); (case hr => first | (go_simp; done) | (go_simp; rfl)); intro gb106 hg w5 hbox hb; have n0_ := Aside0.mk (blk_below (g := gb105) (o := .cells #[.slice A0_0 l0_0.length c0_0, .slice A0_1 l0_1.length c0_1, .int .i64 a0_2] 25 (0, 0)) (by (with_reducible repeat (first | refine blk_drewN ?_ _ | refine blk_drew ?_ | refine blk_alloc ?_ _)); exact BK105.out) hb); have n1_ := Aside0.mk (below_step (by repeat (first | (with_reducible first | exact HB.out | apply below_alloc | apply pw_below_drewN | apply below_drew1 | refine below_set ?_ GE105.out) | exact HB.out)) hb); have n2_ := Aside0.mk (hbox); have n3_ := Aside0.mk ((by rw [hg]; exact (below_size (by repeat (first | (with_reducible first | exact HB.out | apply below_alloc | apply pw_below_drewN | apply below_drew1 | refine below_set ?_ GE105.out) | exact HB.out))) : w.heap.size ≤ gb106)); have n4_ := Aside0.mk ((by rw [hg]; exact (below_size (by repeat (first | (with_reducible first | exact HB.out | apply below_alloc | apply pw_below_drewN | apply below_drew1 | refine below_set ?_ GE105.out) | exact HB.out))) : w.heap.size ≤ gb106)); have n5_ := Aside0.mk ((by rw [hg]; exact Nat.ne_of_lt (blk_lt (g := gb105) (o := .cells #[.slice A0_0 l0_0.length c0_0, .slice A0_1 l0_1.length c0_1, .int .i64 a0_2] 25 (0, 0)) (by (with_reducible repeat (first | refine blk_drewN ?_ _ | refine blk_drew ?_ | refine blk_alloc ?_ _)); exact BK105.out)) : gb105 ≠ gb106)); have n6_ := Aside0.mk ((by rw [hg]; exact Nat.ne_of_gt (blk_lt (g := gb105) (o := .cells #[.slice A0_0 l0_0.length c0_0, .slice A0_1 l0_1.length c0_1, .int .i64 a0_2] 25 (0, 0)) (by (with_reducible repeat (first | refine blk_drewN ?_ _ | refine blk_drew ?_ | refine blk_alloc ?_ _)); exact BK105.out)) : gb106 ≠ gb105)); clear BK105; clear HB; have BK105 := n0_; have HB := n1_; have BK106 := n2_; have GW106 := n3_; have GE106 := n4_; have NB105_106 := n5_; have NB106_105 := n6_; clear n0_ n1_ n2_ n3_ n4_ n5_ n6_; clear hb hbox hg)); go_upto_region 1 with (first | ((with_reducible refine gate_dst (N := 2) rfl ?_); refine box_event ?hg (N := 2) ?hd (cs := #[.slice A0_0 l0_0.length c0_0, .slice A0_1 l0_1.length c0_1, .int .i64 a0_2]) (t := 25) ?hr ?_; (case hd => rfl); (case hg => rfl); (case hr => first | (go_simp; done) | (go_simp; rfl)); intro gb105 hg w4 hbox hb; have n0_ := Aside0.mk (below_step (by repeat (first | (with_reducible first | exact HB.out | apply below_alloc | apply pw_below_drewN | apply below_drew1) | exact HB.out)) hb); have n1_ := Aside0.mk (hbox); have n2_ := Aside0.mk ((by rw [hg]; exact (below_size (by repeat (first | (with_reducible first | exact HB.out | apply below_alloc | apply pw_below_drewN | apply below_drew1) | exact HB.out))) : w.heap.size ≤ gb105)); have n3_ := Aside0.mk ((by rw [hg]; exact (below_size (by repeat (first | (with_reducible first | exact HB.out | apply below_alloc | apply pw_below_drewN | apply below_drew1) | exact HB.out))) : w.heap.size ≤ gb105)); clear HB; have HB := n0_; have BK105 := n1_; have GW105 := n2_; have GE105 := n3_; clear n0_ n1_ n2_ n3_; clear hb hbox hg) | ((with_reducible refine gate_dst (N := 3) rfl ?_); refine box_event ?hg (N := 3) ?hd (cs := #[.slice A1_0 l1_0.length c1_0, .slice A1_1 l1_1.length c1_1, .int .i64 a1_2]) (t := 25) ?hr ?_; (case hd => rfl); (case hg => rfl); (case hr => first | (go_simp; done) | (go_simp; rfl)); intro gb106 hg w5 hbox hb; have n0_ := Aside0.mk (blk_below (g := gb105) (o := .cells #[.slice A0_0 l0_0.length c0_0, .slice A0_1 l0_1.length c0_1, .int .i64 a0_2] 25 (0, 0)) (by (with_reducible repeat (first | refine blk_drewN ?_ _ | refine blk_drew ?_ | refine blk_alloc ?_ _)); exact BK105.out) hb); have n1_ := Aside0.mk (below_step (by repeat (first | (with_reducible first | exact HB.out | apply below_alloc | apply pw_below_drewN | apply below_drew1 | refine below_set ?_ GE105.out) | exact HB.out)) hb); have n2_ := Aside0.mk (hbox); have n3_ := Aside0.mk ((by rw [hg]; exact (below_size (by repeat (first | (with_reducible first | exact HB.out | apply below_alloc | apply pw_below_drewN | apply below_drew1 | refine below_set ?_ GE105.out) | exact HB.out))) : w.heap.size ≤ gb106)); have n4_ := Aside0.mk ((by rw [hg]; exact (below_size (by repeat (first | (with_reducible first | exact HB.out | apply below_alloc | apply pw_below_drewN | apply below_drew1 | refine below_set ?_ GE105.out) | exact HB.out))) : w.heap.size ≤ gb106)); have n5_ := Aside0.mk ((by rw [hg]; exact Nat.ne_of_lt (blk_lt (g := gb105) (o := .cells #[.slice A0_0 l0_0.length c0_0, .slice A0_1 l0_1.length c0_1, .int .i64 a0_2] 25 (0, 0)) (by (with_reducible repeat (first | refine blk_drewN ?_ _ | refine blk_drew ?_ | refine blk_alloc ?_ _)); exact BK105.out)) : gb105 ≠ gb106)); have n6_ := Aside0.mk ((by rw [hg]; exact Nat.ne_of_gt (blk_lt (g := gb105) (o := .cells #[.slice A0_0 l0_0.length c0_0, .slice A0_1 l0_1.length c0_1, .int .i64 a0_2] 25 (0, 0)) (by (with_reducible repeat (first | refine blk_drewN ?_ _ | refine blk_drew ?_ | refine blk_alloc ?_ _)); exact BK105.out)) : gb106 ≠ gb105)); clear BK105; clear HB; have BK105 := n0_; have HB := n1_; have BK106 := n2_; have GW106 := n3_; have GE106 := n4_; have NB105_106 := n5_; have NB106_105 := n6_; clear n0_ n1_ n2_ n3_ n4_ n5_ n6_; clear hb hbox hg)))
  (try simp only [Act.put, List.setIfInBounds_toArray, List.set_cons_zero, List.set_cons_succ])
  go_cut [19] (fun v19 wc => ∃ (kq : Nat) (x19_2 : Bool), v19 = .bool x19_2 ∧ Aside0 (malthouseref18_Same.j0 kq x19_2 l0_0 l0_1 a0_2 l1_0 l1_1 a1_2 = some r) ∧ Aside0 (kq ≤ k) ∧ Aside0 (wc.heap[gb105]? = some (.cells #[(.slice A0_0 l0_0.length c0_0), (.slice A0_1 l0_1.length c0_1), .int .i64 a0_2] 25 (0, 0))) ∧ Aside0 (wc.heap[gb106]? = some (.cells #[(.slice A1_0 l1_0.length c1_0), (.slice A1_1 l1_1.length c1_1), .int .i64 a1_2] 25 (0, 0))) ∧ Aside0 (Below w.heap.size w wc))
  case first =>
    have H := HC3.out
    clear HC3
    by_cases c6 : (l0_1.length : Int) = (l1_1.length : Int)
    · rw [if_pos c6] at H
      have c6b0 : ((l0_1.length : Int) == (l1_1.length : Int)) = true := beq_iff_eq.mpr c6
      have c6b1 : ((l0_1.length : Int) != (l1_1.length : Int)) = false := bne_eq_false_iff_eq.mpr c6
      have c6b2 : (l0_1.length == l1_1.length) = true := by first | simpa using c6 | (simp at c6 ⊢; omega)
      clear c6
      (first | rw [c6b0] | (simp only [i64_w, i32_w]; rw [c6b0]) | skip)
      have H' := Aside0.mk H
      clear H
      have hnb7 := NB105_106.out
      have hnc7 := NB106_105.out
      have hcz8_0 : w5.cell? ⟨gb105, 0, none⟩ = some (.slice A0_0 l0_0.length c0_0) := (blk_cell BK105.out 0).trans rfl
      have hcz8_1 : w5.cell? ⟨gb105, 1, none⟩ = some (.slice A0_1 l0_1.length c0_1) := (blk_cell BK105.out 1).trans rfl
      have hcz8_2 : w5.cell? ⟨gb105, 2, none⟩ = some (.int .i64 a0_2) := (blk_cell BK105.out 2).trans rfl
      have hfz8_0 := blk_frozen BK105.out 0
      have hfz8_1 := blk_frozen BK105.out 1
      have hfz8_2 := blk_frozen BK105.out 2
      have hcz9_0 : w5.cell? ⟨gb106, 0, none⟩ = some (.slice A1_0 l1_0.length c1_0) := (blk_cell BK106.out 0).trans rfl
      have hcz9_1 : w5.cell? ⟨gb106, 1, none⟩ = some (.slice A1_1 l1_1.length c1_1) := (blk_cell BK106.out 1).trans rfl
      have hcz9_2 : w5.cell? ⟨gb106, 2, none⟩ = some (.int .i64 a1_2) := (blk_cell BK106.out 2).trans rfl
      have hfz9_0 := blk_frozen BK106.out 0
      have hfz9_1 := blk_frozen BK106.out 1
      have hfz9_2 := blk_frozen BK106.out 2
      go_wp2
      repeat (go_quiet (fail); try go_wp2)
      go_meet
      case rel => exact ⟨_, ((a0_2 != a1_2)), (by first | rfl | (simp; done) | (simp [*]; done)), H', ⟨by first | omega | exact Nat.le_refl _⟩, ⟨by (with_reducible repeat (first | refine blk_drewN ?_ _ | refine blk_drew ?_ | refine blk_alloc ?_ _)); exact BK105.out⟩, ⟨by (with_reducible repeat (first | refine blk_drewN ?_ _ | refine blk_drew ?_ | refine blk_alloc ?_ _)); exact BK106.out⟩, ⟨by repeat (first | (with_reducible first | exact HB.out | apply below_alloc | apply pw_below_drewN | apply below_drew1 | refine below_set ?_ GE105.out | refine below_set ?_ GE106.out) | exact HB.out)⟩⟩
    · rw [if_neg c6] at H
      have c6b0 : ((l0_1.length : Int) == (l1_1.length : Int)) = false := beq_eq_false_iff_ne.mpr c6
      have c6b1 : ((l0_1.length : Int) != (l1_1.length : Int)) = true := bne_iff_ne.mpr c6
      have c6b2 : (l0_1.length == l1_1.length) = false := by first | simpa using c6 | (simp at c6 ⊢; omega)
      (first | rw [c6b0] | (simp only [i64_w, i32_w]; rw [c6b0]) | skip)
      have H' := Aside0.mk H
      clear H
      have hnb10 := NB105_106.out
      have hnc10 := NB106_105.out
      have hcz11_0 : w5.cell? ⟨gb105, 0, none⟩ = some (.slice A0_0 l0_0.length c0_0) := (blk_cell BK105.out 0).trans rfl
      have hcz11_1 : w5.cell? ⟨gb105, 1, none⟩ = some (.slice A0_1 l0_1.length c0_1) := (blk_cell BK105.out 1).trans rfl
      have hcz11_2 : w5.cell? ⟨gb105, 2, none⟩ = some (.int .i64 a0_2) := (blk_cell BK105.out 2).trans rfl
      have hfz11_0 := blk_frozen BK105.out 0
      have hfz11_1 := blk_frozen BK105.out 1
      have hfz11_2 := blk_frozen BK105.out 2
      have hcz12_0 : w5.cell? ⟨gb106, 0, none⟩ = some (.slice A1_0 l1_0.length c1_0) := (blk_cell BK106.out 0).trans rfl
      have hcz12_1 : w5.cell? ⟨gb106, 1, none⟩ = some (.slice A1_1 l1_1.length c1_1) := (blk_cell BK106.out 1).trans rfl
      have hcz12_2 : w5.cell? ⟨gb106, 2, none⟩ = some (.int .i64 a1_2) := (blk_cell BK106.out 2).trans rfl
      have hfz12_0 := blk_frozen BK106.out 0
      have hfz12_1 := blk_frozen BK106.out 1
      have hfz12_2 := blk_frozen BK106.out 2
      go_wp2
      repeat (go_quiet (fail); try go_wp2)
      go_meet
      case rel => exact ⟨_, (true), (by first | rfl | (simp; done) | (simp [*]; done)), H', ⟨by first | omega | exact Nat.le_refl _⟩, ⟨by (with_reducible repeat (first | refine blk_drewN ?_ _ | refine blk_drew ?_ | refine blk_alloc ?_ _)); exact BK105.out⟩, ⟨by (with_reducible repeat (first | refine blk_drewN ?_ _ | refine blk_drew ?_ | refine blk_alloc ?_ _)); exact BK106.out⟩, ⟨by repeat (first | (with_reducible first | exact HB.out | apply below_alloc | apply pw_below_drewN | apply below_drew1 | refine below_set ?_ GE105.out | refine below_set ?_ GE106.out) | exact HB.out)⟩⟩
  case rest =>
    clear HC3
    try clear c1
    try clear p2
    try clear c6
    try clear c6b0
    try clear c6b1
    try clear c6b2
    try clear c7
    try clear c10
    try clear c12
    try clear hcz11_0
    try clear hcz11_1
    try clear hcz11_2
    try clear hcz12_0
    try clear hcz12_1
    try clear hcz12_2
    try clear hcz8_0
    try clear hcz8_1
    try clear hcz8_2
    try clear hcz9_0
    try clear hcz9_1
    try clear hcz9_2
    try clear hfz11_0
    try clear hfz11_1
    try clear hfz11_2
    try clear hfz12_0
    try clear hfz12_1
    try clear hfz12_2
    try clear hfz8_0
    try clear hfz8_1
    try clear hfz8_2
    try clear hfz9_0
    try clear hfz9_1
    try clear hfz9_2
    obtain ⟨kq, x19_2, rfl, HA, HJ2, BK105, BK106, HB⟩ := hcut
    cases kq with
    | zero => exact absurd HA.out (by simp [malthouseref18_Same.j0])
    | succ kj2 =>
      have H := HA.out
      clear HA
      simp only [malthouseref18_Same.j0] at H
      by_cases c13 : x19_2 = true
      · subst c13
        have H1 : (some false) = some r := by rw [if_pos rfl] at H; exact H
        clear H
        have H := H1
        clear H1
        obtain rfl := Option.some.inj H
        go_wp2
        repeat (go_quiet (fail); try go_wp2)
        go_ret
        exact ⟨by first | rfl | (simp [errW_none, errW_some] <;> rfl) | (simp [*, errW_none, errW_some] <;> rfl), by repeat (first | (with_reducible first | exact HB.out | apply below_alloc | apply pw_below_drewN | apply below_drew1 | refine below_set ?_ GE105.out | refine below_set ?_ GE106.out) | exact HB.out)⟩
      · replace c13 := Bool.eq_false_iff.mpr c13
        subst c13
        have H1 : (malthouseref18_Same.l0 kj2 0 l0_0 l0_1 a0_2 l1_0 l1_1 a1_2) = some r := by rw [if_neg (show ¬ (false = true) by decide)] at H; exact H
        clear H
        have H := H1
        clear H1
        have H' := Aside0.mk H
        clear H
        go_wp2
        repeat (go_quiet (fail); try go_wp2)
        go_loopg [5] kj2 (fun kq v5 w' => ∃ (x5_2 : Int), v5 = .int .i64 x5_2 ∧ Aside0 (malthouseref18_Same.l0 kq x5_2 l0_0 l0_1 a0_2 l1_0 l1_1 a1_2 = some r) ∧ Aside0 (kq ≤ kj2) ∧ Aside0 (w'.heap[gb105]? = some (.cells #[(.slice A0_0 l0_0.length c0_0), (.slice A0_1 l0_1.length c0_1), .int .i64 a0_2] 25 (0, 0))) ∧ Aside0 (w'.heap[gb106]? = some (.cells #[(.slice A1_0 l1_0.length c1_0), (.slice A1_1 l1_1.length c1_1), .int .i64 a1_2] 25 (0, 0))) ∧ Aside0 (Below w.heap.size w w'))
        case atStart => exact ⟨(0), (by first | rfl | (simp; done) | (simp [*]; done)), H', ⟨Nat.le_refl _⟩, ⟨by (with_reducible repeat (first | refine blk_drewN ?_ _ | refine blk_drew ?_ | refine blk_alloc ?_ _)); exact BK105.out⟩, ⟨by (with_reducible repeat (first | refine blk_drewN ?_ _ | refine blk_drew ?_ | refine blk_alloc ?_ _)); exact BK106.out⟩, ⟨by repeat (first | (with_reducible first | exact HB.out | apply below_alloc | apply pw_below_drewN | apply below_drew1 | refine below_set ?_ GE105.out | refine below_set ?_ GE106.out) | exact HB.out)⟩⟩
        case round =>
          clear H'
          try clear c1
          try clear p2
          try clear c6
          try clear c6b0
          try clear c6b1
          try clear c6b2
          try clear c7
          try clear c10
          try clear c12
          try clear c13
          try clear hcz11_0
          try clear hcz11_1
          try clear hcz11_2
          try clear hcz12_0
          try clear hcz12_1
          try clear hcz12_2
          try clear hcz8_0
          try clear hcz8_1
          try clear hcz8_2
          try clear hcz9_0
          try clear hcz9_1
          try clear hcz9_2
          try clear hfz11_0
          try clear hfz11_1
          try clear hfz11_2
          try clear hfz12_0
          try clear hfz12_1
          try clear hfz12_2
          try clear hfz8_0
          try clear hfz8_1
          try clear hfz8_2
          try clear hfz9_0
          try clear hfz9_1
          try clear hfz9_2
          try clear p2
          obtain ⟨x5_2, rfl, HA, HK2, BK105, BK106, HB⟩ := hrel
          cases gk with
          | zero => exact absurd HA.out (by simp [malthouseref18_Same.l0])
          | succ k2 =>
            have H := HA.out
            clear HA
            simp only [malthouseref18_Same.l0] at H
            by_cases c14 : x5_2 < (l0_1.length : Int)
            · rw [if_pos c14] at H
              have c14b0 : decide (x5_2 < (l0_1.length : Int)) = true := decide_eq_true c14
              clear c14
              by_cases c15 : 0 ≤ x5_2
              · rw [if_pos c15] at H
                have c15b0 : decide (0 ≤ x5_2) = true := decide_eq_true c15
                clear c15
                by_cases c16 : x5_2 < (l1_1.length : Int)
                · rw [if_pos c16] at H
                  have c16b0 : decide (x5_2 < (l1_1.length : Int)) = true := decide_eq_true c16
                  clear c16
                  by_cases c17 : (!(((rd_T35 l0_1 x5_2).f0) == ((rd_T35 l1_1 x5_2).f0)) || (!(((rd_T35 l0_1 x5_2).f1) == ((rd_T35 l1_1 x5_2).f1)) || (!(((rd_T35 l0_1 x5_2).f2) == ((rd_T35 l1_1 x5_2).f2))))) = true
                  · rw [if_pos c17] at H
                    have c17b0 : (!(((rd_T35 l0_1 x5_2).f0) == ((rd_T35 l1_1 x5_2).f0)) || (!(((rd_T35 l0_1 x5_2).f1) == ((rd_T35 l1_1 x5_2).f1)) || (!(((rd_T35 l0_1 x5_2).f2) == ((rd_T35 l1_1 x5_2).f2))))) = true := c17
                    clear c17
                    obtain rfl := Option.some.inj H
                    have hnb18 := NB105_106.out
                    have hnc18 := NB106_105.out
                    have hcz19_0 : wr.cell? ⟨gb105, 0, none⟩ = some (.slice A0_0 l0_0.length c0_0) := (blk_cell BK105.out 0).trans rfl
                    have hcz19_1 : wr.cell? ⟨gb105, 1, none⟩ = some (.slice A0_1 l0_1.length c0_1) := (blk_cell BK105.out 1).trans rfl
                    have hcz19_2 : wr.cell? ⟨gb105, 2, none⟩ = some (.int .i64 a0_2) := (blk_cell BK105.out 2).trans rfl
                    have hfz19_0 := blk_frozen BK105.out 0
                    have hfz19_1 := blk_frozen BK105.out 1
                    have hfz19_2 := blk_frozen BK105.out 2
                    have p107 : 0 ≤ (x5_2 : Int) := of_decide_eq_true (by first | (with_reducible assumption) | assumption)
                    have q107 : x5_2 < (l0_1.length : Int) := of_decide_eq_true (by first | (with_reducible assumption) | assumption)
                    obtain ⟨ad107, e107, hx107_0, hx107_1, hx107_2⟩ := at_T35 HR0_1.out x5_2 p107 q107
                    cases e107
                    replace hx107_0 := (HB.out.cell (World.block_lt_of_cell? w _ hx107_0)).trans hx107_0
                    replace hx107_1 := (HB.out.cell (World.block_lt_of_cell? w _ hx107_1)).trans hx107_1
                    replace hx107_2 := (HB.out.cell (World.block_lt_of_cell? w _ hx107_2)).trans hx107_2
                    replace p107 := eq_true p107
                    replace q107 := eq_true q107
                    have hcz20_0 : wr.cell? ⟨gb106, 0, none⟩ = some (.slice A1_0 l1_0.length c1_0) := (blk_cell BK106.out 0).trans rfl
                    have hcz20_1 : wr.cell? ⟨gb106, 1, none⟩ = some (.slice A1_1 l1_1.length c1_1) := (blk_cell BK106.out 1).trans rfl
                    have hcz20_2 : wr.cell? ⟨gb106, 2, none⟩ = some (.int .i64 a1_2) := (blk_cell BK106.out 2).trans rfl
                    have hfz20_0 := blk_frozen BK106.out 0
                    have hfz20_1 := blk_frozen BK106.out 1
                    have hfz20_2 := blk_frozen BK106.out 2
                    have p108 : 0 ≤ (x5_2 : Int) := of_decide_eq_true (by first | (with_reducible assumption) | assumption)
                    have q108 : x5_2 < (l1_1.length : Int) := of_decide_eq_true (by first | (with_reducible assumption) | assumption)
                    obtain ⟨ad108, e108, hx108_0, hx108_1, hx108_2⟩ := at_T35 HR1_1.out x5_2 p108 q108
                    cases e108
                    replace hx108_0 := (HB.out.cell (World.block_lt_of_cell? w _ hx108_0)).trans hx108_0
                    replace hx108_1 := (HB.out.cell (World.block_lt_of_cell? w _ hx108_1)).trans hx108_1
                    replace hx108_2 := (HB.out.cell (World.block_lt_of_cell? w _ hx108_2)).trans hx108_2
                    replace p108 := eq_true p108
                    replace q108 := eq_true q108
                    go_wp2
                    repeat (go_quiet (fail); try go_wp2)
                    go_ret
                    exact ⟨by first | rfl | (simp [errW_none, errW_some] <;> rfl) | (simp [*, errW_none, errW_some] <;> rfl), by repeat (first | (with_reducible first | exact HB.out | apply below_alloc | apply pw_below_drewN | apply below_drew1 | refine below_set ?_ GE105.out | refine below_set ?_ GE106.out) | exact HB.out)⟩
                  · rw [if_neg c17] at H
                    have c17b0 : (!(((rd_T35 l0_1 x5_2).f0) == ((rd_T35 l1_1 x5_2).f0)) || (!(((rd_T35 l0_1 x5_2).f1) == ((rd_T35 l1_1 x5_2).f1)) || (!(((rd_T35 l0_1 x5_2).f2) == ((rd_T35 l1_1 x5_2).f2))))) = false := by simpa using c17
                    clear c17
                    have H' := Aside0.mk H
                    clear H
                    have hnb21 := NB105_106.out
                    have hnc21 := NB106_105.out
                    have hcz22_0 : wr.cell? ⟨gb105, 0, none⟩ = some (.slice A0_0 l0_0.length c0_0) := (blk_cell BK105.out 0).trans rfl
                    have hcz22_1 : wr.cell? ⟨gb105, 1, none⟩ = some (.slice A0_1 l0_1.length c0_1) := (blk_cell BK105.out 1).trans rfl
                    have hcz22_2 : wr.cell? ⟨gb105, 2, none⟩ = some (.int .i64 a0_2) := (blk_cell BK105.out 2).trans rfl
                    have hfz22_0 := blk_frozen BK105.out 0
                    have hfz22_1 := blk_frozen BK105.out 1
                    have hfz22_2 := blk_frozen BK105.out 2
                    have p107 : 0 ≤ (x5_2 : Int) := of_decide_eq_true (by first | (with_reducible assumption) | assumption)
                    have q107 : x5_2 < (l0_1.length : Int) := of_decide_eq_true (by first | (with_reducible assumption) | assumption)
                    obtain ⟨ad107, e107, hx107_0, hx107_1, hx107_2⟩ := at_T35 HR0_1.out x5_2 p107 q107
                    cases e107
                    replace hx107_0 := (HB.out.cell (World.block_lt_of_cell? w _ hx107_0)).trans hx107_0
                    replace hx107_1 := (HB.out.cell (World.block_lt_of_cell? w _ hx107_1)).trans hx107_1
                    replace hx107_2 := (HB.out.cell (World.block_lt_of_cell? w _ hx107_2)).trans hx107_2
                    replace p107 := eq_true p107
                    replace q107 := eq_true q107
                    have hcz23_0 : wr.cell? ⟨gb106, 0, none⟩ = some (.slice A1_0 l1_0.length c1_0) := (blk_cell BK106.out 0).trans rfl
                    have hcz23_1 : wr.cell? ⟨gb106, 1, none⟩ = some (.slice A1_1 l1_1.length c1_1) := (blk_cell BK106.out 1).trans rfl
                    have hcz23_2 : wr.cell? ⟨gb106, 2, none⟩ = some (.int .i64 a1_2) := (blk_cell BK106.out 2).trans rfl
                    have hfz23_0 := blk_frozen BK106.out 0
                    have hfz23_1 := blk_frozen BK106.out 1
                    have hfz23_2 := blk_frozen BK106.out 2
                    have p108 : 0 ≤ (x5_2 : Int) := of_decide_eq_true (by first | (with_reducible assumption) | assumption)
                    have q108 : x5_2 < (l1_1.length : Int) := of_decide_eq_true (by first | (with_reducible assumption) | assumption)
                    obtain ⟨ad108, e108, hx108_0, hx108_1, hx108_2⟩ := at_T35 HR1_1.out x5_2 p108 q108
                    cases e108
                    replace hx108_0 := (HB.out.cell (World.block_lt_of_cell? w _ hx108_0)).trans hx108_0
                    replace hx108_1 := (HB.out.cell (World.block_lt_of_cell? w _ hx108_1)).trans hx108_1
                    replace hx108_2 := (HB.out.cell (World.block_lt_of_cell? w _ hx108_2)).trans hx108_2
                    replace p108 := eq_true p108
                    replace q108 := eq_true q108
                    go_wp2
                    repeat (go_quiet (fail); try go_wp2)
                    go_roundg k2
                    case measure => have := HJ2.out; have := HK2.out; omega
                    case rel => exact ⟨(wrap64 (x5_2 + 1)), (by first | rfl | (simp; done) | (simp [*]; done)), H', ⟨by have := HJ2.out; have := HK2.out; omega⟩, ⟨by (with_reducible repeat (first | refine blk_drewN ?_ _ | refine blk_drew ?_ | refine blk_alloc ?_ _)); exact BK105.out⟩, ⟨by (with_reducible repeat (first | refine blk_drewN ?_ _ | refine blk_drew ?_ | refine blk_alloc ?_ _)); exact BK106.out⟩, ⟨by repeat (first | (with_reducible first | exact HB.out | apply below_alloc | apply pw_below_drewN | apply below_drew1 | refine below_set ?_ GE105.out | refine below_set ?_ GE106.out) | exact HB.out)⟩⟩
                · rw [if_neg c16] at H
                  exact absurd H (by simp)
              · rw [if_neg c15] at H
                exact absurd H (by simp)
            · rw [if_neg c14] at H
              have c14b0 : decide (x5_2 < (l0_1.length : Int)) = false := decide_eq_false c14
              clear c14
              replace H := Option.bind_eq_some_iff.mp H
              obtain ⟨t109, A240, H⟩ := H
              replace H : (some t109) = some r := H
              have A24 := Aside0.mk A240
              clear A240
              obtain rfl := Option.some.inj H
              have hnb25 := NB105_106.out
              have hnc25 := NB106_105.out
              have hcz26_0 : wr.cell? ⟨gb105, 0, none⟩ = some (.slice A0_0 l0_0.length c0_0) := (blk_cell BK105.out 0).trans rfl
              have hcz26_1 : wr.cell? ⟨gb105, 1, none⟩ = some (.slice A0_1 l0_1.length c0_1) := (blk_cell BK105.out 1).trans rfl
              have hcz26_2 : wr.cell? ⟨gb105, 2, none⟩ = some (.int .i64 a0_2) := (blk_cell BK105.out 2).trans rfl
              have hfz26_0 := blk_frozen BK105.out 0
              have hfz26_1 := blk_frozen BK105.out 1
              have hfz26_2 := blk_frozen BK105.out 2
              have hcz27_0 : wr.cell? ⟨gb106, 0, none⟩ = some (.slice A1_0 l1_0.length c1_0) := (blk_cell BK106.out 0).trans rfl
              have hcz27_1 : wr.cell? ⟨gb106, 1, none⟩ = some (.slice A1_1 l1_1.length c1_1) := (blk_cell BK106.out 1).trans rfl
              have hcz27_2 : wr.cell? ⟨gb106, 2, none⟩ = some (.int .i64 a1_2) := (blk_cell BK106.out 2).trans rfl
              have hfz27_0 := blk_frozen BK106.out 0
              have hfz27_1 := blk_frozen BK106.out 1
              have hfz27_2 := blk_frozen BK106.out 2
              go_wp2_with (first | (go_at_call 13; (with_reducible refine (malthouseref18_Entries.calls k2 _ _ l0_0 _ _ l1_0 t109 _ ?side1 ?side2 ?side3 ?side4 A24.out).mono ?_); (case side1 => repeat (first | exact (Kd.C_below HR0_0.out HB.out) | (with_reducible refine Kd.C_alloc ?_ _) | (with_reducible refine Kd.C_drewN ?_ _) | (with_reducible refine Kd.C_drew ?_))); (case side2 => exact HC0_0.out); (case side3 => repeat (first | exact (Kd.C_below HR1_0.out HB.out) | (with_reducible refine Kd.C_alloc ?_ _) | (with_reducible refine Kd.C_drewN ?_ _) | (with_reducible refine Kd.C_drew ?_))); (case side4 => exact HC1_0.out); rintro e w' ⟨rfl, ⟨nd, rfl⟩⟩; (try first | exact ⟨rfl, _, World.drewN_drewN _ _ _⟩ | exact ⟨rfl, _, Eq.trans (World.drewN_drewN _ _ _) (congrArg (World.drewN _) (Nat.add_assoc _ _ _))⟩)))
              repeat (go_quiet (first | (go_at_call 13; (with_reducible refine (malthouseref18_Entries.calls k2 _ _ l0_0 _ _ l1_0 t109 _ ?side1 ?side2 ?side3 ?side4 A24.out).mono ?_); (case side1 => repeat (first | exact (Kd.C_below HR0_0.out HB.out) | (with_reducible refine Kd.C_alloc ?_ _) | (with_reducible refine Kd.C_drewN ?_ _) | (with_reducible refine Kd.C_drew ?_))); (case side2 => exact HC0_0.out); (case side3 => repeat (first | exact (Kd.C_below HR1_0.out HB.out) | (with_reducible refine Kd.C_alloc ?_ _) | (with_reducible refine Kd.C_drewN ?_ _) | (with_reducible refine Kd.C_drew ?_))); (case side4 => exact HC1_0.out); rintro e w' ⟨rfl, ⟨nd, rfl⟩⟩; (try first | exact ⟨rfl, _, World.drewN_drewN _ _ _⟩ | exact ⟨rfl, _, Eq.trans (World.drewN_drewN _ _ _) (congrArg (World.drewN _) (Nat.add_assoc _ _ _))⟩))); try go_wp2_with (first | (go_at_call 13; (with_reducible refine (malthouseref18_Entries.calls k2 _ _ l0_0 _ _ l1_0 t109 _ ?side1 ?side2 ?side3 ?side4 A24.out).mono ?_); (case side1 => repeat (first | exact (Kd.C_below HR0_0.out HB.out) | (with_reducible refine Kd.C_alloc ?_ _) | (with_reducible refine Kd.C_drewN ?_ _) | (with_reducible refine Kd.C_drew ?_))); (case side2 => exact HC0_0.out); (case side3 => repeat (first | exact (Kd.C_below HR1_0.out HB.out) | (with_reducible refine Kd.C_alloc ?_ _) | (with_reducible refine Kd.C_drewN ?_ _) | (with_reducible refine Kd.C_drew ?_))); (case side4 => exact HC1_0.out); rintro e w' ⟨rfl, ⟨nd, rfl⟩⟩; (try first | exact ⟨rfl, _, World.drewN_drewN _ _ _⟩ | exact ⟨rfl, _, Eq.trans (World.drewN_drewN _ _ _) (congrArg (World.drewN _) (Nat.add_assoc _ _ _))⟩))))
              go_ret
              exact ⟨by first | rfl | (simp [errW_none, errW_some] <;> rfl) | (simp [*, errW_none, errW_some] <;> rfl), by repeat (first | (with_reducible first | exact HB.out | apply below_alloc | apply pw_below_drewN | apply below_drew1 | refine below_set ?_ GE105.out | refine below_set ?_ GE106.out) | exact HB.out)⟩
end Go.Proofs.YtghpmpjoedbpcaaDoor.Print
/-! ### JLaw1 -/
namespace Go.Proofs.YtghpmpjoedbpcaaDoor.Print
open Go.RowKit Go.Proofs.YtghpmpjoedbpcaaDoorW.PrintWords Go.Proofs.YtghpmpjoedbpcaaDoorW.PrintLast Go.Proofs.YtghpmpjoedbpcaaDoorW.PrintMore
set_option linter.unusedSimpArgs false
set_option linter.unusedVariables false
theorem wrapS (i : Nat) (h : i < 1000000000000) : wrap64 ((i : Int) + 1) = ((i + 1 : Nat) : Int) := by
  have : wrap64 ((i : Int) + 1) = (i : Int) + 1 := by unfold wrap64; omega
  rw [this]; omega
theorem rd_e (l : List S27) (i : Nat) (hi : i < l.length) : rd_T27 l (i : Int) = l[i] := by
  unfold rd_T27
  simp [List.getD_eq_getElem?_getD, List.getElem?_eq_getElem hi]
theorem rd_q (l : List S35) (i : Nat) (hi : i < l.length) : rd_T35 l (i : Int) = l[i] := by
  unfold rd_T35
  simp [List.getD_eq_getElem?_getD, List.getElem?_eq_getElem hi]
def shortE (e : S27) : Bool := decide (e.f3.size ≤ 200)
def lightB (l : List S27) (q : List S35) : Bool := decide (l.length ≤ 300) && decide (q.length ≤ 300) && l.all shortE
theorem light_loop (l : List S27) (q : List S35) (g : Int) (hl : l.length ≤ 1000000000) : ∀ (f i k : Nat), l.length ≤ i + f → i ≤ l.length → f < k → malthouseref18_Light.l0 k (i : Int) l q g = some ((l.drop i).all shortE) := by
  intro f
  induction f with
  | zero =>
    intro i k h1 h2 hk
    obtain ⟨k, rfl⟩ : ∃ m, k = m + 1 := ⟨k - 1, by omega⟩
    rw [malthouseref18_Light.l0, if_neg (by omega), List.drop_eq_nil_of_le (by omega)]
    rfl
  | succ f ih =>
    intro i k h1 h2 hk
    obtain ⟨k, rfl⟩ : ∃ m, k = m + 1 := ⟨k - 1, by omega⟩
    rw [malthouseref18_Light.l0]
    by_cases hi : i < l.length
    · rw [if_pos (by omega), if_pos (by omega), rd_e l i hi, wrapS i (by omega), List.drop_eq_getElem_cons hi, List.all_cons]
      by_cases hs : l[i].f3.size ≤ 200
      · rw [if_neg (by omega), ih (i + 1) k (by omega) (by omega) (by omega), show shortE l[i] = true from by unfold shortE; simpa using hs, Bool.true_and]
      · rw [if_pos (by omega), show shortE l[i] = false from by unfold shortE; simpa using hs, Bool.false_and]
    · rw [if_neg (by omega), List.drop_eq_nil_of_le (by omega)]
      rfl
theorem light_is (l : List S27) (q : List S35) (g : Int) (k : Nat) (hk : 302 < k) : malthouseref18_Light.f k l q g = some (lightB l q) := by
  obtain ⟨k, rfl⟩ : ∃ m, k = m + 1 := ⟨k - 1, by omega⟩
  unfold malthouseref18_Light.f lightB
  by_cases h : l.length ≤ 300
  · rw [if_neg (by omega), malthouseref18_Light.j0]
    by_cases h2 : q.length ≤ 300
    · have := light_loop l q g (by omega) l.length 0 k (by omega) (by omega) (by omega)
      rw [if_neg (by simp; omega), show decide (l.length ≤ 300) = true by simpa using h, show decide (q.length ≤ 300) = true by simpa using h2]
      simpa using this
    · rw [if_pos (by simp; omega), show decide (q.length ≤ 300) = false by simpa using h2]
      simp
  · rw [if_pos (by omega), malthouseref18_Light.j0, if_pos rfl, show decide (l.length ≤ 300) = false by simpa using h]
    simp
theorem lightB_ok {l : List S27} {q : List S35} (g : Int) (h : lightB l q = true) : Jok ⟨l, q, g⟩ ∧ l.length ≤ 300 ∧ q.length ≤ 300 ∧ ∀ e ∈ l, e.f3.size ≤ 200 := by
  unfold lightB at h
  simp only [Bool.and_eq_true, decide_eq_true_eq, List.all_eq_true] at h
  obtain ⟨⟨h1, h2⟩, h3⟩ := h
  have h4 : ∀ e ∈ l, e.f3.size ≤ 200 := fun e he => by have := h3 e he; unfold shortE at this; simpa using this
  exact ⟨⟨fun e he => by have := h4 e he; omega, by show l.length ≤ _; omega, by show q.length ≤ _; omega⟩, h1, h2, h4⟩
theorem entries_loop (l : List S27) (hl : l.length ≤ 1000000000) : ∀ (f i k : Nat), l.length ≤ i + f → i ≤ l.length → f < k → malthouseref18_Entries.l0 k l l (i : Int) = some true := by
  intro f
  induction f with
  | zero =>
    intro i k h1 h2 hk
    obtain ⟨k, rfl⟩ : ∃ m, k = m + 1 := ⟨k - 1, by omega⟩
    rw [malthouseref18_Entries.l0, if_neg (by omega)]
  | succ f ih =>
    intro i k h1 h2 hk
    obtain ⟨k, rfl⟩ : ∃ m, k = m + 1 := ⟨k - 1, by omega⟩
    rw [malthouseref18_Entries.l0]
    by_cases hi : i < l.length
    · rw [if_pos (by omega), if_pos (by omega), if_pos (by omega), wrapS i (by omega), if_neg (by simp), ih (i + 1) k (by omega) (by omega) (by omega)]
    · rw [if_neg (by omega)]
theorem entries_refl (l : List S27) (k : Nat) (hl : l.length ≤ 1000000000) (hk : l.length < k) : malthouseref18_Entries.f k l l = some true := by
  unfold malthouseref18_Entries.f
  rw [if_pos rfl]
  have := entries_loop l hl l.length 0 k (by omega) (by omega) (by omega)
  simpa using this
theorem same_loop (l : List S27) (q : List S35) (g : Int) (hl : l.length ≤ 1000000000) (hq : q.length ≤ 1000000000) : ∀ (f i k : Nat), q.length ≤ i + f → i ≤ q.length → l.length + f + 1 < k → malthouseref18_Same.l0 k (i : Int) l q g l q g = some true := by
  intro f
  induction f with
  | zero =>
    intro i k h1 h2 hk
    obtain ⟨k, rfl⟩ : ∃ m, k = m + 1 := ⟨k - 1, by omega⟩
    rw [malthouseref18_Same.l0, if_neg (by omega), entries_refl l k hl (by omega)]
    rfl
  | succ f ih =>
    intro i k h1 h2 hk
    obtain ⟨k, rfl⟩ : ∃ m, k = m + 1 := ⟨k - 1, by omega⟩
    rw [malthouseref18_Same.l0]
    by_cases hi : i < q.length
    · rw [if_pos (by omega), if_pos (by omega), if_pos (by omega), wrapS i (by omega), if_neg (by simp), ih (i + 1) k (by omega) (by omega) (by omega)]
    · rw [if_neg (by omega), entries_refl l k hl (by omega)]
      rfl
theorem same_refl (l : List S27) (q : List S35) (g : Int) (k : Nat) (hl : l.length ≤ 1000000000) (hq : q.length ≤ 1000000000) (hk : l.length + q.length + 2 < k) : malthouseref18_Same.f k l q g l q g = some true := by
  obtain ⟨k, rfl⟩ : ∃ m, k = m + 1 := ⟨k - 1, by omega⟩
  unfold malthouseref18_Same.f
  rw [if_pos rfl, malthouseref18_Same.j0, if_neg (by simp)]
  have := same_loop l q g hl hq q.length 0 k (by omega) (by omega) (by omega)
  simpa using this
end Go.Proofs.YtghpmpjoedbpcaaDoor.Print
/-! ### JLaw2 -/
namespace Go.Proofs.YtghpmpjoedbpcaaDoor.Print
open Go.RowKit Go.Proofs.YtghpmpjoedbpcaaDoorW.PrintWords Go.Proofs.YtghpmpjoedbpcaaDoorW.PrintLast Go.Proofs.YtghpmpjoedbpcaaDoorW.PrintMore
set_option linter.unusedSimpArgs false
set_option linter.unusedVariables false
theorem qAt_get {q : List S35} {i : Nat} (h : i < q.length) : qAt q i = q[i] := by unfold qAt; simp [List.getD_eq_getElem?_getD, List.getElem?_eq_getElem h]
theorem placeB_at {q : List S35} {n : Int} (h : placeB q n = true) : (qAt q (placeI q n)).f0 = n := by
  have hlt := placeB_lt h
  rw [qAt_get hlt]
  unfold placeB at h
  rw [List.drop_eq_getElem_cons hlt] at h
  simpa using h
theorem add_len (j : Jn) (e : S27) (h0 : j.l.length ≤ 300) (h1 : j.q.length ≤ 300) : (addJ j e).1.l.length ≤ 301 ∧ (addJ j e).1.q.length ≤ 301 := by
  unfold addJ
  split
  · exact ⟨Nat.zero_le _, Nat.zero_le _⟩
  · split
    · split
      · exact ⟨Nat.zero_le _, Nat.zero_le _⟩
      · show (j.l ++ [e]).length ≤ 301 ∧ (lessAt j.q _).length ≤ 301
        unfold lessAt
        rw [List.length_set, List.length_append]
        simp
        omega
    · split
      · exact ⟨Nat.zero_le _, Nat.zero_le _⟩
      · show (j.l ++ [e]).length ≤ 301 ∧ j.q.length ≤ 301
        rw [List.length_append]
        simp
        omega
end Go.Proofs.YtghpmpjoedbpcaaDoor.Print
/-! ### JLaw3 -/
namespace Go.Proofs.YtghpmpjoedbpcaaDoor.Print
open Go.RowKit Go.Proofs.YtghpmpjoedbpcaaDoorW.PrintWords Go.Proofs.YtghpmpjoedbpcaaDoorW.PrintLast Go.Proofs.YtghpmpjoedbpcaaDoorW.PrintMore
set_option linter.unusedSimpArgs false
set_option linter.unusedVariables false
def sumLeft : List S35 → Int
  | [] => 0
  | x :: q => x.f1 + sumLeft q
theorem sumLeft_ge (q : List S35) (h : leftOk q) : 0 ≤ sumLeft q := by
  induction q with
  | nil => exact Int.le_refl _
  | cons x q ih =>
    have := h x (by simp)
    have := ih (fun y hy => h y (List.mem_cons_of_mem _ hy))
    unfold sumLeft
    omega
def tot (j : Jn) : Int := j.l.length + sumLeft j.q
theorem usedFrom_tot : ∀ (q : List S35) (n : Int), leftOk q → 0 ≤ n → usedFrom (mn n 121) q = mn (n + sumLeft q) 121
  | [], n, _, _ => by simp [usedFrom, sumLeft]
  | x :: q, n, h, hn => by
    have hx := h x (by simp)
    unfold usedFrom sumLeft
    have e : mn (mn n 121 + x.f1) 121 = mn (n + x.f1) 121 := by unfold mn; repeat' split <;> omega
    rw [e, usedFrom_tot q (n + x.f1) (fun y hy => h y (List.mem_cons_of_mem _ hy)) (by omega)]
    congr 1
    omega
theorem usedZ_tot (j : Jn) (h : leftOk j.q) : usedZ j.l j.q = mn (tot j) 121 := usedFrom_tot j.q _ h (by omega)
theorem rising_pair : ∀ (q : List S35), risingB q = true ↔ (q.map (·.f0)).Pairwise (· < ·)
  | [] => by simp [risingB]
  | x :: q => by
    constructor
    · intro h
      rw [List.map_cons, List.pairwise_cons]
      refine ⟨fun a ha => ?_, (rising_pair q).1 (rising_tail q x h)⟩
      obtain ⟨y, hy, rfl⟩ := List.mem_map.1 ha
      exact rising_head q x h y hy
    · intro h
      rw [List.map_cons, List.pairwise_cons] at h
      have ih := (rising_pair q).2 h.2
      cases q with
      | nil => rfl
      | cons z q =>
        show (decide (x.f0 < z.f0) && risingB (z :: q)) = true
        rw [ih, decide_eq_true (h.1 _ (by simp))]
        rfl
theorem place_lt : ∀ (q : List S35) (b : Int), ∀ a ∈ q.take (placeI q b), a.f0 < b
  | [], b => by simp
  | x :: q, b => by
    unfold placeI
    split
    · rename_i h
      rw [List.take_succ_cons]
      intro a ha
      rcases List.mem_cons.1 ha with rfl | ha
      · exact h
      · exact place_lt q b a ha
    · simp
theorem place_ge : ∀ (q : List S35) (b : Int), (q.map (·.f0)).Pairwise (· < ·) → ∀ c ∈ q.drop (placeI q b), b ≤ c.f0
  | [], b, _ => by simp
  | x :: q, b, h => by
    rw [List.map_cons, List.pairwise_cons] at h
    unfold placeI
    split
    · rw [List.drop_succ_cons]
      exact place_ge q b h.2
    · rename_i hx
      intro c hc
      rw [List.drop_zero] at hc
      rcases List.mem_cons.1 hc with rfl | hc
      · omega
      · have := h.1 c.f0 (List.mem_map_of_mem hc)
        omega
theorem place_gt (q : List S35) (b : Int) (h : (q.map (·.f0)).Pairwise (· < ·)) (hp : placeB q b = false) : ∀ c ∈ q.drop (placeI q b), b < c.f0 := by
  intro c hc
  have hge := place_ge q b h
  unfold placeB at hp
  cases hd : q.drop (placeI q b) with
  | nil => rw [hd] at hc; cases hc
  | cons x r =>
    rw [hd] at hp hc hge
    have hne : x.f0 ≠ b := by simpa using hp
    have hx := hge x (by simp)
    have hpw : ((x :: r).map (·.f0)).Pairwise (· < ·) := by
      rw [← hd, List.map_drop]
      exact h.drop
    rw [List.map_cons, List.pairwise_cons] at hpw
    rcases List.mem_cons.1 hc with rfl | hc
    · omega
    · have := hpw.1 c.f0 (List.mem_map_of_mem hc)
      omega
theorem odd_parts {x : S35} (h : oddB x = false) : (1 ≤ x.f0 ∧ x.f0 ≤ 1099511627776) ∧ (0 ≤ x.f1 ∧ x.f1 ≤ 40) ∧ (0 ≤ x.f2 ∧ x.f2 ≤ 1099511627776) := by
  unfold oddB wi at h
  simp only [Bool.or_eq_false_iff, Bool.not_eq_false', Bool.and_eq_true, decide_eq_true_eq, decide_eq_false_iff_not] at h
  omega
theorem odd_mk {x : S35} (h : (1 ≤ x.f0 ∧ x.f0 ≤ 1099511627776) ∧ (0 ≤ x.f1 ∧ x.f1 ≤ 40) ∧ (0 ≤ x.f2 ∧ x.f2 ≤ 1099511627776)) : oddB x = false := by
  unfold oddB wi
  simp only [Bool.or_eq_false_iff, Bool.not_eq_false', Bool.and_eq_true, decide_eq_true_eq, decide_eq_false_iff_not]
  omega
end Go.Proofs.YtghpmpjoedbpcaaDoor.Print
/-! ### JLaw4 -/
namespace Go.Proofs.YtghpmpjoedbpcaaDoor.Print
open Go.RowKit Go.Proofs.YtghpmpjoedbpcaaDoorW.PrintWords Go.Proofs.YtghpmpjoedbpcaaDoorW.PrintLast Go.Proofs.YtghpmpjoedbpcaaDoorW.PrintMore
set_option linter.unusedSimpArgs false
set_option linter.unusedVariables false
theorem place_of_mem : ∀ (q : List S35) (x : S35), (q.map (·.f0)).Pairwise (· < ·) → x ∈ q → placeB q x.f0 = true ∧ qAt q (placeI q x.f0) = x
  | [], x, _, h => by cases h
  | y :: q, x, h, hx => by
    rw [List.map_cons, List.pairwise_cons] at h
    rcases List.mem_cons.1 hx with rfl | hx
    · have e : placeI (x :: q) x.f0 = 0 := by unfold placeI; rw [if_neg (by omega)]
      refine ⟨?_, by rw [e]; rfl⟩
      unfold placeB
      rw [e]
      simp
    · have hlt := h.1 x.f0 (List.mem_map_of_mem hx)
      have e : placeI (y :: q) x.f0 = placeI q x.f0 + 1 := by
        show (if y.f0 < x.f0 then placeI q x.f0 + 1 else 0) = _
        rw [if_pos hlt]
      obtain ⟨h1, h2⟩ := place_of_mem q x h.2 hx
      refine ⟨?_, by rw [e]; exact h2⟩
      unfold placeB at h1 ⊢
      rw [e, List.drop_succ_cons]
      exact h1
end Go.Proofs.YtghpmpjoedbpcaaDoor.Print
/-! ### JCopied -/
namespace Go.Proofs.YtghpmpjoedbpcaaDoor.Print
open Go.RowKit Go.Proofs.YtghpmpjoedbpcaaDoorW.PrintWords Go.Proofs.YtghpmpjoedbpcaaDoorW.PrintLast Go.Proofs.YtghpmpjoedbpcaaDoorW.PrintMore
set_option linter.unusedSimpArgs false
set_option linter.unusedVariables false
theorem results_row1 {P : Program} {fn : Func} {p : Tmp} {ty : TypeId} (h : fn.results = #[.cell p ty]) (tmps : Array Value) (w : World) (g : Nat) (t : TypeId) (cs : Array Value) (fr : Nat × Nat) (d : TypeDesc)
    (hp : tmps.getD p undef = .pointer (some ⟨g, 0, none⟩)) (hg : w.heap[g]? = some (.cells cs t fr))
    (hu : P.underlying ty = some d) (hd : (match d with | .struct _ | .array _ _ => true | _ => false) = true) (hi : (P.info? ty).map (·.size) = some cs.size) :
    (results fn tmps).run P w = .ok (.agg cs) w := by
  unfold results
  rw [h]
  rw [Array.getD_eq_getD_getElem?] at hp
  simp [hp, asAddr, run_loadVar_row w g t ty cs fr d hg hu hd hi]
set_option maxHeartbeats 8000000 in
set_option maxRecDepth 100000 in
theorem copied_calls (A0 : Option Addr) (c0 : Nat) (A1 : Option Addr) (c1 : Nat) (j : Jn) (w : World) (h0 : j.l.length ≤ c0 ∧ Kd.C k27 w A0 j.l.length j.l) (h1 : j.q.length ≤ c1 ∧ Kd.C k35 w A1 j.q.length j.q) (hl : j.l.length ≤ 1000000000) (hq : j.q.length ≤ 1000000000) :
    Calls Tryd.prog 42 #[.agg #[.slice A0 j.l.length c0, .slice A1 j.q.length c1, .int .i64 j.g]] w fun x w' => ∃ v, x = .returned v ∧ JR w' w.heap.size v j.l j.q j.g ∧ Below w.heap.size w w' := by
  have HA := Lib.hid h0
  have HB := Lib.hid h1
  clear h0 h1
  go_enter Tryd.func42, Tryd.ntmps42
  go_wp2_with fail
  have HX1 := Lib.hid (show ((w.alloc (.cells #[.slice A0 j.l.length c0, .slice A1 j.q.length c1, .int .i64 j.g] 25)).alloc (.cells #[.slice none 0 0, .slice none 0 0, .int .i64 0] 25)).heap[w.heap.size]? = some (.cells #[.slice A0 j.l.length c0, .slice A1 j.q.length c1, .int .i64 j.g] 25 (0, 0)) from
    (((Only.refl [] (w.alloc (.cells #[.slice A0 j.l.length c0, .slice A1 j.q.length c1, .int .i64 j.g] 25))).alloc _).heap (heap_alloc_new w _) (by simp)))
  have HX2 := Lib.hid (show ((w.alloc (.cells #[.slice A0 j.l.length c0, .slice A1 j.q.length c1, .int .i64 j.g] 25)).alloc (.cells #[.slice none 0 0, .slice none 0 0, .int .i64 0] 25)).heap[w.heap.size + 1]? = some (.cells #[.slice none 0 0, .slice none 0 0, .int .i64 0] 25 (0, 0)) from by
    have := heap_alloc_new (w.alloc (.cells #[.slice A0 j.l.length c0, .slice A1 j.q.length c1, .int .i64 j.g] 25)) (.cells #[.slice none 0 0, .slice none 0 0, .int .i64 0] 25)
    rw [show (w.alloc (.cells #[.slice A0 j.l.length c0, .slice A1 j.q.length c1, .int .i64 j.g] 25)).heap.size = w.heap.size + 1 by simp] at this
    exact this)
  have HO0 := Lib.hid (((Only.refl [] w).alloc (.cells #[.slice A0 j.l.length c0, .slice A1 j.q.length c1, .int .i64 j.g] 25)).alloc (.cells #[.slice none 0 0, .slice none 0 0, .int .i64 0] 25))
  generalize (w.alloc (.cells #[.slice A0 j.l.length c0, .slice A1 j.q.length c1, .int .i64 j.g] 25)).alloc (.cells #[.slice none 0 0, .slice none 0 0, .int .i64 0] 25) = W0 at *
  generalize hb : w.heap.size = b at *
  have HBB := Lib.hid hb
  have HS0 := Lib.hid (show b + 1 < W0.heap.size from heap_lt HX2.out)
  clear hb
  refine L.grow_start [] 9 ((0, true, false) :: (1, true, false) :: (3, true, false) :: (4, true, false) :: (6, true, false) :: (7, true, false) :: (2, false, true) :: (5, false, true) :: (8, true, true) :: (9, false, true) :: []) (by kernel_rfl) (([], [1], some 3) :: ([0], [3], some 4) :: ([1], [4], some 5) :: ([], [1], some 6) :: ([3], [6], some 7) :: ([4, 2], [7], some 8) :: ([], [1], some 9) :: ([6], [9], some 10) :: ([2, 5, 7], [5, 8, 10], some 11) :: ([8, 5, 0, 1, 2, 3, 4, 5, 6, 7, 8], [2, 11], none) :: []) (by kernel_rfl) (by kernel_rfl) (n := 10) rfl (by kernel_rfl) (fun _ _ _ _ _ h => h) (fun wg hog => ?_)
  refine L.growe_start (N := 12) (by rfl) ?_
  have e0 : ∀ w', Only [] wg w' → w'.cell? ⟨b, 0, none⟩ = some (.slice A0 j.l.length c0) := fun w' k => (cell_of_row w' b 0 _ _ _ ((hog.trans k).heap HX1.out (by simp))).trans rfl
  have e1 : ∀ w', Only [] wg w' → w'.cell? ⟨b, 1, none⟩ = some (.slice A1 j.q.length c1) := fun w' k => (cell_of_row w' b 1 _ _ _ ((hog.trans k).heap HX1.out (by simp))).trans rfl
  have e2 : ∀ w', Only [] wg w' → w'.cell? ⟨b, 2, none⟩ = some (.int .i64 j.g) := fun w' k => (cell_of_row w' b 2 _ _ _ ((hog.trans k).heap HX1.out (by simp))).trans rfl
  have HW := Lib.hid (HO0.out.trans hog)
  have HY := Lib.hid (hog.heap HX2.out (by simp))
  have HSG := Lib.hid (show b + 1 < wg.heap.size from heap_lt HY.out)
  clear hog HX1 HX2
  iterate 6 (first | (refine L.ge_off rfl rfl rfl (by rfl) ?_) | (refine L.ge_move rfl rfl rfl (by rfl) rfl (by simp [L.evE, L.lk, Act.eval]; rfl) ?_) | (refine L.ge_pick rfl rfl rfl (by rfl) rfl (by simp [L.evE, L.lk, Act.eval]; rfl) (by simp [L.evE, L.lk, Act.eval]; rfl) ?_) | (refine L.ge_val rfl rfl rfl (by rfl) (by intro w' hw'; simp [execOp, L.evE, L.lk, Act.eval]; go_simp; rfl) ?_))
  refine ge_append_row rfl rfl rfl (by rfl) _ _ _ rfl wg.heap.size 27 6 56 (.agg #[.int .i64 0, .int .i64 0, .int .i64 0, .string ⟨#[]⟩, .int .i64 0, .int .i64 0]) Tryd.underlying22 info27 rfl (by omega) (.slice none 0 0) 0 [] (by simp [L.evE, L.lk, Act.eval]) (ownsRow_nil _ _ _ _) A0 j.l.length c0 (eRow j.l) (by simp [L.evE, L.lk, Act.eval]) (eRow_length _) (flat_e (Kd.C_below HA.out.2 HW.out.nil_below)) (eRow_one _) (by unfold maxLen; omega) (by omega) (by omega) ?_
  intro A2 c2 w2 hown2 ho2 hk2
  refine ⟨ho2.mono (by simp [Value.ownBlock]), ?_⟩
  have HO2 := Lib.hid (show Only [] wg w2 from ho2.mono (by simp [Value.ownBlock]))
  have HW2 := Lib.hid (show w2.ownsRow wg.heap.size 27 6 (.slice A2 j.l.length c2) j.l.length (eRow j.l) from by rw [Nat.zero_add, List.nil_append] at hown2; exact hown2)
  have HWo2 := Lib.hid (HW.out.trans HO2.out)
  clear hown2 ho2 hk2 e0 e1 e2
  rw [Nat.zero_add]
  refine ge_append_row rfl rfl rfl (by rfl) _ _ _ rfl wg.heap.size 35 3 24 (.agg #[.int .i64 0, .int .i64 0, .int .i64 0]) Tryd.underlying23 info35 rfl (by omega) (.slice none 0 0) 0 [] (by simp [L.evE, L.lk, Act.eval]) (ownsRow_nil _ _ _ _) A1 j.q.length c1 (qRow j.q) (by simp [L.evE, L.lk, Act.eval]) (qRow_length _) (flat_q (Kd.C_below HB.out.2 HWo2.out.nil_below)) (qRow_one _) (by unfold maxLen; omega) (by omega) HO2.out.size ?_
  intro A3 c3 w3 hown3 ho3 hk3
  refine ⟨ho3.mono (by simp [Value.ownBlock]), ?_⟩
  have HO3 := Lib.hid (show Only [] w2 w3 from ho3.mono (by simp [Value.ownBlock]))
  have HW3 := Lib.hid (show w3.ownsRow wg.heap.size 35 3 (.slice A3 j.q.length c3) j.q.length (qRow j.q) from by rw [Nat.zero_add, List.nil_append] at hown3; exact hown3)
  clear hown3 ho3 hk3
  rw [Nat.zero_add]
  iterate 1 (first | (refine L.ge_off rfl rfl rfl (by rfl) ?_) | (refine L.ge_move rfl rfl rfl (by rfl) rfl (by simp [L.evE, L.lk, Act.eval]; rfl) ?_) | (refine L.ge_pick rfl rfl rfl (by rfl) rfl (by simp [L.evE, L.lk, Act.eval]; rfl) (by simp [L.evE, L.lk, Act.eval]; rfl) ?_) | (refine L.ge_val rfl rfl rfl (by rfl) (by intro w' hw'; simp [execOp, L.evE, L.lk, Act.eval]; go_simp; rfl) ?_))
  have HX3 := Lib.hid ((HO2.out.trans HO3.out).heap HY.out (by simp))
  refine ge_last_in rfl rfl (by rfl) _ (.tmp 2) (.tmp 11) rfl (b + 1) 0 (.agg #[.slice A2 j.l.length c2, .slice A3 j.q.length c3, .int .i64 j.g]) (by simp [L.evE, L.lk, Act.eval]) (by simp [L.evE, L.lk, Act.eval]) [.slice A2 j.l.length c2, .slice A3 j.q.length c3, .int .i64 j.g] rfl 25 [.slice none 0 0, .slice none 0 0, .int .i64 0] HX3.out (by kernel_rfl) (by simp) (by simp [Value.oneCell']) ?_
  intro w4 hr4 ho4
  simp only [L.puts, Act.put, goInt, List.setIfInBounds_toArray, List.set_cons_zero, List.set_cons_succ]
  have hr5 : w4.heap[b + 1]? = some (.cells #[.slice A2 j.l.length c2, .slice A3 j.q.length c3, .int .i64 j.g] 25 (0, 0)) := hr4.out
  go_wp2
  refine bodyPost_ret (results_row1 rfl _ _ (b + 1) _ _ _ _ rfl hr5 Tryd.underlying25 rfl (size3_25 _ _ _)) rfl ?_
  have f2 := ownsRow_only (ownsRow_only HW2.out HO3.out (by simp)) ho4.out (fun k hk h => by simp at h; subst h; have := (ownsRow_lt HW2.out hk).1; have := HSG.out; omega)
  have f3 := ownsRow_only HW3.out ho4.out (fun k hk h => by simp at h; subst h; have := (ownsRow_lt HW3.out hk).1; have := HSG.out; omega)
  have hbg : w.heap.size ≤ wg.heap.size := HW.out.size
  exact ⟨_, rfl, ⟨A2, c2, A3, c3, rfl, ownsRow_mono f2 hbg, ownsRow_mono f3 hbg⟩, ((HW.out.trans (HO2.out.trans HO3.out)).then ho4.out (fun k hk => .inr (by simp at hk; subst hk; rw [HBB.out]; omega))).nil_below⟩
end Go.Proofs.YtghpmpjoedbpcaaDoor.Print
/-! ### Print8 -/
namespace Go.Proofs.YtghpmpjoedbpcaaDoor.Print
open Go.RowKit Go.Proofs.YtghpmpjoedbpcaaDoorW.PrintWords Go.Proofs.YtghpmpjoedbpcaaDoorW.PrintLast Go.Proofs.YtghpmpjoedbpcaaDoorW.PrintMore
attribute [local go_sem] min2_int min_two
set_option linter.unusedVariables false
set_option linter.unusedSimpArgs false
def malthouseref18_sum.l0 : Nat → Int → Int → List (S27) → List (S35) → Int → Option (Int)
  | 0, _, _, _, _, _ => none
  | k + 1, x3, x4, x203000, x203001, x203002 => if x4 < (x203001.length : Int) then (if x3 ≤ 120 then (if 0 ≤ x4 then (malthouseref18_sum.l0 k (wrap64 (x3 + ((rd_T35 x203001 x4).f1))) (wrap64 (x4 + 1)) x203000 x203001 x203002) else (none)) else (if x3 > 120 then (some 121) else (some x3))) else (if x3 > 120 then (some 121) else (some x3))
def malthouseref18_sum.f (k : Nat) (l0_0 : List (S27)) (l0_1 : List (S35)) (a0_2 : Int) : Option (Int) := malthouseref18_sum.l0 k (l0_0.length : Int) 0 l0_0 l0_1 a0_2
set_option maxHeartbeats 8000000 in
set_option maxRecDepth 100000 in
theorem malthouseref18_sum.calls (k : Nat) (A0_0 : Option Addr) (c0_0 : Nat) (l0_0 : List (S27)) (A0_1 : Option Addr) (c0_1 : Nat) (l0_1 : List (S35)) (a0_2 : Int) (r : Int) (w : World) (hr0_0 : Kd.C k27 w A0_0 l0_0.length l0_0) (hc0_0 : l0_0.length ≤ c0_0) (hr0_1 : Kd.C k35 w A0_1 l0_1.length l0_1) (hc0_1 : l0_1.length ≤ c0_1) (h : malthouseref18_sum.f k l0_0 l0_1 a0_2 = some r) :
    Calls Tryd.prog 41 #[.agg #[.slice A0_0 l0_0.length c0_0, .slice A0_1 l0_1.length c0_1, .int .i64 a0_2]] w fun e w' => e = .returned (.int .i64 r) ∧ Below w.heap.size w w' := by
  have hu25 := Tryd.underlying25
  have HR0_0 := Aside0.mk hr0_0
  have HC0_0 := Aside0.mk hc0_0
  clear hr0_0 hc0_0
  have HR0_1 := Aside0.mk hr0_1
  have HC0_1 := Aside0.mk hc0_1
  clear hr0_1 hc0_1
  have HB := Aside0.mk (Below.refl w.heap.size w)
  have H : (malthouseref18_sum.l0 k (l0_0.length : Int) 0 l0_0 l0_1 a0_2) = some r := h
  clear h
  have H' := Aside0.mk H
  clear H
  go_enter Tryd.func41, Tryd.ntmps41
  go_wp2_with (first | ((with_reducible refine gate_dst (N := 1) rfl ?_); refine box_event ?hg (N := 1) ?hd (cs := #[.slice A0_0 l0_0.length c0_0, .slice A0_1 l0_1.length c0_1, .int .i64 a0_2]) (t := 25) ?hr ?_; (case hd => rfl); (case hg => rfl); (case hr => first | (go_simp; done) | (go_simp; rfl)); intro gb202 hg w2 hbox hb; have n0_ := Aside0.mk (below_step (by repeat (first | (with_reducible first | exact HB.out | apply below_alloc | apply pw_below_drewN | apply below_drew1) | exact HB.out)) hb); have n1_ := Aside0.mk (hbox); have n2_ := Aside0.mk ((by rw [hg]; exact (below_size (by repeat (first | (with_reducible first | exact HB.out | apply below_alloc | apply pw_below_drewN | apply below_drew1) | exact HB.out))) : w.heap.size ≤ gb202)); have n3_ := Aside0.mk ((by rw [hg]; exact (below_size (by repeat (first | (with_reducible first | exact HB.out | apply below_alloc | apply pw_below_drewN | apply below_drew1) | exact HB.out))) : w.heap.size ≤ gb202)); clear HB; have HB := n0_; have BK202 := n1_; have GW202 := n2_; have GE202 := n3_; clear n0_ n1_ n2_ n3_; clear hb hbox hg; have hcz3_0 : w2.cell? ⟨gb202, 0, none⟩ = some (.slice A0_0 l0_0.length c0_0) := (blk_cell BK202.out 0).trans rfl; have hcz3_1 : w2.cell? ⟨gb202, 1, none⟩ = some (.slice A0_1 l0_1.length c0_1) := (blk_cell BK202.out 1).trans rfl; have hcz3_2 : w2.cell? ⟨gb202, 2, none⟩ = some (.int .i64 a0_2) := (blk_cell BK202.out 2).trans rfl; have hfz3_0 := blk_frozen BK202.out 0; have hfz3_1 := blk_frozen BK202.out 1; have hfz3_2 := blk_frozen BK202.out 2))
  go_loopg [3, 4] k (fun kq v3 v4 w' => ∃ (x3_1 : Int) (x4_1 : Int), v3 = .int .i64 x3_1 ∧ v4 = .int .i64 x4_1 ∧ Aside0 (malthouseref18_sum.l0 kq x3_1 x4_1 l0_0 l0_1 a0_2 = some r) ∧ Aside0 (kq ≤ k) ∧ Aside0 (w'.heap[gb202]? = some (.cells #[(.slice A0_0 l0_0.length c0_0), (.slice A0_1 l0_1.length c0_1), .int .i64 a0_2] 25 (0, 0))) ∧ Aside0 (Below w.heap.size w w'))
  case atStart => exact ⟨((l0_0.length : Int)), (0), (by first | rfl | (simp; done) | (simp [*]; done)), (by first | rfl | (simp; done) | (simp [*]; done)), H', ⟨Nat.le_refl _⟩, ⟨by (with_reducible repeat (first | refine blk_drewN ?_ _ | refine blk_drew ?_ | refine blk_alloc ?_ _)); exact BK202.out⟩, ⟨by repeat (first | (with_reducible first | exact HB.out | apply below_alloc | apply pw_below_drewN | apply below_drew1 | refine below_set ?_ GE202.out) | exact HB.out)⟩⟩
  case round =>
    clear H'
    try clear p2
    try clear hcz3_0
    try clear hcz3_1
    try clear hcz3_2
    try clear hfz3_0
    try clear hfz3_1
    try clear hfz3_2
    obtain ⟨x3_1, x4_1, rfl, rfl, HA, HK1, BK202, HB⟩ := hrel
    cases gk with
    | zero => exact absurd HA.out (by simp [malthouseref18_sum.l0])
    | succ k1 =>
      have H := HA.out
      clear HA
      simp only [malthouseref18_sum.l0] at H
      by_cases c4 : x4_1 < (l0_1.length : Int)
      · rw [if_pos c4] at H
        have c4b0 : decide (x4_1 < (l0_1.length : Int)) = true := decide_eq_true c4
        clear c4
        by_cases c5 : x3_1 ≤ 120
        · rw [if_pos c5] at H
          have c5b0 : decide (x3_1 ≤ 120) = true := decide_eq_true c5
          clear c5
          by_cases c6 : 0 ≤ x4_1
          · rw [if_pos c6] at H
            have c6b0 : decide (0 ≤ x4_1) = true := decide_eq_true c6
            clear c6
            have H' := Aside0.mk H
            clear H
            have hcz7_0 : wr.cell? ⟨gb202, 0, none⟩ = some (.slice A0_0 l0_0.length c0_0) := (blk_cell BK202.out 0).trans rfl
            have hcz7_1 : wr.cell? ⟨gb202, 1, none⟩ = some (.slice A0_1 l0_1.length c0_1) := (blk_cell BK202.out 1).trans rfl
            have hcz7_2 : wr.cell? ⟨gb202, 2, none⟩ = some (.int .i64 a0_2) := (blk_cell BK202.out 2).trans rfl
            have hfz7_0 := blk_frozen BK202.out 0
            have hfz7_1 := blk_frozen BK202.out 1
            have hfz7_2 := blk_frozen BK202.out 2
            have p203 : 0 ≤ (x4_1 : Int) := of_decide_eq_true (by first | (with_reducible assumption) | assumption)
            have q203 : x4_1 < (l0_1.length : Int) := of_decide_eq_true (by first | (with_reducible assumption) | assumption)
            obtain ⟨ad203, e203, hx203_0, hx203_1, hx203_2⟩ := at_T35 HR0_1.out x4_1 p203 q203
            cases e203
            replace hx203_0 := (HB.out.cell (World.block_lt_of_cell? w _ hx203_0)).trans hx203_0
            replace hx203_1 := (HB.out.cell (World.block_lt_of_cell? w _ hx203_1)).trans hx203_1
            replace hx203_2 := (HB.out.cell (World.block_lt_of_cell? w _ hx203_2)).trans hx203_2
            replace p203 := eq_true p203
            replace q203 := eq_true q203
            go_wp2
            go_roundg k1
            case measure => have := HK1.out; omega
            case rel => exact ⟨(wrap64 (x3_1 + ((rd_T35 l0_1 x4_1).f1))), (wrap64 (x4_1 + 1)), (by first | rfl | (simp; done) | (simp [*]; done)), (by first | rfl | (simp; done) | (simp [*]; done)), H', ⟨by have := HK1.out; omega⟩, ⟨by (with_reducible repeat (first | refine blk_drewN ?_ _ | refine blk_drew ?_ | refine blk_alloc ?_ _)); exact BK202.out⟩, ⟨by repeat (first | (with_reducible first | exact HB.out | apply below_alloc | apply pw_below_drewN | apply below_drew1 | refine below_set ?_ GE202.out) | exact HB.out)⟩⟩
          · rw [if_neg c6] at H
            exact absurd H (by simp)
        · rw [if_neg c5] at H
          have c5b0 : decide (x3_1 ≤ 120) = false := decide_eq_false c5
          clear c5
          by_cases c8 : x3_1 > 120
          · rw [if_pos c8] at H
            have c8b0 : decide (120 < x3_1) = true := decide_eq_true c8
            clear c8
            obtain rfl := Option.some.inj H
            have hcz9_0 : wr.cell? ⟨gb202, 0, none⟩ = some (.slice A0_0 l0_0.length c0_0) := (blk_cell BK202.out 0).trans rfl
            have hcz9_1 : wr.cell? ⟨gb202, 1, none⟩ = some (.slice A0_1 l0_1.length c0_1) := (blk_cell BK202.out 1).trans rfl
            have hcz9_2 : wr.cell? ⟨gb202, 2, none⟩ = some (.int .i64 a0_2) := (blk_cell BK202.out 2).trans rfl
            have hfz9_0 := blk_frozen BK202.out 0
            have hfz9_1 := blk_frozen BK202.out 1
            have hfz9_2 := blk_frozen BK202.out 2
            go_wp2
            go_ret
            exact ⟨by first | rfl | (simp [errW_none, errW_some] <;> rfl) | (simp [*, errW_none, errW_some] <;> rfl), by repeat (first | (with_reducible first | exact HB.out | apply below_alloc | apply pw_below_drewN | apply below_drew1 | refine below_set ?_ GE202.out) | exact HB.out)⟩
          · rw [if_neg c8] at H
            have c8b0 : decide (120 < x3_1) = false := decide_eq_false c8
            clear c8
            obtain rfl := Option.some.inj H
            have hcz10_0 : wr.cell? ⟨gb202, 0, none⟩ = some (.slice A0_0 l0_0.length c0_0) := (blk_cell BK202.out 0).trans rfl
            have hcz10_1 : wr.cell? ⟨gb202, 1, none⟩ = some (.slice A0_1 l0_1.length c0_1) := (blk_cell BK202.out 1).trans rfl
            have hcz10_2 : wr.cell? ⟨gb202, 2, none⟩ = some (.int .i64 a0_2) := (blk_cell BK202.out 2).trans rfl
            have hfz10_0 := blk_frozen BK202.out 0
            have hfz10_1 := blk_frozen BK202.out 1
            have hfz10_2 := blk_frozen BK202.out 2
            go_wp2
            go_ret
            exact ⟨by first | rfl | (simp [errW_none, errW_some] <;> rfl) | (simp [*, errW_none, errW_some] <;> rfl), by repeat (first | (with_reducible first | exact HB.out | apply below_alloc | apply pw_below_drewN | apply below_drew1 | refine below_set ?_ GE202.out) | exact HB.out)⟩
      · rw [if_neg c4] at H
        have c4b0 : decide (x4_1 < (l0_1.length : Int)) = false := decide_eq_false c4
        clear c4
        by_cases c11 : x3_1 > 120
        · rw [if_pos c11] at H
          have c11b0 : decide (120 < x3_1) = true := decide_eq_true c11
          clear c11
          obtain rfl := Option.some.inj H
          have hcz12_0 : wr.cell? ⟨gb202, 0, none⟩ = some (.slice A0_0 l0_0.length c0_0) := (blk_cell BK202.out 0).trans rfl
          have hcz12_1 : wr.cell? ⟨gb202, 1, none⟩ = some (.slice A0_1 l0_1.length c0_1) := (blk_cell BK202.out 1).trans rfl
          have hcz12_2 : wr.cell? ⟨gb202, 2, none⟩ = some (.int .i64 a0_2) := (blk_cell BK202.out 2).trans rfl
          have hfz12_0 := blk_frozen BK202.out 0
          have hfz12_1 := blk_frozen BK202.out 1
          have hfz12_2 := blk_frozen BK202.out 2
          go_wp2
          go_ret
          exact ⟨by first | rfl | (simp [errW_none, errW_some] <;> rfl) | (simp [*, errW_none, errW_some] <;> rfl), by repeat (first | (with_reducible first | exact HB.out | apply below_alloc | apply pw_below_drewN | apply below_drew1 | refine below_set ?_ GE202.out) | exact HB.out)⟩
        · rw [if_neg c11] at H
          have c11b0 : decide (120 < x3_1) = false := decide_eq_false c11
          clear c11
          obtain rfl := Option.some.inj H
          have hcz13_0 : wr.cell? ⟨gb202, 0, none⟩ = some (.slice A0_0 l0_0.length c0_0) := (blk_cell BK202.out 0).trans rfl
          have hcz13_1 : wr.cell? ⟨gb202, 1, none⟩ = some (.slice A0_1 l0_1.length c0_1) := (blk_cell BK202.out 1).trans rfl
          have hcz13_2 : wr.cell? ⟨gb202, 2, none⟩ = some (.int .i64 a0_2) := (blk_cell BK202.out 2).trans rfl
          have hfz13_0 := blk_frozen BK202.out 0
          have hfz13_1 := blk_frozen BK202.out 1
          have hfz13_2 := blk_frozen BK202.out 2
          go_wp2
          go_ret
          exact ⟨by first | rfl | (simp [errW_none, errW_some] <;> rfl) | (simp [*, errW_none, errW_some] <;> rfl), by repeat (first | (with_reducible first | exact HB.out | apply below_alloc | apply pw_below_drewN | apply below_drew1 | refine below_set ?_ GE202.out) | exact HB.out)⟩
mutual
def malthouseref01_Rune.j2 : Nat → ByteArray → Int → Int → Int → Int → Option (Int × Int)
  | 0, _, _, _, _, _ => none
  | k + 1, x0, x1, x6, x7, x8 => if x7 > (wrap64 ((x0.size : Int) - x1)) then (some (0, 0)) else (malthouseref01_Rune.l0 k x0 x1 x6 x7 x8 1)
def malthouseref01_Rune.l0 : Nat → ByteArray → Int → Int → Int → Int → Int → Option (Int × Int)
  | 0, _, _, _, _, _, _ => none
  | k + 1, x0, x1, x6, x7, x8, x9 => if x9 < x7 then (if 0 ≤ (wrap64 (x1 + x9)) then (if (wrap64 (x1 + x9)) < (x0.size : Int) then (if (wrap64 (bt x0 (wrap64 (x1 + x9)))) < 128 then (some (0, 0)) else (if (wrap64 (bt x0 (wrap64 (x1 + x9)))) ≥ 192 then (some (0, 0)) else (malthouseref01_Rune.l0 k x0 x1 (wrap64 ((wrap64 ((wrap64 (64 * x6)) + (wrap64 (bt x0 (wrap64 (x1 + x9)))))) - 128)) x7 x8 (wrap64 (x9 + 1))))) else (none)) else (none)) else (if x6 < x8 then (some (0, 0)) else (if x6 > 1114111 then (some (0, 0)) else (if x6 ≥ 55296 then (if x6 ≤ 57343 then (some (0, 0)) else (some (x6, x7))) else (some (x6, x7)))))
def malthouseref01_Rune.j0 : Nat → ByteArray → Int → Int → Bool → Option (Int × Int)
  | 0, _, _, _, _ => none
  | k + 1, x0, x1, x6, x19 => if x19 = true then (malthouseref01_Rune.j2 k x0 x1 (wrap64 (x6 - 192)) 2 128) else (if x6 ≥ 224 then (malthouseref01_Rune.j1 k x0 x1 x6 (decide (x6 < 240))) else (malthouseref01_Rune.j1 k x0 x1 x6 false))
def malthouseref01_Rune.j1 : Nat → ByteArray → Int → Int → Bool → Option (Int × Int)
  | 0, _, _, _, _ => none
  | k + 1, x0, x1, x6, x28 => if x28 = true then (malthouseref01_Rune.j2 k x0 x1 (wrap64 (x6 - 224)) 3 2048) else (if x6 ≥ 240 then (if x6 < 248 then (malthouseref01_Rune.j2 k x0 x1 (wrap64 (x6 - 240)) 4 65536) else (some (0, 0))) else (some (0, 0)))
end
def malthouseref01_Rune.f (k : Nat) (a0 : ByteArray) (a1 : Int) : Option (Int × Int) := if 0 ≤ a1 then (if a1 < (a0.size : Int) then (if (wrap64 (bt a0 a1)) < 128 then (some (wrap64 (bt a0 a1), 1)) else (if (wrap64 (bt a0 a1)) ≥ 192 then (malthouseref01_Rune.j0 k a0 a1 (wrap64 (bt a0 a1)) (decide ((wrap64 (bt a0 a1)) < 224))) else (malthouseref01_Rune.j0 k a0 a1 (wrap64 (bt a0 a1)) false))) else (none)) else (none)
set_option maxHeartbeats 8000000 in
set_option maxRecDepth 100000 in
theorem malthouseref01_Rune.calls (k : Nat) (a0 : ByteArray) (a1 : Int) (r1 : Int) (r2 : Int) (w : World) (h : malthouseref01_Rune.f k a0 a1 = some (r1, r2)) :
    Calls Tryd.prog 64 #[.string a0, .int .i64 a1] w fun e w' => e = .returned (.tuple #[.int .i64 r1, .int .i64 r2]) ∧ Drawn0 w w' := by
  have H : (if 0 ≤ a1 then (if a1 < (a0.size : Int) then (if (wrap64 (bt a0 a1)) < 128 then (some (wrap64 (bt a0 a1), 1)) else (if (wrap64 (bt a0 a1)) ≥ 192 then (malthouseref01_Rune.j0 k a0 a1 (wrap64 (bt a0 a1)) (decide ((wrap64 (bt a0 a1)) < 224))) else (malthouseref01_Rune.j0 k a0 a1 (wrap64 (bt a0 a1)) false))) else (none)) else (none)) = some (r1, r2) := h
  clear h
  by_cases c3 : 0 ≤ a1
  · rw [if_pos c3] at H
    have c3b0 : decide (0 ≤ a1) = true := decide_eq_true c3
    clear c3
    by_cases c4 : a1 < (a0.size : Int)
    · rw [if_pos c4] at H
      have c4b0 : decide (a1 < (a0.size : Int)) = true := decide_eq_true c4
      clear c4
      have HC6 := Aside0.mk H
      clear H
      have p5 : 0 ≤ (a1 : Int) := of_decide_eq_true (by first | (with_reducible assumption) | assumption)
      have q5 : a1 < (a0.size : Int) := of_decide_eq_true (by first | (with_reducible assumption) | assumption)
      have hx5 := bt_at a0 a1
      replace p5 := eq_true p5
      replace q5 := eq_true q5
      go_enter Tryd.func64, Tryd.ntmps64
      go_upto_block 0 with (fail)
      go_cut [6, 7, 8] (fun v6 v7 v8 wc => ∃ (kq : Nat) (x6_5 : Int) (x7_5 : Int) (x8_5 : Int), v6 = .int .i64 x6_5 ∧ v7 = .int .i64 x7_5 ∧ v8 = .int .i64 x8_5 ∧ Aside0 (malthouseref01_Rune.j2 kq a0 a1 x6_5 x7_5 x8_5 = some (r1, r2)) ∧ Aside0 (kq ≤ k) ∧ Drawn0 w wc)
      case first =>
        have H := HC6.out
        clear HC6
        by_cases c7 : (wrap64 (bt a0 a1)) < 128
        · rw [if_pos c7] at H
          have c7b0 : decide ((wrap64 (bt a0 a1)) < 128) = true := decide_eq_true c7
          clear c7
          (first | rw [c7b0] | (simp only [i64_w, i32_w]; rw [c7b0]) | skip)
          simp only [Option.some.injEq, Prod.mk.injEq] at H
          obtain ⟨rfl, rfl⟩ := H
          go_wp2
          go_ret2
          exact ⟨by first | rfl | (simp; done) | (simp [*]; done), by repeat (first | exact Drawn0.refl _ | apply Drawn0.step)⟩
        · rw [if_neg c7] at H
          have c7b0 : decide ((wrap64 (bt a0 a1)) < 128) = false := decide_eq_false c7
          clear c7
          (first | rw [c7b0] | (simp only [i64_w, i32_w]; rw [c7b0]) | skip)
          have HC8 := Aside0.mk H
          clear H
          go_upto_region 7 with (fail)
          go_cut [19] (fun v19 wc => ∃ (kq : Nat) (x19_7 : Bool), v19 = .bool x19_7 ∧ Aside0 (malthouseref01_Rune.j0 kq a0 a1 (wrap64 (bt a0 a1)) x19_7 = some (r1, r2)) ∧ Aside0 (kq ≤ k) ∧ Drawn0 w wc)
          case first =>
            have H := HC8.out
            clear HC8
            by_cases c9 : (wrap64 (bt a0 a1)) ≥ 192
            · rw [if_pos c9] at H
              have c9b0 : decide (192 ≤ (wrap64 (bt a0 a1))) = true := decide_eq_true c9
              clear c9
              (first | rw [c9b0] | (simp only [i64_w, i32_w]; rw [c9b0]) | skip)
              have H' := Aside0.mk H
              clear H
              go_wp2
              go_meet
              case rel => exact ⟨_, (decide ((wrap64 (bt a0 a1)) < 224)), (by first | rfl | (simp; done) | (simp [*]; done)), H', ⟨by first | omega | exact Nat.le_refl _⟩, by repeat (first | exact Drawn0.refl _ | apply Drawn0.step)⟩
            · rw [if_neg c9] at H
              have c9b0 : decide (192 ≤ (wrap64 (bt a0 a1))) = false := decide_eq_false c9
              clear c9
              (first | rw [c9b0] | (simp only [i64_w, i32_w]; rw [c9b0]) | skip)
              have H' := Aside0.mk H
              clear H
              go_wp2
              go_meet
              case rel => exact ⟨_, (false), (by first | rfl | (simp; done) | (simp [*]; done)), H', ⟨by first | omega | exact Nat.le_refl _⟩, by repeat (first | exact Drawn0.refl _ | apply Drawn0.step)⟩
          case rest =>
            clear HC8
            try clear p2
            try clear c3
            try clear c3b0
            try clear c4
            try clear c4b0
            try clear p5
            try clear q5
            try clear hx5
            try clear c6
            try clear p6
            try clear c7
            try clear c7b0
            try clear c9
            try clear c9b0
            try clear p5
            try clear q5
            obtain ⟨kq, x19_7, rfl, HA, HJ7, ⟨mc7, rfl⟩⟩ := hcut
            cases kq with
            | zero => exact absurd HA.out (by simp [malthouseref01_Rune.j0])
            | succ kj7 =>
              have H := HA.out
              clear HA
              simp only [malthouseref01_Rune.j0] at H
              by_cases c10 : x19_7 = true
              · subst c10
                have H1 : (malthouseref01_Rune.j2 kj7 a0 a1 (wrap64 ((wrap64 (bt a0 a1)) - 192)) 2 128) = some (r1, r2) := by rw [if_pos rfl] at H; exact H
                clear H
                have H := H1
                clear H1
                have H' := Aside0.mk H
                clear H
                go_wp2
                go_meet
                case rel => exact ⟨_, (wrap64 ((wrap64 (bt a0 a1)) - 192)), (2), (128), (by first | rfl | (simp; done) | (simp [*]; done)), (by first | rfl | (simp; done) | (simp [*]; done)), (by first | rfl | (simp; done) | (simp [*]; done)), H', ⟨by have := HJ7.out; first | omega | exact Nat.le_refl _⟩, by repeat (first | exact Drawn0.refl _ | apply Drawn0.step)⟩
              · replace c10 := Bool.eq_false_iff.mpr c10
                subst c10
                have H1 : (if (wrap64 (bt a0 a1)) ≥ 224 then (malthouseref01_Rune.j1 kj7 a0 a1 (wrap64 (bt a0 a1)) (decide ((wrap64 (bt a0 a1)) < 240))) else (malthouseref01_Rune.j1 kj7 a0 a1 (wrap64 (bt a0 a1)) false)) = some (r1, r2) := by rw [if_neg (show ¬ (false = true) by decide)] at H; exact H
                clear H
                have H := H1
                clear H1
                have HC11 := Aside0.mk H
                clear H
                go_upto_region 11 with (fail)
                go_cut [28] (fun v28 wc => ∃ (kq : Nat) (x28_10 : Bool), v28 = .bool x28_10 ∧ Aside0 (malthouseref01_Rune.j1 kq a0 a1 (wrap64 (bt a0 a1)) x28_10 = some (r1, r2)) ∧ Aside0 (kq ≤ kj7) ∧ Drawn0 w wc)
                case first =>
                  have H := HC11.out
                  clear HC11
                  by_cases c12 : (wrap64 (bt a0 a1)) ≥ 224
                  · rw [if_pos c12] at H
                    have c12b0 : decide (224 ≤ (wrap64 (bt a0 a1))) = true := decide_eq_true c12
                    clear c12
                    (first | rw [c12b0] | (simp only [i64_w, i32_w]; rw [c12b0]) | skip)
                    have H' := Aside0.mk H
                    clear H
                    go_wp2
                    go_meet
                    case rel => exact ⟨_, (decide ((wrap64 (bt a0 a1)) < 240)), (by first | rfl | (simp; done) | (simp [*]; done)), H', ⟨by have := HJ7.out; first | omega | exact Nat.le_refl _⟩, by repeat (first | exact Drawn0.refl _ | apply Drawn0.step)⟩
                  · rw [if_neg c12] at H
                    have c12b0 : decide (224 ≤ (wrap64 (bt a0 a1))) = false := decide_eq_false c12
                    clear c12
                    (first | rw [c12b0] | (simp only [i64_w, i32_w]; rw [c12b0]) | skip)
                    have H' := Aside0.mk H
                    clear H
                    go_wp2
                    go_meet
                    case rel => exact ⟨_, (false), (by first | rfl | (simp; done) | (simp [*]; done)), H', ⟨by have := HJ7.out; first | omega | exact Nat.le_refl _⟩, by repeat (first | exact Drawn0.refl _ | apply Drawn0.step)⟩
                case rest =>
                  clear HC11
                  try clear c1
                  try clear p2
                  try clear c3
                  try clear c3b0
                  try clear c4
                  try clear c4b0
                  try clear p5
                  try clear q5
                  try clear hx5
                  try clear c6
                  try clear p6
                  try clear c7
                  try clear c7b0
                  try clear c9
                  try clear c9b0
                  try clear c10
                  try clear c12
                  try clear c12b0
                  try clear p2
                  try clear p5
                  try clear p6
                  try clear q5
                  obtain ⟨kq, x28_10, rfl, HA, HJ10, ⟨mc10, rfl⟩⟩ := hcut
                  cases kq with
                  | zero => exact absurd HA.out (by simp [malthouseref01_Rune.j1])
                  | succ kj10 =>
                    have H := HA.out
                    clear HA
                    simp only [malthouseref01_Rune.j1] at H
                    by_cases c13 : x28_10 = true
                    · subst c13
                      have H1 : (malthouseref01_Rune.j2 kj10 a0 a1 (wrap64 ((wrap64 (bt a0 a1)) - 224)) 3 2048) = some (r1, r2) := by rw [if_pos rfl] at H; exact H
                      clear H
                      have H := H1
                      clear H1
                      have H' := Aside0.mk H
                      clear H
                      go_wp2
                      go_meet
                      case rel => exact ⟨_, (wrap64 ((wrap64 (bt a0 a1)) - 224)), (3), (2048), (by first | rfl | (simp; done) | (simp [*]; done)), (by first | rfl | (simp; done) | (simp [*]; done)), (by first | rfl | (simp; done) | (simp [*]; done)), H', ⟨by have := HJ7.out; have := HJ10.out; first | omega | exact Nat.le_refl _⟩, by repeat (first | exact Drawn0.refl _ | apply Drawn0.step)⟩
                    · replace c13 := Bool.eq_false_iff.mpr c13
                      subst c13
                      have H1 : (if (wrap64 (bt a0 a1)) ≥ 240 then (if (wrap64 (bt a0 a1)) < 248 then (malthouseref01_Rune.j2 kj10 a0 a1 (wrap64 ((wrap64 (bt a0 a1)) - 240)) 4 65536) else (some (0, 0))) else (some (0, 0))) = some (r1, r2) := by rw [if_neg (show ¬ (false = true) by decide)] at H; exact H
                      clear H
                      have H := H1
                      clear H1
                      by_cases c14 : (wrap64 (bt a0 a1)) ≥ 240
                      · rw [if_pos c14] at H
                        have c14b0 : decide (240 ≤ (wrap64 (bt a0 a1))) = true := decide_eq_true c14
                        clear c14
                        by_cases c15 : (wrap64 (bt a0 a1)) < 248
                        · rw [if_pos c15] at H
                          have c15b0 : decide ((wrap64 (bt a0 a1)) < 248) = true := decide_eq_true c15
                          clear c15
                          have H' := Aside0.mk H
                          clear H
                          go_wp2
                          go_meet
                          case rel => exact ⟨_, (wrap64 ((wrap64 (bt a0 a1)) - 240)), (4), (65536), (by first | rfl | (simp; done) | (simp [*]; done)), (by first | rfl | (simp; done) | (simp [*]; done)), (by first | rfl | (simp; done) | (simp [*]; done)), H', ⟨by have := HJ7.out; have := HJ10.out; first | omega | exact Nat.le_refl _⟩, by repeat (first | exact Drawn0.refl _ | apply Drawn0.step)⟩
                        · rw [if_neg c15] at H
                          have c15b0 : decide ((wrap64 (bt a0 a1)) < 248) = false := decide_eq_false c15
                          clear c15
                          simp only [Option.some.injEq, Prod.mk.injEq] at H
                          obtain ⟨rfl, rfl⟩ := H
                          go_wp2
                          go_ret2
                          exact ⟨by first | rfl | (simp; done) | (simp [*]; done), by repeat (first | exact Drawn0.refl _ | apply Drawn0.step)⟩
                      · rw [if_neg c14] at H
                        have c14b0 : decide (240 ≤ (wrap64 (bt a0 a1))) = false := decide_eq_false c14
                        clear c14
                        simp only [Option.some.injEq, Prod.mk.injEq] at H
                        obtain ⟨rfl, rfl⟩ := H
                        go_wp2
                        go_ret2
                        exact ⟨by first | rfl | (simp; done) | (simp [*]; done), by repeat (first | exact Drawn0.refl _ | apply Drawn0.step)⟩
      case rest =>
        clear HC6
        try clear c1
        try clear p2
        try clear c3
        try clear c3b0
        try clear c4
        try clear c4b0
        try clear p5
        try clear q5
        try clear hx5
        try clear c6
        try clear p6
        try clear c7
        try clear c7b0
        try clear c9
        try clear c9b0
        try clear c10
        try clear c12
        try clear c12b0
        try clear c13
        try clear c14
        try clear c14b0
        try clear c15
        try clear c15b0
        try clear p2
        try clear p5
        try clear p6
        try clear q5
        obtain ⟨kq, x6_5, x7_5, x8_5, rfl, rfl, rfl, HA, HJ5, ⟨mc5, rfl⟩⟩ := hcut
        cases kq with
        | zero => exact absurd HA.out (by simp [malthouseref01_Rune.j2])
        | succ kj5 =>
          have H := HA.out
          clear HA
          simp only [malthouseref01_Rune.j2] at H
          by_cases c16 : x7_5 > (wrap64 ((a0.size : Int) - a1))
          · rw [if_pos c16] at H
            have c16b0 : decide ((wrap64 ((a0.size : Int) - a1)) < x7_5) = true := decide_eq_true c16
            clear c16
            simp only [Option.some.injEq, Prod.mk.injEq] at H
            obtain ⟨rfl, rfl⟩ := H
            go_wp2
            go_ret2
            exact ⟨by first | rfl | (simp; done) | (simp [*]; done), by repeat (first | exact Drawn0.refl _ | apply Drawn0.step)⟩
          · rw [if_neg c16] at H
            have c16b0 : decide ((wrap64 ((a0.size : Int) - a1)) < x7_5) = false := decide_eq_false c16
            clear c16
            have H' := Aside0.mk H
            clear H
            go_wp2
            go_loopg [6, 9] kj5 (fun kq v6 v9 w' => ∃ (x6_2 : Int) (x9_2 : Int), v6 = .int .i64 x6_2 ∧ v9 = .int .i64 x9_2 ∧ Aside0 (malthouseref01_Rune.l0 kq a0 a1 x6_2 x7_5 x8_5 x9_2 = some (r1, r2)) ∧ Aside0 (kq ≤ kj5) ∧ Drawn0 w w')
            case atStart => exact ⟨(x6_5), (1), (by first | rfl | (simp; done) | (simp [*]; done)), (by first | rfl | (simp; done) | (simp [*]; done)), H', ⟨Nat.le_refl _⟩, by repeat (first | exact Drawn0.refl _ | apply Drawn0.step)⟩
            case round =>
              clear H'
              try clear c1
              try clear p2
              try clear c3
              try clear c3b0
              try clear c4
              try clear c4b0
              try clear c5
              try clear p5
              try clear q5
              try clear hx5
              try clear c6
              try clear p6
              try clear c7
              try clear c7b0
              try clear c9
              try clear c9b0
              try clear c10
              try clear c12
              try clear c12b0
              try clear c13
              try clear c14
              try clear c14b0
              try clear c15
              try clear c15b0
              try clear c16
              try clear c16b0
              try clear p2
              try clear p5
              try clear p6
              try clear q5
              obtain ⟨x6_2, x9_2, rfl, rfl, HA, HK2, ⟨m2, rfl⟩⟩ := hrel
              cases gk with
              | zero => exact absurd HA.out (by simp [malthouseref01_Rune.l0])
              | succ k2 =>
                have H := HA.out
                clear HA
                simp only [malthouseref01_Rune.l0] at H
                by_cases c17 : x9_2 < x7_5
                · rw [if_pos c17] at H
                  have c17b0 : decide (x9_2 < x7_5) = true := decide_eq_true c17
                  clear c17
                  obtain ⟨ji18, hji18⟩ : ∃ j_ : Int, (wrap64 (a1 + x9_2)) = j_ := ⟨_, rfl⟩
                  replace H : (if 0 ≤ (ji18) then (if (ji18) < (a0.size : Int) then (if (wrap64 (bt a0 (ji18))) < 128 then (some (0, 0)) else (if (wrap64 (bt a0 (ji18))) ≥ 192 then (some (0, 0)) else (malthouseref01_Rune.l0 k2 a0 a1 (wrap64 ((wrap64 ((wrap64 (64 * x6_2)) + (wrap64 (bt a0 (ji18))))) - 128)) x7_5 x8_5 (wrap64 (x9_2 + 1))))) else (none)) else (none)) = some (r1, r2) := by first | (rw [hji18] at H; exact H) | (simp only [hji18] at H ⊢; exact H)
                  have hji18w : (IntKind.i64.wrap (a1 + x9_2)) = ji18 := (i64_w _).trans hji18
                  by_cases c19 : 0 ≤ (ji18)
                  · rw [if_pos c19] at H
                    have c19b0 : decide (0 ≤ (ji18)) = true := decide_eq_true c19
                    clear c19
                    by_cases c20 : (ji18) < (a0.size : Int)
                    · rw [if_pos c20] at H
                      have c20b0 : decide ((ji18) < (a0.size : Int)) = true := decide_eq_true c20
                      clear c20
                      by_cases c22 : (wrap64 (bt a0 (ji18))) < 128
                      · rw [if_pos c22] at H
                        have c22b0 : decide ((wrap64 (bt a0 (ji18))) < 128) = true := decide_eq_true c22
                        clear c22
                        simp only [Option.some.injEq, Prod.mk.injEq] at H
                        obtain ⟨rfl, rfl⟩ := H
                        have p21 : 0 ≤ ((ji18) : Int) := of_decide_eq_true (by first | (with_reducible assumption) | assumption)
                        have q21 : (ji18) < (a0.size : Int) := of_decide_eq_true (by first | (with_reducible assumption) | assumption)
                        have hx21 := bt_at a0 (ji18)
                        replace p21 := eq_true p21
                        replace q21 := eq_true q21
                        go_wp2
                        go_ret2
                        exact ⟨by first | rfl | (simp; done) | (simp only [← hji18] <;> (first | rfl | simp)) | (simp [*]; done), by repeat (first | exact Drawn0.refl _ | apply Drawn0.step)⟩
                      · rw [if_neg c22] at H
                        have c22b0 : decide ((wrap64 (bt a0 (ji18))) < 128) = false := decide_eq_false c22
                        clear c22
                        by_cases c23 : (wrap64 (bt a0 (ji18))) ≥ 192
                        · rw [if_pos c23] at H
                          have c23b0 : decide (192 ≤ (wrap64 (bt a0 (ji18)))) = true := decide_eq_true c23
                          clear c23
                          simp only [Option.some.injEq, Prod.mk.injEq] at H
                          obtain ⟨rfl, rfl⟩ := H
                          have p21 : 0 ≤ ((ji18) : Int) := of_decide_eq_true (by first | (with_reducible assumption) | assumption)
                          have q21 : (ji18) < (a0.size : Int) := of_decide_eq_true (by first | (with_reducible assumption) | assumption)
                          have hx21 := bt_at a0 (ji18)
                          replace p21 := eq_true p21
                          replace q21 := eq_true q21
                          go_wp2
                          go_ret2
                          exact ⟨by first | rfl | (simp; done) | (simp only [← hji18] <;> (first | rfl | simp)) | (simp [*]; done), by repeat (first | exact Drawn0.refl _ | apply Drawn0.step)⟩
                        · rw [if_neg c23] at H
                          have c23b0 : decide (192 ≤ (wrap64 (bt a0 (ji18)))) = false := decide_eq_false c23
                          clear c23
                          have H' := Aside0.mk H
                          clear H
                          have p21 : 0 ≤ ((ji18) : Int) := of_decide_eq_true (by first | (with_reducible assumption) | assumption)
                          have q21 : (ji18) < (a0.size : Int) := of_decide_eq_true (by first | (with_reducible assumption) | assumption)
                          have hx21 := bt_at a0 (ji18)
                          replace p21 := eq_true p21
                          replace q21 := eq_true q21
                          go_wp2
                          go_roundg k2
                          case measure => have := HJ5.out; have := HK2.out; omega
                          case rel => exact ⟨(wrap64 ((wrap64 ((wrap64 (64 * x6_2)) + (wrap64 (bt a0 (ji18))))) - 128)), (wrap64 (x9_2 + 1)), (by first | rfl | (simp; done) | (simp only [← hji18] <;> (first | rfl | simp)) | (simp [*]; done)), (by first | rfl | (simp; done) | (simp [*]; done)), H', ⟨by have := HJ5.out; have := HK2.out; omega⟩, by repeat (first | exact Drawn0.refl _ | apply Drawn0.step)⟩
                    · rw [if_neg c20] at H
                      exact absurd H (by simp)
                  · rw [if_neg c19] at H
                    exact absurd H (by simp)
                · rw [if_neg c17] at H
                  have c17b0 : decide (x9_2 < x7_5) = false := decide_eq_false c17
                  clear c17
                  by_cases c24 : x6_2 < x8_5
                  · rw [if_pos c24] at H
                    have c24b0 : decide (x6_2 < x8_5) = true := decide_eq_true c24
                    clear c24
                    simp only [Option.some.injEq, Prod.mk.injEq] at H
                    obtain ⟨rfl, rfl⟩ := H
                    go_wp2
                    go_ret2
                    exact ⟨by first | rfl | (simp; done) | (simp [*]; done), by repeat (first | exact Drawn0.refl _ | apply Drawn0.step)⟩
                  · rw [if_neg c24] at H
                    have c24b0 : decide (x6_2 < x8_5) = false := decide_eq_false c24
                    clear c24
                    by_cases c25 : x6_2 > 1114111
                    · rw [if_pos c25] at H
                      have c25b0 : decide (1114111 < x6_2) = true := decide_eq_true c25
                      clear c25
                      simp only [Option.some.injEq, Prod.mk.injEq] at H
                      obtain ⟨rfl, rfl⟩ := H
                      go_wp2
                      go_ret2
                      exact ⟨by first | rfl | (simp; done) | (simp [*]; done), by repeat (first | exact Drawn0.refl _ | apply Drawn0.step)⟩
                    · rw [if_neg c25] at H
                      have c25b0 : decide (1114111 < x6_2) = false := decide_eq_false c25
                      clear c25
                      by_cases c26 : x6_2 ≥ 55296
                      · rw [if_pos c26] at H
                        have c26b0 : decide (55296 ≤ x6_2) = true := decide_eq_true c26
                        clear c26
                        by_cases c27 : x6_2 ≤ 57343
                        · rw [if_pos c27] at H
                          have c27b0 : decide (x6_2 ≤ 57343) = true := decide_eq_true c27
                          clear c27
                          simp only [Option.some.injEq, Prod.mk.injEq] at H
                          obtain ⟨rfl, rfl⟩ := H
                          go_wp2
                          go_ret2
                          exact ⟨by first | rfl | (simp; done) | (simp [*]; done), by repeat (first | exact Drawn0.refl _ | apply Drawn0.step)⟩
                        · rw [if_neg c27] at H
                          have c27b0 : decide (x6_2 ≤ 57343) = false := decide_eq_false c27
                          clear c27
                          simp only [Option.some.injEq, Prod.mk.injEq] at H
                          obtain ⟨rfl, rfl⟩ := H
                          go_wp2
                          go_ret2
                          exact ⟨by first | rfl | (simp; done) | (simp [*]; done), by repeat (first | exact Drawn0.refl _ | apply Drawn0.step)⟩
                      · rw [if_neg c26] at H
                        have c26b0 : decide (55296 ≤ x6_2) = false := decide_eq_false c26
                        clear c26
                        simp only [Option.some.injEq, Prod.mk.injEq] at H
                        obtain ⟨rfl, rfl⟩ := H
                        go_wp2
                        go_ret2
                        exact ⟨by first | rfl | (simp; done) | (simp [*]; done), by repeat (first | exact Drawn0.refl _ | apply Drawn0.step)⟩
    · rw [if_neg c4] at H
      exact absurd H (by simp)
  · rw [if_neg c3] at H
    exact absurd H (by simp)
def malthouseref01_Runes.l0 : Nat → ByteArray → Int → ByteArray → List Int → List Int → Option (ByteArray × List Int × List Int × Bool)
  | 0, _, _, _, _, _ => none
  | k + 1, x0, x5, x206000, x206001, x206002 => if x5 < (x0.size : Int) then ((malthouseref01_Rune.f k x0 x5).bind fun bt206 => (if bt206.2 = 0 then (some (x206000, x206001, x206002, false)) else (if x206001.length < 17592186044416 then (if x206002.length < 17592186044416 then (malthouseref01_Runes.l0 k x0 (wrap64 (x5 + bt206.2)) x206000 (x206001 ++ [bt206.1]) (x206002 ++ [x5])) else (none)) else (none)))) else (if x206002.length < 17592186044416 then (some (x206000, x206001, (x206002 ++ [(x0.size : Int)]), true)) else (none))
def malthouseref01_Runes.f (k : Nat) (a0 : ByteArray) : Option (ByteArray × List Int × List Int × Bool) := malthouseref01_Runes.l0 k a0 0 a0 ([] : List Int) ([] : List Int)
set_option maxHeartbeats 8000000 in
set_option maxRecDepth 100000 in
theorem malthouseref01_Runes.calls (k : Nat) (a0 : ByteArray) (r1 : ByteArray) (r2 : List Int) (r3 : List Int) (r4 : Bool) (w : World) (h : malthouseref01_Runes.f k a0 = some (r1, r2, r3, r4)) :
    Calls Tryd.prog 61 #[.string a0] w fun e w' => ∃ v1_ v2_ : Value, e = .returned (.tuple #[.agg #[.string r1, v1_, v2_], .bool r4]) ∧ Kd.R (Kd.int .i64) 3 w' w.heap.size (fun k_ => some k_ ≠ (v2_ : Value).ownBlock) v1_ r2 ∧ Kd.R (Kd.int .i64) 3 w' w.heap.size (fun k_ => some k_ ≠ (v1_ : Value).ownBlock) v2_ r3 ∧ Below w.heap.size w w' := by
  have hu83 := Tryd.underlying83
  have HB := Aside0.mk (Below.refl w.heap.size w)
  have H : (malthouseref01_Runes.l0 k a0 0 a0 ([] : List Int) ([] : List Int)) = some (r1, r2, r3, r4) := h
  clear h
  have H' := Aside0.mk H
  clear H
  go_enter Tryd.func61, Tryd.ntmps61
  go_wp2_with (first | ((with_reducible refine gate_dst (N := 2) rfl ?_); refine box_event ?hg (N := 2) ?hd (cs := #[.string (⟨#[]⟩ : ByteArray), .slice none 0 0, .slice none 0 0]) (t := 83) ?hr ?_; (case hd => rfl); (case hg => rfl); (case hr => first | (go_simp; done) | (go_simp; rfl)); intro gb204 hg w2 hbox hb; have n0_ := Aside0.mk (below_step (by repeat (first | (with_reducible first | exact HB.out | apply below_alloc | apply pw_below_drewN | apply below_drew1) | exact HB.out)) hb); have n1_ := Aside0.mk (hbox); have n2_ := Aside0.mk ((by rw [hg]; exact (below_size (by repeat (first | (with_reducible first | exact HB.out | apply below_alloc | apply pw_below_drewN | apply below_drew1) | exact HB.out))) : w.heap.size ≤ gb204)); have n3_ := Aside0.mk ((by rw [hg]; exact (below_size (by repeat (first | (with_reducible first | exact HB.out | apply below_alloc | apply pw_below_drewN | apply below_drew1) | exact HB.out))) : w.heap.size ≤ gb204)); clear HB; have HB := n0_; have BK204 := n1_; have GW204 := n2_; have GE204 := n3_; clear n0_ n1_ n2_ n3_; clear hb hbox hg) | ((with_reducible refine gate_dst (N := 4) rfl ?_); refine box_event ?hg (N := 4) ?hd (cs := #[.string (⟨#[]⟩ : ByteArray), .slice none 0 0, .slice none 0 0]) (t := 83) ?hr ?_; (case hd => rfl); (case hg => rfl); (case hr => first | (go_simp; done) | (go_simp; rfl)); intro gb205 hg w3 hbox hb; have n0_ := Aside0.mk (blk_below (g := gb204) (o := .cells #[.string (⟨#[]⟩ : ByteArray), .slice none 0 0, .slice none 0 0] 83 (0, 0)) (by (with_reducible repeat (first | refine blk_drewN ?_ _ | refine blk_drew ?_ | refine blk_alloc ?_ _)); exact BK204.out) hb); have n1_ := Aside0.mk (below_step (by repeat (first | (with_reducible first | exact HB.out | apply below_alloc | apply pw_below_drewN | apply below_drew1 | refine below_set ?_ GE204.out) | exact HB.out)) hb); have n2_ := Aside0.mk (hbox); have n3_ := Aside0.mk ((by rw [hg]; exact (below_size (by repeat (first | (with_reducible first | exact HB.out | apply below_alloc | apply pw_below_drewN | apply below_drew1 | refine below_set ?_ GE204.out) | exact HB.out))) : w.heap.size ≤ gb205)); have n4_ := Aside0.mk ((by rw [hg]; exact (below_size (by repeat (first | (with_reducible first | exact HB.out | apply below_alloc | apply pw_below_drewN | apply below_drew1 | refine below_set ?_ GE204.out) | exact HB.out))) : w.heap.size ≤ gb205)); have n5_ := Aside0.mk ((by rw [hg]; exact Nat.ne_of_lt (blk_lt (g := gb204) (o := .cells #[.string (⟨#[]⟩ : ByteArray), .slice none 0 0, .slice none 0 0] 83 (0, 0)) (by (with_reducible repeat (first | refine blk_drewN ?_ _ | refine blk_drew ?_ | refine blk_alloc ?_ _)); exact BK204.out)) : gb204 ≠ gb205)); have n6_ := Aside0.mk ((by rw [hg]; exact Nat.ne_of_gt (blk_lt (g := gb204) (o := .cells #[.string (⟨#[]⟩ : ByteArray), .slice none 0 0, .slice none 0 0] 83 (0, 0)) (by (with_reducible repeat (first | refine blk_drewN ?_ _ | refine blk_drew ?_ | refine blk_alloc ?_ _)); exact BK204.out)) : gb205 ≠ gb204)); clear BK204; clear HB; have BK204 := n0_; have HB := n1_; have BK205 := n2_; have GW205 := n3_; have GE205 := n4_; have NB204_205 := n5_; have NB205_204 := n6_; clear n0_ n1_ n2_ n3_ n4_ n5_ n6_; clear hb hbox hg; have hnb4 := NB205_204.out; have hnc4 := NB204_205.out; have hcz5_0 : w3.cell? ⟨gb205, 0, none⟩ = some (.string (⟨#[]⟩ : ByteArray)) := (blk_cell BK205.out 0).trans rfl; have hcz5_1 : w3.cell? ⟨gb205, 1, none⟩ = some (.slice none 0 0) := (blk_cell BK205.out 1).trans rfl; have hcz5_2 : w3.cell? ⟨gb205, 2, none⟩ = some (.slice none 0 0) := (blk_cell BK205.out 2).trans rfl; have hfz5_0 := blk_frozen BK205.out 0; have hfz5_1 := blk_frozen BK205.out 1; have hfz5_2 := blk_frozen BK205.out 2))
  go_loopg [5] k (fun kq v5 w' => ∃ (x5_1 : Int) (x205000_1 : ByteArray) (x206001_1 : List Int) (x206002_1 : List Int) (u206001 : Value) (u206002 : Value), v5 = .int .i64 x5_1 ∧ Aside0 (malthouseref01_Runes.l0 kq a0 x5_1 a0 x206001_1 x206002_1 = some (r1, r2, r3, r4)) ∧ Aside0 (kq ≤ k) ∧ Aside0 (Kd.R (Kd.int .i64) 3 w' w.heap.size (fun k_ => some k_ ≠ (u206002 : Value).ownBlock) u206001 x206001_1) ∧ Aside0 (Kd.R (Kd.int .i64) 3 w' w.heap.size (fun k_ => some k_ ≠ (u206001 : Value).ownBlock) u206002 x206002_1) ∧ Aside0 (w'.heap[gb204]? = some (.cells #[.string x205000_1, (.slice none 0 0), (.slice none 0 0)] 83 (0, 0))) ∧ Aside0 (w'.heap[gb205]? = some (.cells #[.string a0, u206001, u206002] 83 (0, 0))) ∧ Aside0 (Below w.heap.size w w'))
  case atStart => exact ⟨(0), ((⟨#[]⟩ : ByteArray)), (([] : List Int)), (([] : List Int)), (.slice none 0 0), (.slice none 0 0), (by first | rfl | (simp; done) | (simp [*]; done)), H', ⟨Nat.le_refl _⟩, ⟨by first | exact Kd.R_nil _ _ _ _ _ | exact Kd.N_nil _ _ _ _ _ | exact Kd.V_nil _ _ _ _ _ | exact Kd.Q_nil _ _ _ _ _ | exact Kd.S_nil _ _ _ _ _⟩, ⟨by first | exact Kd.R_nil _ _ _ _ _ | exact Kd.N_nil _ _ _ _ _ | exact Kd.V_nil _ _ _ _ _ | exact Kd.Q_nil _ _ _ _ _ | exact Kd.S_nil _ _ _ _ _⟩, ⟨by (with_reducible repeat (first | refine blk_drewN ?_ _ | refine blk_drew ?_ | refine blk_alloc ?_ _)); refine blk_far ?_ NB204_205.out _; (with_reducible repeat (first | refine blk_drewN ?_ _ | refine blk_drew ?_ | refine blk_alloc ?_ _)); refine blk_far ?_ NB204_205.out _; (with_reducible repeat (first | refine blk_drewN ?_ _ | refine blk_drew ?_ | refine blk_alloc ?_ _)); refine blk_far ?_ NB204_205.out _; (with_reducible repeat (first | refine blk_drewN ?_ _ | refine blk_drew ?_ | refine blk_alloc ?_ _)); exact BK204.out⟩, ⟨by (with_reducible repeat (first | refine blk_drewN ?_ _ | refine blk_drew ?_ | refine blk_alloc ?_ _)); refine blk_put (cs := #[.string a0, .slice none 0 0, .slice none 0 0]) ?_ 2 _ rfl; (with_reducible repeat (first | refine blk_drewN ?_ _ | refine blk_drew ?_ | refine blk_alloc ?_ _)); refine blk_put (cs := #[.string a0, .slice none 0 0, .slice none 0 0]) ?_ 1 _ rfl; (with_reducible repeat (first | refine blk_drewN ?_ _ | refine blk_drew ?_ | refine blk_alloc ?_ _)); refine blk_put (cs := #[.string (⟨#[]⟩ : ByteArray), .slice none 0 0, .slice none 0 0]) ?_ 0 _ rfl; (with_reducible repeat (first | refine blk_drewN ?_ _ | refine blk_drew ?_ | refine blk_alloc ?_ _)); exact BK205.out⟩, ⟨by repeat (first | (with_reducible first | exact HB.out | apply below_alloc | apply pw_below_drewN | apply below_drew1 | refine below_set ?_ GE204.out | refine below_set ?_ GE205.out) | exact HB.out)⟩⟩
  case round =>
    clear H'
    try clear p2
    try clear c4
    try clear hcz5_0
    try clear hcz5_1
    try clear hcz5_2
    try clear hfz5_0
    try clear hfz5_1
    try clear hfz5_2
    obtain ⟨x5_1, x205000_1, x206001_1, x206002_1, u206001, u206002, rfl, HA, HK1, HO_206001, HO_206002, BK204, BK205, HB⟩ := hrel
    cases gk with
    | zero => exact absurd HA.out (by simp [malthouseref01_Runes.l0])
    | succ k1 =>
      have H := HA.out
      clear HA
      simp only [malthouseref01_Runes.l0] at H
      by_cases c6 : x5_1 < (a0.size : Int)
      · rw [if_pos c6] at H
        have c6b0 : decide (x5_1 < (a0.size : Int)) = true := decide_eq_true c6
        clear c6
        replace H := Option.bind_eq_some_iff.mp H
        obtain ⟨⟨t206, t207⟩, A70, H⟩ := H
        replace H : (if t207 = 0 then (some (a0, x206001_1, x206002_1, false)) else (if x206001_1.length < 17592186044416 then (if x206002_1.length < 17592186044416 then (malthouseref01_Runes.l0 k1 a0 (wrap64 (x5_1 + t207)) a0 (x206001_1 ++ [t206]) (x206002_1 ++ [x5_1])) else (none)) else (none))) = some (r1, r2, r3, r4) := H
        have A7 := Aside0.mk A70
        clear A70
        by_cases c8 : t207 = 0
        · rw [if_pos c8] at H
          have c8b0 : (t207 == 0) = true := beq_iff_eq.mpr c8
          have c8b1 : (t207 != 0) = false := bne_eq_false_iff_eq.mpr c8
          clear c8
          simp only [Option.some.injEq, Prod.mk.injEq] at H
          obtain ⟨rfl, rfl, rfl, rfl⟩ := H
          go_wp2_with (first | ((with_reducible refine gate_callee (f := 64) rfl ?_); refine goesL_ (some 17) rfl rfl Tryd.func64 (by kernel_rfl) rfl #[.string a0, .int .i64 x5_1] rfl (by (try simp only [List.map_toArray, List.map_cons, List.map_nil]); first | done | rfl | (simp only [List.length_drop, List.length_take]; rfl)) ?_; (with_reducible refine (malthouseref01_Rune.calls k1 a0 x5_1 t206 t207 _ A7.out).mono ?_); rintro e w' ⟨rfl, ⟨nd, rfl⟩⟩; refine ⟨_, rfl, ?_⟩; (try (rw [drewN_self wr]; generalize hq_ : World.drewN wr _ = wr; have n0_ : Aside0 (Kd.R (Kd.int .i64) 3 wr w.heap.size (fun k_ => some k_ ≠ (u206002 : Value).ownBlock) u206001 x206001_1) := ⟨by rw [← hq_]; exact (by (with_reducible repeat (first | apply Kd.R_alloc | apply Kd.R_drewN | apply Kd.R_drew)); exact HO_206001.out)⟩; have n1_ : Aside0 (Kd.R (Kd.int .i64) 3 wr w.heap.size (fun k_ => some k_ ≠ (u206001 : Value).ownBlock) u206002 x206002_1) := ⟨by rw [← hq_]; exact (by (with_reducible repeat (first | apply Kd.R_alloc | apply Kd.R_drewN | apply Kd.R_drew)); exact HO_206002.out)⟩; have n2_ : Aside0 (wr.heap[gb204]? = some (.cells #[.string x205000_1, .slice none 0 0, .slice none 0 0] 83 (0, 0))) := ⟨by rw [← hq_]; exact (by (with_reducible repeat (first | refine blk_drewN ?_ _ | refine blk_drew ?_ | refine blk_alloc ?_ _)); exact BK204.out)⟩; have n3_ : Aside0 (wr.heap[gb205]? = some (.cells #[.string a0, u206001, u206002] 83 (0, 0))) := ⟨by rw [← hq_]; exact (by (with_reducible repeat (first | refine blk_drewN ?_ _ | refine blk_drew ?_ | refine blk_alloc ?_ _)); exact BK205.out)⟩; have n4_ : Aside0 (Below w.heap.size w wr) := ⟨by rw [← hq_]; exact (by repeat (first | (with_reducible first | exact HB.out | apply below_alloc | apply pw_below_drewN | apply below_drew1 | refine below_set ?_ GE204.out | refine below_set ?_ GE205.out) | exact HB.out))⟩; clear HO_206001 HO_206002 BK204 BK205 HB hq_; have HO_206001 := n0_; have HO_206002 := n1_; have BK204 := n2_; have BK205 := n3_; have HB := n4_; clear n0_ n1_ n2_ n3_ n4_)); have hnb9 := NB205_204.out; have hnc9 := NB204_205.out; have hcz10_0 : wr.cell? ⟨gb205, 0, none⟩ = some (.string a0) := (blk_cell BK205.out 0).trans rfl; have hcz10_1 : wr.cell? ⟨gb205, 1, none⟩ = some (u206001) := (blk_cell BK205.out 1).trans rfl; have hcz10_2 : wr.cell? ⟨gb205, 2, none⟩ = some (u206002) := (blk_cell BK205.out 2).trans rfl; have hfz10_0 := blk_frozen BK205.out 0; have hfz10_1 := blk_frozen BK205.out 1; have hfz10_2 := blk_frozen BK205.out 2; have hcz11_0 : wr.cell? ⟨gb204, 0, none⟩ = some (.string x205000_1) := (blk_cell BK204.out 0).trans rfl; have hcz11_1 : wr.cell? ⟨gb204, 1, none⟩ = some (.slice none 0 0) := (blk_cell BK204.out 1).trans rfl; have hcz11_2 : wr.cell? ⟨gb204, 2, none⟩ = some (.slice none 0 0) := (blk_cell BK204.out 2).trans rfl; have hfz11_0 := blk_frozen BK204.out 0; have hfz11_1 := blk_frozen BK204.out 1; have hfz11_2 := blk_frozen BK204.out 2; obtain ⟨Ao12, co12, eo12⟩ := Kd.R_slice HO_206001.out; subst eo12; obtain ⟨Ao13, co13, eo13⟩ := Kd.R_slice HO_206002.out; subst eo13))
          refine bodyPost_ret (results_ct rfl _ _ gb204 83 #[.string a0, .slice Ao12 x206001_1.length co12, .slice Ao13 x206002_1.length co13] (0, 0) _ rfl (by (with_reducible repeat (first | refine blk_drewN ?_ _ | refine blk_drew ?_ | refine blk_alloc ?_ _)); refine blk_put (cs := #[.string a0, .slice Ao12 x206001_1.length co12, .slice none 0 0]) ?_ 2 _ rfl; (with_reducible repeat (first | refine blk_drewN ?_ _ | refine blk_drew ?_ | refine blk_alloc ?_ _)); refine blk_put (cs := #[.string a0, .slice none 0 0, .slice none 0 0]) ?_ 1 _ rfl; (with_reducible repeat (first | refine blk_drewN ?_ _ | refine blk_drew ?_ | refine blk_alloc ?_ _)); refine blk_put (cs := #[.string x205000_1, .slice none 0 0, .slice none 0 0]) ?_ 0 _ rfl; (with_reducible repeat (first | refine blk_drewN ?_ _ | refine blk_drew ?_ | refine blk_alloc ?_ _)); exact BK204.out) Tryd.underlying83 rfl (by kernel_rfl)) rfl ?_
          exact ⟨_, _, by first | rfl | (simp [errW_none, errW_some] <;> rfl) | (simp [*, errW_none, errW_some] <;> rfl), by (with_reducible repeat (first | apply Kd.R_alloc | apply Kd.R_drewN | apply Kd.R_drew)); exact Kd.R_mono (Kd.R_far (p := ⟨gb204, 2, none⟩) (Kd.R_far (p := ⟨gb204, 1, none⟩) (Kd.R_far (p := ⟨gb204, 0, none⟩) (Kd.R_types HO_206001.out BK204.out (by decide)) (fun _ hk => hk.2) (.string a0)) (fun _ hk => hk.2) (.slice Ao12 x206001_1.length co12)) (fun _ hk => hk.2) (.slice Ao13 x206002_1.length co13)) (fun _ hk => hk.1), by (with_reducible repeat (first | apply Kd.R_alloc | apply Kd.R_drewN | apply Kd.R_drew)); exact Kd.R_mono (Kd.R_far (p := ⟨gb204, 2, none⟩) (Kd.R_far (p := ⟨gb204, 1, none⟩) (Kd.R_far (p := ⟨gb204, 0, none⟩) (Kd.R_types HO_206002.out BK204.out (by decide)) (fun _ hk => hk.2) (.string a0)) (fun _ hk => hk.2) (.slice Ao12 x206001_1.length co12)) (fun _ hk => hk.2) (.slice Ao13 x206002_1.length co13)) (fun _ hk => hk.1), by repeat (first | (with_reducible first | exact HB.out | apply below_alloc | apply pw_below_drewN | apply below_drew1 | refine below_set ?_ GE204.out | refine below_set ?_ GE205.out) | exact HB.out)⟩
        · rw [if_neg c8] at H
          have c8b0 : (t207 == 0) = false := beq_eq_false_iff_ne.mpr c8
          have c8b1 : (t207 != 0) = true := bne_iff_ne.mpr c8
          by_cases c14 : x206001_1.length < 17592186044416
          · rw [if_pos c14] at H
            have LMc14 := Aside0.mk c14
            clear c14
            obtain ⟨y208, hy208⟩ : ∃ y_ : List Int, y_ = (x206001_1 ++ [t206]) := ⟨_, rfl⟩
            replace H : (if x206002_1.length < 17592186044416 then (malthouseref01_Runes.l0 k1 a0 (wrap64 (x5_1 + t207)) a0 y208 (x206002_1 ++ [x5_1])) else (none)) = some (r1, r2, r3, r4) := by first | (rw [hy208]; with_reducible exact H) | (have H2_ := (Option.bind_some _ _).symm.trans H; rw [hy208]; with_reducible exact H2_) | (have H2_ := (Option.bind_some _ _).symm.trans H; with_reducible exact H2_) | with_reducible exact H | (rw [hy208]; exact H) | exact H
            have Ny208 := Aside0.mk hy208
            clear hy208
            by_cases c15 : x206002_1.length < 17592186044416
            · rw [if_pos c15] at H
              have LMc15 := Aside0.mk c15
              clear c15
              obtain ⟨y211, hy211⟩ : ∃ y_ : List Int, y_ = (x206002_1 ++ [x5_1]) := ⟨_, rfl⟩
              replace H : (malthouseref01_Runes.l0 k1 a0 (wrap64 (x5_1 + t207)) a0 y208 y211) = some (r1, r2, r3, r4) := by first | (rw [hy211]; with_reducible exact H) | (have H2_ := (Option.bind_some _ _).symm.trans H; rw [hy211]; with_reducible exact H2_) | (have H2_ := (Option.bind_some _ _).symm.trans H; with_reducible exact H2_) | with_reducible exact H | (rw [hy211]; exact H) | exact H
              have Ny211 := Aside0.mk hy211
              clear hy211
              have H' := Aside0.mk H
              clear H
              go_wp2_with (first | ((with_reducible refine gate_callee (f := 64) rfl ?_); refine goesL_ (some 17) rfl rfl Tryd.func64 (by kernel_rfl) rfl #[.string a0, .int .i64 x5_1] rfl (by (try simp only [List.map_toArray, List.map_cons, List.map_nil]); first | done | rfl | (simp only [List.length_drop, List.length_take]; rfl)) ?_; (with_reducible refine (malthouseref01_Rune.calls k1 a0 x5_1 t206 t207 _ A7.out).mono ?_); rintro e w' ⟨rfl, ⟨nd, rfl⟩⟩; refine ⟨_, rfl, ?_⟩; (try (rw [drewN_self wr]; generalize hq_ : World.drewN wr _ = wr; have n0_ : Aside0 (Kd.R (Kd.int .i64) 3 wr w.heap.size (fun k_ => some k_ ≠ (u206002 : Value).ownBlock) u206001 x206001_1) := ⟨by rw [← hq_]; exact (by (with_reducible repeat (first | apply Kd.R_alloc | apply Kd.R_drewN | apply Kd.R_drew)); exact HO_206001.out)⟩; have n1_ : Aside0 (Kd.R (Kd.int .i64) 3 wr w.heap.size (fun k_ => some k_ ≠ (u206001 : Value).ownBlock) u206002 x206002_1) := ⟨by rw [← hq_]; exact (by (with_reducible repeat (first | apply Kd.R_alloc | apply Kd.R_drewN | apply Kd.R_drew)); exact HO_206002.out)⟩; have n2_ : Aside0 (wr.heap[gb204]? = some (.cells #[.string x205000_1, .slice none 0 0, .slice none 0 0] 83 (0, 0))) := ⟨by rw [← hq_]; exact (by (with_reducible repeat (first | refine blk_drewN ?_ _ | refine blk_drew ?_ | refine blk_alloc ?_ _)); exact BK204.out)⟩; have n3_ : Aside0 (wr.heap[gb205]? = some (.cells #[.string a0, u206001, u206002] 83 (0, 0))) := ⟨by rw [← hq_]; exact (by (with_reducible repeat (first | refine blk_drewN ?_ _ | refine blk_drew ?_ | refine blk_alloc ?_ _)); exact BK205.out)⟩; have n4_ : Aside0 (Below w.heap.size w wr) := ⟨by rw [← hq_]; exact (by repeat (first | (with_reducible first | exact HB.out | apply below_alloc | apply pw_below_drewN | apply below_drew1 | refine below_set ?_ GE204.out | refine below_set ?_ GE205.out) | exact HB.out))⟩; clear HO_206001 HO_206002 BK204 BK205 HB hq_; have HO_206001 := n0_; have HO_206002 := n1_; have BK204 := n2_; have BK205 := n3_; have HB := n4_; clear n0_ n1_ n2_ n3_ n4_)); have hnb16 := NB205_204.out; have hnc16 := NB204_205.out; have hcz17_0 : wr.cell? ⟨gb205, 0, none⟩ = some (.string a0) := (blk_cell BK205.out 0).trans rfl; have hcz17_1 : wr.cell? ⟨gb205, 1, none⟩ = some (u206001) := (blk_cell BK205.out 1).trans rfl; have hcz17_2 : wr.cell? ⟨gb205, 2, none⟩ = some (u206002) := (blk_cell BK205.out 2).trans rfl; have hfz17_0 := blk_frozen BK205.out 0; have hfz17_1 := blk_frozen BK205.out 1; have hfz17_2 := blk_frozen BK205.out 2) | ((with_reducible refine gate_builtin (b := .append) (xs := #[.tmp 24, .tmp 26]) rfl ?_); at_builtin; refine Kd.R_append (Kd.int .i64) (w0 := w) w.heap.size rfl (.tmp 24) (.tmp 26) 81 3 (.int .i64 0) 8 rfl Tryd.underlying81 info3 rfl (by decide) (by omega) u206001 x206001_1 t206 [.int .i64 t206] (fun k_ => some k_ ≠ (u206002 : Value).ownBlock) (fun _ => False) rfl rfl ?aP (fun _ hk => hk.elim) ?aF ?aO ?aB ?aS ?aL ?_; (case aP => exact rfl); (case aB => exact (by repeat (first | (with_reducible first | exact HB.out | apply below_alloc | apply pw_below_drewN | apply below_drew1 | refine below_set ?_ GE204.out | refine below_set ?_ GE205.out) | exact HB.out))); (case aF => exact (fun k_ hk => Kd.fresh' (Kd.R_lt (by (with_reducible repeat (first | apply Kd.R_alloc | apply Kd.R_drewN | apply Kd.R_drew)); exact HO_206002.out)) k_ hk)); (case aO => exact (by (with_reducible repeat (first | apply Kd.R_alloc | apply Kd.R_drewN | apply Kd.R_drew)); exact HO_206001.out)); (case aS => exact (below_size (by repeat (first | (with_reducible first | exact HB.out | apply below_alloc | apply pw_below_drewN | apply below_drew1 | refine below_set ?_ GE204.out | refine below_set ?_ GE205.out) | exact HB.out)))); (case aL => have := LMc14.out; omega); intro v209 w18 ho hb hg hat; rw [← Ny208.out] at ho; have n0_ := Aside0.mk (Kd.R_after (ok := (fun _ => True)) (by (with_reducible repeat (first | apply Kd.R_alloc | apply Kd.R_drewN | apply Kd.R_drew)); exact Kd.R_mono HO_206002.out (fun _ hk => ⟨trivial, hk⟩)) hg hat); have n1_ := Aside0.mk (blk_grown (g := gb204) (o := .cells #[.string x205000_1, .slice none 0 0, .slice none 0 0] 83 (0, 0)) (by (with_reducible repeat (first | refine blk_drewN ?_ _ | refine blk_drew ?_ | refine blk_alloc ?_ _)); exact BK204.out) hg (Kd.R_ne HO_206001.out BK204.out (by decide))); have n2_ := Aside0.mk (blk_grown (g := gb205) (o := .cells #[.string a0, u206001, u206002] 83 (0, 0)) (by (with_reducible repeat (first | refine blk_drewN ?_ _ | refine blk_drew ?_ | refine blk_alloc ?_ _)); exact BK205.out) hg (Kd.R_ne HO_206001.out BK205.out (by decide))); have n3_ := Aside0.mk (hb); have n4_ := Aside0.mk (ho); clear HO_206002; clear BK204; clear BK205; clear HB; clear HO_206001; have HO_206002 := n0_; have BK204 := n1_; have BK205 := n2_; have HB := n3_; have HO210 := n4_; clear n0_ n1_ n2_ n3_ n4_; clear ho hb hg hat; obtain ⟨Ao19, co19, eo19⟩ := Kd.R_slice HO210.out; subst eo19; have hcz20_0 : w18.cell? ⟨gb205, 0, none⟩ = some (.string a0) := (blk_cell BK205.out 0).trans rfl; have hcz20_1 : w18.cell? ⟨gb205, 1, none⟩ = some (u206001) := (blk_cell BK205.out 1).trans rfl; have hcz20_2 : w18.cell? ⟨gb205, 2, none⟩ = some (u206002) := (blk_cell BK205.out 2).trans rfl; have hfz20_0 := blk_frozen BK205.out 0; have hfz20_1 := blk_frozen BK205.out 1; have hfz20_2 := blk_frozen BK205.out 2) | ((with_reducible refine gate_builtin (b := .append) (xs := #[.tmp 30, .tmp 32]) rfl ?_); at_builtin; refine Kd.R_append (Kd.int .i64) (w0 := w) w.heap.size rfl (.tmp 30) (.tmp 32) 81 3 (.int .i64 0) 8 rfl Tryd.underlying81 info3 rfl (by decide) (by omega) u206002 x206002_1 x5_1 [.int .i64 x5_1] (fun k_ => some k_ ≠ (.slice Ao19 y208.length co19 : Value).ownBlock) (fun _ => False) rfl (by first | (go_simp; done) | (go_simp; rfl)) ?aP (fun _ hk => hk.elim) ?aF ?aO ?aB ?aS ?aL ?_; (case aP => exact rfl); (case aB => exact (by repeat (first | (with_reducible first | exact HB.out | apply below_alloc | apply pw_below_drewN | apply below_drew1 | refine below_set ?_ GE204.out | refine below_set ?_ GE205.out) | exact HB.out))); (case aF => exact (fun k_ hk => Kd.fresh' (Kd.R_lt (by (with_reducible repeat (first | apply Kd.R_alloc | apply Kd.R_drewN | apply Kd.R_drew)); exact (Kd.R_mono (Kd.R_far (p := ⟨gb205, 1, none⟩) (Kd.R_types HO210.out BK205.out (by decide)) (fun _ hk => hk.2) (.slice Ao19 y208.length co19)) (fun _ h_ => h_.1)))) k_ hk)); (case aO => exact (by (with_reducible repeat (first | apply Kd.R_alloc | apply Kd.R_drewN | apply Kd.R_drew)); exact Kd.R_mono (Kd.R_far (p := ⟨gb205, 1, none⟩) (Kd.R_types HO_206002.out BK205.out (by decide)) (fun _ hk => hk.2) (.slice Ao19 y208.length co19)) (fun _ hk => hk.1.2))); (case aS => exact (below_size (by repeat (first | (with_reducible first | exact HB.out | apply below_alloc | apply pw_below_drewN | apply below_drew1 | refine below_set ?_ GE204.out | refine below_set ?_ GE205.out) | exact HB.out)))); (case aL => have := LMc15.out; omega); intro v212 w21 ho hb hg hat; rw [← Ny211.out] at ho; have n0_ := Aside0.mk (blk_grown (g := gb204) (o := .cells #[.string x205000_1, .slice none 0 0, .slice none 0 0] 83 (0, 0)) (by (with_reducible repeat (first | refine blk_drewN ?_ _ | refine blk_drew ?_ | refine blk_alloc ?_ _)); refine blk_far ?_ NB204_205.out _; (with_reducible repeat (first | refine blk_drewN ?_ _ | refine blk_drew ?_ | refine blk_alloc ?_ _)); exact BK204.out) hg (Kd.R_ne HO_206002.out BK204.out (by decide))); have n1_ := Aside0.mk (blk_grown (g := gb205) (o := .cells #[.string a0, .slice Ao19 y208.length co19, u206002] 83 (0, 0)) (by (with_reducible repeat (first | refine blk_drewN ?_ _ | refine blk_drew ?_ | refine blk_alloc ?_ _)); refine blk_put (cs := #[.string a0, u206001, u206002]) ?_ 1 _ rfl; (with_reducible repeat (first | refine blk_drewN ?_ _ | refine blk_drew ?_ | refine blk_alloc ?_ _)); exact BK205.out) hg (Kd.R_ne HO_206002.out BK205.out (by decide))); have n2_ := Aside0.mk (Kd.R_after (ok := (fun _ => True)) (by (with_reducible repeat (first | apply Kd.R_alloc | apply Kd.R_drewN | apply Kd.R_drew)); exact Kd.R_mono (Kd.R_far (p := ⟨gb205, 1, none⟩) (Kd.R_types HO210.out BK205.out (by decide)) (fun _ hk => hk.2) (.slice Ao19 y208.length co19)) (fun _ hk => ⟨trivial, hk.1⟩)) hg hat); have n3_ := Aside0.mk (hb); have n4_ := Aside0.mk (ho); clear BK204; clear BK205; clear HO210; clear HB; clear HO_206002; have BK204 := n0_; have BK205 := n1_; have HO210 := n2_; have HB := n3_; have HO213 := n4_; clear n0_ n1_ n2_ n3_ n4_; clear ho hb hg hat; obtain ⟨Ao22, co22, eo22⟩ := Kd.R_slice HO213.out; subst eo22; have hcz23_0 : w21.cell? ⟨gb205, 0, none⟩ = some (.string a0) := (blk_cell BK205.out 0).trans rfl; have hcz23_1 : w21.cell? ⟨gb205, 1, none⟩ = some (.slice Ao19 y208.length co19) := (blk_cell BK205.out 1).trans rfl; have hcz23_2 : w21.cell? ⟨gb205, 2, none⟩ = some (u206002) := (blk_cell BK205.out 2).trans rfl; have hfz23_0 := blk_frozen BK205.out 0; have hfz23_1 := blk_frozen BK205.out 1; have hfz23_2 := blk_frozen BK205.out 2))
              go_roundg k1
              case measure => have := HK1.out; omega
              case rel => exact ⟨(wrap64 (x5_1 + t207)), (x205000_1), (y208), (y211), (.slice Ao19 y208.length co19), (.slice Ao22 y211.length co22), (by first | rfl | (simp; done) | (simp [*]; done)), H', ⟨by have := HK1.out; omega⟩, ⟨by (with_reducible repeat (first | apply Kd.R_alloc | apply Kd.R_drewN | apply Kd.R_drew)); exact Kd.R_mono (Kd.R_far (p := ⟨gb205, 2, none⟩) (Kd.R_types HO210.out BK205.out (by decide)) (fun _ hk => hk.2) (.slice Ao22 y211.length co22)) (fun _ hk => hk.1.2)⟩, ⟨by (with_reducible repeat (first | apply Kd.R_alloc | apply Kd.R_drewN | apply Kd.R_drew)); exact Kd.R_mono (Kd.R_far (p := ⟨gb205, 2, none⟩) (Kd.R_types HO213.out BK205.out (by decide)) (fun _ hk => hk.2) (.slice Ao22 y211.length co22)) (fun _ hk => hk.1)⟩, ⟨by (with_reducible repeat (first | refine blk_drewN ?_ _ | refine blk_drew ?_ | refine blk_alloc ?_ _)); refine blk_far ?_ NB204_205.out _; (with_reducible repeat (first | refine blk_drewN ?_ _ | refine blk_drew ?_ | refine blk_alloc ?_ _)); exact BK204.out⟩, ⟨by (with_reducible repeat (first | refine blk_drewN ?_ _ | refine blk_drew ?_ | refine blk_alloc ?_ _)); refine blk_put (cs := #[.string a0, .slice Ao19 y208.length co19, u206002]) ?_ 2 _ rfl; (with_reducible repeat (first | refine blk_drewN ?_ _ | refine blk_drew ?_ | refine blk_alloc ?_ _)); exact BK205.out⟩, ⟨by repeat (first | (with_reducible first | exact HB.out | apply below_alloc | apply pw_below_drewN | apply below_drew1 | refine below_set ?_ GE204.out | refine below_set ?_ GE205.out) | exact HB.out)⟩⟩
            · rw [if_neg c15] at H
              exact absurd H (by simp)
          · rw [if_neg c14] at H
            exact absurd H (by simp)
      · rw [if_neg c6] at H
        have c6b0 : decide (x5_1 < (a0.size : Int)) = false := decide_eq_false c6
        clear c6
        by_cases c24 : x206002_1.length < 17592186044416
        · rw [if_pos c24] at H
          have LMc24 := Aside0.mk c24
          clear c24
          obtain ⟨y214, hy214⟩ : ∃ y_ : List Int, y_ = (x206002_1 ++ [(a0.size : Int)]) := ⟨_, rfl⟩
          replace H : (some (a0, x206001_1, y214, true)) = some (r1, r2, r3, r4) := by first | (rw [hy214]; with_reducible exact H) | (have H2_ := (Option.bind_some _ _).symm.trans H; rw [hy214]; with_reducible exact H2_) | (have H2_ := (Option.bind_some _ _).symm.trans H; with_reducible exact H2_) | with_reducible exact H | (rw [hy214]; exact H) | exact H
          have Ny214 := Aside0.mk hy214
          clear hy214
          simp only [Option.some.injEq, Prod.mk.injEq] at H
          obtain ⟨rfl, rfl, rfl, rfl⟩ := H
          have hnb25 := NB205_204.out
          have hnc25 := NB204_205.out
          have hcz26_0 : wr.cell? ⟨gb205, 0, none⟩ = some (.string a0) := (blk_cell BK205.out 0).trans rfl
          have hcz26_1 : wr.cell? ⟨gb205, 1, none⟩ = some (u206001) := (blk_cell BK205.out 1).trans rfl
          have hcz26_2 : wr.cell? ⟨gb205, 2, none⟩ = some (u206002) := (blk_cell BK205.out 2).trans rfl
          have hfz26_0 := blk_frozen BK205.out 0
          have hfz26_1 := blk_frozen BK205.out 1
          have hfz26_2 := blk_frozen BK205.out 2
          go_wp2_with (first | ((with_reducible refine gate_builtin (b := .append) (xs := #[.tmp 39, .tmp 42]) rfl ?_); at_builtin; refine Kd.R_append (Kd.int .i64) (w0 := w) w.heap.size rfl (.tmp 39) (.tmp 42) 81 3 (.int .i64 0) 8 rfl Tryd.underlying81 info3 rfl (by decide) (by omega) u206002 x206002_1 (a0.size : Int) [.int .i64 (a0.size : Int)] (fun k_ => some k_ ≠ (u206001 : Value).ownBlock) (fun _ => False) rfl rfl ?aP (fun _ hk => hk.elim) ?aF ?aO ?aB ?aS ?aL ?_; (case aP => exact rfl); (case aB => exact (by repeat (first | (with_reducible first | exact HB.out | apply below_alloc | apply pw_below_drewN | apply below_drew1 | refine below_set ?_ GE204.out | refine below_set ?_ GE205.out) | exact HB.out))); (case aF => exact (fun k_ hk => Kd.fresh' (Kd.R_lt (by (with_reducible repeat (first | apply Kd.R_alloc | apply Kd.R_drewN | apply Kd.R_drew)); exact HO_206001.out)) k_ hk)); (case aO => exact (by (with_reducible repeat (first | apply Kd.R_alloc | apply Kd.R_drewN | apply Kd.R_drew)); exact HO_206002.out)); (case aS => exact (below_size (by repeat (first | (with_reducible first | exact HB.out | apply below_alloc | apply pw_below_drewN | apply below_drew1 | refine below_set ?_ GE204.out | refine below_set ?_ GE205.out) | exact HB.out)))); (case aL => have := LMc24.out; omega); intro v215 w27 ho hb hg hat; rw [← Ny214.out] at ho; have n0_ := Aside0.mk (Kd.R_after (ok := (fun _ => True)) (by (with_reducible repeat (first | apply Kd.R_alloc | apply Kd.R_drewN | apply Kd.R_drew)); exact Kd.R_mono HO_206001.out (fun _ hk => ⟨trivial, hk⟩)) hg hat); have n1_ := Aside0.mk (blk_grown (g := gb204) (o := .cells #[.string x205000_1, .slice none 0 0, .slice none 0 0] 83 (0, 0)) (by (with_reducible repeat (first | refine blk_drewN ?_ _ | refine blk_drew ?_ | refine blk_alloc ?_ _)); exact BK204.out) hg (Kd.R_ne HO_206002.out BK204.out (by decide))); have n2_ := Aside0.mk (blk_grown (g := gb205) (o := .cells #[.string a0, u206001, u206002] 83 (0, 0)) (by (with_reducible repeat (first | refine blk_drewN ?_ _ | refine blk_drew ?_ | refine blk_alloc ?_ _)); exact BK205.out) hg (Kd.R_ne HO_206002.out BK205.out (by decide))); have n3_ := Aside0.mk (hb); have n4_ := Aside0.mk (ho); clear HO_206001; clear BK204; clear BK205; clear HB; clear HO_206002; have HO_206001 := n0_; have BK204 := n1_; have BK205 := n2_; have HB := n3_; have HO216 := n4_; clear n0_ n1_ n2_ n3_ n4_; clear ho hb hg hat; obtain ⟨Ao28, co28, eo28⟩ := Kd.R_slice HO216.out; subst eo28; have hcz29_0 : w27.cell? ⟨gb205, 0, none⟩ = some (.string a0) := (blk_cell BK205.out 0).trans rfl; have hcz29_1 : w27.cell? ⟨gb205, 1, none⟩ = some (u206001) := (blk_cell BK205.out 1).trans rfl; have hcz29_2 : w27.cell? ⟨gb205, 2, none⟩ = some (u206002) := (blk_cell BK205.out 2).trans rfl; have hfz29_0 := blk_frozen BK205.out 0; have hfz29_1 := blk_frozen BK205.out 1; have hfz29_2 := blk_frozen BK205.out 2; have hcz30_0 : w27.cell? ⟨gb204, 0, none⟩ = some (.string x205000_1) := (blk_cell BK204.out 0).trans rfl; have hcz30_1 : w27.cell? ⟨gb204, 1, none⟩ = some (.slice none 0 0) := (blk_cell BK204.out 1).trans rfl; have hcz30_2 : w27.cell? ⟨gb204, 2, none⟩ = some (.slice none 0 0) := (blk_cell BK204.out 2).trans rfl; have hfz30_0 := blk_frozen BK204.out 0; have hfz30_1 := blk_frozen BK204.out 1; have hfz30_2 := blk_frozen BK204.out 2; obtain ⟨Ao31, co31, eo31⟩ := Kd.R_slice HO_206001.out; subst eo31))
          refine bodyPost_ret (results_ct rfl _ _ gb204 83 #[.string a0, .slice Ao31 x206001_1.length co31, .slice Ao28 y214.length co28] (0, 0) _ rfl (by (with_reducible repeat (first | refine blk_drewN ?_ _ | refine blk_drew ?_ | refine blk_alloc ?_ _)); refine blk_put (cs := #[.string a0, .slice Ao31 x206001_1.length co31, .slice none 0 0]) ?_ 2 _ rfl; (with_reducible repeat (first | refine blk_drewN ?_ _ | refine blk_drew ?_ | refine blk_alloc ?_ _)); refine blk_put (cs := #[.string a0, .slice none 0 0, .slice none 0 0]) ?_ 1 _ rfl; (with_reducible repeat (first | refine blk_drewN ?_ _ | refine blk_drew ?_ | refine blk_alloc ?_ _)); refine blk_put (cs := #[.string x205000_1, .slice none 0 0, .slice none 0 0]) ?_ 0 _ rfl; (with_reducible repeat (first | refine blk_drewN ?_ _ | refine blk_drew ?_ | refine blk_alloc ?_ _)); refine blk_far ?_ NB204_205.out _; (with_reducible repeat (first | refine blk_drewN ?_ _ | refine blk_drew ?_ | refine blk_alloc ?_ _)); exact BK204.out) Tryd.underlying83 rfl (by kernel_rfl)) rfl ?_
          exact ⟨_, _, by first | rfl | (simp [errW_none, errW_some] <;> rfl) | (simp [*, errW_none, errW_some] <;> rfl), by (with_reducible repeat (first | apply Kd.R_alloc | apply Kd.R_drewN | apply Kd.R_drew)); exact Kd.R_mono (Kd.R_far (p := ⟨gb204, 2, none⟩) (Kd.R_far (p := ⟨gb204, 1, none⟩) (Kd.R_far (p := ⟨gb204, 0, none⟩) (Kd.R_far (p := ⟨gb205, 2, none⟩) (Kd.R_types (Kd.R_types HO_206001.out BK205.out (by decide)) BK204.out (by decide)) (fun _ hk => hk.1.2) (.slice Ao28 y214.length co28)) (fun _ hk => hk.2) (.string a0)) (fun _ hk => hk.2) (.slice Ao31 x206001_1.length co31)) (fun _ hk => hk.2) (.slice Ao28 y214.length co28)) (fun _ hk => hk.1.1.2), by (with_reducible repeat (first | apply Kd.R_alloc | apply Kd.R_drewN | apply Kd.R_drew)); exact Kd.R_mono (Kd.R_far (p := ⟨gb204, 2, none⟩) (Kd.R_far (p := ⟨gb204, 1, none⟩) (Kd.R_far (p := ⟨gb204, 0, none⟩) (Kd.R_far (p := ⟨gb205, 2, none⟩) (Kd.R_types (Kd.R_types HO216.out BK205.out (by decide)) BK204.out (by decide)) (fun _ hk => hk.1.2) (.slice Ao28 y214.length co28)) (fun _ hk => hk.2) (.string a0)) (fun _ hk => hk.2) (.slice Ao31 x206001_1.length co31)) (fun _ hk => hk.2) (.slice Ao28 y214.length co28)) (fun _ hk => hk.1.1), by repeat (first | (with_reducible first | exact HB.out | apply below_alloc | apply pw_below_drewN | apply below_drew1 | refine below_set ?_ GE204.out | refine below_set ?_ GE205.out) | exact HB.out)⟩
        · rw [if_neg c24] at H
          exact absurd H (by simp)
end Go.Proofs.YtghpmpjoedbpcaaDoor.Print
