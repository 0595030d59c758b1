import Derived.Test.YtgmcmhlomfeldaaAn2
import Derived.Below
import Derived.ChangeOld
import Derived.Ground.Names2Prog
import Derived.Ground.SlgnProg
import Derived.OpenShut
import Derived.ProofKit
import Derived.Shelf.Slices.Clone
import Derived.Shelf.Slices.SearchI
import Derived.Shelf.SlicesE.Clone
import Derived.Shelf.Small.Bits
import Derived.Shelf.Strconv.Itoa0
import Derived.ShutString
import Derived.SizedLaws
import Derived.Test.YtgmcmhlomfeldaaProg
import Derived.Test.YtgmcmhlomfeldaaRows
import Derived.WalkKit
set_option linter.unusedVariables false
set_option linter.unusedSimpArgs false
namespace Go.Proofs.YtgmcmhlomfeldaaW.PrintWords
end Go.Proofs.YtgmcmhlomfeldaaW.PrintWords
namespace Go.Proofs.YtgmcmhlomfeldaaW.PrintLast
end Go.Proofs.YtgmcmhlomfeldaaW.PrintLast
namespace Go.Proofs.YtgmcmhlomfeldaaW.PrintMore
end Go.Proofs.YtgmcmhlomfeldaaW.PrintMore
/-! ### EGrant -/
namespace Go.Proofs.Ytgmcmhlomfeldaa.Print
open Go.RowKit Go.Proofs.YtgmcmhlomfeldaaW.PrintWords Go.Proofs.YtgmcmhlomfeldaaW.PrintLast Go.Proofs.YtgmcmhlomfeldaaW.PrintMore
set_option linter.unusedSimpArgs false
set_option linter.unusedVariables false
theorem st_swap {w0 w : World} {A B : List Res} (h : St w0 (A ++ B) w) : St w0 (B ++ A) w := by
  refine h.pickN (A.length + B.length) (by simp [Nat.add_comm]) (fun i => if i < B.length then A.length + i else i - B.length) (fun i hi j hj e => ?_) (fun i r hi => ?_)
  · try dsimp only at e
    split at e <;> split at e <;> omega
  · try dsimp only
    split
    · rename_i hlt
      rw [List.getElem?_append_left hlt] at hi
      rw [List.getElem?_append_right (by omega), Nat.add_sub_cancel_left]
      exact hi
    · rename_i hlt
      rw [List.getElem?_append_right (by omega)] at hi
      have := (List.getElem?_eq_some_iff.1 hi).1
      rw [List.getElem?_append_left (by omega)]
      exact hi
theorem allocF {w0 w : World} {L : List Res} (h : St w0 L w) (cs : List Value) (t : TypeId) : St w0 (.blk w.heap.size t cs :: L) (w.alloc (.cells cs.toArray t)) := st_swap (h.alloc cs t)
theorem emptyF {w0 w : World} {L : List Res} (h : St w0 L w) (e : TypeId) (size : Nat) : St w0 (.row (.slice none 0 0) e size 0 [] :: L) w := st_swap (h.empty e size)
theorem grantM_snoc : ∀ (l : List S37) (o : List Int) (x : S37), grantM o (l ++ [x]) = if freeB (grantM o l).1 x.f2 = true then (giveM (grantM o l).1 x.f2 x.f0, (grantM o l).2.1, (grantM o l).2.2 ++ [x]) else ((grantM o l).1, (grantM o l).2.1 ++ [x], (grantM o l).2.2)
  | [], o, x => by
    show grantM o [x] = _
    rw [grantM]
    rfl
  | y :: l, o, x => by
    show grantM o (y :: (l ++ [x])) = _
    rw [grantM, grantM]
    split
    · rw [grantM_snoc l]
      split <;> rfl
    · rw [grantM_snoc l]
      split <;> rfl
theorem grantM_len : ∀ (l : List S37) (o : List Int), (grantM o l).1.length = o.length
  | [], o => rfl
  | x :: l, o => by
    rw [grantM]
    split
    · show (grantM _ l).1.length = _
      rw [grantM_len l, give_len]
    · exact grantM_len l o
def MemR (us : List Value) (l : List S37) (T : List Res) : Prop := us.length = l.length ∧ ∀ (j : Nat) (x : S37) (u : Value), l[j]? = some x → us[j]? = some u → Res.row u 3 1 x.f2.length (intRow x.f2) ∈ T
theorem wis_at {w : World} {base n c g i : Nat} {ws : List S37} {us : List Value} {x : S37} {u : Value} (h : w.ownsRow base 37 4 (.slice (some ⟨g, 0, none⟩) n c) n (vCells ws us)) (hx : ws[i]? = some x) (hu : us[i]? = some u) : CellsAt w ⟨g, i * 4, none⟩ [.int .i64 x.f0, .int .i64 x.f1, u, .int .i64 x.f3] := fun j v hv => by
  have h2 := ownsRow_get h (flat_get wisCells 4 (fun _ => rfl) (k := j) (zip_get hx hu) hv)
  by_cases h0 : j = 0
  · subst h0
    simpa [Addr.add] using h2
  · simpa [Addr.add, h0] using h2
theorem grantM_le : ∀ (l : List S37) (o : List Int), (grantM o l).2.1.length ≤ l.length ∧ (grantM o l).2.2.length ≤ l.length
  | [], o => ⟨Nat.le_refl _, Nat.le_refl _⟩
  | x :: l, o => by
    rw [grantM]
    split
    · have := grantM_le l (giveM o x.f2 x.f0)
      simp only [List.length_cons]
      omega
    · have := grantM_le l o
      simp only [List.length_cons]
      omega
theorem vCells_snoc (l : List S37) (us : List Value) (h : us.length = l.length) (x : S37) (u : Value) : vCells (l ++ [x]) (us ++ [u]) = vCells l us ++ [.int .i64 x.f0, .int .i64 x.f1, u, .int .i64 x.f3] := by
  unfold vCells
  rw [List.zip_append h.symm, List.flatMap_append]
  rfl
theorem MemR.snoc {us : List Value} {l : List S37} {T : List Res} (h : MemR us l T) {x : S37} {u : Value} (hm : Res.row u 3 1 x.f2.length (intRow x.f2) ∈ T) : MemR (us ++ [u]) (l ++ [x]) T := by
  refine ⟨by simp [h.1], fun j y v hy hv => ?_⟩
  by_cases hj : j < l.length
  · rw [List.getElem?_append_left hj] at hy
    rw [List.getElem?_append_left (by rw [h.1]; exact hj)] at hv
    exact h.2 j y v hy hv
  · rw [List.getElem?_append_right (by omega)] at hy
    rw [List.getElem?_append_right (by rw [h.1]; omega), h.1] at hv
    have hz : j - l.length = 0 := by
      have := (List.getElem?_eq_some_iff.1 hy).1
      simp at this
      omega
    rw [hz] at hy hv
    obtain rfl := Option.some.inj hy
    obtain rfl := Option.some.inj hv
    exact hm
theorem MemR.more {us : List Value} {l : List S37} {T : List Res} (h : MemR us l T) (N : List Res) : MemR us l (T ++ N) := ⟨h.1, fun j x u hx hu => List.mem_append_left _ (h.2 j x u hx hu)⟩
theorem fill_one4 (z a b c d : Value) (hz : z.cells.size = 4) :
    Instr.fill (fun i => some (i * 4, 4)) ((Array.range (1 * 4)).map (z.cells[· % z.cells.size]!)) [(0, .agg #[a, b, c, d])] = some #[a, b, c, d] := by
  generalize hA : ((Array.range (1 * 4)).map (z.cells[· % z.cells.size]!)) = arr
  have h2 : arr.size = 4 := by rw [← hA]; simp
  match arr, h2 with
  | ⟨[x, y, u, v]⟩, _ => simp [Instr.fill, Value.cells]
theorem wpList_one {P : Program} {ops : Array Oper} {rest : List Oper} {o : Oper} {a : Act} {w : World} {Q : Exit → Act → World → Prop} (hg : o.guard = none) (t : TypeId) (x : Operand) (ho : o.op = .buildSlice t 1 #[(0, x)]) (e : TypeId) (ht : P.underlying t = some (.slice e))
    (z : Value) (size bytes : Nat) (hinfo : (P.info? e).map (fun i => (i.zero, i.size, i.bytes)) = some (some z, size, bytes)) (hs0 : 0 < size) (hs1 : size ≤ 1000) (v : Value) (hx : a.eval x = v) (cells : Array Value)
    (hfill : Instr.fill (fun i => some (i * size, size)) ((Array.range (1 * size)).map (z.cells[· % z.cells.size]!)) [(0, v)] = some cells)
    (h : wpList P ops Q rest (a.put o.dst (.slice (some ⟨w.heap.size, 0, none⟩) 1 1)) (w.alloc (.cells cells e))) : wpList P ops Q (o :: rest) a w := by
  obtain ⟨ie, h2, h3, h4, h5⟩ := info_parts hinfo
  subst h4
  exact wpList_buildSlice hg t e 1 _ ho cells ie z ht h2 h3 (by omega) (by omega) (by simpa [hx] using hfill) h
theorem bcells5_eq (f g : Nat → Bool) (w : World) : (Op.equalIn 10000 60 (.agg (bcells5 f).toArray) (.agg (bcells5 g).toArray)).run Try.prog w = .ok (f 0 == g 0 && f 1 == g 1 && f 2 == g 2 && f 3 == g 3 && f 4 == g 4) w := eq5 (f 0) (f 1) (f 2) (f 3) (f 4) (g 0) (g 1) (g 2) (g 3) (g 4) w
def IAt (w : World) (A : Option Addr) (c : Nat) (l : List Int) : Prop := l.length ≤ c ∧ Kd.C (Kd.int .i64) w A l.length l
def WAt (w : World) (A : Option Addr) (c : Nat) (l : List S37) : Prop := l.length ≤ c ∧ Kd.C k37 w A l.length l
theorem infoW : (Try.prog.info? 37).map (fun i => (i.zero, i.size, i.bytes)) = some (some (.agg #[.int .i64 0, .int .i64 0, .slice none 0 0, .int .i64 0]), 4, 48) := by kernel_rfl
theorem own_ints {w : World} {base : Nat} {A : Option Addr} {c : Nat} {l : List Int} (h : w.ownsRow base 3 1 (.slice A l.length c) l.length (intRow l)) : l.length ≤ c ∧ Kd.C (Kd.int .i64) w A l.length l := (Kd.R_reads' (R_ints (ok := fun _ => True) h (fun _ _ => trivial))).2
theorem own_wis {w : World} {base : Nat} {A : Option Addr} {c : Nat} {l : List S37} {us : List Value} {T : List Res} (h : w.ownsRow base 37 4 (.slice A l.length c) l.length (vCells l us)) (hm : MemR us l T) (hT : ∀ r ∈ T, r.holds w base) (hl : l.length ≤ 1000000) : WAt w A c l := by
  obtain ⟨A2, c2, e, hc⟩ := ownsRow_len h
  obtain ⟨rfl, rfl⟩ : A = A2 ∧ c = c2 := by simpa using e
  refine ⟨hc, rfl, by omega, fun h0 => ?_⟩
  obtain ⟨ad, rfl, hcs⟩ := ownsRow_at h h0
  refine ⟨ad, rfl, fun j x hj => ?_⟩
  have hjl := (List.getElem?_eq_some_iff.1 hj).1
  obtain ⟨uj, hu⟩ : ∃ u, us[j]? = some u := ⟨_, List.getElem?_eq_getElem (by rw [hm.1]; exact hjl)⟩
  have hr : w.ownsRow base 3 1 uj x.f2.length (intRow x.f2) := hT _ (hm.2 j x _ hj hu)
  obtain ⟨A3, c3, e3, hc3⟩ := ownsRow_len hr
  rw [e3] at hr
  refine ⟨wisCells (x, uj), rfl, ?_, fun i u hi => hcs (j * 4 + i) u (flat_get wisCells 4 (fun _ => rfl) (zip_get hj hu) hi)⟩
  rw [e3]
  exact k37_mk w x hc3 (own_ints hr).2
theorem ownsRow_heap {w w' : World} {base : Nat} {e : TypeId} {size n : Nat} {v : Value} {xs : List Value} (h : w.ownsRow base e size v n xs) (hW : ∀ k, base ≤ k → k < w.heap.size → w'.heap[k]? = w.heap[k]?) : w'.ownsRow base e size v n xs := by
  refine ⟨h.1, ?_⟩
  rcases h.2 with h2 | ⟨g, cap, cur, e1, hb, hh, hr⟩
  · exact .inl h2
  · exact .inr ⟨g, cap, cur, e1, hb, (hW g hb (Array.getElem?_eq_some_iff.1 hh).1).trans hh, hr⟩
theorem holds_heap {w w' : World} {base : Nat} {r : Res} (h : r.holds w base) (hW : ∀ k, base ≤ k → k < w.heap.size → w'.heap[k]? = w.heap[k]?) : r.holds w' base := by
  cases r with
  | blk b t cs => exact ⟨h.1, (hW b h.1 (Array.getElem?_eq_some_iff.1 h.2).1).trans h.2⟩
  | row v e size n xs => exact ownsRow_heap h hW
  | obj b o => exact ⟨h.1, (hW b h.1 (Array.getElem?_eq_some_iff.1 h.2).1).trans h.2⟩
/-- What can be read, and lies in blocks from base on. -/
def IFr (base : Nat) (w : World) (A : Option Addr) (c : Nat) (l : List Int) : Prop := l.length ≤ c ∧ Kd.F (Kd.int .i64) w (fun k => base ≤ k) A l.length l
def WFr (base : Nat) (w : World) (A : Option Addr) (c : Nat) (l : List S37) : Prop := l.length ≤ c ∧ Kd.F k37 w (fun k => base ≤ k) A l.length l
theorem own_intsF {w : World} {base : Nat} {A : Option Addr} {c : Nat} {l : List Int} (h : w.ownsRow base 3 1 (.slice A l.length c) l.length (intRow l)) : IFr base w A c l := ⟨(own_ints h).1, fun W' hW => (own_ints (ownsRow_heap h hW)).2⟩
theorem own_wisF {w : World} {base : Nat} {A : Option Addr} {c : Nat} {l : List S37} {us : List Value} {T : List Res} (h : w.ownsRow base 37 4 (.slice A l.length c) l.length (vCells l us)) (hm : MemR us l T) (hT : ∀ r ∈ T, r.holds w base) (hl : l.length ≤ 1000000) : WFr base w A c l := ⟨(own_wis h hm hT hl).1, fun W' hW => (own_wis (ownsRow_heap h hW) hm (fun r hr => holds_heap (hT r hr) hW) hl).2⟩
section
variable {base base' : Nat} {w w' : World} {A : Option Addr} {c : Nat} {l : List Int} {m : List S37} {S : List Nat}
theorem IFr.at (h : IFr base w A c l) : IAt w A c l := ⟨h.1, Kd.F_now h.2⟩
theorem WFr.at (h : WFr base w A c m) : WAt w A c m := ⟨h.1, Kd.F_now h.2⟩
theorem IFr.only (h : IFr base w A c l) (ho : Only S w w') (hS : ∀ k ∈ S, k < base) : IFr base w' A c l := ⟨h.1, Kd.F_step h.2 fun k hk hlt => ho.block k hlt (fun hs => by have := hS k hs; omega)⟩
theorem WFr.only (h : WFr base w A c m) (ho : Only S w w') (hS : ∀ k ∈ S, k < base) : WFr base w' A c m := ⟨h.1, Kd.F_step h.2 fun k hk hlt => ho.block k hlt (fun hs => by have := hS k hs; omega)⟩
end
set_option maxHeartbeats 16000000 in
set_option maxRecDepth 100000 in
theorem grant_yes (A0 : Option Addr) (c0 : Nat) (o : List Int) (A1 : Option Addr) (c1 : Nat) (ws : List S37) (nx : Int) (w : World) (hr0 : Kd.C (Kd.int .i64) w A0 o.length o) (hc0 : o.length ≤ c0) (hr1 : Kd.C k37 w A1 ws.length ws) (hc1 : ws.length ≤ c1) (ho : o.length ≤ 5) (ho1 : 1 ≤ o.length) (hl : ws.length ≤ 1000000) (hll : ∀ x ∈ ws, x.f2.length ≤ 1000000) (hul : ∀ x ∈ ws, ∀ u ∈ x.f2, 0 ≤ u ∧ u < o.length) (hb : ∀ x ∈ ws, x.f0 ≠ 0) (hR : arb_Right.f 10000000 o ws nx = some true) :
    Calls Try.prog 15 #[.agg #[.slice A0 o.length c0, .slice A1 ws.length c1, .int .i64 nx]] w fun e w' => ∃ (A2 : Option Addr) (c2 : Nat) (A3 : Option Addr) (c3 : Nat) (A4 : Option Addr) (c4 : Nat), e = .returned (.tuple #[.agg #[.slice A2 (grantM o ws).1.length c2, .slice A3 (grantM o ws).2.1.length c3, .int .i64 nx], .slice A4 (grantM o ws).2.2.length c4]) ∧ IFr w.heap.size w' A2 c2 (grantM o ws).1 ∧ WFr w.heap.size w' A3 c3 (grantM o ws).2.1 ∧ WFr w.heap.size w' A4 c4 (grantM o ws).2.2 ∧ Only [] w w' := by
  have HR0 := Lib.hid hr0
  have HR1 := Lib.hid hr1
  have HUL := Lib.hid hul
  have HLL := Lib.hid hll
  have HBB := Lib.hid hb
  have HRT := Lib.hid hR
  have HS := Lib.hid (allocF (allocF (St.nil w) [.slice A0 o.length c0, .slice A1 ws.length c1, .int .i64 nx] 26) [.slice none 0 0, .slice none 0 0, .int .i64 0] 26)
  simp only [World.size_alloc] at HS
  have HA1 := Lib.hid (HS.out.cells 1 rfl)
  clear hr0 hr1 hul hll hb hR
  go_enter Try.func15, Try.ntmps15
  go_wp2_with (first
    | (with_reducible refine wpList_load_at rfl 26 (.tmp 1) rfl ⟨w.heap.size, 0, none⟩ rfl _ _ HA1.out Try.underlying26 rfl (by kernel_rfl) ?_)
    | (go_at_call 36; refine (fun (h : Hid _) => h.out) ?_))
  refine Lib.hid ?_
  generalize hW : (w.alloc (.cells #[.slice A0 o.length c0, .slice A1 ws.length c1, .int .i64 nx] 26)).alloc (.cells #[.slice none 0 0, .slice none 0 0, .int .i64 0] 26) = W0 at *
  clear hW
  refine (copied_st A0 c0 o A1 c1 ws nx W0 (Kd.C_below HR0.out HS.out.only.nil_below) (Kd.C_below HR1.out HS.out.only.nil_below) (by omega) hl HLL.out).mono ?_
  rintro e W1 ⟨A2, c2, A3, c3, us, rfl, husl, h1⟩
  have HUS := Lib.hid husl
  have h2 := allocF (HS.out.join h1) [.slice A2 o.length c2, .slice A3 ws.length c3, .int .i64 nx] 26
  simp only [List.cons_append, List.nil_append] at h2
  replace HS := Lib.hid h2
  clear h1 h2 husl HA1
  have HA1 := Lib.hid (HS.out.cells 2 rfl)
  have HWB := Lib.hid (show Only [] w (W1.alloc (.cells #[.slice A2 o.length c2, .slice A3 ws.length c3, .int .i64 nx] 26)) from HS.out.only)
  simp only []
  go_wp2_with (first
    | (with_reducible refine wpList_load_at rfl 26 (.tmp 1) rfl ⟨w.heap.size, 0, none⟩ rfl _ _ HA1.out Try.underlying26 rfl (by kernel_rfl) ?_)
    | (go_at_call 13; refine (arb_Right.calls 10000000 A0 c0 o A1 c1 ws nx true _ (Kd.C_below HR0.out HWB.out.nil_below) hc0 (Kd.C_below HR1.out HWB.out.nil_below) hc1 HRT.out).mono ?_; rintro e W3 ⟨rfl, hbl⟩; have HS3 := Lib.hid (HS.out.below hbl); clear hbl; refine (fun (h : Hid _) => h.out) ?_))
  refine Lib.hid ?_
  clear HS HA1 HWB
  have HS := HS3
  clear HS3
  generalize W1.heap.size = b4 at *
  generalize w.heap.size = b1 at *
  obtain ⟨g2, c9, e9, hc2⟩ := ownsRow_some (HS.out.row 3 rfl) (by omega)
  obtain ⟨rfl, rfl⟩ : A2 = some ⟨g2, 0, none⟩ ∧ c2 = c9 := by simpa using e9
  clear e9
  have HSN := Lib.hid (allocF HS.out (bcells5 (frK o 0)) 60)
  rw [frK_zero] at HSN
  have q4 := HSN.out.cell 1 0 rfl rfl
  go_wp2
  clear q4 HS
  have HS := Lib.hid (show St w (.blk W3.heap.size 60 (bcells5 (frK o 0)) :: _) _ from HSN.out)
  clear HSN
  generalize W3.heap.size = bf at *
  generalize W3.alloc _ = W4 at *
  go_loopw [6, 7, 26] (fun _ _ si wr => ∃ (i : Nat), si = .int .i64 i ∧ i ≤ o.length ∧ Hid (St w (.blk bf 60 (bcells5 (frK o i)) :: .blk b4 26 [.slice (some ⟨g2, 0, none⟩) o.length c2, .slice A3 ws.length c3, .int .i64 nx] :: .blk (b1 + 1) 26 [.slice none 0 0, .slice none 0 0, .int .i64 0] :: .blk b1 26 [.slice A0 o.length c0, .slice A1 ws.length c1, .int .i64 nx] :: .row (.slice (some ⟨g2, 0, none⟩) o.length c2) 3 1 o.length (intRow o) :: .row (.slice A3 ws.length c3) 37 4 ws.length (vCells ws us) :: intRes us ws) wr)) (fun _ _ si _ => o.length - (intOf si).toNat)
  case atStart => exact ⟨0, rfl, by omega, HS⟩
  case round =>
    clear HS
    obtain ⟨i, rfl, hil, HS⟩ := hrel
    by_cases hlt : i < o.length
    · have hlt' : (i : Int) < o.length := by omega
      have hi0 : (0 : Int) ≤ i := by omega
      have hi5 : i < 5 := by omega
      have q2 : wr.cell? ⟨g2, i, none⟩ = some (.int .i64 o[i]) := by simpa using ownsRow_get (HS.out.row 4 rfl) (flat_get intCells 1 (fun _ => rfl) (k := 0) (List.getElem?_eq_getElem hlt) rfl)
      have HFN := Lib.hid (bcells5_set (frK o i) i hi5 (o[i] == 0))
      rw [frK_next o i hlt] at HFN
      obtain ⟨z, hz⟩ : ∃ z, o[i] = z := ⟨_, rfl⟩
      rw [hz] at HFN q2
      clear hz
      go_wp2_with (first
        | (with_reducible refine wpList_storeB rfl 4 (.tmp 34) (.tmp 33) rfl HS.out 0 rfl i (.bool (z == 0)) rfl rfl [.bool (z == 0)] rfl (by kernel_rfl) (by simp [bcells5]; omega) (by simp [Value.oneCell']) ?_; intro W5 HS5; refine (fun (h : Hid _) => h.out) ?_))
      refine Lib.hid ?_
      have h5 := HS5.out
      rw [List.set_cons_zero, splice_set _ _ _ (by simp [bcells5]; omega), HFN.out] at h5
      clear HS5 HS HFN q2
      have HS := Lib.hid h5
      clear h5
      go_wp2
      go_roundw
      case rel => exact ⟨i + 1, by go_num, by omega, HS⟩
      case measure => simp [intOf]; omega
    · obtain rfl : i = o.length := by omega
      have hlt' : ¬ (o.length : Int) < o.length := by omega
      have h5 := HS.out
      rw [frK_all o o.length (Nat.le_refl _)] at h5
      clear HS
      have HS := Lib.hid (emptyF (emptyF h5 37 4) 37 4)
      clear h5
      have q4 := HS.out.cell 3 1 rfl rfl
      go_wp2
      clear q4
      have HMI := Lib.hid (show MemR us ws (intRes us ws) from ⟨HUS.out, fun j x u hx hu => List.mem_of_getElem? (intRes_get hx hu)⟩)
      go_loopw [8, 9, 11, 12, 14, 16, 39] (fun s8 s9 _ _ _ _ si wr => ∃ (i : Nat) (oi : List Int) (li gi : List S37) (Al : Option Addr) (cl : Nat) (Ag : Option Addr) (cg : Nat) (usl usg : List Value) (T : List Res), si = .int .i64 i ∧ s9 = .slice Al li.length cl ∧ s8 = .slice Ag gi.length cg ∧ i ≤ ws.length ∧ Hid (grantM o (ws.take i) = (oi, li, gi)) ∧ Hid (MemR us ws T ∧ MemR usl li T ∧ MemR usg gi T) ∧ Hid (St w (.row (.slice Ag gi.length cg) 37 4 gi.length (vCells gi usg) :: .row (.slice Al li.length cl) 37 4 li.length (vCells li usl) :: .blk bf 60 (bcells5 (frF oi)) :: .blk b4 26 [.slice (some ⟨g2, 0, none⟩) o.length c2, .slice A3 ws.length c3, .int .i64 nx] :: .blk (b1 + 1) 26 [.slice none 0 0, .slice none 0 0, .int .i64 0] :: .blk b1 26 [.slice A0 o.length c0, .slice A1 ws.length c1, .int .i64 nx] :: .row (.slice (some ⟨g2, 0, none⟩) o.length c2) 3 1 o.length (intRow oi) :: .row (.slice A3 ws.length c3) 37 4 ws.length (vCells ws us) :: T) wr)) (fun _ _ _ _ _ _ si _ => ws.length - (intOf si).toNat)
      case atStart => exact ⟨0, o, [], [], none, 0, none, 0, [], [], intRes us ws, rfl, rfl, rfl, by omega, Lib.hid rfl, Lib.hid ⟨HMI.out, ⟨rfl, by simp⟩, ⟨rfl, by simp⟩⟩, HS⟩
      case round =>
        clear HS HMI
        obtain ⟨i, oi, li, gi, Al, cl, Ag, cg, usl, usg, T, rfl, rfl, rfl, hil, HG, HM, HS⟩ := hrel
        by_cases hlt : i < ws.length
        · have hlt2 : (i : Int) < ws.length := by omega
          have hi0 : (0 : Int) ≤ i := by omega
          obtain ⟨x, hx⟩ : ∃ x, ws[i]? = some x := ⟨_, List.getElem?_eq_getElem hlt⟩
          obtain ⟨u, hu⟩ : ∃ u, us[i]? = some u := ⟨_, List.getElem?_eq_getElem (by rw [HUS.out]; exact hlt)⟩
          obtain ⟨j, hj⟩ := List.mem_iff_getElem?.1 (HM.out.1.2 i x u hx hu)
          obtain ⟨A5, c5, rfl, hc5⟩ := ownsRow_len (HS.out.row (j + 8) hj)
          obtain ⟨g3, c4, e3, hc3⟩ := ownsRow_some (HS.out.row 7 rfl) (by omega)
          obtain ⟨rfl, rfl⟩ : A3 = some ⟨g3, 0, none⟩ ∧ c3 = c4 := by simpa using e3
          clear e3
          have HX := Lib.hid hx
          have hxl := HLL.out x (List.mem_of_getElem? hx)
          have HJ := Lib.hid hj
          have HU := Lib.hid hu
          have HXA := Lib.hid (wis_at (HS.out.row 7 rfl) hx hu)
          clear hx hj hu
          have HS2 := Lib.hid (allocF HS.out [.int .i64 x.f0, .int .i64 x.f1, .slice A5 x.f2.length c5, .int .i64 x.f3] 37)
          have HFA := Lib.hid (HS2.out.cells 3 rfl)
          have HS3 := Lib.hid (allocF HS2.out [.bool false, .bool false, .bool false, .bool false, .bool false] 60)
          simp only [World.size_alloc] at HS3
          go_wp2_with (first
            | (with_reducible refine wpList_load_at rfl 37 (.tmp 41) rfl ⟨g3, i * 4, none⟩ rfl _ _ HXA.out Try.underlying37 rfl (by kernel_rfl) ?_)
            | (with_reducible refine wpList_load_at rfl 60 (.tmp 5) rfl ⟨bf, 0, none⟩ rfl _ _ HFA.out Try.underlying60 rfl (by kernel_rfl) ?_)
            | (with_reducible refine wpList_storeB rfl 60 (.tmp 12) (.tmp 43) rfl HS3.out 0 rfl 0 (.agg (bcells5 (frF oi)).toArray) rfl rfl (bcells5 (frF oi)) rfl (by kernel_rfl) (by simp [bcells5]) (by simp [bcells5, Value.oneCell']) ?_; intro W5 HS5; refine (fun (h : Hid _) => h.out) ?_))
          refine Lib.hid ?_
          generalize wr.heap.size = bx at *
          clear HS HS2 HS3 HXA HFA
          have HS := Lib.hid (show St w (.blk (bx + 1) 60 (bcells5 (frF oi)) :: .blk bx 37 [.int .i64 x.f0, .int .i64 x.f1, .slice A5 x.f2.length c5, .int .i64 x.f3] :: .row (.slice Ag gi.length cg) 37 4 gi.length (vCells gi usg) :: .row (.slice Al li.length cl) 37 4 li.length (vCells li usl) :: .blk bf 60 (bcells5 (frF oi)) :: .blk b4 26 [.slice (some ⟨g2, 0, none⟩) o.length c2, .slice (some ⟨g3, 0, none⟩) ws.length c3, .int .i64 nx] :: .blk (b1 + 1) 26 [.slice none 0 0, .slice none 0 0, .int .i64 0] :: .blk b1 26 [.slice A0 o.length c0, .slice A1 ws.length c1, .int .i64 nx] :: .row (.slice (some ⟨g2, 0, none⟩) o.length c2) 3 1 o.length (intRow oi) :: .row (.slice (some ⟨g3, 0, none⟩) ws.length c3) 37 4 ws.length (vCells ws us) :: T) W5 from HS5.out)
          clear HS5
          have q4 := HS.out.cell 1 2 rfl rfl
          go_wp2
          clear q4
          go_loopw [14, 47] (fun _ si wr => ∃ (k : Nat), si = .int .i64 k ∧ k ≤ x.f2.length ∧ Hid (St w (.blk (bx + 1) 60 (bcells5 (thenF (frF oi) (x.f2.take k))) :: .blk bx 37 [.int .i64 x.f0, .int .i64 x.f1, .slice A5 x.f2.length c5, .int .i64 x.f3] :: .row (.slice Ag gi.length cg) 37 4 gi.length (vCells gi usg) :: .row (.slice Al li.length cl) 37 4 li.length (vCells li usl) :: .blk bf 60 (bcells5 (frF oi)) :: .blk b4 26 [.slice (some ⟨g2, 0, none⟩) o.length c2, .slice (some ⟨g3, 0, none⟩) ws.length c3, .int .i64 nx] :: .blk (b1 + 1) 26 [.slice none 0 0, .slice none 0 0, .int .i64 0] :: .blk b1 26 [.slice A0 o.length c0, .slice A1 ws.length c1, .int .i64 nx] :: .row (.slice (some ⟨g2, 0, none⟩) o.length c2) 3 1 o.length (intRow oi) :: .row (.slice (some ⟨g3, 0, none⟩) ws.length c3) 37 4 ws.length (vCells ws us) :: T) wr)) (fun _ si _ => x.f2.length - (intOf si).toNat)
          case atStart => exact ⟨0, rfl, by omega, by rw [List.take_zero, thenF_nil]; exact HS⟩
          case round =>
            clear HS
            obtain ⟨k, rfl, hkl, HS⟩ := hrel
            by_cases hlk : k < x.f2.length
            · have hlk2 : (k : Int) < x.f2.length := by omega
              have hk0 : (0 : Int) ≤ k := by omega
              obtain ⟨y, hy⟩ : ∃ y, x.f2[k]? = some y := ⟨_, List.getElem?_eq_getElem hlk⟩
              obtain ⟨g5, c6, e5, hc6⟩ := ownsRow_some (HS.out.row (j + 10) HJ.out) (by omega)
              obtain ⟨rfl, rfl⟩ : A5 = some ⟨g5, 0, none⟩ ∧ c5 = c6 := by simpa using e5
              clear e5
              have q5 : wr.cell? ⟨g5, k, none⟩ = some (.int .i64 y) := by simpa using ownsRow_get (HS.out.row (j + 10) HJ.out) (flat_get intCells 1 (fun _ => rfl) (k := 0) hy rfl)
              have HY := Lib.hid hy
              obtain ⟨hy0, hy1⟩ := HUL.out x (List.mem_of_getElem? HX.out) y (List.mem_of_getElem? hy)
              obtain ⟨m, rfl⟩ := Int.eq_ofNat_of_zero_le hy0
              clear hy
              have hm5 : m < 5 := by omega
              have HTN := Lib.hid (thenF_next (frF oi) x.f2 k _ HY.out)
              rw [Int.toNat_natCast] at HTN
              have HTM := Lib.hid (bcells5_set (thenF (frF oi) (x.f2.take k)) m hm5 true)
              rw [HTN.out] at HTM
              clear HTN
              go_wp2_with (first
                | (with_reducible refine wpList_storeB rfl 4 (.tmp 52) (.const (.bool true)) rfl HS.out 0 rfl m (.bool true) rfl rfl [.bool true] rfl (by kernel_rfl) (by simp [bcells5]; omega) (by simp [Value.oneCell']) ?_; intro W6 HS6; refine (fun (h : Hid _) => h.out) ?_))
              refine Lib.hid ?_
              have h6 := HS6.out
              rw [List.set_cons_zero, splice_set _ _ _ (by simp [bcells5]; omega), HTM.out] at h6
              clear HS6 HS HTM q5
              have HS := Lib.hid h6
              clear h6
              go_wp2
              go_roundw
              case rel => exact ⟨k + 1, by go_num, by omega, HS⟩
              case measure => simp [intOf]; omega
            · obtain rfl : k = x.f2.length := by omega
              have hlk2 : ¬ (x.f2.length : Int) < x.f2.length := by omega
              have h6 := HS.out
              rw [List.take_length] at h6
              clear HS
              have HS := Lib.hid h6
              clear h6
              have HBX := Lib.hid (HS.out.cells 1 rfl)
              have HC0 := Lib.hid (HS.out.cells 0 rfl)
              have HC4 := Lib.hid (HS.out.cells 4 rfl)
              have qn := bcells5_eq (thenF (frF oi) x.f2) (frF oi) wr
              rw [then_same oi x.f2 (fun y hy => by have := HUL.out x (List.mem_of_getElem? HX.out) y hy; omega)] at qn
              have HG2 := Lib.hid (grantM_snoc (ws.take i) o x)
              rw [HG.out] at HG2
              have hgl := grantM_le (ws.take i) o
              rw [HG.out, List.length_take] at hgl
              dsimp only at hgl
              have hlil : li.length ≤ 1000000 := by omega
              have hgil : gi.length ≤ 1000000 := by omega
              clear hgl
              have HTK := Lib.hid (show ws.take (i + 1) = ws.take i ++ [x] from by
                have hx := HX.out
                obtain ⟨h1, rfl⟩ := List.getElem?_eq_some_iff.1 hx
                exact List.take_succ_eq_append_getElem h1)
              cases hfr : freeB oi x.f2
              · rw [hfr] at qn HG2
                go_wp2_with (first
                  | (with_reducible refine wpList_load_at rfl 60 (.tmp 12) rfl ⟨bx + 1, 0, none⟩ rfl _ _ HC0.out Try.underlying60 rfl (by kernel_rfl) ?_)
                  | (with_reducible refine wpList_load_at rfl 60 (.tmp 5) rfl ⟨bf, 0, none⟩ rfl _ _ HC4.out Try.underlying60 rfl (by kernel_rfl) ?_)
                  | (with_reducible refine wpList_load_at rfl 37 (.tmp 11) rfl ⟨bx, 0, none⟩ rfl _ _ HBX.out Try.underlying37 rfl (by kernel_rfl) ?_)
                  | (with_reducible refine wpList_one rfl 24 (.tmp 58) rfl 37 Try.underlying24 (.agg #[.int .i64 0, .int .i64 0, .slice none 0 0, .int .i64 0]) 4 48 infoW (by omega) (by omega) (.agg #[.int .i64 x.f0, .int .i64 x.f1, .slice A5 x.f2.length c5, .int .i64 x.f3]) rfl #[.int .i64 x.f0, .int .i64 x.f1, .slice A5 x.f2.length c5, .int .i64 x.f3] (fill_one4 _ _ _ _ _ rfl) ?_; refine (fun (h : Hid _) => h.out) ?_))
                refine Lib.hid ?_
                clear qn HC0 HC4 HBX
                have HS2 := Lib.hid (allocF HS.out [.int .i64 x.f0, .int .i64 x.f1, .slice A5 x.f2.length c5, .int .i64 x.f3] 37)
                clear HS
                have HNB := Lib.hid (HS2.out.cells 0 rfl)
                generalize wr.heap.size = nb at *
                generalize wr.alloc _ = W7 at *
                go_wp2_with (first
                  | (at_builtin; refine wpList_appendR rfl _ _ 24 rfl HS2.out 4 rfl 48 (.agg #[.int .i64 0, .int .i64 0, .slice none 0 0, .int .i64 0]) Try.underlying24 infoW rfl (by omega) rfl (some ⟨nb, 0, none⟩) 1 1 [.int .i64 x.f0, .int .i64 x.f1, .slice A5 x.f2.length c5, .int .i64 x.f3] rfl rfl (fun _ => ⟨_, rfl, HNB.out⟩) (by simp [Value.oneCell']) (by unfold maxLen; omega) (by omega) ?_; intro A7 c7 W8 h2; have HS3 := h2; clear h2; refine (fun (h : Hid _) => h.out) ?_))
                refine Lib.hid ?_
                go_wp2
                have h8 := HS3.out
                simp only [List.set_cons_succ, List.set_cons_zero] at h8
                replace h8 := St.back (A := [_, _, _]) h8
                rw [← vCells_snoc _ _ HM.out.2.1.1, show li.length + 1 = (li ++ [x]).length from by simp] at h8
                have HS8 := Lib.hid h8
                clear h8 HS3 HS2 HNB
                go_roundw
                case rel => exact ⟨i + 1, oi, li ++ [x], gi, A7, c7, Ag, cg, usl ++ [.slice A5 x.f2.length c5], usg, T, by go_num, by rw [List.length_append]; rfl, rfl, by omega, Lib.hid (by rw [HTK.out, HG2.out]; rfl), Lib.hid ⟨HM.out.1, HM.out.2.1.snoc (List.mem_of_getElem? HJ.out), HM.out.2.2⟩, HS8⟩
                case measure => simp [intOf]; omega
              · rw [hfr] at qn HG2
                have q2 := HS.out.cell 1 2 rfl rfl
                go_wp2_with (first
                  | (with_reducible refine wpList_load_at rfl 60 (.tmp 12) rfl ⟨bx + 1, 0, none⟩ rfl _ _ HC0.out Try.underlying60 rfl (by kernel_rfl) ?_)
                  | (with_reducible refine wpList_load_at rfl 60 (.tmp 5) rfl ⟨bf, 0, none⟩ rfl _ _ HC4.out Try.underlying60 rfl (by kernel_rfl) ?_))
                clear qn q2 HC0 HC4 HBX
                have hb0 := HBB.out x (List.mem_of_getElem? HX.out)
                have HB0 := Lib.hid hb0
                have hol := grantM_len (ws.take i) o
                rw [HG.out] at hol
                have HOL := Lib.hid (show oi.length = o.length from hol)
                clear hb0 hol
                go_loopw [16, 64] (fun _ si wr => ∃ (k : Nat), si = .int .i64 k ∧ k ≤ x.f2.length ∧ Hid (St w (.blk (bx + 1) 60 (bcells5 (thenF (frF oi) x.f2)) :: .blk bx 37 [.int .i64 x.f0, .int .i64 x.f1, .slice A5 x.f2.length c5, .int .i64 x.f3] :: .row (.slice Ag gi.length cg) 37 4 gi.length (vCells gi usg) :: .row (.slice Al li.length cl) 37 4 li.length (vCells li usl) :: .blk bf 60 (bcells5 (frF (giveM oi (x.f2.take k) x.f0))) :: .blk b4 26 [.slice (some ⟨g2, 0, none⟩) o.length c2, .slice (some ⟨g3, 0, none⟩) ws.length c3, .int .i64 nx] :: .blk (b1 + 1) 26 [.slice none 0 0, .slice none 0 0, .int .i64 0] :: .blk b1 26 [.slice A0 o.length c0, .slice A1 ws.length c1, .int .i64 nx] :: .row (.slice (some ⟨g2, 0, none⟩) o.length c2) 3 1 o.length (intRow (giveM oi (x.f2.take k) x.f0)) :: .row (.slice (some ⟨g3, 0, none⟩) ws.length c3) 37 4 ws.length (vCells ws us) :: T) wr)) (fun _ si _ => x.f2.length - (intOf si).toNat)
                case atStart => exact ⟨0, rfl, by omega, HS⟩
                case round =>
                  clear HS
                  obtain ⟨k, rfl, hkl, HS⟩ := hrel
                  by_cases hlk : k < x.f2.length
                  · have hlk2 : (k : Int) < x.f2.length := by omega
                    have hk0 : (0 : Int) ≤ k := by omega
                    obtain ⟨y, hy⟩ : ∃ y, x.f2[k]? = some y := ⟨_, List.getElem?_eq_getElem hlk⟩
                    obtain ⟨g5, c6, e5, hc6⟩ := ownsRow_some (HS.out.row (j + 10) HJ.out) (by omega)
                    obtain ⟨rfl, rfl⟩ : A5 = some ⟨g5, 0, none⟩ ∧ c5 = c6 := by simpa using e5
                    clear e5
                    have q5 : wr.cell? ⟨g5, k, none⟩ = some (.int .i64 y) := by simpa using ownsRow_get (HS.out.row (j + 10) HJ.out) (flat_get intCells 1 (fun _ => rfl) (k := 0) hy rfl)
                    have HY := Lib.hid hy
                    obtain ⟨hy0, hy1⟩ := HUL.out x (List.mem_of_getElem? HX.out) y (List.mem_of_getElem? hy)
                    obtain ⟨m, rfl⟩ := Int.eq_ofNat_of_zero_le hy0
                    clear hy
                    have hm5 : m < 5 := by omega
                    have hmo : m < o.length := by omega
                    have HGN := Lib.hid (give_next oi x.f2 x.f0 k _ HY.out)
                    rw [Int.toNat_natCast] at HGN
                    have HFM := Lib.hid (bcells5_set (frF (giveM oi (x.f2.take k) x.f0)) m hm5 false)
                    rw [frF_set _ m x.f0 HB0.out (by rw [give_len, HOL.out]; exact hmo), HGN.out] at HFM
                    have HIR := Lib.hid (flat_set intCells 1 (fun _ => rfl) (giveM oi (x.f2.take k) x.f0) m 0 _ x.f0 (.int .i64 x.f0) (List.getElem?_eq_getElem (by rw [give_len, HOL.out]; exact hmo)) rfl (by omega))
                    rw [HGN.out, Nat.mul_one, Nat.add_zero] at HIR
                    have HGL := Lib.hid (show (intRow (giveM oi (x.f2.take k) x.f0)).length = o.length from by rw [intRow_length, give_len, HOL.out, Nat.mul_one])
                    go_wp2_with (first
                      | (with_reducible refine wpList_storeB rfl 4 (.tmp 69) (.const (.bool false)) rfl HS.out 4 rfl m (.bool false) rfl rfl [.bool false] rfl (by kernel_rfl) (by simp [bcells5]; omega) (by simp [Value.oneCell']) ?_; intro W6 HS6; refine (fun (h : Hid _) => h.out) ?_))
                    refine Lib.hid ?_
                    have h6 := HS6.out
                    simp only [List.set_cons_succ, List.set_cons_zero] at h6
                    rw [splice_set _ _ _ (by simp [bcells5]; omega), HFM.out] at h6
                    clear HS6 HS HFM q5
                    have HS := Lib.hid h6
                    clear h6
                    have p5 := HS.out.cell 5 0 rfl rfl
                    have p1 := HS.out.cell 1 0 rfl rfl
                    go_wp2_with (first
                      | (with_reducible refine wpList_storeR rfl 3 (.tmp 75) (.tmp 74) rfl HS.out 8 rfl m (.int .i64 x.f0) rfl rfl [.int .i64 x.f0] rfl (by kernel_rfl) (by simp; omega) (by simp [Value.oneCell']) ?_; intro W7 HS7; refine (fun (h : Hid _) => h.out) ?_))
                    refine Lib.hid ?_
                    have h6 := HS7.out
                    simp only [List.set_cons_succ, List.set_cons_zero] at h6
                    rw [splice_set _ _ _ (by rw [HGL.out]; omega), show (intRow (giveM oi (x.f2.take k) x.f0)).set m (.int .i64 x.f0) = intRow (giveM oi (x.f2.take (k + 1)) x.f0) from HIR.out] at h6
                    clear HS7 HS HIR p5 p1 HGN HGL HY
                    have HS := Lib.hid h6
                    clear h6
                    go_wp2
                    go_roundw
                    case rel => exact ⟨k + 1, by go_num, by omega, HS⟩
                    case measure => simp [intOf]; omega
                  · obtain rfl : k = x.f2.length := by omega
                    have hlk2 : ¬ (x.f2.length : Int) < x.f2.length := by omega
                    have h6 := HS.out
                    rw [List.take_length] at h6
                    clear HS
                    have HS := Lib.hid h6
                    clear h6
                    have HKC := Lib.hid (own_ints (HS.out.row (j + 10) HJ.out)).2
                    have q2 := HS.out.cell 1 2 rfl rfl
                    go_wp2_with (first
                      | (go_at_call 37; refine (clone_ints A5 c5 x.f2 wr HKC.out (by omega)).mono ?_; rintro e W3 ⟨v0, rfl, hR, hb⟩; obtain ⟨A6, c6, rfl, hc6⟩ := ownsRow_len (ints_own hR); have HS3 := Lib.hid (HS.out.made (Only.of_below hb) (ints_own hR)); clear hR hb hc6; refine (fun (h : Hid _) => h.out) ?_))
                    refine Lib.hid ?_
                    clear HS HKC q2
                    simp only [List.cons_append] at HS3
                    go_wp2_with (first
                      | (with_reducible refine wpList_storeB rfl 23 (.tmp 80) (.tmp 79) rfl HS3.out 1 rfl 2 _ rfl rfl [.slice A6 x.f2.length c6] rfl (by kernel_rfl) (by simp) (by simp [Value.oneCell']) ?_; intro W4 HS4; refine (fun (h : Hid _) => h.out) ?_))
                    refine Lib.hid ?_
                    have h4 := HS4.out
                    simp only [List.set_cons_succ, List.set_cons_zero] at h4
                    rw [splice_set _ _ _ (by simp)] at h4
                    simp only [List.set_cons_succ, List.set_cons_zero] at h4
                    clear HS4 HS3
                    have HS := Lib.hid h4
                    clear h4
                    have HBX := Lib.hid (HS.out.cells 1 rfl)
                    go_wp2_with (first
                      | (with_reducible refine wpList_load_at rfl 37 (.tmp 11) rfl ⟨bx, 0, none⟩ rfl _ _ HBX.out Try.underlying37 rfl (by kernel_rfl) ?_)
                      | (with_reducible refine wpList_one rfl 24 (.tmp 82) rfl 37 Try.underlying24 (.agg #[.int .i64 0, .int .i64 0, .slice none 0 0, .int .i64 0]) 4 48 infoW (by omega) (by omega) (.agg #[.int .i64 x.f0, .int .i64 x.f1, .slice A6 x.f2.length c6, .int .i64 x.f3]) rfl #[.int .i64 x.f0, .int .i64 x.f1, .slice A6 x.f2.length c6, .int .i64 x.f3] (fill_one4 _ _ _ _ _ rfl) ?_; refine (fun (h : Hid _) => h.out) ?_))
                    refine Lib.hid ?_
                    clear HBX
                    have HS2 := Lib.hid (allocF HS.out [.int .i64 x.f0, .int .i64 x.f1, .slice A6 x.f2.length c6, .int .i64 x.f3] 37)
                    clear HS
                    have HNB := Lib.hid (HS2.out.cells 0 rfl)
                    generalize W4.heap.size = nb at *
                    generalize W4.alloc _ = W7 at *
                    go_wp2_with (first
                      | (at_builtin; refine wpList_appendR rfl _ _ 24 rfl HS2.out 3 rfl 48 (.agg #[.int .i64 0, .int .i64 0, .slice none 0 0, .int .i64 0]) Try.underlying24 infoW rfl (by omega) rfl (some ⟨nb, 0, none⟩) 1 1 [.int .i64 x.f0, .int .i64 x.f1, .slice A6 x.f2.length c6, .int .i64 x.f3] rfl rfl (fun _ => ⟨_, rfl, HNB.out⟩) (by simp [Value.oneCell']) (by unfold maxLen; omega) (by omega) ?_; intro A7 c7 W8 h2; have HS3 := h2; clear h2; refine (fun (h : Hid _) => h.out) ?_))
                    refine Lib.hid ?_
                    go_wp2
                    have h8 := HS3.out
                    simp only [List.set_cons_succ, List.set_cons_zero] at h8
                    replace h8 := St.back (A := [_, _, _]) h8
                    rw [← vCells_snoc _ _ HM.out.2.2.1, show gi.length + 1 = (gi ++ [x]).length from by simp] at h8
                    have HS8 := Lib.hid h8
                    clear h8 HS3 HS2 HNB
                    go_roundw
                    case rel => exact ⟨i + 1, giveM oi x.f2 x.f0, li, gi ++ [x], Al, cl, A7, c7, usl, usg ++ [.slice A6 x.f2.length c6], T ++ [.row (.slice A6 x.f2.length c6) 3 1 x.f2.length (intRow x.f2)], by go_num, rfl, by rw [List.length_append]; rfl, by omega, Lib.hid (by rw [HTK.out, HG2.out]; rfl), Lib.hid ⟨HM.out.1.more _, HM.out.2.1.more _, (HM.out.2.2.more _).snoc (by simp)⟩, HS8⟩
                    case measure => simp [intOf]; omega
        · obtain rfl : i = ws.length := by omega
          have hlt2 : ¬ (ws.length : Int) < ws.length := by omega
          have hg := HG.out
          rw [List.take_length] at hg
          have HG2 := Lib.hid hg
          have hgl := grantM_le ws o
          rw [hg] at hgl
          have HGL := Lib.hid (show li.length ≤ ws.length ∧ gi.length ≤ ws.length from hgl)
          have hol := grantM_len ws o
          rw [hg] at hol
          have HOL := Lib.hid (show oi.length = o.length from hol)
          clear hg hgl hol HG
          go_wp2_with (first
            | (with_reducible refine wpList_storeB rfl 24 (.tmp 87) (.tmp 86) rfl HS.out 3 rfl 1 _ rfl rfl [.slice Al li.length cl] rfl (by kernel_rfl) (by simp) (by simp [Value.oneCell']) ?_; intro W4 HS4; refine (fun (h : Hid _) => h.out) ?_))
          refine Lib.hid ?_
          have h4 := HS4.out
          simp only [List.set_cons_succ, List.set_cons_zero] at h4
          rw [splice_set _ _ _ (by simp)] at h4
          simp only [List.set_cons_succ, List.set_cons_zero] at h4
          clear HS4 HS
          have HS := Lib.hid h4
          clear h4
          have HC4 := Lib.hid (HS.out.cells 3 rfl)
          go_wp2_with (first
            | (with_reducible refine wpList_load_at rfl 26 (.tmp 4) rfl ⟨b4, 0, none⟩ rfl _ _ HC4.out Try.underlying26 rfl (by kernel_rfl) ?_)
            | (with_reducible refine wpList_storeB rfl 26 (.tmp 2) (.tmp 88) rfl HS.out 4 rfl 0 _ rfl rfl [.slice (some ⟨g2, 0, none⟩) o.length c2, .slice Al li.length cl, .int .i64 nx] rfl (by kernel_rfl) (by simp) (by simp [Value.oneCell']) ?_; intro W5 HS5))
          have h := HS5.out
          simp only [List.set_cons_succ, List.set_cons_zero] at h
          have hT : ∀ r ∈ T, r.holds W5 w.heap.size := fun r hr => by
            obtain ⟨j, hj⟩ := List.mem_iff_getElem?.1 hr
            exact h.each (j + 8) r hj
          refine bodyPost_ret (results_row rfl _ _ (b1 + 1) _ _ _ _ rfl (h.heap 4 rfl) Try.underlying26 rfl (by kernel_rfl)) rfl ?_
          have hl1 := HGL.out
          rw [HG2.out]
          refine ⟨some ⟨g2, 0, none⟩, c2, Al, cl, Ag, cg, ?_, own_intsF (by rw [HOL.out]; exact h.row 6 rfl), own_wisF (h.row 1 rfl) HM.out.2.1 hT (Nat.le_trans hl1.1 hl), own_wisF (h.row 0 rfl) HM.out.2.2 hT (Nat.le_trans hl1.2 hl), h.only⟩
          rw [HOL.out]
          rfl
end Go.Proofs.Ytgmcmhlomfeldaa.Print
/-! ### Shelf -/
namespace Go.Proofs
open Go.Shelf
def Try.lays125_ren : Go.Shelf.Ren := ⟨fun | 125 => 54 | 128 => 64 | 129 => 65 | n => n, fun | 46 => 72 | 3 => 3 | 51 => 83 | 53 => 85 | 4 => 4 | 5 => 5 | 9 => 9 | n => n, fun | n => n⟩
theorem Try.lays125 : Go.Proofs.Lays.n125 Try.prog Try.lays125_ren := {
  mixed := by kernel_rfl
  f125 := Try.func54.trans (congrArg some (by kernel_rfl))
  f128 := Try.func64.trans (congrArg some (by kernel_rfl))
  f129 := Try.func65.trans (congrArg some (by kernel_rfl))
  t3 := Try.underlying3
  a3 := Try.isAgg3
  z3 := Try.sizeOf3
  v3 := Try.zeroValue3
  t4 := Try.underlying4
  a4 := Try.isAgg4
  z4 := Try.sizeOf4
  v4 := Try.zeroValue4
  t5 := Try.underlying5
  a5 := Try.isAgg5
  z5 := Try.sizeOf5
  v5 := Try.zeroValue5
  t9 := Try.underlying9
  a9 := Try.isAgg9
  z9 := Try.sizeOf9
  v9 := Try.zeroValue9
  t46 := Try.underlying72
  a46 := Try.isAgg72
  z46 := Try.sizeOf72
  v46 := Try.zeroValue72
  t51 := Try.underlying83
  a51 := Try.isAgg83
  z51 := Try.sizeOf83
  v51 := Try.zeroValue83
  t53 := Try.underlying85
  a53 := Try.isAgg85
  z53 := Try.sizeOf85
  v53 := Try.zeroValue85 }
/-- bits.Len: "Len returns the minimum number of bits required to represent x; the result is 0 for x == 0.": IT RETURNS 'Lib.bitLen x'; the world is as it was. (A uint has 64 bits in the model.) ITS CALLEE bits.Len64 IS MET BY ITS OWN CONTRACT OFF THE SHELF (lay that first). (LAID: no walk: one application.) -/
theorem Try.bits_Len (x : Int) (w : World) (h0 : 0 ≤ x) (h1 : x ≤ 18446744073709551615) :
    Calls Try.prog 54 #[.int .u64 x] w fun e w' => e = .returned (.int .i64 (Lib.bitLen x.toNat)) ∧ w' = w := Any.bits_Len Try.lays125 x w h0 h1
end Go.Proofs
/-! ### ESort1 -/
namespace Go.Proofs.Ytgmcmhlomfeldaa.Print
open Go.RowKit Go.Proofs.YtgmcmhlomfeldaaW.PrintWords Go.Proofs.YtgmcmhlomfeldaaW.PrintLast Go.Proofs.YtgmcmhlomfeldaaW.PrintMore
set_option linter.unusedSimpArgs false
set_option linter.unusedVariables false
set_option maxHeartbeats 8000000 in
set_option maxRecDepth 100000 in
theorem ins1 (A : Option Addr) (n c : Nat) (F : Value) (w : World) (h : n ≤ 1) : Calls Try.prog 56 #[.slice A n c, .int .i64 0, .int .i64 n, F] w fun e w' => e = .returned (.tuple #[]) ∧ Only [] w w' := by
  go_enter Try.func56, Try.ntmps56
  go_wp2
  go_loopw [8, 9] (fun si _ wr => si = .int .i64 1 ∧ wr = w) (fun _ _ _ => 0)
  case atStart => exact ⟨rfl, rfl⟩
  case round =>
    obtain ⟨rfl, rfl⟩ := hrel
    have h1 : ¬ (1 : Int) < n := by omega
    go_wp2
    go_end0
    exact ⟨rfl, Only.refl _ _⟩
set_option maxHeartbeats 8000000 in
set_option maxRecDepth 100000 in
theorem pdq1 (A : Option Addr) (n c : Nat) (k : Int) (F : Value) (w : World) (h : n ≤ 1) : Calls Try.prog 53 #[.slice A n c, .int .i64 0, .int .i64 n, .int .i64 k, F] w fun e w' => e = .returned (.tuple #[]) ∧ Only [] w w' := by
  go_enter Try.func53, Try.ntmps53
  go_wp2
  go_loopw [1, 2, 3, 10, 11, 12, 13, 14, 15, 16, 17, 18, 19, 20] (fun s1 s2 _ _ _ _ _ _ _ _ _ _ _ _ wr => s1 = .int .i64 0 ∧ s2 = .int .i64 n ∧ wr = w) (fun _ _ _ _ _ _ _ _ _ _ _ _ _ _ _ => 0)
  case atStart => exact ⟨rfl, rfl, rfl⟩
  case round =>
    obtain ⟨rfl, rfl, rfl⟩ := hrel
    have h1 : (n : Int) ≤ 12 := by omega
    go_wp2_with (go_at_call 56; refine (ins1 A n c F wr h).mono ?_; rintro e w1 ⟨rfl, h2⟩; have H2 := Lib.hid h2; clear h2)
    refine bodyPost_ret (results_none rfl _ _ _) rfl ?_
    exact ⟨rfl, H2.out⟩
set_option maxHeartbeats 8000000 in
set_option maxRecDepth 100000 in
theorem sort1 (A : Option Addr) (n c : Nat) (F : Value) (w : World) (h : n ≤ 1) : Calls Try.prog 44 #[.slice A n c, F] w fun e w' => e = .returned (.tuple #[]) ∧ Only [] w w' := by
  have h0 : (0 : Int) ≤ n := by omega
  have h1 : (n : Int) ≤ 18446744073709551615 := by omega
  go_enter Try.func44, Try.ntmps44
  go_wp2_with (first
    | (go_at_call 54; refine (Try.bits_Len n w h0 h1).mono ?_; rintro e w1 ⟨rfl, rfl⟩)
    | (go_at_call 53; refine (pdq1 A n c _ F _ h).mono ?_; rintro e w1 ⟨rfl, h2⟩; have H2 := Lib.hid h2; clear h2))
  go_end0
  exact ⟨rfl, H2.out⟩
set_option maxHeartbeats 8000000 in
set_option maxRecDepth 100000 in
theorem compact1 (A : Option Addr) (n c : Nat) (F : Value) (w : World) (h : n ≤ 1) : Calls Try.prog 46 #[.slice A n c, F] w fun e w' => e = .returned (.slice A n c) ∧ Only [] w w' := by
  have h1 : (n : Int) < 2 := by omega
  go_enter Try.func46, Try.ntmps46
  go_wp2
  go_ret
  exact ⟨rfl, Only.refl _ _⟩
end Go.Proofs.Ytgmcmhlomfeldaa.Print
/-! ### EWts -/
namespace Go.Proofs.Ytgmcmhlomfeldaa.Print
open Go.RowKit Go.Proofs.YtgmcmhlomfeldaaW.PrintWords Go.Proofs.YtgmcmhlomfeldaaW.PrintLast Go.Proofs.YtgmcmhlomfeldaaW.PrintMore
set_option linter.unusedSimpArgs false
set_option linter.unusedVariables false
/-- The pairs of one wish. -/
def prsW (o : List Int) (b : Int) (u : List Int) : List (List Int) := u.flatMap fun x => if o.getD x.toNat 0 = 0 then [] else [[b, o.getD x.toNat 0]]
def prs (o : List Int) (ws : List S37) : List (List Int) := ws.flatMap fun x => prsW o x.f0 x.f2
theorem prsW_next (o : List Int) (b : Int) (u : List Int) (k : Nat) (x : Int) (hx : u[k]? = some x) : prsW o b (u.take (k + 1)) = prsW o b (u.take k) ++ (if o.getD x.toNat 0 = 0 then [] else [[b, o.getD x.toNat 0]]) := by
  obtain ⟨hk, rfl⟩ := List.getElem?_eq_some_iff.1 hx
  unfold prsW
  rw [List.take_succ_eq_append_getElem hk, List.flatMap_append, List.flatMap_singleton]
theorem prs_next (o : List Int) (ws : List S37) (i : Nat) (x : S37) (hx : ws[i]? = some x) : prs o (ws.take (i + 1)) = prs o (ws.take i) ++ prsW o x.f0 x.f2 := by
  obtain ⟨hk, rfl⟩ := List.getElem?_eq_some_iff.1 hx
  unfold prs
  rw [List.take_succ_eq_append_getElem hk, List.flatMap_append, List.flatMap_singleton]
def MemI (us : List Value) (l : List (List Int)) (T : List Res) : Prop := us.length = l.length ∧ (∀ u ∈ us, u.oneCell' = true) ∧ ∀ (j : Nat) (x : List Int) (u : Value), l[j]? = some x → us[j]? = some u → Res.row u 3 1 x.length (intRow x) ∈ T
theorem MemI.snoc {us : List Value} {l : List (List Int)} {T : List Res} (h : MemI us l T) {x : List Int} {u : Value} (h1 : u.oneCell' = true) (hm : Res.row u 3 1 x.length (intRow x) ∈ T) : MemI (us ++ [u]) (l ++ [x]) T := by
  refine ⟨by simp [h.1], fun v hv => ?_, fun j y v hy hv => ?_⟩
  · rcases List.mem_append.1 hv with hv | hv
    · exact h.2.1 v hv
    · rw [List.mem_singleton.1 hv]
      exact h1
  · by_cases hj : j < l.length
    · rw [List.getElem?_append_left hj] at hy
      rw [List.getElem?_append_left (by rw [h.1]; exact hj)] at hv
      exact h.2.2 j y v hy hv
    · rw [List.getElem?_append_right (by omega)] at hy
      rw [List.getElem?_append_right (by rw [h.1]; omega), h.1] at hv
      have hz : j - l.length = 0 := by
        have := (List.getElem?_eq_some_iff.1 hy).1
        simp at this
        omega
      rw [hz] at hy hv
      obtain rfl := Option.some.inj hy
      obtain rfl := Option.some.inj hv
      exact hm
theorem MemI.more {us : List Value} {l : List (List Int)} {T : List Res} (h : MemI us l T) (N : List Res) : MemI us l (T ++ N) := ⟨h.1, h.2.1, fun j x u hx hu => List.mem_append_left _ (h.2.2 j x u hx hu)⟩
def LLAt (w : World) (A : Option Addr) (c : Nat) (l : List (List Int)) : Prop := l.length ≤ c ∧ Kd.C (Kd.slice 3 (Kd.int .i64)) w A l.length l
theorem own_pairs {w : World} {base : Nat} {A : Option Addr} {c : Nat} {l : List (List Int)} {us : List Value} {T : List Res} (h : w.ownsRow base 23 1 (.slice A l.length c) l.length us) (hm : MemI us l T) (hT : ∀ r ∈ T, r.holds w base) (hl : l.length ≤ 1000000000) : LLAt w A c l := by
  obtain ⟨A2, c2, e, hc⟩ := ownsRow_len h
  obtain ⟨rfl, rfl⟩ : A = A2 ∧ c = c2 := by simpa using e
  refine ⟨hc, rfl, by omega, fun h0 => ?_⟩
  obtain ⟨ad, rfl, hcs⟩ := ownsRow_at h h0
  refine ⟨ad, rfl, fun j x hj => ?_⟩
  have hjl := (List.getElem?_eq_some_iff.1 hj).1
  obtain ⟨uj, hu⟩ : ∃ u, us[j]? = some u := ⟨_, List.getElem?_eq_getElem (by rw [hm.1]; exact hjl)⟩
  have hr : w.ownsRow base 3 1 uj x.length (intRow x) := hT _ (hm.2.2 j x _ hj hu)
  obtain ⟨A3, c3, e3, hc3⟩ := ownsRow_len hr
  rw [e3] at hr
  refine ⟨[uj], rfl, ?_, fun i u hi => ?_⟩
  · rw [e3]
    exact ⟨A3, c3, rfl, hc3, (own_ints hr).2⟩
  · cases i with
    | zero =>
      obtain rfl := Option.some.inj hi
      have := hcs j _ hu
      show w.cell? (ad.add (j * 1 + 0)) = _
      simpa using this
    | succ i => simp at hi
/-- What can be read, and lies in blocks from base on. -/
def LLFr (base : Nat) (w : World) (A : Option Addr) (c : Nat) (l : List (List Int)) : Prop := l.length ≤ c ∧ Kd.F (Kd.slice 3 (Kd.int .i64)) w (fun k => base ≤ k) A l.length l
theorem own_pairsF {w : World} {base : Nat} {A : Option Addr} {c : Nat} {l : List (List Int)} {us : List Value} {T : List Res} (h : w.ownsRow base 23 1 (.slice A l.length c) l.length us) (hm : MemI us l T) (hT : ∀ r ∈ T, r.holds w base) (hl : l.length ≤ 1000000000) : LLFr base w A c l := ⟨(own_pairs h hm hT hl).1, fun W' hW => (own_pairs (ownsRow_heap h hW) hm (fun r hr => holds_heap (hT r hr) hW) hl).2⟩
theorem LLFr.at {base : Nat} {w : World} {A : Option Addr} {c : Nat} {l : List (List Int)} (h : LLFr base w A c l) : LLAt w A c l := ⟨h.1, Kd.F_now h.2⟩
theorem LLFr.only {base : Nat} {w w' : World} {A : Option Addr} {c : Nat} {l : List (List Int)} {S : List Nat} (h : LLFr base w A c l) (ho : Only S w w') (hS : ∀ k ∈ S, k < base) : LLFr base w' A c l := ⟨h.1, Kd.F_step h.2 fun k hk hlt => ho.block k hlt (fun hs => by have := hS k hs; omega)⟩
theorem int_at {w : World} {ad : Addr} {l : List Int} (h : Kd.C (Kd.int .i64) w (some ad) l.length l) (m : Nat) (hm : m < l.length) : w.cell? (ad.add m) = some (.int .i64 l[m]) := by
  obtain ⟨a2, e, hc⟩ := flat_ints h (by omega)
  obtain rfl := Option.some.inj e
  exact hc m _ (by unfold intRow; simpa using flat_get intCells 1 (fun _ => rfl) (k := 0) (List.getElem?_eq_getElem hm) rfl)
theorem fill_two1 (z : Value) (a b : Int) (hz : z.cells.size = 1) :
    Instr.fill (fun i => some (i * 1, 1)) ((Array.range (2 * 1)).map (z.cells[· % z.cells.size]!)) [(0, .int .i64 a), (1, .int .i64 b)] = some #[.int .i64 a, .int .i64 b] := by
  generalize hA : ((Array.range (2 * 1)).map (z.cells[· % z.cells.size]!)) = arr
  have h2 : arr.size = 2 := by rw [← hA]; simp
  match arr, h2 with
  | ⟨[x, y]⟩, _ => simp [Instr.fill, Value.cells]
theorem fill_one1s (z : Value) (A : Option Addr) (n c : Nat) (hz : z.cells.size = 1) :
    Instr.fill (fun i => some (i * 1, 1)) ((Array.range (1 * 1)).map (z.cells[· % z.cells.size]!)) [(0, .slice A n c)] = some #[.slice A n c] := by
  generalize hA : ((Array.range (1 * 1)).map (z.cells[· % z.cells.size]!)) = arr
  have h2 : arr.size = 1 := by rw [← hA]; simp
  match arr, h2 with
  | ⟨[x]⟩, _ => simp [Instr.fill, Value.cells]
theorem WAt.elem {w : World} {A : Option Addr} {c : Nat} {l : List S37} (h : WAt w A c l) {i : Nat} {x : S37} (hx : l[i]? = some x) :
    ∃ ad A2 c2, A = some ad ∧ IAt w A2 c2 x.f2 ∧ CellsAt w (ad.add (i * 4)) [.int .i64 x.f0, .int .i64 x.f1, .slice A2 x.f2.length c2, .int .i64 x.f3] := by
  obtain ⟨hi, rfl⟩ := List.getElem?_eq_some_iff.1 hx
  obtain ⟨ad, cs, rfl, _, hK, hcs⟩ := Kd.C_cells h.2 i hi
  obtain ⟨A2, c2, rfl, hl2, hk2⟩ := k37_open hK
  exact ⟨ad, A2, c2, rfl, ⟨hl2, hk2⟩, hcs⟩
theorem ownsRow_lit (w : World) (cells : List Value) (n size e : Nat) (hl : cells.length = n * size) (hm : n ≤ maxLen) : (w.alloc (.cells cells.toArray e)).ownsRow w.heap.size e size (.slice (some ⟨w.heap.size, 0, none⟩) n n) n cells :=
  ⟨hl, .inr ⟨w.heap.size, n, cells.toArray, rfl, Nat.le_refl _, heap_alloc_new w _, Nat.le_refl _, hm, by simp [hl], by simp [← hl]⟩⟩
theorem litF {w0 w : World} {L : List Res} (h : St w0 L w) (cells : List Value) (n size e : Nat) (hl : cells.length = n * size) (hm : n ≤ maxLen) : St w0 (L ++ [.row (.slice (some ⟨w.heap.size, 0, none⟩) n n) e size n cells]) (w.alloc (.cells cells.toArray e)) :=
  h.made ((Only.refl [] w).alloc _) (ownsRow_lit w cells n size e hl hm)
section
variable {P : Program} {ops : Array Oper} {a : Act} {w : World} {Q : Exit → Act → World → Prop} {S : List Nat} {z9 : Nat} {i : Nat} {f : Bool} {oi : Oper} {d : Nat} {T : List (Nat × Bool × Bool)} {N : Nat} {env : List (Nat × Value)}
theorem ge_two (hi : ops[i]? = some oi) (hdst : oi.dst = some d) (hd : decide (d < N) = true) (hw : L.wantE ops env oi = some true) (t : TypeId) (x y : Operand) (hop : oi.op = .buildSlice t 2 #[(0, x), (1, y)]) (e : TypeId) (ht : P.underlying t = some (.slice e))
    (z : Value) (size bytes : Nat) (hinfo : (P.info? e).map (fun i => (i.zero, i.size, i.bytes)) = some (some z, size, bytes)) (hs0 : 0 < size) (hs1 : size ≤ 1000) (cells : Array Value)
    (hfill : Instr.fill (fun i => some (i * size, size)) ((Array.range (2 * size)).map (z.cells[· % z.cells.size]!)) [(0, L.evE a env x), (1, L.evE a env y)] = some cells)
    (h : L.GrowE P ops Q S z9 T a N ((d, .slice (some ⟨w.heap.size, 0, none⟩) 2 2) :: env) (w.alloc (.cells cells e))) : L.GrowE P ops Q S z9 ((i, f, true) :: T) a N env w := by
  obtain ⟨ie, h2, h3, h4, h5⟩ := info_parts hinfo
  subst h4
  refine L.ge_mem hi hdst hd hw (w' := w.alloc (.cells cells e)) ?_ ((Only.refl _ _).alloc _) h
  have := run_buildSlice (P := P) w t e 2 #[(0, L.evE a env x), (1, L.evE a env y)] cells ie z ht h2 h3 (by omega) (by omega) hfill
  unfold execOp
  simp [hop, this]
end
theorem infoI : (Try.prog.info? 3).map (fun i => (i.zero, i.size, i.bytes)) = some (some (.int .i64 0), 1, 8) := by kernel_rfl
theorem infoS : (Try.prog.info? 23).map (fun i => (i.zero, i.size, i.bytes)) = some (some (.slice none 0 0), 1, 24) := by kernel_rfl
set_option maxHeartbeats 16000000 in
set_option maxRecDepth 100000 in
theorem waits_yes (A0 : Option Addr) (c0 : Nat) (o : List Int) (A1 : Option Addr) (c1 : Nat) (ws : List S37) (nx : Int) (w : World) (hI : IAt w A0 c0 o) (hW : WAt w A1 c1 ws) (ho : o.length ≤ 5) (ho1 : 1 ≤ o.length) (hl : ws.length ≤ 1000000) (hll : ∀ x ∈ ws, x.f2.length ≤ 1000) (hul : ∀ x ∈ ws, ∀ u ∈ x.f2, 0 ≤ u ∧ u < o.length) (hR : arb_Right.f 10000000 o ws nx = some true) (h1 : (prs o ws).length ≤ 1) :
    Calls Try.prog 25 #[.agg #[.slice A0 o.length c0, .slice A1 ws.length c1, .int .i64 nx]] w fun e w' => ∃ (A : Option Addr) (c : Nat), e = .returned (.slice A (prs o ws).length c) ∧ LLFr w.heap.size w' A c (prs o ws) ∧ Only [] w w' := by
  obtain ⟨ad, rfl, _⟩ := flat_ints hI.2 (by omega)
  have HI := Lib.hid hI
  have HW := Lib.hid hW
  have HUL := Lib.hid hul
  have HLL := Lib.hid hll
  have HRT := Lib.hid hR
  have HP1 := Lib.hid h1
  have HS := Lib.hid (allocF (St.nil w) [.slice (some ad) o.length c0, .slice A1 ws.length c1, .int .i64 nx] 26)
  have HA1 := Lib.hid (HS.out.cells 0 rfl)
  clear hI hW hul hll hR h1
  go_enter Try.func25, Try.ntmps25
  go_wp2_with (first
    | (with_reducible refine wpList_load_at rfl 26 (.tmp 1) rfl ⟨w.heap.size, 0, none⟩ rfl _ _ HA1.out Try.underlying26 rfl (by kernel_rfl) ?_)
    | (go_at_call 13; refine (arb_Right.calls 10000000 (some ad) c0 o A1 c1 ws nx true _ (Kd.C_below HI.out.2 HS.out.only.nil_below) HI.out.1 (Kd.C_below HW.out.2 HS.out.only.nil_below) HW.out.1 HRT.out).mono ?_; rintro e W3 ⟨rfl, hbl⟩; have HS3 := Lib.hid (HS.out.below hbl); clear hbl; refine (fun (h : Hid _) => h.out) ?_))
  refine Lib.hid ?_
  clear HS HA1
  have HS := Lib.hid (emptyF HS3.out 23 1)
  clear HS3
  generalize w.heap.size = b1 at *
  have p1 := HS.out.cell 1 1 rfl rfl
  go_wp2
  clear p1
  go_loopw [3, 5, 7, 14] (fun s3 _ _ si wr => ∃ (i : Nat) (l : List (List Int)) (Al : Option Addr) (cl : Nat) (us : List Value) (T : List Res), si = .int .i64 i ∧ s3 = .slice Al l.length cl ∧ i ≤ ws.length ∧ l.length ≤ i * 1000 ∧ Hid (l = prs o (ws.take i)) ∧ Hid (MemI us l T) ∧ Hid (St w (.row (.slice Al l.length cl) 23 1 l.length us :: .blk b1 26 [.slice (some ad) o.length c0, .slice A1 ws.length c1, .int .i64 nx] :: T) wr)) (fun _ _ _ si _ => ws.length - (intOf si).toNat)
  case atStart => exact ⟨0, [], none, 0, [], [], rfl, rfl, by omega, by simp, Lib.hid rfl, Lib.hid ⟨rfl, by simp, by simp⟩, HS⟩
  case round =>
    clear HS
    obtain ⟨i, l, Al, cl, us, T, rfl, rfl, hil, hll, HL, HM, HS⟩ := hrel
    by_cases hlt : i < ws.length
    · have hlt2 : (i : Int) < ws.length := by omega
      have hi0 : (0 : Int) ≤ i := by omega
      obtain ⟨x, hx⟩ : ∃ x, ws[i]? = some x := ⟨_, List.getElem?_eq_getElem hlt⟩
      obtain ⟨ad1, A5, c5, rfl, hI5, hcs⟩ := HW.out.elem hx
      have HX := Lib.hid hx
      have HI5 := Lib.hid hI5
      have hxl := HLL.out x (List.mem_of_getElem? hx)
      have HXA := Lib.hid (hcs.only HS.out.only (by simp))
      clear hx hI5 hcs
      have HS2 := Lib.hid (allocF HS.out [.int .i64 x.f0, .int .i64 x.f1, .slice A5 x.f2.length c5, .int .i64 x.f3] 37)
      have p1 := HS2.out.cell 0 2 rfl rfl
      go_wp2_with (first
        | (with_reducible refine wpList_load_at rfl 37 (.tmp 16) rfl (ad1.add (i * 4)) rfl _ _ HXA.out Try.underlying37 rfl (by kernel_rfl) ?_))
      clear p1 HXA HS
      have HS := Lib.hid (show St w (.blk wr.heap.size 37 [.int .i64 x.f0, .int .i64 x.f1, .slice A5 x.f2.length c5, .int .i64 x.f3] :: _) _ from HS2.out)
      clear HS2
      generalize wr.heap.size = bx at *
      generalize wr.alloc _ = W4 at *
      go_loopw [3, 7, 21] (fun s3 _ si wr => ∃ (k : Nat) (l : List (List Int)) (Al : Option Addr) (cl : Nat) (us : List Value) (T : List Res), si = .int .i64 k ∧ s3 = .slice Al l.length cl ∧ k ≤ x.f2.length ∧ l.length ≤ i * 1000 + k ∧ Hid (l = prs o (ws.take i) ++ prsW o x.f0 (x.f2.take k)) ∧ Hid (MemI us l T) ∧ Hid (St w (.blk bx 37 [.int .i64 x.f0, .int .i64 x.f1, .slice A5 x.f2.length c5, .int .i64 x.f3] :: .row (.slice Al l.length cl) 23 1 l.length us :: .blk b1 26 [.slice (some ad) o.length c0, .slice (some ad1) ws.length c1, .int .i64 nx] :: T) wr)) (fun _ _ si _ => x.f2.length - (intOf si).toNat)
      case atStart => exact ⟨0, l, Al, cl, us, T, rfl, rfl, by omega, by omega, Lib.hid (by rw [List.take_zero]; show l = _ ++ []; rw [List.append_nil]; exact HL.out), HM, HS⟩
      case round =>
        clear HS HM HL hll
        obtain ⟨k, l, Al, cl, us, T, rfl, rfl, hkl, hll, HL, HM, HS⟩ := hrel
        by_cases hlk : k < x.f2.length
        · have hlk2 : (k : Int) < x.f2.length := by omega
          have hk0 : (0 : Int) ≤ k := by omega
          obtain ⟨y, hy⟩ : ∃ y, x.f2[k]? = some y := ⟨_, List.getElem?_eq_getElem hlk⟩
          obtain ⟨hy0, hy1⟩ := HUL.out x (List.mem_of_getElem? HX.out) y (List.mem_of_getElem? hy)
          obtain ⟨m, rfl⟩ := Int.eq_ofNat_of_zero_le hy0
          have hmo : m < o.length := by omega
          obtain ⟨ad5, rfl, hu5⟩ := flat_ints HI5.out.2 (by omega)
          have HY := Lib.hid (prsW_next o x.f0 x.f2 k _ hy)
          obtain ⟨hkk, hyk⟩ := List.getElem?_eq_some_iff.1 hy
          have HQ5 := Lib.hid (fun (W : World) (h : Only [] w W) => int_at (Kd.C_below HI5.out.2 h.nil_below) k hkk)
          rw [hyk] at HQ5
          have HQM := Lib.hid (fun (W : World) (h : Only [] w W) => int_at (Kd.C_below HI.out.2 h.nil_below) m hmo)
          rw [Int.toNat_natCast, List.getD_eq_getElem?_getD, List.getElem?_eq_getElem hmo, Option.getD_some] at HY
          obtain ⟨z, hz⟩ : ∃ z, o[m] = z := ⟨_, rfl⟩
          rw [hz] at HQM HY
          clear hz hy hyk hkk hu5
          have q5 := HQ5.out wr HS.out.only
          have qm := HQM.out wr HS.out.only
          have qa := HS.out.cell 2 0 rfl rfl
          by_cases hz0 : z = 0
          · subst hz0
            go_wp2
            clear q5 qm qa
            go_roundw
            case rel => exact ⟨k + 1, l, Al, cl, us, T, by go_num, rfl, by omega, by omega, Lib.hid (by rw [HY.out, if_pos rfl, List.append_nil]; exact HL.out), HM, HS⟩
            case measure => simp [intOf]; omega
          · go_wp2_with fail
            refine L.grow_start (Value.slice Al l.length cl).ownBlock.toList 12 ((0, true, false) :: (1, true, false) :: (2, true, false) :: (3, true, false) :: (4, true, false) :: (5, true, true) :: (6, true, true) :: (7, true, true) :: (8, false, true) :: (9, false, true) :: (10, false, true) :: (11, true, true) :: []) (by kernel_rfl) (([], [3], some 31) :: ([], [5], some 32) :: ([1], [32], some 33) :: ([], [1], some 34) :: ([3], [34], some 35) :: ([], [7], some 36) :: ([4, 5], [35, 36], some 37) :: ([6], [37], some 38) :: ([2, 7], [33, 38], some 39) :: ([8], [39], some 40) :: ([0, 9], [31, 40], some 41) :: ([10, 10, 0, 1, 2, 3, 4, 5, 6, 7, 8, 9, 10], [41], some 3) :: []) (by kernel_rfl) (by kernel_rfl) (n := 12) rfl (by kernel_rfl) (fun _ _ _ _ _ h => h) (fun wg hog => ?_)
            refine L.growe_start (N := 48) (by rfl) ?_
            replace HS := Lib.hid (HS.out.keep hog)
            clear hog q5 qm qa
            have HB := Lib.hid (show ∀ k, k ∈ (Value.slice Al l.length cl).ownBlock.toList → (Res.row (.slice Al l.length cl) 23 1 l.length us).block = some k from fun k hk => by simpa [Res.block] using hk)
            have e0 : ∀ w', Only (Value.slice Al l.length cl).ownBlock.toList wg w' → w'.cell? ⟨bx, 0, none⟩ = some (.int .i64 x.f0) := fun w' k => (cell_of_row _ bx 0 _ _ _ (HS.out.others 1 rfl k HB.out 0 rfl (by decide)).2).trans rfl
            have e1 : ∀ w', Only (Value.slice Al l.length cl).ownBlock.toList wg w' → w'.cell? ⟨b1, 0, none⟩ = some (.slice (some ad) o.length c0) := fun w' k => (cell_of_row _ b1 0 _ _ _ (HS.out.others 1 rfl k HB.out 2 rfl (by decide)).2).trans rfl
            have e2 : ∀ w', Only (Value.slice Al l.length cl).ownBlock.toList wg w' → w'.cell? (ad.add m) = some (.int .i64 z) := fun w' k => HQM.out w' (HS.out.only.then k (fun i hi => .inr (HS.out.lt (i := 1) rfl (HB.out i hi)).1))
            iterate 8 (first | (refine L.ge_off rfl rfl rfl (by rfl) ?_) | (refine L.ge_move rfl rfl rfl (by rfl) rfl (by simp [L.evE, L.lk, Act.eval]; rfl) ?_) | (refine L.ge_pick rfl rfl rfl (by rfl) rfl (by simp [L.evE, L.lk, Act.eval]; rfl) (by simp [L.evE, L.lk, Act.eval]; rfl) ?_) | (refine L.ge_val rfl rfl rfl (by rfl) (by intro w' hw'; simp [execOp, L.evE, L.lk, Act.eval]; go_simp; rfl) ?_))
            clear e0 e1 e2
            refine ge_two rfl rfl rfl (by rfl) 23 (.tmp 33) (.tmp 38) rfl 3 Try.underlying23 (.int .i64 0) 1 8 infoI (by omega) (by omega) #[.int .i64 x.f0, .int .i64 z] (by have h := fill_two1 (.int .i64 0) x.f0 z rfl; simpa [L.evE, L.lk, Act.eval] using h) ?_
            replace HS := Lib.hid (litF HS.out [.int .i64 x.f0, .int .i64 z] 2 1 3 rfl (by unfold maxLen; omega))
            simp only [List.cons_append] at HS
            generalize wg.heap.size = nb at *
            generalize wg.alloc _ = wh at *
            refine ge_one rfl rfl rfl (by rfl) 45 (.tmp 39) rfl 23 Try.underlying45 (.slice none 0 0) 1 24 infoS (by omega) (by omega) #[.slice (some ⟨nb, 0, none⟩) 2 2] (by have h := fill_one1s (.slice none 0 0) (some ⟨nb, 0, none⟩) 2 2 rfl; simpa [L.evE, L.lk, Act.eval] using h) ?_
            have HN := Lib.hid (heap_alloc_new wh (.cells #[.slice (some ⟨nb, 0, none⟩) 2 2] 23))
            replace HS := Lib.hid (HS.out.keep ((Only.refl [] wh).alloc (.cells #[.slice (some ⟨nb, 0, none⟩) 2 2] 23)))
            refine ge_appendR rfl rfl rfl (by rfl) (.tmp 31) (.tmp 40) 45 rfl HS.out 1 rfl 24 (.slice none 0 0) Try.underlying45 infoS rfl (by omega) (by simp [L.evE, L.lk, Act.eval]) (some ⟨wh.heap.size, 0, none⟩) 1 1 [.slice (some ⟨nb, 0, none⟩) 2 2] (by simp [L.evE, L.lk, Act.eval]) rfl (fun _ => ⟨_, rfl, cellsAt_row HN.out⟩) (by simp [Value.oneCell']) (by unfold maxLen; omega) (by omega) (fun k hk => by simpa using hk) ?_
            intro A7 c7 w7 HS7
            clear HN HB HS
            iterate 1 (first | (refine L.ge_off rfl rfl rfl (by rfl) ?_) | (refine L.ge_move rfl rfl rfl (by rfl) rfl (by simp [L.evE, L.lk, Act.eval]; rfl) ?_) | (refine L.ge_pick rfl rfl rfl (by rfl) rfl (by simp [L.evE, L.lk, Act.eval]; rfl) (by simp [L.evE, L.lk, Act.eval]; rfl) ?_) | (refine L.ge_val rfl rfl rfl (by rfl) (by intro w' hw'; simp [execOp, L.evE, L.lk, Act.eval]; go_simp; rfl) ?_))
            refine L.ge_done ?_
            simp only [L.puts, Act.put, goInt, List.setIfInBounds_toArray, List.set_cons_zero, List.set_cons_succ]
            have h7 := HS7.out
            simp only [List.set_cons_succ, List.set_cons_zero] at h7
            rw [show l.length + 1 = (l ++ [[x.f0, z]]).length from by simp] at h7
            have HS := Lib.hid h7
            clear h7 HS7
            go_wp2
            go_roundw
            case rel => exact ⟨k + 1, l ++ [[x.f0, z]], A7, c7, us ++ [.slice (some ⟨nb, 0, none⟩) 2 2], T ++ [.row (.slice (some ⟨nb, 0, none⟩) 2 2) 3 1 2 (intRow [x.f0, z])], by go_num, by rw [List.length_append]; rfl, by omega, by rw [List.length_append]; simp; omega, Lib.hid (by rw [HY.out, if_neg hz0, HL.out, List.append_assoc]), Lib.hid ((HM.out.more _).snoc rfl (by simp)), HS⟩
            case measure => simp [intOf]; omega
        · obtain rfl : k = x.f2.length := by omega
          have hlk2 : ¬ (x.f2.length : Int) < x.f2.length := by omega
          go_wp2
          go_roundw
          case rel => exact ⟨i + 1, l, Al, cl, us, T, by go_num, rfl, by omega, by omega, Lib.hid (by rw [prs_next o ws i x HX.out, HL.out, List.take_length]), HM, Lib.hid (St.back (A := [_]) HS.out)⟩
          case measure => simp [intOf]; omega
    · obtain rfl : i = ws.length := by omega
      have hlt2 : ¬ (ws.length : Int) < ws.length := by omega
      have hlp := HL.out
      rw [List.take_length] at hlp
      subst hlp
      have hT : ∀ r ∈ T, r.holds wr w.heap.size := fun r hr => by
        obtain ⟨j, hj⟩ := List.mem_iff_getElem?.1 hr
        exact HS.out.each (j + 2) r hj
      have HLA := Lib.hid (own_pairsF (HS.out.row 0 rfl) HM.out hT (Nat.le_trans HP1.out (by omega)))
      have HWO := Lib.hid HS.out.only
      clear hT HS HM HL
      go_wp2_with (first
        | (go_at_call 44; refine (sort1 Al _ cl _ wr HP1.out).mono ?_; rintro e W5 ⟨rfl, h5⟩; have H5 := Lib.hid h5; clear h5)
        | (go_at_call 46; refine (compact1 Al _ cl _ _ HP1.out).mono ?_; rintro e W6 ⟨rfl, h6⟩; have H6 := Lib.hid h6; clear h6))
      go_ret
      exact ⟨_, _, rfl, HLA.out.only (H5.out.trans H6.out) (by simp), (HWO.out.trans H5.out).trans H6.out⟩
end Go.Proofs.Ytgmcmhlomfeldaa.Print
/-! ### ArCon -/
namespace Go.Proofs.Ytgmcmhlomfeldaa.Print
open Go.RowKit Go.Proofs.YtgmcmhlomfeldaaW.PrintWords Go.Proofs.YtgmcmhlomfeldaaW.PrintLast Go.Proofs.YtgmcmhlomfeldaaW.PrintMore
set_option linter.unusedSimpArgs false
set_option linter.unusedVariables false
section
variable {P : Program} {w0 w : World} {Ls : List Res} {ops : Array Oper} {rest : List Oper} {o : Oper} {a : Act} {Q : Exit → Act → World → Prop}
theorem wpList_storeBO (hgd : o.guard = none) (ty : TypeId) (x y : Operand) (ho : o.op = .store ty x y) (h : St w0 Ls w) (i : Nat) {g : Nat} {t : TypeId} {cur : List Value} (hi : Ls[i]? = some (.blk g t cur))
    (off : Nat) (v : Value) (hx : a.eval x = .pointer (some ⟨g, off, none⟩)) (hy : a.eval y = v) (cs : List Value) (hv : v.cells.toList = cs) (hty : (P.info? ty).map (·.size) = some cs.length) (hfit : off + cs.length ≤ cur.length) (h1 : ∀ u ∈ cs, u.oneCell' = true)
    (k : ∀ w', Only [g] w w' → Hid (St w0 (Ls.set i (.blk g t (splice cur off cs))) w') → wpList P ops Q rest (a.put o.dst undef) w') : wpList P ops Q (o :: rest) a w := by
  refine wpList_plain hgd fun K hK => ?_
  obtain ⟨w', hr, h2, h3⟩ := h.run_storeB (P := P) i hi ty off v cs hv hty hfit h1
  unfold Oper.wp execOp
  simp only [ho, hx, hy, Instr.storeAt, Instr.sureAddr, Sem.run_bind, Sem.run_pure, Result.andThen_ok, hr]
  exact hK _ _ (k w' h2 h3)
end
theorem new_c (a0 : Int) (r1 : List Int) (r2 : List S37) (r3 r4 : Int) (w : World) (h : arb_New.f a0 = some (r1, r2, r3, r4)) :
    Calls Try.prog 10 #[.int .i64 a0] w fun e w' => ∃ B d C q, e = .returned (.tuple #[.agg #[.slice B r1.length d, .slice C r2.length q, .int .i64 r3], .int .i64 r4]) ∧ IFr w.heap.size w' B d r1 ∧ WFr w.heap.size w' C q r2 ∧ Only [] w w' := by
  refine (arb_New.calls a0 r1 r2 r3 r4 w h).mono ?_
  rintro e w' ⟨v0, v1, rfl, hR, hS, hb⟩
  obtain ⟨B, d, rfl, h1, h2⟩ := Kd.R_reads hR
  obtain ⟨C, q, rfl, h3, h4⟩ := Kd.S_reads hS
  exact ⟨B, d, C, q, rfl, ⟨h1, Kd.R_F (Kd.R_mono (Kd.R_bound hR) (fun k hk => hk.2.1))⟩, ⟨h3, Kd.S_F (Kd.S_mono (Kd.S_bound hS) (fun k hk => hk.2.1))⟩, .of_below hb⟩
theorem ask_c (k : Nat) {A0 A1 A3 : Option Addr} {c0 c1 c3 : Nat} {o u : List Int} {ws : List S37} (nx b n : Int) (r1 : List Int) (r2 : List S37) (r3 r4 : Int) {w : World} (hI : IAt w A0 c0 o) (hW : WAt w A1 c1 ws) (hU : IAt w A3 c3 u) (h : arb_Ask.f k o ws nx b n u = some (r1, r2, r3, r4)) :
    Calls Try.prog 14 #[.agg #[.slice A0 o.length c0, .slice A1 ws.length c1, .int .i64 nx], .int .i64 b, .int .i64 n, .slice A3 u.length c3] w fun e w' => ∃ B d C q, e = .returned (.tuple #[.agg #[.slice B r1.length d, .slice C r2.length q, .int .i64 r3], .int .i64 r4]) ∧ IFr w.heap.size w' B d r1 ∧ WFr w.heap.size w' C q r2 ∧ Only [] w w' := by
  refine (arb_Ask.calls k A0 c0 o A1 c1 ws nx b n A3 c3 u r1 r2 r3 r4 w hI.2 hI.1 hW.2 hW.1 hU.2 hU.1 h).mono ?_
  rintro e w' ⟨v0, v1, rfl, hR, hS, hb⟩
  obtain ⟨B, d, rfl, h1, h2⟩ := Kd.R_reads hR
  obtain ⟨C, q, rfl, h3, h4⟩ := Kd.S_reads hS
  exact ⟨B, d, C, q, rfl, ⟨h1, Kd.R_F (Kd.R_mono (Kd.R_bound hR) (fun k hk => hk.2.1))⟩, ⟨h3, Kd.S_F (Kd.S_mono (Kd.S_bound hS) (fun k hk => hk.2.1))⟩, .of_below hb⟩
theorem lit_at (w : World) (l : List Int) (hl : l.length ≤ 1000000) : IFr w.heap.size (w.alloc (.cells (intRow l).toArray 3)) (some ⟨w.heap.size, 0, none⟩) l.length l := own_intsF (ownsRow_lit w (intRow l) l.length 1 3 (intRow_length l) (by unfold maxLen; omega))
theorem aw_new : arb_New.f 3 = some ([0, 0, 0], [], 1, 0) := by kernel_rfl
theorem aw_ask1 : arb_Ask.f 5000 [0, 0, 0] [] 1 1 0 [0, 1] = some ([0, 0, 0], [⟨1, 0, [0, 1], 1⟩], 2, 0) := by kernel_rfl
theorem aw_ask2 : arb_Ask.f 5000 [0, 0, 0] [⟨1, 0, [0, 1], 1⟩] 2 2 0 [1, 2] = some ([0, 0, 0], [⟨1, 0, [0, 1], 1⟩, ⟨2, 0, [1, 2], 2⟩], 3, 0) := by kernel_rfl
theorem aw_right1 : rightB [0, 0, 0] [⟨1, 0, [0, 1], 1⟩, ⟨2, 0, [1, 2], 2⟩] 3 = true := by kernel_rfl
theorem aw_right2 : rightB [1, 1, 0] [⟨2, 0, [1, 2], 2⟩] 3 = true := by kernel_rfl
theorem aw_grant : grantM [0, 0, 0] [⟨1, 0, [0, 1], 1⟩, ⟨2, 0, [1, 2], 2⟩] = ([1, 1, 0], [⟨2, 0, [1, 2], 2⟩], [⟨1, 0, [0, 1], 1⟩]) := by kernel_rfl
theorem aw_prs : prs [1, 1, 0] [⟨2, 0, [1, 2], 2⟩] = [[2, 1]] := by kernel_rfl
theorem aw_ask3 : arb_Ask.f 5000 [1, 1, 0] [⟨2, 0, [1, 2], 2⟩] 3 1 0 [1] = some ([], [], 0, 170) := by kernel_rfl
end Go.Proofs.Ytgmcmhlomfeldaa.Print
/-! ### EAwake -/
namespace Go.Proofs.Ytgmcmhlomfeldaa.Print
open Go.RowKit Go.Proofs.YtgmcmhlomfeldaaW.PrintWords Go.Proofs.YtgmcmhlomfeldaaW.PrintLast Go.Proofs.YtgmcmhlomfeldaaW.PrintMore
set_option linter.unusedSimpArgs false
set_option linter.unusedVariables false
theorem LLAt.elem {w : World} {A : Option Addr} {c : Nat} {l : List (List Int)} (h : LLAt w A c l) {i : Nat} {x : List Int} (hx : l[i]? = some x) :
    ∃ ad A2 c2, A = some ad ∧ IAt w A2 c2 x ∧ w.cell? (ad.add i) = some (.slice A2 x.length c2) := by
  obtain ⟨hi, rfl⟩ := List.getElem?_eq_some_iff.1 hx
  obtain ⟨ad, cs, rfl, _, hK, hcs⟩ := Kd.C_cells h.2 i hi
  obtain ⟨A2, c2, rfl, hl2, hk2⟩ := hK
  have h0 : w.cell? ((ad.add (i * 1)).add 0) = _ := hcs 0 _ rfl
  have e : (ad.add (i * 1)).add 0 = ad.add i := by rw [Nat.mul_one]; rfl
  rw [e] at h0
  exact ⟨ad, A2, c2, rfl, ⟨hl2, hk2⟩, h0⟩
theorem a_new (w : World) : Calls Try.prog 10 #[.int .i64 3] w fun e w' => ∃ B d C q, e = .returned (.tuple #[.agg #[.slice B 3 d, .slice C 0 q, .int .i64 1], .int .i64 0]) ∧ IFr w.heap.size w' B d [0, 0, 0] ∧ WFr w.heap.size w' C q [] ∧ Only [] w w' := new_c 3 _ _ _ _ w aw_new
theorem a_ask1 {A0 A1 A3 : Option Addr} {c0 c1 c3 : Nat} {w : World} (hI : IAt w A0 c0 [0, 0, 0]) (hW : WAt w A1 c1 []) (hU : IAt w A3 c3 [0, 1]) :
    Calls Try.prog 14 #[.agg #[.slice A0 3 c0, .slice A1 0 c1, .int .i64 1], .int .i64 1, .int .i64 0, .slice A3 2 c3] w fun e w' => ∃ B d C q, e = .returned (.tuple #[.agg #[.slice B 3 d, .slice C 1 q, .int .i64 2], .int .i64 0]) ∧ IFr w.heap.size w' B d [0, 0, 0] ∧ WFr w.heap.size w' C q [⟨1, 0, [0, 1], 1⟩] ∧ Only [] w w' := ask_c 5000 1 1 0 _ _ _ _ hI hW hU aw_ask1
theorem a_ask2 {A0 A1 A3 : Option Addr} {c0 c1 c3 : Nat} {w : World} (hI : IAt w A0 c0 [0, 0, 0]) (hW : WAt w A1 c1 [⟨1, 0, [0, 1], 1⟩]) (hU : IAt w A3 c3 [1, 2]) :
    Calls Try.prog 14 #[.agg #[.slice A0 3 c0, .slice A1 1 c1, .int .i64 2], .int .i64 2, .int .i64 0, .slice A3 2 c3] w fun e w' => ∃ B d C q, e = .returned (.tuple #[.agg #[.slice B 3 d, .slice C 2 q, .int .i64 3], .int .i64 0]) ∧ IFr w.heap.size w' B d [0, 0, 0] ∧ WFr w.heap.size w' C q [⟨1, 0, [0, 1], 1⟩, ⟨2, 0, [1, 2], 2⟩] ∧ Only [] w w' := ask_c 5000 2 2 0 _ _ _ _ hI hW hU aw_ask2
theorem a_ask3 {A0 A1 A3 : Option Addr} {c0 c1 c3 : Nat} {w : World} (hI : IAt w A0 c0 [1, 1, 0]) (hW : WAt w A1 c1 [⟨2, 0, [1, 2], 2⟩]) (hU : IAt w A3 c3 [1]) :
    Calls Try.prog 14 #[.agg #[.slice A0 3 c0, .slice A1 1 c1, .int .i64 3], .int .i64 1, .int .i64 0, .slice A3 1 c3] w fun e w' => ∃ B d C q, e = .returned (.tuple #[.agg #[.slice B 0 d, .slice C 0 q, .int .i64 0], .int .i64 170]) ∧ IFr w.heap.size w' B d [] ∧ WFr w.heap.size w' C q [] ∧ Only [] w w' := ask_c 5000 3 1 0 _ _ _ _ hI hW hU aw_ask3
theorem a_grant {A0 A1 : Option Addr} {c0 c1 : Nat} {w : World} (hI : IAt w A0 c0 [0, 0, 0]) (hW : WAt w A1 c1 [⟨1, 0, [0, 1], 1⟩, ⟨2, 0, [1, 2], 2⟩]) :
    Calls Try.prog 15 #[.agg #[.slice A0 3 c0, .slice A1 2 c1, .int .i64 3]] w fun e w' => ∃ (A2 : Option Addr) (c2 : Nat) (A3 : Option Addr) (c3 : Nat) (A4 : Option Addr) (c4 : Nat), e = .returned (.tuple #[.agg #[.slice A2 3 c2, .slice A3 1 c3, .int .i64 3], .slice A4 1 c4]) ∧ IFr w.heap.size w' A2 c2 [1, 1, 0] ∧ WFr w.heap.size w' A3 c3 [⟨2, 0, [1, 2], 2⟩] ∧ WFr w.heap.size w' A4 c4 [⟨1, 0, [0, 1], 1⟩] ∧ Only [] w w' := by
  have h := grant_yes A0 c0 [0, 0, 0] A1 c1 [⟨1, 0, [0, 1], 1⟩, ⟨2, 0, [1, 2], 2⟩] 3 w hI.2 hI.1 hW.2 hW.1 (by decide) (by decide) (by decide) (by simp) (by simp) (by simp) ((right_is _ _ _ (by decide) (by decide) (by simp) _ (by decide)).trans (congrArg some aw_right1))
  rw [aw_grant] at h
  exact h
theorem a_waits {A0 A1 : Option Addr} {c0 c1 : Nat} {w : World} (hI : IAt w A0 c0 [1, 1, 0]) (hW : WAt w A1 c1 [⟨2, 0, [1, 2], 2⟩]) :
    Calls Try.prog 25 #[.agg #[.slice A0 3 c0, .slice A1 1 c1, .int .i64 3]] w fun e w' => ∃ (A : Option Addr) (c : Nat), e = .returned (.slice A 1 c) ∧ LLFr w.heap.size w' A c [[2, 1]] ∧ Only [] w w' := by
  have h := waits_yes A0 c0 [1, 1, 0] A1 c1 [⟨2, 0, [1, 2], 2⟩] 3 w hI hW (by decide) (by decide) (by decide) (by simp) (by simp) ((right_is _ _ _ (by decide) (by decide) (by simp) _ (by decide)).trans (congrArg some aw_right2)) (by rw [aw_prs]; decide)
  rw [aw_prs] at h
  exact h
set_option maxHeartbeats 16000000 in
set_option maxRecDepth 100000 in
theorem awake_c (w : World) : Calls Try.prog 9 #[] w fun e w' => e = .returned (.bool true) ∧ Only [] w w' := by
  go_enter Try.func9, Try.ntmps9
  go_wp2_with (go_at_call 10; refine (a_new w).mono ?_; rintro e W1 ⟨B, d, C, q, rfl, hI, hW, ho⟩; have HI := Lib.hid hI; have HW := Lib.hid hW; have HO := Lib.hid ho; clear hI hW ho; refine (fun (h : Hid _) => h.out) ?_)
  refine Lib.hid ?_
  have HS := Lib.hid (allocF (St.of_only HO.out) [.slice B 3 d, .slice C 0 q, .int .i64 1] 26)
  clear HO
  have HA1 := Lib.hid (HS.out.cells 0 rfl)
  replace HI := Lib.hid (HI.out.only ((Only.refl [] W1).alloc (.cells #[.slice B 3 d, .slice C 0 q, .int .i64 1] 26)) (by simp))
  replace HW := Lib.hid (HW.out.only ((Only.refl [] W1).alloc (.cells #[.slice B 3 d, .slice C 0 q, .int .i64 1] 26)) (by simp))
  have HBL := Lib.hid (show W1.heap.size < (W1.alloc (.cells #[.slice B 3 d, .slice C 0 q, .int .i64 1] 26)).heap.size from by rw [World.size_alloc]; omega)
  go_wp2_with ((with_reducible refine wpList_load_at rfl 26 (.tmp 1) rfl ⟨W1.heap.size, 0, none⟩ rfl _ _ HA1.out Try.underlying26 rfl (by kernel_rfl) ?_; refine (fun (h : Hid _) => h.out) ?_))
  refine Lib.hid ?_
  generalize W1.heap.size = b1 at *
  generalize W1.alloc _ = W2 at *
  have HU := Lib.hid (show IFr W2.heap.size (W2.alloc (.cells #[.int .i64 0, .int .i64 1] 3)) (some ⟨W2.heap.size, 0, none⟩) 2 [0, 1] from lit_at W2 [0, 1] (by decide))
  have HOL := Lib.hid (show Only [] W2 (W2.alloc (.cells #[.int .i64 0, .int .i64 1] 3)) from (Only.refl [] W2).alloc _)
  go_wp2_with (first
    | (go_at_call 14; refine (a_ask1 (HI.out.only HOL.out (by simp)).at (HW.out.only HOL.out (by simp)).at HU.out.at).mono ?_; rintro e W3 ⟨B2, d2, C2, q2, rfl, hI, hW, ho⟩; have HO := Lib.hid ho; have HH := Lib.hid (And.intro hI hW); clear hI hW ho; refine (fun (h : Hid _) => h.out) ?_))
  refine Lib.hid ?_
  replace HS := Lib.hid (HS.out.keep (HOL.out.trans HO.out))
  clear HA1
  go_wp2_with (first
    | (with_reducible refine wpList_storeBO rfl 26 (.tmp 1) (.tmp 17) rfl HS.out 0 rfl 0 _ rfl rfl [.slice B2 3 d2, .slice C2 1 q2, .int .i64 2] rfl (by kernel_rfl) (by simp) (by simp [Value.oneCell']) ?_; intro W4 ho9 HS9; have HO9 := Lib.hid ho9; clear ho9; refine (fun (h : Hid _) => h.out) ?_))
  refine Lib.hid ?_
  clear HS
  have HS := Lib.hid (show St w [.blk b1 26 [.slice B2 3 d2, .slice C2 1 q2, .int .i64 2]] W4 from HS9.out)
  clear HS9
  have HA1 := Lib.hid (HS.out.cells 0 rfl)
  have HBS : ∀ k ∈ [b1], k < (W2.alloc (.cells #[.int .i64 0, .int .i64 1] 3)).heap.size := fun k hk => by
    have := HBL.out
    have := HOL.out.size
    rw [List.mem_singleton] at hk
    omega
  clear HI HW HU
  have HI := Lib.hid (HH.out.1.only HO9.out HBS)
  have HW := Lib.hid (HH.out.2.only HO9.out HBS)
  clear HBS HO9 HO HH HOL HBL
  have HU := Lib.hid (show IFr W4.heap.size (W4.alloc (.cells #[.int .i64 1, .int .i64 2] 3)) (some ⟨W4.heap.size, 0, none⟩) 2 [1, 2] from lit_at W4 [1, 2] (by decide))
  have HOL := Lib.hid (show Only [] W4 (W4.alloc (.cells #[.int .i64 1, .int .i64 2] 3)) from (Only.refl [] W4).alloc _)
  go_wp2_with (first
    | (with_reducible refine wpList_load_at rfl 26 (.tmp 1) rfl ⟨b1, 0, none⟩ rfl _ _ HA1.out Try.underlying26 rfl (by kernel_rfl) ?_)
    | (go_at_call 14; refine (a_ask2 (HI.out.only HOL.out (by simp)).at (HW.out.only HOL.out (by simp)).at HU.out.at).mono ?_; rintro e W5 ⟨B3, d3, C3, q3, rfl, hI, hW, ho⟩; have HO := Lib.hid ho; have HH := Lib.hid (And.intro hI hW); clear hI hW ho; refine (fun (h : Hid _) => h.out) ?_))
  refine Lib.hid ?_
  have HBL := Lib.hid (HS.out.lt (i := 0) rfl (k := b1) rfl).2
  replace HS := Lib.hid (HS.out.keep (HOL.out.trans HO.out))
  clear HA1
  go_wp2_with (first
    | (with_reducible refine wpList_storeBO rfl 26 (.tmp 1) (.tmp 23) rfl HS.out 0 rfl 0 _ rfl rfl [.slice B3 3 d3, .slice C3 2 q3, .int .i64 3] rfl (by kernel_rfl) (by simp) (by simp [Value.oneCell']) ?_; intro W6 ho9 HS9; have HO9 := Lib.hid ho9; clear ho9; refine (fun (h : Hid _) => h.out) ?_))
  refine Lib.hid ?_
  clear HS
  have HS := Lib.hid (show St w [.blk b1 26 [.slice B3 3 d3, .slice C3 2 q3, .int .i64 3]] W6 from HS9.out)
  clear HS9
  have HA1 := Lib.hid (HS.out.cells 0 rfl)
  have HBS : ∀ k ∈ [b1], k < (W4.alloc (.cells #[.int .i64 1, .int .i64 2] 3)).heap.size := fun k hk => by
    have := HBL.out
    have := HOL.out.size
    rw [List.mem_singleton] at hk
    omega
  clear HI HW HU
  have HI := Lib.hid (HH.out.1.only HO9.out HBS)
  have HW := Lib.hid (HH.out.2.only HO9.out HBS)
  clear HBS HO9 HO HH HOL HBL
  go_wp2_with (first
    | (with_reducible refine wpList_load_at rfl 26 (.tmp 1) rfl ⟨b1, 0, none⟩ rfl _ _ HA1.out Try.underlying26 rfl (by kernel_rfl) ?_)
    | (go_at_call 15; refine (a_grant HI.out.at HW.out.at).mono ?_; rintro e W7 ⟨B4, d4, C4, q4, D4, s4, rfl, hI, hW, hG, ho⟩; have HO := Lib.hid ho; have HH := Lib.hid (And.intro hI (And.intro hW hG)); clear hI hW hG ho; refine (fun (h : Hid _) => h.out) ?_))
  refine Lib.hid ?_
  have HBL := Lib.hid (HS.out.lt (i := 0) rfl (k := b1) rfl).2
  replace HS := Lib.hid (HS.out.keep HO.out)
  clear HA1
  go_wp2_with (first
    | (with_reducible refine wpList_storeBO rfl 26 (.tmp 1) (.tmp 28) rfl HS.out 0 rfl 0 _ rfl rfl [.slice B4 3 d4, .slice C4 1 q4, .int .i64 3] rfl (by kernel_rfl) (by simp) (by simp [Value.oneCell']) ?_; intro W8 ho9 HS9; have HO9 := Lib.hid ho9; clear ho9; refine (fun (h : Hid _) => h.out) ?_))
  refine Lib.hid ?_
  clear HS
  have HS := Lib.hid (show St w [.blk b1 26 [.slice B4 3 d4, .slice C4 1 q4, .int .i64 3]] W8 from HS9.out)
  clear HS9
  have HA1 := Lib.hid (HS.out.cells 0 rfl)
  have HBS : ∀ k ∈ [b1], k < W6.heap.size := fun k hk => by
    have := HBL.out
    rw [List.mem_singleton] at hk
    omega
  clear HI HW
  have HI := Lib.hid (HH.out.1.only HO9.out HBS)
  have HW := Lib.hid (HH.out.2.1.only HO9.out HBS)
  have HG := Lib.hid (HH.out.2.2.only HO9.out HBS)
  clear HBS HO9 HO HH HBL
  go_wp2_with (first
    | (with_reducible refine wpList_load_at rfl 26 (.tmp 1) rfl ⟨b1, 0, none⟩ rfl _ _ HA1.out Try.underlying26 rfl (by kernel_rfl) ?_)
    | (go_at_call 25; refine (a_waits HI.out.at HW.out.at).mono ?_; rintro e W9 ⟨E5, t5, rfl, hL, ho⟩; have HO := Lib.hid ho; have HH := Lib.hid (hL); clear hL ho; refine (fun (h : Hid _) => h.out) ?_))
  refine Lib.hid ?_
  replace HS := Lib.hid (HS.out.keep HO.out)
  have HA1 := Lib.hid (HS.out.cells 0 rfl)
  replace HI := Lib.hid (HI.out.only HO.out (by simp))
  replace HW := Lib.hid (HW.out.only HO.out (by simp))
  replace HG := Lib.hid (HG.out.only HO.out (by simp))
  have HL5 := HH
  clear HO HH
  have HU := Lib.hid (show IFr W9.heap.size (W9.alloc (.cells #[.int .i64 1] 3)) (some ⟨W9.heap.size, 0, none⟩) 1 [1] from lit_at W9 [1] (by decide))
  have HOL := Lib.hid (show Only [] W9 (W9.alloc (.cells #[.int .i64 1] 3)) from (Only.refl [] W9).alloc _)
  go_wp2_with (first
    | (with_reducible refine wpList_load_at rfl 26 (.tmp 1) rfl ⟨b1, 0, none⟩ rfl _ _ HA1.out Try.underlying26 rfl (by kernel_rfl) ?_)
    | (go_at_call 14; refine (a_ask3 (HI.out.only HOL.out (by simp)).at (HW.out.only HOL.out (by simp)).at HU.out.at).mono ?_; rintro e W10 ⟨B6, d6, C6, q6, rfl, hI, hW, ho⟩; have HO := Lib.hid ho; have HH := Lib.hid (And.intro hI hW); clear hI hW ho; refine (fun (h : Hid _) => h.out) ?_))
  refine Lib.hid ?_
  have HZ := Lib.hid (show Only [] W9 (W10.alloc (.cells #[.slice B6 0 d6, .slice C6 0 q6, .int .i64 0] 26)) from (HOL.out.trans HO.out).trans ((Only.refl [] W10).alloc _))
  obtain ⟨ag, A7, c7, rfl, _, hcg⟩ := (HG.out.only HZ.out (by simp)).at.elem (i := 0) rfl
  have m1 : (W10.alloc (.cells #[.slice B6 0 d6, .slice C6 0 q6, .int .i64 0] 26)).cell? ag = some (.int .i64 1) := hcg 0 _ rfl
  obtain ⟨ae, A8, c8, rfl, hI8, hce⟩ := (HL5.out.only HZ.out (by simp)).at.elem (i := 0) rfl
  have m2 : (W10.alloc (.cells #[.slice B6 0 d6, .slice C6 0 q6, .int .i64 0] 26)).cell? ae = some (.slice A8 2 c8) := hce
  obtain ⟨af, rfl, hcf⟩ := flat_ints hI8.2 (by decide)
  have m3 : (W10.alloc (.cells #[.slice B6 0 d6, .slice C6 0 q6, .int .i64 0] 26)).cell? af = some (.int .i64 2) := hcf 0 _ rfl
  have m4 : (W10.alloc (.cells #[.slice B6 0 d6, .slice C6 0 q6, .int .i64 0] 26)).cell? ⟨af.block, af.off + 1, none⟩ = some (.int .i64 1) := hcf 1 _ rfl
  obtain ⟨ab, rfl, hcb⟩ := flat_ints (HI.out.only HZ.out (by simp)).at.2 (by decide)
  have m5 : (W10.alloc (.cells #[.slice B6 0 d6, .slice C6 0 q6, .int .i64 0] 26)).cell? ⟨ab.block, ab.off + 1, none⟩ = some (.int .i64 1) := hcb 1 _ rfl
  have m6 : (W10.alloc (.cells #[.slice B6 0 d6, .slice C6 0 q6, .int .i64 0] 26)).cell? ⟨b1, 0, none⟩ = some (.slice (some ab) 3 d4) := (HS.out.keep HZ.out).cell 0 0 rfl rfl
  clear hcg hI8 hce hcf hcb
  go_wp2
  go_ret
  exact ⟨rfl, (HS.out.keep HZ.out).only⟩
def malthouselaw14_awake.f : Option Bool := some true
theorem malthouselaw14_awake.calls (r : Bool) (w : World) (h : malthouselaw14_awake.f = some r) :
    Calls Try.prog 9 #[] w fun e w' => e = .returned (.bool r) ∧ Below w.heap.size w w' := by
  obtain rfl := Option.some.inj h
  exact (awake_c w).mono fun _ _ h => ⟨h.1, h.2.nil_below⟩
end Go.Proofs.Ytgmcmhlomfeldaa.Print
/-! ### Print4 -/
namespace Go.Proofs.Ytgmcmhlomfeldaa.Print
open Go.RowKit Go.Proofs.YtgmcmhlomfeldaaW.PrintWords Go.Proofs.YtgmcmhlomfeldaaW.PrintLast Go.Proofs.YtgmcmhlomfeldaaW.PrintMore
set_option linter.unusedVariables false
set_option linter.unusedSimpArgs false
def malthouselaw14_ArbNew.f (k : Nat) (a0 : Int) : Option (Bool) := (malthouselaw14_awake.f).bind fun t142 => ((arb_New.f a0).bind fun bt143 => ((malthouseref14_New.f a0).bind fun bt152 => ((malthouseref14_Same.f k bt143.1 bt143.2.1 bt143.2.2.1 bt152.1 bt152.2.1 bt152.2.2.1).bind fun t161 => (if t142 = true then (if t161 = true then (if bt143.2.2.2 = bt152.2.2.2 then ((arb_Right.f k bt143.1 bt143.2.1 bt143.2.2.1).bind fun t162 => (some (t162 == (bt143.2.2.2 == 0)))) else (some false)) else (some false)) else (some false)))))
set_option maxHeartbeats 8000000 in
set_option maxRecDepth 100000 in
theorem malthouselaw14_ArbNew.calls (k : Nat) (a0 : Int) (r : Bool) (w : World) (h : malthouselaw14_ArbNew.f k a0 = some r) :
    Calls Try.prog 3 #[.int .i64 a0] w fun e w' => e = .returned (.bool r) ∧ Below w.heap.size w w' := by
  have hu26 := Try.underlying26
  have HB := Aside0.mk (Below.refl w.heap.size w)
  have H : ((malthouselaw14_awake.f).bind fun t142 => ((arb_New.f a0).bind fun bt143 => ((malthouseref14_New.f a0).bind fun bt152 => ((malthouseref14_Same.f k bt143.1 bt143.2.1 bt143.2.2.1 bt152.1 bt152.2.1 bt152.2.2.1).bind fun t161 => (if t142 = true then (if t161 = true then (if bt143.2.2.2 = bt152.2.2.2 then ((arb_Right.f k bt143.1 bt143.2.1 bt143.2.2.1).bind fun t162 => (some (t162 == (bt143.2.2.2 == 0)))) else (some false)) else (some false)) else (some false)))))) = some r := h
  clear h
  replace H := Option.bind_eq_some_iff.mp H
  obtain ⟨t142, A20, H⟩ := H
  replace H : ((arb_New.f a0).bind fun bt143 => ((malthouseref14_New.f a0).bind fun bt152 => ((malthouseref14_Same.f k bt143.1 bt143.2.1 bt143.2.2.1 bt152.1 bt152.2.1 bt152.2.2.1).bind fun t161 => (if t142 = true then (if t161 = true then (if bt143.2.2.2 = bt152.2.2.2 then ((arb_Right.f k bt143.1 bt143.2.1 bt143.2.2.1).bind fun t162 => (some (t162 == (bt143.2.2.2 == 0)))) else (some false)) else (some false)) else (some false))))) = some r := H
  have A2 := Aside0.mk A20
  clear A20
  replace H := Option.bind_eq_some_iff.mp H
  obtain ⟨⟨t143, t146, t149, t150⟩, A30, H⟩ := H
  replace H : ((malthouseref14_New.f a0).bind fun bt152 => ((malthouseref14_Same.f k t143 t146 t149 bt152.1 bt152.2.1 bt152.2.2.1).bind fun t161 => (if t142 = true then (if t161 = true then (if t150 = bt152.2.2.2 then ((arb_Right.f k t143 t146 t149).bind fun t162 => (some (t162 == (t150 == 0)))) else (some false)) else (some false)) else (some false)))) = some r := H
  have A3 := Aside0.mk A30
  clear A30
  replace H := Option.bind_eq_some_iff.mp H
  obtain ⟨⟨t152, t155, t158, t159⟩, A40, H⟩ := H
  replace H : ((malthouseref14_Same.f k t143 t146 t149 t152 t155 t158).bind fun t161 => (if t142 = true then (if t161 = true then (if t150 = t159 then ((arb_Right.f k t143 t146 t149).bind fun t162 => (some (t162 == (t150 == 0)))) else (some false)) else (some false)) else (some false))) = some r := H
  have A4 := Aside0.mk A40
  clear A40
  replace H := Option.bind_eq_some_iff.mp H
  obtain ⟨t161, A50, H⟩ := H
  replace H : (if t142 = true then (if t161 = true then (if t150 = t159 then ((arb_Right.f k t143 t146 t149).bind fun t162 => (some (t162 == (t150 == 0)))) else (some false)) else (some false)) else (some false)) = some r := H
  have A5 := Aside0.mk A50
  clear A50
  by_cases c6 : t142 = true
  · subst c6
    have H1 : (if t161 = true then (if t150 = t159 then ((arb_Right.f k t143 t146 t149).bind fun t162 => (some (t162 == (t150 == 0)))) else (some false)) else (some false)) = some r := by rw [if_pos rfl] at H; exact H
    clear H
    have H := H1
    clear H1
    by_cases c7 : t161 = true
    · subst c7
      have H1 : (if t150 = t159 then ((arb_Right.f k t143 t146 t149).bind fun t162 => (some (t162 == (t150 == 0)))) else (some false)) = some r := by rw [if_pos rfl] at H; exact H
      clear H
      have H := H1
      clear H1
      by_cases c8 : t150 = t159
      · rw [if_pos c8] at H
        have c8b0 : (t150 == t159) = true := beq_iff_eq.mpr c8
        have c8b1 : (t150 != t159) = false := bne_eq_false_iff_eq.mpr c8
        clear c8
        replace H := Option.bind_eq_some_iff.mp H
        obtain ⟨t162, A90, H⟩ := H
        replace H : (some (t162 == (t150 == 0))) = some r := H
        have A9 := Aside0.mk A90
        clear A90
        obtain rfl := Option.some.inj H
        go_enter Try.func3, Try.ntmps3
        go_wp2_with (first | ((with_reducible refine gate_callee (f := 9) rfl ?_); refine goesL_ (some 9) rfl rfl Try.func9 (by kernel_rfl) rfl #[] rfl (by (try simp only [List.map_toArray, List.map_cons, List.map_nil]); first | done | rfl | (simp only [List.length_drop, List.length_take]; rfl)) ?_; (with_reducible refine (malthouselaw14_awake.calls  true _ A2.out).mono ?_); rintro e w10 ⟨rfl, hb⟩; refine ⟨_, rfl, ?_⟩; have n0_ := Aside0.mk (below_step (by repeat (first | (with_reducible first | exact HB.out | apply below_alloc | apply pw_below_drewN | apply below_drew1) | exact HB.out)) hb); clear HB; have HB := n0_; clear n0_; (try clear hb); (try clear hb2); (try clear hk); (try clear hi)) | ((with_reducible refine gate_callee (f := 10) rfl ?_); refine goesL_ (some 12) rfl rfl Try.func10 (by kernel_rfl) rfl #[.int .i64 a0] rfl (by (try simp only [List.map_toArray, List.map_cons, List.map_nil]); first | done | rfl | (simp only [List.length_drop, List.length_take]; rfl)) ?_; (with_reducible refine (arb_New.calls a0 t143 t146 t149 t150 _ A3.out).mono ?_); rintro e w11 ⟨v144, v147, rfl, ho0, ho1, hb⟩; refine ⟨_, rfl, ?_⟩; have n0_ := Aside0.mk (Kd.R_lower ho0 (below_size (by repeat (first | (with_reducible first | exact HB.out | apply below_alloc | apply pw_below_drewN | apply below_drew1) | exact HB.out)))); have n1_ := Aside0.mk (Kd.S_lower ho1 (below_size (by repeat (first | (with_reducible first | exact HB.out | apply below_alloc | apply pw_below_drewN | apply below_drew1) | exact HB.out)))); have n2_ := Aside0.mk (below_step (by repeat (first | (with_reducible first | exact HB.out | apply below_alloc | apply pw_below_drewN | apply below_drew1) | exact HB.out)) hb); clear HB; have HO145 := n0_; have HO148 := n1_; have HB := n2_; clear n0_ n1_ n2_; (try clear hb); (try clear hb2); (try clear hk); (try clear hi); (try clear ho0); (try clear ho1)) | ((with_reducible refine gate_dst (N := 4) rfl ?_); refine box_event ?hg (N := 4) ?hd (cs := #[.slice none 0 0, .slice none 0 0, .int .i64 0]) (t := 26) ?hr ?_; (case hd => rfl); (case hg => rfl); (case hr => first | (go_simp; done) | (go_simp; rfl)); intro gb151 hg w12 hbox hb; have n0_ := Aside0.mk (Kd.R_below (by (with_reducible repeat (first | apply Kd.R_alloc | apply Kd.R_drewN | apply Kd.R_drew)); exact HO145.out) hb); have n1_ := Aside0.mk (Kd.S_below (by (with_reducible repeat (first | apply Kd.S_alloc | apply Kd.S_drewN | apply Kd.S_drew)); exact HO148.out) hb); have n2_ := Aside0.mk (below_step (by repeat (first | (with_reducible first | exact HB.out | apply below_alloc | apply pw_below_drewN | apply below_drew1) | exact HB.out)) hb); have n3_ := Aside0.mk (hbox); have n4_ := Aside0.mk ((by rw [hg]; exact (below_size (by repeat (first | (with_reducible first | exact HB.out | apply below_alloc | apply pw_below_drewN | apply below_drew1) | exact HB.out))) : w.heap.size ≤ gb151)); have n5_ := Aside0.mk ((by rw [hg]; exact (below_size (by repeat (first | (with_reducible first | exact HB.out | apply below_alloc | apply pw_below_drewN | apply below_drew1) | exact HB.out))) : w.heap.size ≤ gb151)); clear HO145; clear HO148; clear HB; have HO145 := n0_; have HO148 := n1_; have HB := n2_; have BK151 := n3_; have GW151 := n4_; have GE151 := n5_; clear n0_ n1_ n2_ n3_ n4_ n5_; clear hb hbox hg; obtain ⟨Ao13, co13, eo13⟩ := Kd.R_slice HO145.out; subst eo13; have hcz14_0 : w12.cell? ⟨gb151, 0, none⟩ = some (.slice none 0 0) := (blk_cell BK151.out 0).trans rfl; have hcz14_1 : w12.cell? ⟨gb151, 1, none⟩ = some (.slice none 0 0) := (blk_cell BK151.out 1).trans rfl; have hcz14_2 : w12.cell? ⟨gb151, 2, none⟩ = some (.int .i64 0) := (blk_cell BK151.out 2).trans rfl; have hfz14_0 := blk_frozen BK151.out 0; have hfz14_1 := blk_frozen BK151.out 1; have hfz14_2 := blk_frozen BK151.out 2; obtain ⟨Ao15, co15, eo15⟩ := Kd.S_slice HO148.out; subst eo15) | ((with_reducible refine gate_callee (f := 11) rfl ?_); refine goesL_ (some 17) rfl rfl Try.func11 (by kernel_rfl) rfl #[.int .i64 a0] rfl (by (try simp only [List.map_toArray, List.map_cons, List.map_nil]); first | done | rfl | (simp only [List.length_drop, List.length_take]; rfl)) ?_; (with_reducible refine (malthouseref14_New.calls a0 t152 t155 t158 t159 _ A4.out).mono ?_); rintro e w16 ⟨v153, v156, rfl, ho0, ho1, hb⟩; refine ⟨_, rfl, ?_⟩; have n0_ := Aside0.mk (Kd.R_elder' (by (with_reducible repeat (first | apply Kd.R_alloc | apply Kd.R_drewN | apply Kd.R_drew)); exact (Kd.R_mono (Kd.R_far (p := ⟨gb151, 2, none⟩) (Kd.R_far (p := ⟨gb151, 1, none⟩) (Kd.R_far (p := ⟨gb151, 0, none⟩) (Kd.R_types HO145.out BK151.out (by decide)) (fun _ hk => hk.2) (.slice Ao13 t143.length co13)) (fun _ hk => hk.2) (.slice Ao15 t146.length co15)) (fun _ hk => hk.2) (.int .i64 t149)) (fun _ h_ => h_.1))) (Kd.R_base ho0) hb); have n1_ := Aside0.mk (Kd.S_mono (Kd.S_told (Kd.S_told (Kd.S_old (by (with_reducible repeat (first | apply Kd.S_alloc | apply Kd.S_drewN | apply Kd.S_drew)); exact (Kd.S_mono (Kd.S_far (p := ⟨gb151, 2, none⟩) (Kd.S_far (p := ⟨gb151, 1, none⟩) (Kd.S_far (p := ⟨gb151, 0, none⟩) (Kd.S_types HO148.out BK151.out (by decide)) (fun _ hk => hk.2) (.slice Ao13 t143.length co13)) (fun _ hk => hk.2) (.slice Ao15 t146.length co15)) (fun _ hk => hk.2) (.int .i64 t149)) (fun _ h_ => h_.1))) hb) (Kd.R_base ho0)) (Kd.S_base ho1)) (fun _ h_ => h_.1)); have n2_ := Aside0.mk (Kd.R_lower (Kd.R_new' ho0 (Kd.R_lt (by (with_reducible repeat (first | apply Kd.R_alloc | apply Kd.R_drewN | apply Kd.R_drew)); exact (Kd.R_mono (Kd.R_far (p := ⟨gb151, 2, none⟩) (Kd.R_far (p := ⟨gb151, 1, none⟩) (Kd.R_far (p := ⟨gb151, 0, none⟩) (Kd.R_types HO145.out BK151.out (by decide)) (fun _ hk => hk.2) (.slice Ao13 t143.length co13)) (fun _ hk => hk.2) (.slice Ao15 t146.length co15)) (fun _ hk => hk.2) (.int .i64 t149)) (fun _ h_ => h_.1))))) (below_size (by repeat (first | (with_reducible first | exact HB.out | apply below_alloc | apply pw_below_drewN | apply below_drew1 | refine below_set ?_ GE151.out) | exact HB.out)))); have n3_ := Aside0.mk (Kd.S_lower (Kd.S_new' (Kd.S_new' ho1 (Kd.R_lt (by (with_reducible repeat (first | apply Kd.R_alloc | apply Kd.R_drewN | apply Kd.R_drew)); exact (Kd.R_mono (Kd.R_far (p := ⟨gb151, 2, none⟩) (Kd.R_far (p := ⟨gb151, 1, none⟩) (Kd.R_far (p := ⟨gb151, 0, none⟩) (Kd.R_types HO145.out BK151.out (by decide)) (fun _ hk => hk.2) (.slice Ao13 t143.length co13)) (fun _ hk => hk.2) (.slice Ao15 t146.length co15)) (fun _ hk => hk.2) (.int .i64 t149)) (fun _ h_ => h_.1))))) (Kd.S_lt (by (with_reducible repeat (first | apply Kd.S_alloc | apply Kd.S_drewN | apply Kd.S_drew)); exact (Kd.S_mono (Kd.S_far (p := ⟨gb151, 2, none⟩) (Kd.S_far (p := ⟨gb151, 1, none⟩) (Kd.S_far (p := ⟨gb151, 0, none⟩) (Kd.S_types HO148.out BK151.out (by decide)) (fun _ hk => hk.2) (.slice Ao13 t143.length co13)) (fun _ hk => hk.2) (.slice Ao15 t146.length co15)) (fun _ hk => hk.2) (.int .i64 t149)) (fun _ h_ => h_.1))))) (below_size (by repeat (first | (with_reducible first | exact HB.out | apply below_alloc | apply pw_below_drewN | apply below_drew1 | refine below_set ?_ GE151.out) | exact HB.out)))); have n4_ := Aside0.mk (blk_below (g := gb151) (o := .cells #[.slice Ao13 t143.length co13, .slice Ao15 t146.length co15, .int .i64 t149] 26 (0, 0)) (by (with_reducible repeat (first | refine blk_drewN ?_ _ | refine blk_drew ?_ | refine blk_alloc ?_ _)); refine blk_put (cs := #[.slice Ao13 t143.length co13, .slice Ao15 t146.length co15, .int .i64 0]) ?_ 2 _ rfl; (with_reducible repeat (first | refine blk_drewN ?_ _ | refine blk_drew ?_ | refine blk_alloc ?_ _)); refine blk_put (cs := #[.slice Ao13 t143.length co13, .slice none 0 0, .int .i64 0]) ?_ 1 _ rfl; (with_reducible repeat (first | refine blk_drewN ?_ _ | refine blk_drew ?_ | refine blk_alloc ?_ _)); refine blk_put (cs := #[.slice none 0 0, .slice none 0 0, .int .i64 0]) ?_ 0 _ rfl; (with_reducible repeat (first | refine blk_drewN ?_ _ | refine blk_drew ?_ | refine blk_alloc ?_ _)); exact BK151.out) hb); have n5_ := Aside0.mk (below_step (by repeat (first | (with_reducible first | exact HB.out | apply below_alloc | apply pw_below_drewN | apply below_drew1 | refine below_set ?_ GE151.out) | exact HB.out)) hb); clear HO145; clear HO148; clear BK151; clear HB; have HO145 := n0_; have HO148 := n1_; have HO154 := n2_; have HO157 := n3_; have BK151 := n4_; have HB := n5_; clear n0_ n1_ n2_ n3_ n4_ n5_; (try clear hb); (try clear hb2); (try clear hk); (try clear hi); (try clear ho0); (try clear ho1)) | ((with_reducible refine gate_dst (N := 6) rfl ?_); refine box_event ?hg (N := 6) ?hd (cs := #[.slice none 0 0, .slice none 0 0, .int .i64 0]) (t := 26) ?hr ?_; (case hd => rfl); (case hg => rfl); (case hr => first | (go_simp; done) | (go_simp; rfl)); intro gb160 hg w17 hbox hb; have n0_ := Aside0.mk (Kd.R_below (by (with_reducible repeat (first | apply Kd.R_alloc | apply Kd.R_drewN | apply Kd.R_drew)); exact HO145.out) hb); have n1_ := Aside0.mk (Kd.S_below (by (with_reducible repeat (first | apply Kd.S_alloc | apply Kd.S_drewN | apply Kd.S_drew)); exact HO148.out) hb); have n2_ := Aside0.mk (Kd.R_below (by (with_reducible repeat (first | apply Kd.R_alloc | apply Kd.R_drewN | apply Kd.R_drew)); exact HO154.out) hb); have n3_ := Aside0.mk (Kd.S_below (by (with_reducible repeat (first | apply Kd.S_alloc | apply Kd.S_drewN | apply Kd.S_drew)); exact HO157.out) hb); have n4_ := Aside0.mk (blk_below (g := gb151) (o := .cells #[.slice Ao13 t143.length co13, .slice Ao15 t146.length co15, .int .i64 t149] 26 (0, 0)) (by (with_reducible repeat (first | refine blk_drewN ?_ _ | refine blk_drew ?_ | refine blk_alloc ?_ _)); exact BK151.out) hb); have n5_ := Aside0.mk (below_step (by repeat (first | (with_reducible first | exact HB.out | apply below_alloc | apply pw_below_drewN | apply below_drew1 | refine below_set ?_ GE151.out) | exact HB.out)) hb); have n6_ := Aside0.mk (hbox); have n7_ := Aside0.mk ((by rw [hg]; exact (below_size (by repeat (first | (with_reducible first | exact HB.out | apply below_alloc | apply pw_below_drewN | apply below_drew1 | refine below_set ?_ GE151.out) | exact HB.out))) : w.heap.size ≤ gb160)); have n8_ := Aside0.mk ((by rw [hg]; exact (below_size (by repeat (first | (with_reducible first | exact HB.out | apply below_alloc | apply pw_below_drewN | apply below_drew1 | refine below_set ?_ GE151.out) | exact HB.out))) : w.heap.size ≤ gb160)); have n9_ := Aside0.mk ((by rw [hg]; exact Nat.ne_of_lt (blk_lt (g := gb151) (o := .cells #[.slice Ao13 t143.length co13, .slice Ao15 t146.length co15, .int .i64 t149] 26 (0, 0)) (by (with_reducible repeat (first | refine blk_drewN ?_ _ | refine blk_drew ?_ | refine blk_alloc ?_ _)); exact BK151.out)) : gb151 ≠ gb160)); have n10_ := Aside0.mk ((by rw [hg]; exact Nat.ne_of_gt (blk_lt (g := gb151) (o := .cells #[.slice Ao13 t143.length co13, .slice Ao15 t146.length co15, .int .i64 t149] 26 (0, 0)) (by (with_reducible repeat (first | refine blk_drewN ?_ _ | refine blk_drew ?_ | refine blk_alloc ?_ _)); exact BK151.out)) : gb160 ≠ gb151)); clear HO145; clear HO148; clear HO154; clear HO157; clear BK151; clear HB; have HO145 := n0_; have HO148 := n1_; have HO154 := n2_; have HO157 := n3_; have BK151 := n4_; have HB := n5_; have BK160 := n6_; have GW160 := n7_; have GE160 := n8_; have NB151_160 := n9_; have NB160_151 := n10_; clear n0_ n1_ n2_ n3_ n4_ n5_ n6_ n7_ n8_ n9_ n10_; clear hb hbox hg; obtain ⟨Ao18, co18, eo18⟩ := Kd.R_slice HO154.out; subst eo18; have hnb19 := NB160_151.out; have hnc19 := NB151_160.out; have hcz20_0 : w17.cell? ⟨gb160, 0, none⟩ = some (.slice none 0 0) := (blk_cell BK160.out 0).trans rfl; have hcz20_1 : w17.cell? ⟨gb160, 1, none⟩ = some (.slice none 0 0) := (blk_cell BK160.out 1).trans rfl; have hcz20_2 : w17.cell? ⟨gb160, 2, none⟩ = some (.int .i64 0) := (blk_cell BK160.out 2).trans rfl; have hfz20_0 := blk_frozen BK160.out 0; have hfz20_1 := blk_frozen BK160.out 1; have hfz20_2 := blk_frozen BK160.out 2; obtain ⟨Ao21, co21, eo21⟩ := Kd.S_slice HO157.out; subst eo21; have hcz22_0 : w17.cell? ⟨gb151, 0, none⟩ = some (.slice Ao13 t143.length co13) := (blk_cell BK151.out 0).trans rfl; have hcz22_1 : w17.cell? ⟨gb151, 1, none⟩ = some (.slice Ao15 t146.length co15) := (blk_cell BK151.out 1).trans rfl; have hcz22_2 : w17.cell? ⟨gb151, 2, none⟩ = some (.int .i64 t149) := (blk_cell BK151.out 2).trans rfl; have hfz22_0 := blk_frozen BK151.out 0; have hfz22_1 := blk_frozen BK151.out 1; have hfz22_2 := blk_frozen BK151.out 2) | ((with_reducible refine gate_callee (f := 12) rfl ?_); refine goesL_ (some 22) rfl rfl Try.func12 (by kernel_rfl) rfl #[.agg #[.slice Ao13 t143.length co13, .slice Ao15 t146.length co15, .int .i64 t149], .agg #[.slice Ao18 t152.length co18, .slice Ao21 t155.length co21, .int .i64 t158]] rfl (by (try simp only [List.map_toArray, List.map_cons, List.map_nil]); first | done | rfl | (simp only [List.length_drop, List.length_take]; rfl)) ?_; (with_reducible refine (malthouseref14_Same.calls k _ _ t143 _ _ t146 t149 _ _ t152 _ _ t155 t158 true _ ?side1 ?side2 ?side3 ?side4 ?side5 ?side6 ?side7 ?side8 A5.out).mono ?_); (case side1 => refine (Kd.R_reads' (e := 3) (base := w.heap.size) (ok := fun k_ => (True ∧ some k_ ≠ (.slice Ao18 t152.length co18 : Value).ownBlock)) (n := t143.length) (c := co13) ?_).2.2; exact (by (with_reducible repeat (first | apply Kd.R_alloc | apply Kd.R_drewN | apply Kd.R_drew)); exact (Kd.R_mono (Kd.R_far (p := ⟨gb160, 2, none⟩) (Kd.R_far (p := ⟨gb160, 1, none⟩) (Kd.R_far (p := ⟨gb160, 0, none⟩) (Kd.R_types HO145.out BK160.out (by decide)) (fun _ hk => hk.2) (.slice Ao18 t152.length co18)) (fun _ hk => hk.2) (.slice Ao21 t155.length co21)) (fun _ hk => hk.2) (.int .i64 t158)) (fun _ h_ => h_.1)))); (case side2 => exact (Kd.R_reads' HO145.out).2.1); (case side3 => refine (Kd.S_reads' (e := 37) (base := w.heap.size) (ok := fun k_ => ((some k_ ≠ (.slice Ao13 t143.length co13 : Value).ownBlock ∧ some k_ ≠ (.slice Ao18 t152.length co18 : Value).ownBlock) ∧ some k_ ≠ (.slice Ao21 t155.length co21 : Value).ownBlock)) (n := t146.length) (c := co15) ?_).2.2; exact (by (with_reducible repeat (first | apply Kd.S_alloc | apply Kd.S_drewN | apply Kd.S_drew)); exact (Kd.S_mono (Kd.S_far (p := ⟨gb160, 2, none⟩) (Kd.S_far (p := ⟨gb160, 1, none⟩) (Kd.S_far (p := ⟨gb160, 0, none⟩) (Kd.S_types HO148.out BK160.out (by decide)) (fun _ hk => hk.2) (.slice Ao18 t152.length co18)) (fun _ hk => hk.2) (.slice Ao21 t155.length co21)) (fun _ hk => hk.2) (.int .i64 t158)) (fun _ h_ => h_.1)))); (case side4 => exact (Kd.S_reads' HO148.out).2.1); (case side5 => refine (Kd.R_reads' (e := 3) (base := w.heap.size) (ok := fun k_ => (True ∧ some k_ ≠ (.slice Ao13 t143.length co13 : Value).ownBlock)) (n := t152.length) (c := co18) ?_).2.2; exact (by (with_reducible repeat (first | apply Kd.R_alloc | apply Kd.R_drewN | apply Kd.R_drew)); exact (Kd.R_mono (Kd.R_far (p := ⟨gb160, 2, none⟩) (Kd.R_far (p := ⟨gb160, 1, none⟩) (Kd.R_far (p := ⟨gb160, 0, none⟩) (Kd.R_types HO154.out BK160.out (by decide)) (fun _ hk => hk.2) (.slice Ao18 t152.length co18)) (fun _ hk => hk.2) (.slice Ao21 t155.length co21)) (fun _ hk => hk.2) (.int .i64 t158)) (fun _ h_ => h_.1)))); (case side6 => exact (Kd.R_reads' HO154.out).2.1); (case side7 => refine (Kd.S_reads' (e := 37) (base := w.heap.size) (ok := fun k_ => ((some k_ ≠ (.slice Ao18 t152.length co18 : Value).ownBlock ∧ some k_ ≠ (.slice Ao13 t143.length co13 : Value).ownBlock) ∧ some k_ ≠ (.slice Ao15 t146.length co15 : Value).ownBlock)) (n := t155.length) (c := co21) ?_).2.2; exact (by (with_reducible repeat (first | apply Kd.S_alloc | apply Kd.S_drewN | apply Kd.S_drew)); exact (Kd.S_mono (Kd.S_far (p := ⟨gb160, 2, none⟩) (Kd.S_far (p := ⟨gb160, 1, none⟩) (Kd.S_far (p := ⟨gb160, 0, none⟩) (Kd.S_types HO157.out BK160.out (by decide)) (fun _ hk => hk.2) (.slice Ao18 t152.length co18)) (fun _ hk => hk.2) (.slice Ao21 t155.length co21)) (fun _ hk => hk.2) (.int .i64 t158)) (fun _ h_ => h_.1)))); (case side8 => exact (Kd.S_reads' HO157.out).2.1); rintro e w23 ⟨rfl, hb⟩; refine ⟨_, rfl, ?_⟩; have n0_ := Aside0.mk (Kd.R_below (by (with_reducible repeat (first | apply Kd.R_alloc | apply Kd.R_drewN | apply Kd.R_drew)); exact (Kd.R_mono (Kd.R_far (p := ⟨gb160, 2, none⟩) (Kd.R_far (p := ⟨gb160, 1, none⟩) (Kd.R_far (p := ⟨gb160, 0, none⟩) (Kd.R_types HO145.out BK160.out (by decide)) (fun _ hk => hk.2) (.slice Ao18 t152.length co18)) (fun _ hk => hk.2) (.slice Ao21 t155.length co21)) (fun _ hk => hk.2) (.int .i64 t158)) (fun _ h_ => h_.1))) hb); have n1_ := Aside0.mk (Kd.S_below (by (with_reducible repeat (first | apply Kd.S_alloc | apply Kd.S_drewN | apply Kd.S_drew)); exact (Kd.S_mono (Kd.S_far (p := ⟨gb160, 2, none⟩) (Kd.S_far (p := ⟨gb160, 1, none⟩) (Kd.S_far (p := ⟨gb160, 0, none⟩) (Kd.S_types HO148.out BK160.out (by decide)) (fun _ hk => hk.2) (.slice Ao18 t152.length co18)) (fun _ hk => hk.2) (.slice Ao21 t155.length co21)) (fun _ hk => hk.2) (.int .i64 t158)) (fun _ h_ => h_.1))) hb); have n2_ := Aside0.mk (Kd.R_below (by (with_reducible repeat (first | apply Kd.R_alloc | apply Kd.R_drewN | apply Kd.R_drew)); exact (Kd.R_mono (Kd.R_far (p := ⟨gb160, 2, none⟩) (Kd.R_far (p := ⟨gb160, 1, none⟩) (Kd.R_far (p := ⟨gb160, 0, none⟩) (Kd.R_types HO154.out BK160.out (by decide)) (fun _ hk => hk.2) (.slice Ao18 t152.length co18)) (fun _ hk => hk.2) (.slice Ao21 t155.length co21)) (fun _ hk => hk.2) (.int .i64 t158)) (fun _ h_ => h_.1))) hb); have n3_ := Aside0.mk (Kd.S_below (by (with_reducible repeat (first | apply Kd.S_alloc | apply Kd.S_drewN | apply Kd.S_drew)); exact (Kd.S_mono (Kd.S_far (p := ⟨gb160, 2, none⟩) (Kd.S_far (p := ⟨gb160, 1, none⟩) (Kd.S_far (p := ⟨gb160, 0, none⟩) (Kd.S_types HO157.out BK160.out (by decide)) (fun _ hk => hk.2) (.slice Ao18 t152.length co18)) (fun _ hk => hk.2) (.slice Ao21 t155.length co21)) (fun _ hk => hk.2) (.int .i64 t158)) (fun _ h_ => h_.1))) hb); have n4_ := Aside0.mk (blk_below (g := gb151) (o := .cells #[.slice Ao13 t143.length co13, .slice Ao15 t146.length co15, .int .i64 t149] 26 (0, 0)) (by (with_reducible repeat (first | refine blk_drewN ?_ _ | refine blk_drew ?_ | refine blk_alloc ?_ _)); refine blk_far ?_ NB151_160.out _; (with_reducible repeat (first | refine blk_drewN ?_ _ | refine blk_drew ?_ | refine blk_alloc ?_ _)); refine blk_far ?_ NB151_160.out _; (with_reducible repeat (first | refine blk_drewN ?_ _ | refine blk_drew ?_ | refine blk_alloc ?_ _)); refine blk_far ?_ NB151_160.out _; (with_reducible repeat (first | refine blk_drewN ?_ _ | refine blk_drew ?_ | refine blk_alloc ?_ _)); exact BK151.out) hb); have n5_ := Aside0.mk (blk_below (g := gb160) (o := .cells #[.slice Ao18 t152.length co18, .slice Ao21 t155.length co21, .int .i64 t158] 26 (0, 0)) (by (with_reducible repeat (first | refine blk_drewN ?_ _ | refine blk_drew ?_ | refine blk_alloc ?_ _)); refine blk_put (cs := #[.slice Ao18 t152.length co18, .slice Ao21 t155.length co21, .int .i64 0]) ?_ 2 _ rfl; (with_reducible repeat (first | refine blk_drewN ?_ _ | refine blk_drew ?_ | refine blk_alloc ?_ _)); refine blk_put (cs := #[.slice Ao18 t152.length co18, .slice none 0 0, .int .i64 0]) ?_ 1 _ rfl; (with_reducible repeat (first | refine blk_drewN ?_ _ | refine blk_drew ?_ | refine blk_alloc ?_ _)); refine blk_put (cs := #[.slice none 0 0, .slice none 0 0, .int .i64 0]) ?_ 0 _ rfl; (with_reducible repeat (first | refine blk_drewN ?_ _ | refine blk_drew ?_ | refine blk_alloc ?_ _)); exact BK160.out) hb); have n6_ := Aside0.mk (below_step (by repeat (first | (with_reducible first | exact HB.out | apply below_alloc | apply pw_below_drewN | apply below_drew1 | refine below_set ?_ GE151.out | refine below_set ?_ GE160.out) | exact HB.out)) hb); clear HO145; clear HO148; clear HO154; clear HO157; clear BK151; clear BK160; clear HB; have HO145 := n0_; have HO148 := n1_; have HO154 := n2_; have HO157 := n3_; have BK151 := n4_; have BK160 := n5_; have HB := n6_; clear n0_ n1_ n2_ n3_ n4_ n5_ n6_; (try clear hb); (try clear hb2); (try clear hk); (try clear hi); have hcz24_0 : w23.cell? ⟨gb151, 0, none⟩ = some (.slice Ao13 t143.length co13) := (blk_cell BK151.out 0).trans rfl; have hcz24_1 : w23.cell? ⟨gb151, 1, none⟩ = some (.slice Ao15 t146.length co15) := (blk_cell BK151.out 1).trans rfl; have hcz24_2 : w23.cell? ⟨gb151, 2, none⟩ = some (.int .i64 t149) := (blk_cell BK151.out 2).trans rfl; have hfz24_0 := blk_frozen BK151.out 0; have hfz24_1 := blk_frozen BK151.out 1; have hfz24_2 := blk_frozen BK151.out 2) | (go_at_call 13; (with_reducible refine (arb_Right.calls k _ _ t143 _ _ t146 t149 t162 _ ?side1 ?side2 ?side3 ?side4 A9.out).mono ?_); (case side1 => repeat (first | exact (Kd.R_reads' HO145.out).2.2 | (with_reducible refine Kd.C_alloc ?_ _) | (with_reducible refine Kd.C_drewN ?_ _) | (with_reducible refine Kd.C_drew ?_))); (case side2 => exact (Kd.R_reads' HO145.out).2.1); (case side3 => repeat (first | exact (Kd.S_reads' HO148.out).2.2 | (with_reducible refine Kd.C_alloc ?_ _) | (with_reducible refine Kd.C_drewN ?_ _) | (with_reducible refine Kd.C_drew ?_))); (case side4 => exact (Kd.S_reads' HO148.out).2.1); rintro e w25 ⟨rfl, hb⟩; have n0_ := Aside0.mk (Kd.R_below (by (with_reducible repeat (first | apply Kd.R_alloc | apply Kd.R_drewN | apply Kd.R_drew)); exact HO145.out) hb); have n1_ := Aside0.mk (Kd.S_below (by (with_reducible repeat (first | apply Kd.S_alloc | apply Kd.S_drewN | apply Kd.S_drew)); exact HO148.out) hb); have n2_ := Aside0.mk (Kd.R_below (by (with_reducible repeat (first | apply Kd.R_alloc | apply Kd.R_drewN | apply Kd.R_drew)); exact HO154.out) hb); have n3_ := Aside0.mk (Kd.S_below (by (with_reducible repeat (first | apply Kd.S_alloc | apply Kd.S_drewN | apply Kd.S_drew)); exact HO157.out) hb); have n4_ := Aside0.mk (blk_below (g := gb151) (o := .cells #[.slice Ao13 t143.length co13, .slice Ao15 t146.length co15, .int .i64 t149] 26 (0, 0)) (by (with_reducible repeat (first | refine blk_drewN ?_ _ | refine blk_drew ?_ | refine blk_alloc ?_ _)); exact BK151.out) hb); have n5_ := Aside0.mk (blk_below (g := gb160) (o := .cells #[.slice Ao18 t152.length co18, .slice Ao21 t155.length co21, .int .i64 t158] 26 (0, 0)) (by (with_reducible repeat (first | refine blk_drewN ?_ _ | refine blk_drew ?_ | refine blk_alloc ?_ _)); exact BK160.out) hb); have n6_ := Aside0.mk (below_step (by repeat (first | (with_reducible first | exact HB.out | apply below_alloc | apply pw_below_drewN | apply below_drew1 | refine below_set ?_ GE151.out | refine below_set ?_ GE160.out) | exact HB.out)) hb); clear HO145; clear HO148; clear HO154; clear HO157; clear BK151; clear BK160; clear HB; have HO145 := n0_; have HO148 := n1_; have HO154 := n2_; have HO157 := n3_; have BK151 := n4_; have BK160 := n5_; have HB := n6_; clear n0_ n1_ n2_ n3_ n4_ n5_ n6_; (try clear hb); (try clear hb2); (try clear hk); (try clear hi)))
        go_ret
        exact ⟨by first | rfl | (simp [errW_none, errW_some] <;> rfl) | (simp [*, errW_none, errW_some] <;> rfl), by repeat (first | (with_reducible first | exact HB.out | apply below_alloc | apply pw_below_drewN | apply below_drew1 | refine below_set ?_ GE151.out | refine below_set ?_ GE160.out) | exact HB.out)⟩
      · rw [if_neg c8] at H
        have c8b0 : (t150 == t159) = false := beq_eq_false_iff_ne.mpr c8
        have c8b1 : (t150 != t159) = true := bne_iff_ne.mpr c8
        obtain rfl := Option.some.inj H
        go_enter Try.func3, Try.ntmps3
        go_wp2_with (first | ((with_reducible refine gate_callee (f := 9) rfl ?_); refine goesL_ (some 9) rfl rfl Try.func9 (by kernel_rfl) rfl #[] rfl (by (try simp only [List.map_toArray, List.map_cons, List.map_nil]); first | done | rfl | (simp only [List.length_drop, List.length_take]; rfl)) ?_; (with_reducible refine (malthouselaw14_awake.calls  true _ A2.out).mono ?_); rintro e w26 ⟨rfl, hb⟩; refine ⟨_, rfl, ?_⟩; have n0_ := Aside0.mk (below_step (by repeat (first | (with_reducible first | exact HB.out | apply below_alloc | apply pw_below_drewN | apply below_drew1) | exact HB.out)) hb); clear HB; have HB := n0_; clear n0_; (try clear hb); (try clear hb2); (try clear hk); (try clear hi)) | ((with_reducible refine gate_callee (f := 10) rfl ?_); refine goesL_ (some 12) rfl rfl Try.func10 (by kernel_rfl) rfl #[.int .i64 a0] rfl (by (try simp only [List.map_toArray, List.map_cons, List.map_nil]); first | done | rfl | (simp only [List.length_drop, List.length_take]; rfl)) ?_; (with_reducible refine (arb_New.calls a0 t143 t146 t149 t150 _ A3.out).mono ?_); rintro e w27 ⟨v144, v147, rfl, ho0, ho1, hb⟩; refine ⟨_, rfl, ?_⟩; have n0_ := Aside0.mk (Kd.R_lower ho0 (below_size (by repeat (first | (with_reducible first | exact HB.out | apply below_alloc | apply pw_below_drewN | apply below_drew1) | exact HB.out)))); have n1_ := Aside0.mk (Kd.S_lower ho1 (below_size (by repeat (first | (with_reducible first | exact HB.out | apply below_alloc | apply pw_below_drewN | apply below_drew1) | exact HB.out)))); have n2_ := Aside0.mk (below_step (by repeat (first | (with_reducible first | exact HB.out | apply below_alloc | apply pw_below_drewN | apply below_drew1) | exact HB.out)) hb); clear HB; have HO145 := n0_; have HO148 := n1_; have HB := n2_; clear n0_ n1_ n2_; (try clear hb); (try clear hb2); (try clear hk); (try clear hi); (try clear ho0); (try clear ho1)) | ((with_reducible refine gate_dst (N := 4) rfl ?_); refine box_event ?hg (N := 4) ?hd (cs := #[.slice none 0 0, .slice none 0 0, .int .i64 0]) (t := 26) ?hr ?_; (case hd => rfl); (case hg => rfl); (case hr => first | (go_simp; done) | (go_simp; rfl)); intro gb151 hg w28 hbox hb; have n0_ := Aside0.mk (Kd.R_below (by (with_reducible repeat (first | apply Kd.R_alloc | apply Kd.R_drewN | apply Kd.R_drew)); exact HO145.out) hb); have n1_ := Aside0.mk (Kd.S_below (by (with_reducible repeat (first | apply Kd.S_alloc | apply Kd.S_drewN | apply Kd.S_drew)); exact HO148.out) hb); have n2_ := Aside0.mk (below_step (by repeat (first | (with_reducible first | exact HB.out | apply below_alloc | apply pw_below_drewN | apply below_drew1) | exact HB.out)) hb); have n3_ := Aside0.mk (hbox); have n4_ := Aside0.mk ((by rw [hg]; exact (below_size (by repeat (first | (with_reducible first | exact HB.out | apply below_alloc | apply pw_below_drewN | apply below_drew1) | exact HB.out))) : w.heap.size ≤ gb151)); have n5_ := Aside0.mk ((by rw [hg]; exact (below_size (by repeat (first | (with_reducible first | exact HB.out | apply below_alloc | apply pw_below_drewN | apply below_drew1) | exact HB.out))) : w.heap.size ≤ gb151)); clear HO145; clear HO148; clear HB; have HO145 := n0_; have HO148 := n1_; have HB := n2_; have BK151 := n3_; have GW151 := n4_; have GE151 := n5_; clear n0_ n1_ n2_ n3_ n4_ n5_; clear hb hbox hg; obtain ⟨Ao29, co29, eo29⟩ := Kd.R_slice HO145.out; subst eo29; have hcz30_0 : w28.cell? ⟨gb151, 0, none⟩ = some (.slice none 0 0) := (blk_cell BK151.out 0).trans rfl; have hcz30_1 : w28.cell? ⟨gb151, 1, none⟩ = some (.slice none 0 0) := (blk_cell BK151.out 1).trans rfl; have hcz30_2 : w28.cell? ⟨gb151, 2, none⟩ = some (.int .i64 0) := (blk_cell BK151.out 2).trans rfl; have hfz30_0 := blk_frozen BK151.out 0; have hfz30_1 := blk_frozen BK151.out 1; have hfz30_2 := blk_frozen BK151.out 2; obtain ⟨Ao31, co31, eo31⟩ := Kd.S_slice HO148.out; subst eo31) | ((with_reducible refine gate_callee (f := 11) rfl ?_); refine goesL_ (some 17) rfl rfl Try.func11 (by kernel_rfl) rfl #[.int .i64 a0] rfl (by (try simp only [List.map_toArray, List.map_cons, List.map_nil]); first | done | rfl | (simp only [List.length_drop, List.length_take]; rfl)) ?_; (with_reducible refine (malthouseref14_New.calls a0 t152 t155 t158 t159 _ A4.out).mono ?_); rintro e w32 ⟨v153, v156, rfl, ho0, ho1, hb⟩; refine ⟨_, rfl, ?_⟩; have n0_ := Aside0.mk (Kd.R_elder' (by (with_reducible repeat (first | apply Kd.R_alloc | apply Kd.R_drewN | apply Kd.R_drew)); exact (Kd.R_mono (Kd.R_far (p := ⟨gb151, 2, none⟩) (Kd.R_far (p := ⟨gb151, 1, none⟩) (Kd.R_far (p := ⟨gb151, 0, none⟩) (Kd.R_types HO145.out BK151.out (by decide)) (fun _ hk => hk.2) (.slice Ao29 t143.length co29)) (fun _ hk => hk.2) (.slice Ao31 t146.length co31)) (fun _ hk => hk.2) (.int .i64 t149)) (fun _ h_ => h_.1))) (Kd.R_base ho0) hb); have n1_ := Aside0.mk (Kd.S_mono (Kd.S_told (Kd.S_told (Kd.S_old (by (with_reducible repeat (first | apply Kd.S_alloc | apply Kd.S_drewN | apply Kd.S_drew)); exact (Kd.S_mono (Kd.S_far (p := ⟨gb151, 2, none⟩) (Kd.S_far (p := ⟨gb151, 1, none⟩) (Kd.S_far (p := ⟨gb151, 0, none⟩) (Kd.S_types HO148.out BK151.out (by decide)) (fun _ hk => hk.2) (.slice Ao29 t143.length co29)) (fun _ hk => hk.2) (.slice Ao31 t146.length co31)) (fun _ hk => hk.2) (.int .i64 t149)) (fun _ h_ => h_.1))) hb) (Kd.R_base ho0)) (Kd.S_base ho1)) (fun _ h_ => h_.1)); have n2_ := Aside0.mk (Kd.R_lower (Kd.R_new' ho0 (Kd.R_lt (by (with_reducible repeat (first | apply Kd.R_alloc | apply Kd.R_drewN | apply Kd.R_drew)); exact (Kd.R_mono (Kd.R_far (p := ⟨gb151, 2, none⟩) (Kd.R_far (p := ⟨gb151, 1, none⟩) (Kd.R_far (p := ⟨gb151, 0, none⟩) (Kd.R_types HO145.out BK151.out (by decide)) (fun _ hk => hk.2) (.slice Ao29 t143.length co29)) (fun _ hk => hk.2) (.slice Ao31 t146.length co31)) (fun _ hk => hk.2) (.int .i64 t149)) (fun _ h_ => h_.1))))) (below_size (by repeat (first | (with_reducible first | exact HB.out | apply below_alloc | apply pw_below_drewN | apply below_drew1 | refine below_set ?_ GE151.out) | exact HB.out)))); have n3_ := Aside0.mk (Kd.S_lower (Kd.S_new' (Kd.S_new' ho1 (Kd.R_lt (by (with_reducible repeat (first | apply Kd.R_alloc | apply Kd.R_drewN | apply Kd.R_drew)); exact (Kd.R_mono (Kd.R_far (p := ⟨gb151, 2, none⟩) (Kd.R_far (p := ⟨gb151, 1, none⟩) (Kd.R_far (p := ⟨gb151, 0, none⟩) (Kd.R_types HO145.out BK151.out (by decide)) (fun _ hk => hk.2) (.slice Ao29 t143.length co29)) (fun _ hk => hk.2) (.slice Ao31 t146.length co31)) (fun _ hk => hk.2) (.int .i64 t149)) (fun _ h_ => h_.1))))) (Kd.S_lt (by (with_reducible repeat (first | apply Kd.S_alloc | apply Kd.S_drewN | apply Kd.S_drew)); exact (Kd.S_mono (Kd.S_far (p := ⟨gb151, 2, none⟩) (Kd.S_far (p := ⟨gb151, 1, none⟩) (Kd.S_far (p := ⟨gb151, 0, none⟩) (Kd.S_types HO148.out BK151.out (by decide)) (fun _ hk => hk.2) (.slice Ao29 t143.length co29)) (fun _ hk => hk.2) (.slice Ao31 t146.length co31)) (fun _ hk => hk.2) (.int .i64 t149)) (fun _ h_ => h_.1))))) (below_size (by repeat (first | (with_reducible first | exact HB.out | apply below_alloc | apply pw_below_drewN | apply below_drew1 | refine below_set ?_ GE151.out) | exact HB.out)))); have n4_ := Aside0.mk (blk_below (g := gb151) (o := .cells #[.slice Ao29 t143.length co29, .slice Ao31 t146.length co31, .int .i64 t149] 26 (0, 0)) (by (with_reducible repeat (first | refine blk_drewN ?_ _ | refine blk_drew ?_ | refine blk_alloc ?_ _)); refine blk_put (cs := #[.slice Ao29 t143.length co29, .slice Ao31 t146.length co31, .int .i64 0]) ?_ 2 _ rfl; (with_reducible repeat (first | refine blk_drewN ?_ _ | refine blk_drew ?_ | refine blk_alloc ?_ _)); refine blk_put (cs := #[.slice Ao29 t143.length co29, .slice none 0 0, .int .i64 0]) ?_ 1 _ rfl; (with_reducible repeat (first | refine blk_drewN ?_ _ | refine blk_drew ?_ | refine blk_alloc ?_ _)); refine blk_put (cs := #[.slice none 0 0, .slice none 0 0, .int .i64 0]) ?_ 0 _ rfl; (with_reducible repeat (first | refine blk_drewN ?_ _ | refine blk_drew ?_ | refine blk_alloc ?_ _)); exact BK151.out) hb); have n5_ := Aside0.mk (below_step (by repeat (first | (with_reducible first | exact HB.out | apply below_alloc | apply pw_below_drewN | apply below_drew1 | refine below_set ?_ GE151.out) | exact HB.out)) hb); clear HO145; clear HO148; clear BK151; clear HB; have HO145 := n0_; have HO148 := n1_; have HO154 := n2_; have HO157 := n3_; have BK151 := n4_; have HB := n5_; clear n0_ n1_ n2_ n3_ n4_ n5_; (try clear hb); (try clear hb2); (try clear hk); (try clear hi); (try clear ho0); (try clear ho1)) | ((with_reducible refine gate_dst (N := 6) rfl ?_); refine box_event ?hg (N := 6) ?hd (cs := #[.slice none 0 0, .slice none 0 0, .int .i64 0]) (t := 26) ?hr ?_; (case hd => rfl); (case hg => rfl); (case hr => first | (go_simp; done) | (go_simp; rfl)); intro gb160 hg w33 hbox hb; have n0_ := Aside0.mk (Kd.R_below (by (with_reducible repeat (first | apply Kd.R_alloc | apply Kd.R_drewN | apply Kd.R_drew)); exact HO145.out) hb); have n1_ := Aside0.mk (Kd.S_below (by (with_reducible repeat (first | apply Kd.S_alloc | apply Kd.S_drewN | apply Kd.S_drew)); exact HO148.out) hb); have n2_ := Aside0.mk (Kd.R_below (by (with_reducible repeat (first | apply Kd.R_alloc | apply Kd.R_drewN | apply Kd.R_drew)); exact HO154.out) hb); have n3_ := Aside0.mk (Kd.S_below (by (with_reducible repeat (first | apply Kd.S_alloc | apply Kd.S_drewN | apply Kd.S_drew)); exact HO157.out) hb); have n4_ := Aside0.mk (blk_below (g := gb151) (o := .cells #[.slice Ao29 t143.length co29, .slice Ao31 t146.length co31, .int .i64 t149] 26 (0, 0)) (by (with_reducible repeat (first | refine blk_drewN ?_ _ | refine blk_drew ?_ | refine blk_alloc ?_ _)); exact BK151.out) hb); have n5_ := Aside0.mk (below_step (by repeat (first | (with_reducible first | exact HB.out | apply below_alloc | apply pw_below_drewN | apply below_drew1 | refine below_set ?_ GE151.out) | exact HB.out)) hb); have n6_ := Aside0.mk (hbox); have n7_ := Aside0.mk ((by rw [hg]; exact (below_size (by repeat (first | (with_reducible first | exact HB.out | apply below_alloc | apply pw_below_drewN | apply below_drew1 | refine below_set ?_ GE151.out) | exact HB.out))) : w.heap.size ≤ gb160)); have n8_ := Aside0.mk ((by rw [hg]; exact (below_size (by repeat (first | (with_reducible first | exact HB.out | apply below_alloc | apply pw_below_drewN | apply below_drew1 | refine below_set ?_ GE151.out) | exact HB.out))) : w.heap.size ≤ gb160)); have n9_ := Aside0.mk ((by rw [hg]; exact Nat.ne_of_lt (blk_lt (g := gb151) (o := .cells #[.slice Ao29 t143.length co29, .slice Ao31 t146.length co31, .int .i64 t149] 26 (0, 0)) (by (with_reducible repeat (first | refine blk_drewN ?_ _ | refine blk_drew ?_ | refine blk_alloc ?_ _)); exact BK151.out)) : gb151 ≠ gb160)); have n10_ := Aside0.mk ((by rw [hg]; exact Nat.ne_of_gt (blk_lt (g := gb151) (o := .cells #[.slice Ao29 t143.length co29, .slice Ao31 t146.length co31, .int .i64 t149] 26 (0, 0)) (by (with_reducible repeat (first | refine blk_drewN ?_ _ | refine blk_drew ?_ | refine blk_alloc ?_ _)); exact BK151.out)) : gb160 ≠ gb151)); clear HO145; clear HO148; clear HO154; clear HO157; clear BK151; clear HB; have HO145 := n0_; have HO148 := n1_; have HO154 := n2_; have HO157 := n3_; have BK151 := n4_; have HB := n5_; have BK160 := n6_; have GW160 := n7_; have GE160 := n8_; have NB151_160 := n9_; have NB160_151 := n10_; clear n0_ n1_ n2_ n3_ n4_ n5_ n6_ n7_ n8_ n9_ n10_; clear hb hbox hg; obtain ⟨Ao34, co34, eo34⟩ := Kd.R_slice HO154.out; subst eo34; have hnb35 := NB160_151.out; have hnc35 := NB151_160.out; have hcz36_0 : w33.cell? ⟨gb160, 0, none⟩ = some (.slice none 0 0) := (blk_cell BK160.out 0).trans rfl; have hcz36_1 : w33.cell? ⟨gb160, 1, none⟩ = some (.slice none 0 0) := (blk_cell BK160.out 1).trans rfl; have hcz36_2 : w33.cell? ⟨gb160, 2, none⟩ = some (.int .i64 0) := (blk_cell BK160.out 2).trans rfl; have hfz36_0 := blk_frozen BK160.out 0; have hfz36_1 := blk_frozen BK160.out 1; have hfz36_2 := blk_frozen BK160.out 2; obtain ⟨Ao37, co37, eo37⟩ := Kd.S_slice HO157.out; subst eo37; have hcz38_0 : w33.cell? ⟨gb151, 0, none⟩ = some (.slice Ao29 t143.length co29) := (blk_cell BK151.out 0).trans rfl; have hcz38_1 : w33.cell? ⟨gb151, 1, none⟩ = some (.slice Ao31 t146.length co31) := (blk_cell BK151.out 1).trans rfl; have hcz38_2 : w33.cell? ⟨gb151, 2, none⟩ = some (.int .i64 t149) := (blk_cell BK151.out 2).trans rfl; have hfz38_0 := blk_frozen BK151.out 0; have hfz38_1 := blk_frozen BK151.out 1; have hfz38_2 := blk_frozen BK151.out 2) | ((with_reducible refine gate_callee (f := 12) rfl ?_); refine goesL_ (some 22) rfl rfl Try.func12 (by kernel_rfl) rfl #[.agg #[.slice Ao29 t143.length co29, .slice Ao31 t146.length co31, .int .i64 t149], .agg #[.slice Ao34 t152.length co34, .slice Ao37 t155.length co37, .int .i64 t158]] rfl (by (try simp only [List.map_toArray, List.map_cons, List.map_nil]); first | done | rfl | (simp only [List.length_drop, List.length_take]; rfl)) ?_; (with_reducible refine (malthouseref14_Same.calls k _ _ t143 _ _ t146 t149 _ _ t152 _ _ t155 t158 true _ ?side1 ?side2 ?side3 ?side4 ?side5 ?side6 ?side7 ?side8 A5.out).mono ?_); (case side1 => refine (Kd.R_reads' (e := 3) (base := w.heap.size) (ok := fun k_ => (True ∧ some k_ ≠ (.slice Ao34 t152.length co34 : Value).ownBlock)) (n := t143.length) (c := co29) ?_).2.2; exact (by (with_reducible repeat (first | apply Kd.R_alloc | apply Kd.R_drewN | apply Kd.R_drew)); exact (Kd.R_mono (Kd.R_far (p := ⟨gb160, 2, none⟩) (Kd.R_far (p := ⟨gb160, 1, none⟩) (Kd.R_far (p := ⟨gb160, 0, none⟩) (Kd.R_types HO145.out BK160.out (by decide)) (fun _ hk => hk.2) (.slice Ao34 t152.length co34)) (fun _ hk => hk.2) (.slice Ao37 t155.length co37)) (fun _ hk => hk.2) (.int .i64 t158)) (fun _ h_ => h_.1)))); (case side2 => exact (Kd.R_reads' HO145.out).2.1); (case side3 => refine (Kd.S_reads' (e := 37) (base := w.heap.size) (ok := fun k_ => ((some k_ ≠ (.slice Ao29 t143.length co29 : Value).ownBlock ∧ some k_ ≠ (.slice Ao34 t152.length co34 : Value).ownBlock) ∧ some k_ ≠ (.slice Ao37 t155.length co37 : Value).ownBlock)) (n := t146.length) (c := co31) ?_).2.2; exact (by (with_reducible repeat (first | apply Kd.S_alloc | apply Kd.S_drewN | apply Kd.S_drew)); exact (Kd.S_mono (Kd.S_far (p := ⟨gb160, 2, none⟩) (Kd.S_far (p := ⟨gb160, 1, none⟩) (Kd.S_far (p := ⟨gb160, 0, none⟩) (Kd.S_types HO148.out BK160.out (by decide)) (fun _ hk => hk.2) (.slice Ao34 t152.length co34)) (fun _ hk => hk.2) (.slice Ao37 t155.length co37)) (fun _ hk => hk.2) (.int .i64 t158)) (fun _ h_ => h_.1)))); (case side4 => exact (Kd.S_reads' HO148.out).2.1); (case side5 => refine (Kd.R_reads' (e := 3) (base := w.heap.size) (ok := fun k_ => (True ∧ some k_ ≠ (.slice Ao29 t143.length co29 : Value).ownBlock)) (n := t152.length) (c := co34) ?_).2.2; exact (by (with_reducible repeat (first | apply Kd.R_alloc | apply Kd.R_drewN | apply Kd.R_drew)); exact (Kd.R_mono (Kd.R_far (p := ⟨gb160, 2, none⟩) (Kd.R_far (p := ⟨gb160, 1, none⟩) (Kd.R_far (p := ⟨gb160, 0, none⟩) (Kd.R_types HO154.out BK160.out (by decide)) (fun _ hk => hk.2) (.slice Ao34 t152.length co34)) (fun _ hk => hk.2) (.slice Ao37 t155.length co37)) (fun _ hk => hk.2) (.int .i64 t158)) (fun _ h_ => h_.1)))); (case side6 => exact (Kd.R_reads' HO154.out).2.1); (case side7 => refine (Kd.S_reads' (e := 37) (base := w.heap.size) (ok := fun k_ => ((some k_ ≠ (.slice Ao34 t152.length co34 : Value).ownBlock ∧ some k_ ≠ (.slice Ao29 t143.length co29 : Value).ownBlock) ∧ some k_ ≠ (.slice Ao31 t146.length co31 : Value).ownBlock)) (n := t155.length) (c := co37) ?_).2.2; exact (by (with_reducible repeat (first | apply Kd.S_alloc | apply Kd.S_drewN | apply Kd.S_drew)); exact (Kd.S_mono (Kd.S_far (p := ⟨gb160, 2, none⟩) (Kd.S_far (p := ⟨gb160, 1, none⟩) (Kd.S_far (p := ⟨gb160, 0, none⟩) (Kd.S_types HO157.out BK160.out (by decide)) (fun _ hk => hk.2) (.slice Ao34 t152.length co34)) (fun _ hk => hk.2) (.slice Ao37 t155.length co37)) (fun _ hk => hk.2) (.int .i64 t158)) (fun _ h_ => h_.1)))); (case side8 => exact (Kd.S_reads' HO157.out).2.1); rintro e w39 ⟨rfl, hb⟩; refine ⟨_, rfl, ?_⟩; have n0_ := Aside0.mk (Kd.R_below (by (with_reducible repeat (first | apply Kd.R_alloc | apply Kd.R_drewN | apply Kd.R_drew)); exact (Kd.R_mono (Kd.R_far (p := ⟨gb160, 2, none⟩) (Kd.R_far (p := ⟨gb160, 1, none⟩) (Kd.R_far (p := ⟨gb160, 0, none⟩) (Kd.R_types HO145.out BK160.out (by decide)) (fun _ hk => hk.2) (.slice Ao34 t152.length co34)) (fun _ hk => hk.2) (.slice Ao37 t155.length co37)) (fun _ hk => hk.2) (.int .i64 t158)) (fun _ h_ => h_.1))) hb); have n1_ := Aside0.mk (Kd.S_below (by (with_reducible repeat (first | apply Kd.S_alloc | apply Kd.S_drewN | apply Kd.S_drew)); exact (Kd.S_mono (Kd.S_far (p := ⟨gb160, 2, none⟩) (Kd.S_far (p := ⟨gb160, 1, none⟩) (Kd.S_far (p := ⟨gb160, 0, none⟩) (Kd.S_types HO148.out BK160.out (by decide)) (fun _ hk => hk.2) (.slice Ao34 t152.length co34)) (fun _ hk => hk.2) (.slice Ao37 t155.length co37)) (fun _ hk => hk.2) (.int .i64 t158)) (fun _ h_ => h_.1))) hb); have n2_ := Aside0.mk (Kd.R_below (by (with_reducible repeat (first | apply Kd.R_alloc | apply Kd.R_drewN | apply Kd.R_drew)); exact (Kd.R_mono (Kd.R_far (p := ⟨gb160, 2, none⟩) (Kd.R_far (p := ⟨gb160, 1, none⟩) (Kd.R_far (p := ⟨gb160, 0, none⟩) (Kd.R_types HO154.out BK160.out (by decide)) (fun _ hk => hk.2) (.slice Ao34 t152.length co34)) (fun _ hk => hk.2) (.slice Ao37 t155.length co37)) (fun _ hk => hk.2) (.int .i64 t158)) (fun _ h_ => h_.1))) hb); have n3_ := Aside0.mk (Kd.S_below (by (with_reducible repeat (first | apply Kd.S_alloc | apply Kd.S_drewN | apply Kd.S_drew)); exact (Kd.S_mono (Kd.S_far (p := ⟨gb160, 2, none⟩) (Kd.S_far (p := ⟨gb160, 1, none⟩) (Kd.S_far (p := ⟨gb160, 0, none⟩) (Kd.S_types HO157.out BK160.out (by decide)) (fun _ hk => hk.2) (.slice Ao34 t152.length co34)) (fun _ hk => hk.2) (.slice Ao37 t155.length co37)) (fun _ hk => hk.2) (.int .i64 t158)) (fun _ h_ => h_.1))) hb); have n4_ := Aside0.mk (blk_below (g := gb151) (o := .cells #[.slice Ao29 t143.length co29, .slice Ao31 t146.length co31, .int .i64 t149] 26 (0, 0)) (by (with_reducible repeat (first | refine blk_drewN ?_ _ | refine blk_drew ?_ | refine blk_alloc ?_ _)); refine blk_far ?_ NB151_160.out _; (with_reducible repeat (first | refine blk_drewN ?_ _ | refine blk_drew ?_ | refine blk_alloc ?_ _)); refine blk_far ?_ NB151_160.out _; (with_reducible repeat (first | refine blk_drewN ?_ _ | refine blk_drew ?_ | refine blk_alloc ?_ _)); refine blk_far ?_ NB151_160.out _; (with_reducible repeat (first | refine blk_drewN ?_ _ | refine blk_drew ?_ | refine blk_alloc ?_ _)); exact BK151.out) hb); have n5_ := Aside0.mk (blk_below (g := gb160) (o := .cells #[.slice Ao34 t152.length co34, .slice Ao37 t155.length co37, .int .i64 t158] 26 (0, 0)) (by (with_reducible repeat (first | refine blk_drewN ?_ _ | refine blk_drew ?_ | refine blk_alloc ?_ _)); refine blk_put (cs := #[.slice Ao34 t152.length co34, .slice Ao37 t155.length co37, .int .i64 0]) ?_ 2 _ rfl; (with_reducible repeat (first | refine blk_drewN ?_ _ | refine blk_drew ?_ | refine blk_alloc ?_ _)); refine blk_put (cs := #[.slice Ao34 t152.length co34, .slice none 0 0, .int .i64 0]) ?_ 1 _ rfl; (with_reducible repeat (first | refine blk_drewN ?_ _ | refine blk_drew ?_ | refine blk_alloc ?_ _)); refine blk_put (cs := #[.slice none 0 0, .slice none 0 0, .int .i64 0]) ?_ 0 _ rfl; (with_reducible repeat (first | refine blk_drewN ?_ _ | refine blk_drew ?_ | refine blk_alloc ?_ _)); exact BK160.out) hb); have n6_ := Aside0.mk (below_step (by repeat (first | (with_reducible first | exact HB.out | apply below_alloc | apply pw_below_drewN | apply below_drew1 | refine below_set ?_ GE151.out | refine below_set ?_ GE160.out) | exact HB.out)) hb); clear HO145; clear HO148; clear HO154; clear HO157; clear BK151; clear BK160; clear HB; have HO145 := n0_; have HO148 := n1_; have HO154 := n2_; have HO157 := n3_; have BK151 := n4_; have BK160 := n5_; have HB := n6_; clear n0_ n1_ n2_ n3_ n4_ n5_ n6_; (try clear hb); (try clear hb2); (try clear hk); (try clear hi)))
        go_ret
        exact ⟨by first | rfl | (simp [errW_none, errW_some] <;> rfl) | (simp [*, errW_none, errW_some] <;> rfl), by repeat (first | (with_reducible first | exact HB.out | apply below_alloc | apply pw_below_drewN | apply below_drew1 | refine below_set ?_ GE151.out | refine below_set ?_ GE160.out) | exact HB.out)⟩
    · replace c7 := Bool.eq_false_iff.mpr c7
      subst c7
      have H1 : (some false) = some r := by rw [if_neg (show ¬ (false = true) by decide)] at H; exact H
      clear H
      have H := H1
      clear H1
      obtain rfl := Option.some.inj H
      go_enter Try.func3, Try.ntmps3
      go_wp2_with (first | ((with_reducible refine gate_callee (f := 9) rfl ?_); refine goesL_ (some 9) rfl rfl Try.func9 (by kernel_rfl) rfl #[] rfl (by (try simp only [List.map_toArray, List.map_cons, List.map_nil]); first | done | rfl | (simp only [List.length_drop, List.length_take]; rfl)) ?_; (with_reducible refine (malthouselaw14_awake.calls  true _ A2.out).mono ?_); rintro e w40 ⟨rfl, hb⟩; refine ⟨_, rfl, ?_⟩; have n0_ := Aside0.mk (below_step (by repeat (first | (with_reducible first | exact HB.out | apply below_alloc | apply pw_below_drewN | apply below_drew1) | exact HB.out)) hb); clear HB; have HB := n0_; clear n0_; (try clear hb); (try clear hb2); (try clear hk); (try clear hi)) | ((with_reducible refine gate_callee (f := 10) rfl ?_); refine goesL_ (some 12) rfl rfl Try.func10 (by kernel_rfl) rfl #[.int .i64 a0] rfl (by (try simp only [List.map_toArray, List.map_cons, List.map_nil]); first | done | rfl | (simp only [List.length_drop, List.length_take]; rfl)) ?_; (with_reducible refine (arb_New.calls a0 t143 t146 t149 t150 _ A3.out).mono ?_); rintro e w41 ⟨v144, v147, rfl, ho0, ho1, hb⟩; refine ⟨_, rfl, ?_⟩; have n0_ := Aside0.mk (Kd.R_lower ho0 (below_size (by repeat (first | (with_reducible first | exact HB.out | apply below_alloc | apply pw_below_drewN | apply below_drew1) | exact HB.out)))); have n1_ := Aside0.mk (Kd.S_lower ho1 (below_size (by repeat (first | (with_reducible first | exact HB.out | apply below_alloc | apply pw_below_drewN | apply below_drew1) | exact HB.out)))); have n2_ := Aside0.mk (below_step (by repeat (first | (with_reducible first | exact HB.out | apply below_alloc | apply pw_below_drewN | apply below_drew1) | exact HB.out)) hb); clear HB; have HO145 := n0_; have HO148 := n1_; have HB := n2_; clear n0_ n1_ n2_; (try clear hb); (try clear hb2); (try clear hk); (try clear hi); (try clear ho0); (try clear ho1)) | ((with_reducible refine gate_dst (N := 4) rfl ?_); refine box_event ?hg (N := 4) ?hd (cs := #[.slice none 0 0, .slice none 0 0, .int .i64 0]) (t := 26) ?hr ?_; (case hd => rfl); (case hg => rfl); (case hr => first | (go_simp; done) | (go_simp; rfl)); intro gb151 hg w42 hbox hb; have n0_ := Aside0.mk (Kd.R_below (by (with_reducible repeat (first | apply Kd.R_alloc | apply Kd.R_drewN | apply Kd.R_drew)); exact HO145.out) hb); have n1_ := Aside0.mk (Kd.S_below (by (with_reducible repeat (first | apply Kd.S_alloc | apply Kd.S_drewN | apply Kd.S_drew)); exact HO148.out) hb); have n2_ := Aside0.mk (below_step (by repeat (first | (with_reducible first | exact HB.out | apply below_alloc | apply pw_below_drewN | apply below_drew1) | exact HB.out)) hb); have n3_ := Aside0.mk (hbox); have n4_ := Aside0.mk ((by rw [hg]; exact (below_size (by repeat (first | (with_reducible first | exact HB.out | apply below_alloc | apply pw_below_drewN | apply below_drew1) | exact HB.out))) : w.heap.size ≤ gb151)); have n5_ := Aside0.mk ((by rw [hg]; exact (below_size (by repeat (first | (with_reducible first | exact HB.out | apply below_alloc | apply pw_below_drewN | apply below_drew1) | exact HB.out))) : w.heap.size ≤ gb151)); clear HO145; clear HO148; clear HB; have HO145 := n0_; have HO148 := n1_; have HB := n2_; have BK151 := n3_; have GW151 := n4_; have GE151 := n5_; clear n0_ n1_ n2_ n3_ n4_ n5_; clear hb hbox hg; obtain ⟨Ao43, co43, eo43⟩ := Kd.R_slice HO145.out; subst eo43; have hcz44_0 : w42.cell? ⟨gb151, 0, none⟩ = some (.slice none 0 0) := (blk_cell BK151.out 0).trans rfl; have hcz44_1 : w42.cell? ⟨gb151, 1, none⟩ = some (.slice none 0 0) := (blk_cell BK151.out 1).trans rfl; have hcz44_2 : w42.cell? ⟨gb151, 2, none⟩ = some (.int .i64 0) := (blk_cell BK151.out 2).trans rfl; have hfz44_0 := blk_frozen BK151.out 0; have hfz44_1 := blk_frozen BK151.out 1; have hfz44_2 := blk_frozen BK151.out 2; obtain ⟨Ao45, co45, eo45⟩ := Kd.S_slice HO148.out; subst eo45) | ((with_reducible refine gate_callee (f := 11) rfl ?_); refine goesL_ (some 17) rfl rfl Try.func11 (by kernel_rfl) rfl #[.int .i64 a0] rfl (by (try simp only [List.map_toArray, List.map_cons, List.map_nil]); first | done | rfl | (simp only [List.length_drop, List.length_take]; rfl)) ?_; (with_reducible refine (malthouseref14_New.calls a0 t152 t155 t158 t159 _ A4.out).mono ?_); rintro e w46 ⟨v153, v156, rfl, ho0, ho1, hb⟩; refine ⟨_, rfl, ?_⟩; have n0_ := Aside0.mk (Kd.R_elder' (by (with_reducible repeat (first | apply Kd.R_alloc | apply Kd.R_drewN | apply Kd.R_drew)); exact (Kd.R_mono (Kd.R_far (p := ⟨gb151, 2, none⟩) (Kd.R_far (p := ⟨gb151, 1, none⟩) (Kd.R_far (p := ⟨gb151, 0, none⟩) (Kd.R_types HO145.out BK151.out (by decide)) (fun _ hk => hk.2) (.slice Ao43 t143.length co43)) (fun _ hk => hk.2) (.slice Ao45 t146.length co45)) (fun _ hk => hk.2) (.int .i64 t149)) (fun _ h_ => h_.1))) (Kd.R_base ho0) hb); have n1_ := Aside0.mk (Kd.S_mono (Kd.S_told (Kd.S_told (Kd.S_old (by (with_reducible repeat (first | apply Kd.S_alloc | apply Kd.S_drewN | apply Kd.S_drew)); exact (Kd.S_mono (Kd.S_far (p := ⟨gb151, 2, none⟩) (Kd.S_far (p := ⟨gb151, 1, none⟩) (Kd.S_far (p := ⟨gb151, 0, none⟩) (Kd.S_types HO148.out BK151.out (by decide)) (fun _ hk => hk.2) (.slice Ao43 t143.length co43)) (fun _ hk => hk.2) (.slice Ao45 t146.length co45)) (fun _ hk => hk.2) (.int .i64 t149)) (fun _ h_ => h_.1))) hb) (Kd.R_base ho0)) (Kd.S_base ho1)) (fun _ h_ => h_.1)); have n2_ := Aside0.mk (Kd.R_lower (Kd.R_new' ho0 (Kd.R_lt (by (with_reducible repeat (first | apply Kd.R_alloc | apply Kd.R_drewN | apply Kd.R_drew)); exact (Kd.R_mono (Kd.R_far (p := ⟨gb151, 2, none⟩) (Kd.R_far (p := ⟨gb151, 1, none⟩) (Kd.R_far (p := ⟨gb151, 0, none⟩) (Kd.R_types HO145.out BK151.out (by decide)) (fun _ hk => hk.2) (.slice Ao43 t143.length co43)) (fun _ hk => hk.2) (.slice Ao45 t146.length co45)) (fun _ hk => hk.2) (.int .i64 t149)) (fun _ h_ => h_.1))))) (below_size (by repeat (first | (with_reducible first | exact HB.out | apply below_alloc | apply pw_below_drewN | apply below_drew1 | refine below_set ?_ GE151.out) | exact HB.out)))); have n3_ := Aside0.mk (Kd.S_lower (Kd.S_new' (Kd.S_new' ho1 (Kd.R_lt (by (with_reducible repeat (first | apply Kd.R_alloc | apply Kd.R_drewN | apply Kd.R_drew)); exact (Kd.R_mono (Kd.R_far (p := ⟨gb151, 2, none⟩) (Kd.R_far (p := ⟨gb151, 1, none⟩) (Kd.R_far (p := ⟨gb151, 0, none⟩) (Kd.R_types HO145.out BK151.out (by decide)) (fun _ hk => hk.2) (.slice Ao43 t143.length co43)) (fun _ hk => hk.2) (.slice Ao45 t146.length co45)) (fun _ hk => hk.2) (.int .i64 t149)) (fun _ h_ => h_.1))))) (Kd.S_lt (by (with_reducible repeat (first | apply Kd.S_alloc | apply Kd.S_drewN | apply Kd.S_drew)); exact (Kd.S_mono (Kd.S_far (p := ⟨gb151, 2, none⟩) (Kd.S_far (p := ⟨gb151, 1, none⟩) (Kd.S_far (p := ⟨gb151, 0, none⟩) (Kd.S_types HO148.out BK151.out (by decide)) (fun _ hk => hk.2) (.slice Ao43 t143.length co43)) (fun _ hk => hk.2) (.slice Ao45 t146.length co45)) (fun _ hk => hk.2) (.int .i64 t149)) (fun _ h_ => h_.1))))) (below_size (by repeat (first | (with_reducible first | exact HB.out | apply below_alloc | apply pw_below_drewN | apply below_drew1 | refine below_set ?_ GE151.out) | exact HB.out)))); have n4_ := Aside0.mk (blk_below (g := gb151) (o := .cells #[.slice Ao43 t143.length co43, .slice Ao45 t146.length co45, .int .i64 t149] 26 (0, 0)) (by (with_reducible repeat (first | refine blk_drewN ?_ _ | refine blk_drew ?_ | refine blk_alloc ?_ _)); refine blk_put (cs := #[.slice Ao43 t143.length co43, .slice Ao45 t146.length co45, .int .i64 0]) ?_ 2 _ rfl; (with_reducible repeat (first | refine blk_drewN ?_ _ | refine blk_drew ?_ | refine blk_alloc ?_ _)); refine blk_put (cs := #[.slice Ao43 t143.length co43, .slice none 0 0, .int .i64 0]) ?_ 1 _ rfl; (with_reducible repeat (first | refine blk_drewN ?_ _ | refine blk_drew ?_ | refine blk_alloc ?_ _)); refine blk_put (cs := #[.slice none 0 0, .slice none 0 0, .int .i64 0]) ?_ 0 _ rfl; (with_reducible repeat (first | refine blk_drewN ?_ _ | refine blk_drew ?_ | refine blk_alloc ?_ _)); exact BK151.out) hb); have n5_ := Aside0.mk (below_step (by repeat (first | (with_reducible first | exact HB.out | apply below_alloc | apply pw_below_drewN | apply below_drew1 | refine below_set ?_ GE151.out) | exact HB.out)) hb); clear HO145; clear HO148; clear BK151; clear HB; have HO145 := n0_; have HO148 := n1_; have HO154 := n2_; have HO157 := n3_; have BK151 := n4_; have HB := n5_; clear n0_ n1_ n2_ n3_ n4_ n5_; (try clear hb); (try clear hb2); (try clear hk); (try clear hi); (try clear ho0); (try clear ho1)) | ((with_reducible refine gate_dst (N := 6) rfl ?_); refine box_event ?hg (N := 6) ?hd (cs := #[.slice none 0 0, .slice none 0 0, .int .i64 0]) (t := 26) ?hr ?_; (case hd => rfl); (case hg => rfl); (case hr => first | (go_simp; done) | (go_simp; rfl)); intro gb160 hg w47 hbox hb; have n0_ := Aside0.mk (Kd.R_below (by (with_reducible repeat (first | apply Kd.R_alloc | apply Kd.R_drewN | apply Kd.R_drew)); exact HO145.out) hb); have n1_ := Aside0.mk (Kd.S_below (by (with_reducible repeat (first | apply Kd.S_alloc | apply Kd.S_drewN | apply Kd.S_drew)); exact HO148.out) hb); have n2_ := Aside0.mk (Kd.R_below (by (with_reducible repeat (first | apply Kd.R_alloc | apply Kd.R_drewN | apply Kd.R_drew)); exact HO154.out) hb); have n3_ := Aside0.mk (Kd.S_below (by (with_reducible repeat (first | apply Kd.S_alloc | apply Kd.S_drewN | apply Kd.S_drew)); exact HO157.out) hb); have n4_ := Aside0.mk (blk_below (g := gb151) (o := .cells #[.slice Ao43 t143.length co43, .slice Ao45 t146.length co45, .int .i64 t149] 26 (0, 0)) (by (with_reducible repeat (first | refine blk_drewN ?_ _ | refine blk_drew ?_ | refine blk_alloc ?_ _)); exact BK151.out) hb); have n5_ := Aside0.mk (below_step (by repeat (first | (with_reducible first | exact HB.out | apply below_alloc | apply pw_below_drewN | apply below_drew1 | refine below_set ?_ GE151.out) | exact HB.out)) hb); have n6_ := Aside0.mk (hbox); have n7_ := Aside0.mk ((by rw [hg]; exact (below_size (by repeat (first | (with_reducible first | exact HB.out | apply below_alloc | apply pw_below_drewN | apply below_drew1 | refine below_set ?_ GE151.out) | exact HB.out))) : w.heap.size ≤ gb160)); have n8_ := Aside0.mk ((by rw [hg]; exact (below_size (by repeat (first | (with_reducible first | exact HB.out | apply below_alloc | apply pw_below_drewN | apply below_drew1 | refine below_set ?_ GE151.out) | exact HB.out))) : w.heap.size ≤ gb160)); have n9_ := Aside0.mk ((by rw [hg]; exact Nat.ne_of_lt (blk_lt (g := gb151) (o := .cells #[.slice Ao43 t143.length co43, .slice Ao45 t146.length co45, .int .i64 t149] 26 (0, 0)) (by (with_reducible repeat (first | refine blk_drewN ?_ _ | refine blk_drew ?_ | refine blk_alloc ?_ _)); exact BK151.out)) : gb151 ≠ gb160)); have n10_ := Aside0.mk ((by rw [hg]; exact Nat.ne_of_gt (blk_lt (g := gb151) (o := .cells #[.slice Ao43 t143.length co43, .slice Ao45 t146.length co45, .int .i64 t149] 26 (0, 0)) (by (with_reducible repeat (first | refine blk_drewN ?_ _ | refine blk_drew ?_ | refine blk_alloc ?_ _)); exact BK151.out)) : gb160 ≠ gb151)); clear HO145; clear HO148; clear HO154; clear HO157; clear BK151; clear HB; have HO145 := n0_; have HO148 := n1_; have HO154 := n2_; have HO157 := n3_; have BK151 := n4_; have HB := n5_; have BK160 := n6_; have GW160 := n7_; have GE160 := n8_; have NB151_160 := n9_; have NB160_151 := n10_; clear n0_ n1_ n2_ n3_ n4_ n5_ n6_ n7_ n8_ n9_ n10_; clear hb hbox hg; obtain ⟨Ao48, co48, eo48⟩ := Kd.R_slice HO154.out; subst eo48; have hnb49 := NB160_151.out; have hnc49 := NB151_160.out; have hcz50_0 : w47.cell? ⟨gb160, 0, none⟩ = some (.slice none 0 0) := (blk_cell BK160.out 0).trans rfl; have hcz50_1 : w47.cell? ⟨gb160, 1, none⟩ = some (.slice none 0 0) := (blk_cell BK160.out 1).trans rfl; have hcz50_2 : w47.cell? ⟨gb160, 2, none⟩ = some (.int .i64 0) := (blk_cell BK160.out 2).trans rfl; have hfz50_0 := blk_frozen BK160.out 0; have hfz50_1 := blk_frozen BK160.out 1; have hfz50_2 := blk_frozen BK160.out 2; obtain ⟨Ao51, co51, eo51⟩ := Kd.S_slice HO157.out; subst eo51; have hcz52_0 : w47.cell? ⟨gb151, 0, none⟩ = some (.slice Ao43 t143.length co43) := (blk_cell BK151.out 0).trans rfl; have hcz52_1 : w47.cell? ⟨gb151, 1, none⟩ = some (.slice Ao45 t146.length co45) := (blk_cell BK151.out 1).trans rfl; have hcz52_2 : w47.cell? ⟨gb151, 2, none⟩ = some (.int .i64 t149) := (blk_cell BK151.out 2).trans rfl; have hfz52_0 := blk_frozen BK151.out 0; have hfz52_1 := blk_frozen BK151.out 1; have hfz52_2 := blk_frozen BK151.out 2) | ((with_reducible refine gate_callee (f := 12) rfl ?_); refine goesL_ (some 22) rfl rfl Try.func12 (by kernel_rfl) rfl #[.agg #[.slice Ao43 t143.length co43, .slice Ao45 t146.length co45, .int .i64 t149], .agg #[.slice Ao48 t152.length co48, .slice Ao51 t155.length co51, .int .i64 t158]] rfl (by (try simp only [List.map_toArray, List.map_cons, List.map_nil]); first | done | rfl | (simp only [List.length_drop, List.length_take]; rfl)) ?_; (with_reducible refine (malthouseref14_Same.calls k _ _ t143 _ _ t146 t149 _ _ t152 _ _ t155 t158 false _ ?side1 ?side2 ?side3 ?side4 ?side5 ?side6 ?side7 ?side8 A5.out).mono ?_); (case side1 => refine (Kd.R_reads' (e := 3) (base := w.heap.size) (ok := fun k_ => (True ∧ some k_ ≠ (.slice Ao48 t152.length co48 : Value).ownBlock)) (n := t143.length) (c := co43) ?_).2.2; exact (by (with_reducible repeat (first | apply Kd.R_alloc | apply Kd.R_drewN | apply Kd.R_drew)); exact (Kd.R_mono (Kd.R_far (p := ⟨gb160, 2, none⟩) (Kd.R_far (p := ⟨gb160, 1, none⟩) (Kd.R_far (p := ⟨gb160, 0, none⟩) (Kd.R_types HO145.out BK160.out (by decide)) (fun _ hk => hk.2) (.slice Ao48 t152.length co48)) (fun _ hk => hk.2) (.slice Ao51 t155.length co51)) (fun _ hk => hk.2) (.int .i64 t158)) (fun _ h_ => h_.1)))); (case side2 => exact (Kd.R_reads' HO145.out).2.1); (case side3 => refine (Kd.S_reads' (e := 37) (base := w.heap.size) (ok := fun k_ => ((some k_ ≠ (.slice Ao43 t143.length co43 : Value).ownBlock ∧ some k_ ≠ (.slice Ao48 t152.length co48 : Value).ownBlock) ∧ some k_ ≠ (.slice Ao51 t155.length co51 : Value).ownBlock)) (n := t146.length) (c := co45) ?_).2.2; exact (by (with_reducible repeat (first | apply Kd.S_alloc | apply Kd.S_drewN | apply Kd.S_drew)); exact (Kd.S_mono (Kd.S_far (p := ⟨gb160, 2, none⟩) (Kd.S_far (p := ⟨gb160, 1, none⟩) (Kd.S_far (p := ⟨gb160, 0, none⟩) (Kd.S_types HO148.out BK160.out (by decide)) (fun _ hk => hk.2) (.slice Ao48 t152.length co48)) (fun _ hk => hk.2) (.slice Ao51 t155.length co51)) (fun _ hk => hk.2) (.int .i64 t158)) (fun _ h_ => h_.1)))); (case side4 => exact (Kd.S_reads' HO148.out).2.1); (case side5 => refine (Kd.R_reads' (e := 3) (base := w.heap.size) (ok := fun k_ => (True ∧ some k_ ≠ (.slice Ao43 t143.length co43 : Value).ownBlock)) (n := t152.length) (c := co48) ?_).2.2; exact (by (with_reducible repeat (first | apply Kd.R_alloc | apply Kd.R_drewN | apply Kd.R_drew)); exact (Kd.R_mono (Kd.R_far (p := ⟨gb160, 2, none⟩) (Kd.R_far (p := ⟨gb160, 1, none⟩) (Kd.R_far (p := ⟨gb160, 0, none⟩) (Kd.R_types HO154.out BK160.out (by decide)) (fun _ hk => hk.2) (.slice Ao48 t152.length co48)) (fun _ hk => hk.2) (.slice Ao51 t155.length co51)) (fun _ hk => hk.2) (.int .i64 t158)) (fun _ h_ => h_.1)))); (case side6 => exact (Kd.R_reads' HO154.out).2.1); (case side7 => refine (Kd.S_reads' (e := 37) (base := w.heap.size) (ok := fun k_ => ((some k_ ≠ (.slice Ao48 t152.length co48 : Value).ownBlock ∧ some k_ ≠ (.slice Ao43 t143.length co43 : Value).ownBlock) ∧ some k_ ≠ (.slice Ao45 t146.length co45 : Value).ownBlock)) (n := t155.length) (c := co51) ?_).2.2; exact (by (with_reducible repeat (first | apply Kd.S_alloc | apply Kd.S_drewN | apply Kd.S_drew)); exact (Kd.S_mono (Kd.S_far (p := ⟨gb160, 2, none⟩) (Kd.S_far (p := ⟨gb160, 1, none⟩) (Kd.S_far (p := ⟨gb160, 0, none⟩) (Kd.S_types HO157.out BK160.out (by decide)) (fun _ hk => hk.2) (.slice Ao48 t152.length co48)) (fun _ hk => hk.2) (.slice Ao51 t155.length co51)) (fun _ hk => hk.2) (.int .i64 t158)) (fun _ h_ => h_.1)))); (case side8 => exact (Kd.S_reads' HO157.out).2.1); rintro e w53 ⟨rfl, hb⟩; refine ⟨_, rfl, ?_⟩; have n0_ := Aside0.mk (Kd.R_below (by (with_reducible repeat (first | apply Kd.R_alloc | apply Kd.R_drewN | apply Kd.R_drew)); exact (Kd.R_mono (Kd.R_far (p := ⟨gb160, 2, none⟩) (Kd.R_far (p := ⟨gb160, 1, none⟩) (Kd.R_far (p := ⟨gb160, 0, none⟩) (Kd.R_types HO145.out BK160.out (by decide)) (fun _ hk => hk.2) (.slice Ao48 t152.length co48)) (fun _ hk => hk.2) (.slice Ao51 t155.length co51)) (fun _ hk => hk.2) (.int .i64 t158)) (fun _ h_ => h_.1))) hb); have n1_ := Aside0.mk (Kd.S_below (by (with_reducible repeat (first | apply Kd.S_alloc | apply Kd.S_drewN | apply Kd.S_drew)); exact (Kd.S_mono (Kd.S_far (p := ⟨gb160, 2, none⟩) (Kd.S_far (p := ⟨gb160, 1, none⟩) (Kd.S_far (p := ⟨gb160, 0, none⟩) (Kd.S_types HO148.out BK160.out (by decide)) (fun _ hk => hk.2) (.slice Ao48 t152.length co48)) (fun _ hk => hk.2) (.slice Ao51 t155.length co51)) (fun _ hk => hk.2) (.int .i64 t158)) (fun _ h_ => h_.1))) hb); have n2_ := Aside0.mk (Kd.R_below (by (with_reducible repeat (first | apply Kd.R_alloc | apply Kd.R_drewN | apply Kd.R_drew)); exact (Kd.R_mono (Kd.R_far (p := ⟨gb160, 2, none⟩) (Kd.R_far (p := ⟨gb160, 1, none⟩) (Kd.R_far (p := ⟨gb160, 0, none⟩) (Kd.R_types HO154.out BK160.out (by decide)) (fun _ hk => hk.2) (.slice Ao48 t152.length co48)) (fun _ hk => hk.2) (.slice Ao51 t155.length co51)) (fun _ hk => hk.2) (.int .i64 t158)) (fun _ h_ => h_.1))) hb); have n3_ := Aside0.mk (Kd.S_below (by (with_reducible repeat (first | apply Kd.S_alloc | apply Kd.S_drewN | apply Kd.S_drew)); exact (Kd.S_mono (Kd.S_far (p := ⟨gb160, 2, none⟩) (Kd.S_far (p := ⟨gb160, 1, none⟩) (Kd.S_far (p := ⟨gb160, 0, none⟩) (Kd.S_types HO157.out BK160.out (by decide)) (fun _ hk => hk.2) (.slice Ao48 t152.length co48)) (fun _ hk => hk.2) (.slice Ao51 t155.length co51)) (fun _ hk => hk.2) (.int .i64 t158)) (fun _ h_ => h_.1))) hb); have n4_ := Aside0.mk (blk_below (g := gb151) (o := .cells #[.slice Ao43 t143.length co43, .slice Ao45 t146.length co45, .int .i64 t149] 26 (0, 0)) (by (with_reducible repeat (first | refine blk_drewN ?_ _ | refine blk_drew ?_ | refine blk_alloc ?_ _)); refine blk_far ?_ NB151_160.out _; (with_reducible repeat (first | refine blk_drewN ?_ _ | refine blk_drew ?_ | refine blk_alloc ?_ _)); refine blk_far ?_ NB151_160.out _; (with_reducible repeat (first | refine blk_drewN ?_ _ | refine blk_drew ?_ | refine blk_alloc ?_ _)); refine blk_far ?_ NB151_160.out _; (with_reducible repeat (first | refine blk_drewN ?_ _ | refine blk_drew ?_ | refine blk_alloc ?_ _)); exact BK151.out) hb); have n5_ := Aside0.mk (blk_below (g := gb160) (o := .cells #[.slice Ao48 t152.length co48, .slice Ao51 t155.length co51, .int .i64 t158] 26 (0, 0)) (by (with_reducible repeat (first | refine blk_drewN ?_ _ | refine blk_drew ?_ | refine blk_alloc ?_ _)); refine blk_put (cs := #[.slice Ao48 t152.length co48, .slice Ao51 t155.length co51, .int .i64 0]) ?_ 2 _ rfl; (with_reducible repeat (first | refine blk_drewN ?_ _ | refine blk_drew ?_ | refine blk_alloc ?_ _)); refine blk_put (cs := #[.slice Ao48 t152.length co48, .slice none 0 0, .int .i64 0]) ?_ 1 _ rfl; (with_reducible repeat (first | refine blk_drewN ?_ _ | refine blk_drew ?_ | refine blk_alloc ?_ _)); refine blk_put (cs := #[.slice none 0 0, .slice none 0 0, .int .i64 0]) ?_ 0 _ rfl; (with_reducible repeat (first | refine blk_drewN ?_ _ | refine blk_drew ?_ | refine blk_alloc ?_ _)); exact BK160.out) hb); have n6_ := Aside0.mk (below_step (by repeat (first | (with_reducible first | exact HB.out | apply below_alloc | apply pw_below_drewN | apply below_drew1 | refine below_set ?_ GE151.out | refine below_set ?_ GE160.out) | exact HB.out)) hb); clear HO145; clear HO148; clear HO154; clear HO157; clear BK151; clear BK160; clear HB; have HO145 := n0_; have HO148 := n1_; have HO154 := n2_; have HO157 := n3_; have BK151 := n4_; have BK160 := n5_; have HB := n6_; clear n0_ n1_ n2_ n3_ n4_ n5_ n6_; (try clear hb); (try clear hb2); (try clear hk); (try clear hi)))
      go_ret
      exact ⟨by first | rfl | (simp [errW_none, errW_some] <;> rfl) | (simp [*, errW_none, errW_some] <;> rfl), by repeat (first | (with_reducible first | exact HB.out | apply below_alloc | apply pw_below_drewN | apply below_drew1 | refine below_set ?_ GE151.out | refine below_set ?_ GE160.out) | exact HB.out)⟩
  · replace c6 := Bool.eq_false_iff.mpr c6
    subst c6
    have H1 : (some false) = some r := by rw [if_neg (show ¬ (false = true) by decide)] at H; exact H
    clear H
    have H := H1
    clear H1
    obtain rfl := Option.some.inj H
    go_enter Try.func3, Try.ntmps3
    go_wp2_with (first | ((with_reducible refine gate_callee (f := 9) rfl ?_); refine goesL_ (some 9) rfl rfl Try.func9 (by kernel_rfl) rfl #[] rfl (by (try simp only [List.map_toArray, List.map_cons, List.map_nil]); first | done | rfl | (simp only [List.length_drop, List.length_take]; rfl)) ?_; (with_reducible refine (malthouselaw14_awake.calls  false _ A2.out).mono ?_); rintro e w54 ⟨rfl, hb⟩; refine ⟨_, rfl, ?_⟩; have n0_ := Aside0.mk (below_step (by repeat (first | (with_reducible first | exact HB.out | apply below_alloc | apply pw_below_drewN | apply below_drew1) | exact HB.out)) hb); clear HB; have HB := n0_; clear n0_; (try clear hb); (try clear hb2); (try clear hk); (try clear hi)) | ((with_reducible refine gate_callee (f := 10) rfl ?_); refine goesL_ (some 12) rfl rfl Try.func10 (by kernel_rfl) rfl #[.int .i64 a0] rfl (by (try simp only [List.map_toArray, List.map_cons, List.map_nil]); first | done | rfl | (simp only [List.length_drop, List.length_take]; rfl)) ?_; (with_reducible refine (arb_New.calls a0 t143 t146 t149 t150 _ A3.out).mono ?_); rintro e w55 ⟨v144, v147, rfl, ho0, ho1, hb⟩; refine ⟨_, rfl, ?_⟩; have n0_ := Aside0.mk (Kd.R_lower ho0 (below_size (by repeat (first | (with_reducible first | exact HB.out | apply below_alloc | apply pw_below_drewN | apply below_drew1) | exact HB.out)))); have n1_ := Aside0.mk (Kd.S_lower ho1 (below_size (by repeat (first | (with_reducible first | exact HB.out | apply below_alloc | apply pw_below_drewN | apply below_drew1) | exact HB.out)))); have n2_ := Aside0.mk (below_step (by repeat (first | (with_reducible first | exact HB.out | apply below_alloc | apply pw_below_drewN | apply below_drew1) | exact HB.out)) hb); clear HB; have HO145 := n0_; have HO148 := n1_; have HB := n2_; clear n0_ n1_ n2_; (try clear hb); (try clear hb2); (try clear hk); (try clear hi); (try clear ho0); (try clear ho1)) | ((with_reducible refine gate_dst (N := 4) rfl ?_); refine box_event ?hg (N := 4) ?hd (cs := #[.slice none 0 0, .slice none 0 0, .int .i64 0]) (t := 26) ?hr ?_; (case hd => rfl); (case hg => rfl); (case hr => first | (go_simp; done) | (go_simp; rfl)); intro gb151 hg w56 hbox hb; have n0_ := Aside0.mk (Kd.R_below (by (with_reducible repeat (first | apply Kd.R_alloc | apply Kd.R_drewN | apply Kd.R_drew)); exact HO145.out) hb); have n1_ := Aside0.mk (Kd.S_below (by (with_reducible repeat (first | apply Kd.S_alloc | apply Kd.S_drewN | apply Kd.S_drew)); exact HO148.out) hb); have n2_ := Aside0.mk (below_step (by repeat (first | (with_reducible first | exact HB.out | apply below_alloc | apply pw_below_drewN | apply below_drew1) | exact HB.out)) hb); have n3_ := Aside0.mk (hbox); have n4_ := Aside0.mk ((by rw [hg]; exact (below_size (by repeat (first | (with_reducible first | exact HB.out | apply below_alloc | apply pw_below_drewN | apply below_drew1) | exact HB.out))) : w.heap.size ≤ gb151)); have n5_ := Aside0.mk ((by rw [hg]; exact (below_size (by repeat (first | (with_reducible first | exact HB.out | apply below_alloc | apply pw_below_drewN | apply below_drew1) | exact HB.out))) : w.heap.size ≤ gb151)); clear HO145; clear HO148; clear HB; have HO145 := n0_; have HO148 := n1_; have HB := n2_; have BK151 := n3_; have GW151 := n4_; have GE151 := n5_; clear n0_ n1_ n2_ n3_ n4_ n5_; clear hb hbox hg; obtain ⟨Ao57, co57, eo57⟩ := Kd.R_slice HO145.out; subst eo57; have hcz58_0 : w56.cell? ⟨gb151, 0, none⟩ = some (.slice none 0 0) := (blk_cell BK151.out 0).trans rfl; have hcz58_1 : w56.cell? ⟨gb151, 1, none⟩ = some (.slice none 0 0) := (blk_cell BK151.out 1).trans rfl; have hcz58_2 : w56.cell? ⟨gb151, 2, none⟩ = some (.int .i64 0) := (blk_cell BK151.out 2).trans rfl; have hfz58_0 := blk_frozen BK151.out 0; have hfz58_1 := blk_frozen BK151.out 1; have hfz58_2 := blk_frozen BK151.out 2; obtain ⟨Ao59, co59, eo59⟩ := Kd.S_slice HO148.out; subst eo59) | ((with_reducible refine gate_callee (f := 11) rfl ?_); refine goesL_ (some 17) rfl rfl Try.func11 (by kernel_rfl) rfl #[.int .i64 a0] rfl (by (try simp only [List.map_toArray, List.map_cons, List.map_nil]); first | done | rfl | (simp only [List.length_drop, List.length_take]; rfl)) ?_; (with_reducible refine (malthouseref14_New.calls a0 t152 t155 t158 t159 _ A4.out).mono ?_); rintro e w60 ⟨v153, v156, rfl, ho0, ho1, hb⟩; refine ⟨_, rfl, ?_⟩; have n0_ := Aside0.mk (Kd.R_elder' (by (with_reducible repeat (first | apply Kd.R_alloc | apply Kd.R_drewN | apply Kd.R_drew)); exact (Kd.R_mono (Kd.R_far (p := ⟨gb151, 2, none⟩) (Kd.R_far (p := ⟨gb151, 1, none⟩) (Kd.R_far (p := ⟨gb151, 0, none⟩) (Kd.R_types HO145.out BK151.out (by decide)) (fun _ hk => hk.2) (.slice Ao57 t143.length co57)) (fun _ hk => hk.2) (.slice Ao59 t146.length co59)) (fun _ hk => hk.2) (.int .i64 t149)) (fun _ h_ => h_.1))) (Kd.R_base ho0) hb); have n1_ := Aside0.mk (Kd.S_mono (Kd.S_told (Kd.S_told (Kd.S_old (by (with_reducible repeat (first | apply Kd.S_alloc | apply Kd.S_drewN | apply Kd.S_drew)); exact (Kd.S_mono (Kd.S_far (p := ⟨gb151, 2, none⟩) (Kd.S_far (p := ⟨gb151, 1, none⟩) (Kd.S_far (p := ⟨gb151, 0, none⟩) (Kd.S_types HO148.out BK151.out (by decide)) (fun _ hk => hk.2) (.slice Ao57 t143.length co57)) (fun _ hk => hk.2) (.slice Ao59 t146.length co59)) (fun _ hk => hk.2) (.int .i64 t149)) (fun _ h_ => h_.1))) hb) (Kd.R_base ho0)) (Kd.S_base ho1)) (fun _ h_ => h_.1)); have n2_ := Aside0.mk (Kd.R_lower (Kd.R_new' ho0 (Kd.R_lt (by (with_reducible repeat (first | apply Kd.R_alloc | apply Kd.R_drewN | apply Kd.R_drew)); exact (Kd.R_mono (Kd.R_far (p := ⟨gb151, 2, none⟩) (Kd.R_far (p := ⟨gb151, 1, none⟩) (Kd.R_far (p := ⟨gb151, 0, none⟩) (Kd.R_types HO145.out BK151.out (by decide)) (fun _ hk => hk.2) (.slice Ao57 t143.length co57)) (fun _ hk => hk.2) (.slice Ao59 t146.length co59)) (fun _ hk => hk.2) (.int .i64 t149)) (fun _ h_ => h_.1))))) (below_size (by repeat (first | (with_reducible first | exact HB.out | apply below_alloc | apply pw_below_drewN | apply below_drew1 | refine below_set ?_ GE151.out) | exact HB.out)))); have n3_ := Aside0.mk (Kd.S_lower (Kd.S_new' (Kd.S_new' ho1 (Kd.R_lt (by (with_reducible repeat (first | apply Kd.R_alloc | apply Kd.R_drewN | apply Kd.R_drew)); exact (Kd.R_mono (Kd.R_far (p := ⟨gb151, 2, none⟩) (Kd.R_far (p := ⟨gb151, 1, none⟩) (Kd.R_far (p := ⟨gb151, 0, none⟩) (Kd.R_types HO145.out BK151.out (by decide)) (fun _ hk => hk.2) (.slice Ao57 t143.length co57)) (fun _ hk => hk.2) (.slice Ao59 t146.length co59)) (fun _ hk => hk.2) (.int .i64 t149)) (fun _ h_ => h_.1))))) (Kd.S_lt (by (with_reducible repeat (first | apply Kd.S_alloc | apply Kd.S_drewN | apply Kd.S_drew)); exact (Kd.S_mono (Kd.S_far (p := ⟨gb151, 2, none⟩) (Kd.S_far (p := ⟨gb151, 1, none⟩) (Kd.S_far (p := ⟨gb151, 0, none⟩) (Kd.S_types HO148.out BK151.out (by decide)) (fun _ hk => hk.2) (.slice Ao57 t143.length co57)) (fun _ hk => hk.2) (.slice Ao59 t146.length co59)) (fun _ hk => hk.2) (.int .i64 t149)) (fun _ h_ => h_.1))))) (below_size (by repeat (first | (with_reducible first | exact HB.out | apply below_alloc | apply pw_below_drewN | apply below_drew1 | refine below_set ?_ GE151.out) | exact HB.out)))); have n4_ := Aside0.mk (blk_below (g := gb151) (o := .cells #[.slice Ao57 t143.length co57, .slice Ao59 t146.length co59, .int .i64 t149] 26 (0, 0)) (by (with_reducible repeat (first | refine blk_drewN ?_ _ | refine blk_drew ?_ | refine blk_alloc ?_ _)); refine blk_put (cs := #[.slice Ao57 t143.length co57, .slice Ao59 t146.length co59, .int .i64 0]) ?_ 2 _ rfl; (with_reducible repeat (first | refine blk_drewN ?_ _ | refine blk_drew ?_ | refine blk_alloc ?_ _)); refine blk_put (cs := #[.slice Ao57 t143.length co57, .slice none 0 0, .int .i64 0]) ?_ 1 _ rfl; (with_reducible repeat (first | refine blk_drewN ?_ _ | refine blk_drew ?_ | refine blk_alloc ?_ _)); refine blk_put (cs := #[.slice none 0 0, .slice none 0 0, .int .i64 0]) ?_ 0 _ rfl; (with_reducible repeat (first | refine blk_drewN ?_ _ | refine blk_drew ?_ | refine blk_alloc ?_ _)); exact BK151.out) hb); have n5_ := Aside0.mk (below_step (by repeat (first | (with_reducible first | exact HB.out | apply below_alloc | apply pw_below_drewN | apply below_drew1 | refine below_set ?_ GE151.out) | exact HB.out)) hb); clear HO145; clear HO148; clear BK151; clear HB; have HO145 := n0_; have HO148 := n1_; have HO154 := n2_; have HO157 := n3_; have BK151 := n4_; have HB := n5_; clear n0_ n1_ n2_ n3_ n4_ n5_; (try clear hb); (try clear hb2); (try clear hk); (try clear hi); (try clear ho0); (try clear ho1)) | ((with_reducible refine gate_dst (N := 6) rfl ?_); refine box_event ?hg (N := 6) ?hd (cs := #[.slice none 0 0, .slice none 0 0, .int .i64 0]) (t := 26) ?hr ?_; (case hd => rfl); (case hg => rfl); (case hr => first | (go_simp; done) | (go_simp; rfl)); intro gb160 hg w61 hbox hb; have n0_ := Aside0.mk (Kd.R_below (by (with_reducible repeat (first | apply Kd.R_alloc | apply Kd.R_drewN | apply Kd.R_drew)); exact HO145.out) hb); have n1_ := Aside0.mk (Kd.S_below (by (with_reducible repeat (first | apply Kd.S_alloc | apply Kd.S_drewN | apply Kd.S_drew)); exact HO148.out) hb); have n2_ := Aside0.mk (Kd.R_below (by (with_reducible repeat (first | apply Kd.R_alloc | apply Kd.R_drewN | apply Kd.R_drew)); exact HO154.out) hb); have n3_ := Aside0.mk (Kd.S_below (by (with_reducible repeat (first | apply Kd.S_alloc | apply Kd.S_drewN | apply Kd.S_drew)); exact HO157.out) hb); have n4_ := Aside0.mk (blk_below (g := gb151) (o := .cells #[.slice Ao57 t143.length co57, .slice Ao59 t146.length co59, .int .i64 t149] 26 (0, 0)) (by (with_reducible repeat (first | refine blk_drewN ?_ _ | refine blk_drew ?_ | refine blk_alloc ?_ _)); exact BK151.out) hb); have n5_ := Aside0.mk (below_step (by repeat (first | (with_reducible first | exact HB.out | apply below_alloc | apply pw_below_drewN | apply below_drew1 | refine below_set ?_ GE151.out) | exact HB.out)) hb); have n6_ := Aside0.mk (hbox); have n7_ := Aside0.mk ((by rw [hg]; exact (below_size (by repeat (first | (with_reducible first | exact HB.out | apply below_alloc | apply pw_below_drewN | apply below_drew1 | refine below_set ?_ GE151.out) | exact HB.out))) : w.heap.size ≤ gb160)); have n8_ := Aside0.mk ((by rw [hg]; exact (below_size (by repeat (first | (with_reducible first | exact HB.out | apply below_alloc | apply pw_below_drewN | apply below_drew1 | refine below_set ?_ GE151.out) | exact HB.out))) : w.heap.size ≤ gb160)); have n9_ := Aside0.mk ((by rw [hg]; exact Nat.ne_of_lt (blk_lt (g := gb151) (o := .cells #[.slice Ao57 t143.length co57, .slice Ao59 t146.length co59, .int .i64 t149] 26 (0, 0)) (by (with_reducible repeat (first | refine blk_drewN ?_ _ | refine blk_drew ?_ | refine blk_alloc ?_ _)); exact BK151.out)) : gb151 ≠ gb160)); have n10_ := Aside0.mk ((by rw [hg]; exact Nat.ne_of_gt (blk_lt (g := gb151) (o := .cells #[.slice Ao57 t143.length co57, .slice Ao59 t146.length co59, .int .i64 t149] 26 (0, 0)) (by (with_reducible repeat (first | refine blk_drewN ?_ _ | refine blk_drew ?_ | refine blk_alloc ?_ _)); exact BK151.out)) : gb160 ≠ gb151)); clear HO145; clear HO148; clear HO154; clear HO157; clear BK151; clear HB; have HO145 := n0_; have HO148 := n1_; have HO154 := n2_; have HO157 := n3_; have BK151 := n4_; have HB := n5_; have BK160 := n6_; have GW160 := n7_; have GE160 := n8_; have NB151_160 := n9_; have NB160_151 := n10_; clear n0_ n1_ n2_ n3_ n4_ n5_ n6_ n7_ n8_ n9_ n10_; clear hb hbox hg; obtain ⟨Ao62, co62, eo62⟩ := Kd.R_slice HO154.out; subst eo62; have hnb63 := NB160_151.out; have hnc63 := NB151_160.out; have hcz64_0 : w61.cell? ⟨gb160, 0, none⟩ = some (.slice none 0 0) := (blk_cell BK160.out 0).trans rfl; have hcz64_1 : w61.cell? ⟨gb160, 1, none⟩ = some (.slice none 0 0) := (blk_cell BK160.out 1).trans rfl; have hcz64_2 : w61.cell? ⟨gb160, 2, none⟩ = some (.int .i64 0) := (blk_cell BK160.out 2).trans rfl; have hfz64_0 := blk_frozen BK160.out 0; have hfz64_1 := blk_frozen BK160.out 1; have hfz64_2 := blk_frozen BK160.out 2; obtain ⟨Ao65, co65, eo65⟩ := Kd.S_slice HO157.out; subst eo65; have hcz66_0 : w61.cell? ⟨gb151, 0, none⟩ = some (.slice Ao57 t143.length co57) := (blk_cell BK151.out 0).trans rfl; have hcz66_1 : w61.cell? ⟨gb151, 1, none⟩ = some (.slice Ao59 t146.length co59) := (blk_cell BK151.out 1).trans rfl; have hcz66_2 : w61.cell? ⟨gb151, 2, none⟩ = some (.int .i64 t149) := (blk_cell BK151.out 2).trans rfl; have hfz66_0 := blk_frozen BK151.out 0; have hfz66_1 := blk_frozen BK151.out 1; have hfz66_2 := blk_frozen BK151.out 2) | ((with_reducible refine gate_callee (f := 12) rfl ?_); refine goesL_ (some 22) rfl rfl Try.func12 (by kernel_rfl) rfl #[.agg #[.slice Ao57 t143.length co57, .slice Ao59 t146.length co59, .int .i64 t149], .agg #[.slice Ao62 t152.length co62, .slice Ao65 t155.length co65, .int .i64 t158]] rfl (by (try simp only [List.map_toArray, List.map_cons, List.map_nil]); first | done | rfl | (simp only [List.length_drop, List.length_take]; rfl)) ?_; (with_reducible refine (malthouseref14_Same.calls k _ _ t143 _ _ t146 t149 _ _ t152 _ _ t155 t158 t161 _ ?side1 ?side2 ?side3 ?side4 ?side5 ?side6 ?side7 ?side8 A5.out).mono ?_); (case side1 => refine (Kd.R_reads' (e := 3) (base := w.heap.size) (ok := fun k_ => (True ∧ some k_ ≠ (.slice Ao62 t152.length co62 : Value).ownBlock)) (n := t143.length) (c := co57) ?_).2.2; exact (by (with_reducible repeat (first | apply Kd.R_alloc | apply Kd.R_drewN | apply Kd.R_drew)); exact (Kd.R_mono (Kd.R_far (p := ⟨gb160, 2, none⟩) (Kd.R_far (p := ⟨gb160, 1, none⟩) (Kd.R_far (p := ⟨gb160, 0, none⟩) (Kd.R_types HO145.out BK160.out (by decide)) (fun _ hk => hk.2) (.slice Ao62 t152.length co62)) (fun _ hk => hk.2) (.slice Ao65 t155.length co65)) (fun _ hk => hk.2) (.int .i64 t158)) (fun _ h_ => h_.1)))); (case side2 => exact (Kd.R_reads' HO145.out).2.1); (case side3 => refine (Kd.S_reads' (e := 37) (base := w.heap.size) (ok := fun k_ => ((some k_ ≠ (.slice Ao57 t143.length co57 : Value).ownBlock ∧ some k_ ≠ (.slice Ao62 t152.length co62 : Value).ownBlock) ∧ some k_ ≠ (.slice Ao65 t155.length co65 : Value).ownBlock)) (n := t146.length) (c := co59) ?_).2.2; exact (by (with_reducible repeat (first | apply Kd.S_alloc | apply Kd.S_drewN | apply Kd.S_drew)); exact (Kd.S_mono (Kd.S_far (p := ⟨gb160, 2, none⟩) (Kd.S_far (p := ⟨gb160, 1, none⟩) (Kd.S_far (p := ⟨gb160, 0, none⟩) (Kd.S_types HO148.out BK160.out (by decide)) (fun _ hk => hk.2) (.slice Ao62 t152.length co62)) (fun _ hk => hk.2) (.slice Ao65 t155.length co65)) (fun _ hk => hk.2) (.int .i64 t158)) (fun _ h_ => h_.1)))); (case side4 => exact (Kd.S_reads' HO148.out).2.1); (case side5 => refine (Kd.R_reads' (e := 3) (base := w.heap.size) (ok := fun k_ => (True ∧ some k_ ≠ (.slice Ao57 t143.length co57 : Value).ownBlock)) (n := t152.length) (c := co62) ?_).2.2; exact (by (with_reducible repeat (first | apply Kd.R_alloc | apply Kd.R_drewN | apply Kd.R_drew)); exact (Kd.R_mono (Kd.R_far (p := ⟨gb160, 2, none⟩) (Kd.R_far (p := ⟨gb160, 1, none⟩) (Kd.R_far (p := ⟨gb160, 0, none⟩) (Kd.R_types HO154.out BK160.out (by decide)) (fun _ hk => hk.2) (.slice Ao62 t152.length co62)) (fun _ hk => hk.2) (.slice Ao65 t155.length co65)) (fun _ hk => hk.2) (.int .i64 t158)) (fun _ h_ => h_.1)))); (case side6 => exact (Kd.R_reads' HO154.out).2.1); (case side7 => refine (Kd.S_reads' (e := 37) (base := w.heap.size) (ok := fun k_ => ((some k_ ≠ (.slice Ao62 t152.length co62 : Value).ownBlock ∧ some k_ ≠ (.slice Ao57 t143.length co57 : Value).ownBlock) ∧ some k_ ≠ (.slice Ao59 t146.length co59 : Value).ownBlock)) (n := t155.length) (c := co65) ?_).2.2; exact (by (with_reducible repeat (first | apply Kd.S_alloc | apply Kd.S_drewN | apply Kd.S_drew)); exact (Kd.S_mono (Kd.S_far (p := ⟨gb160, 2, none⟩) (Kd.S_far (p := ⟨gb160, 1, none⟩) (Kd.S_far (p := ⟨gb160, 0, none⟩) (Kd.S_types HO157.out BK160.out (by decide)) (fun _ hk => hk.2) (.slice Ao62 t152.length co62)) (fun _ hk => hk.2) (.slice Ao65 t155.length co65)) (fun _ hk => hk.2) (.int .i64 t158)) (fun _ h_ => h_.1)))); (case side8 => exact (Kd.S_reads' HO157.out).2.1); rintro e w67 ⟨rfl, hb⟩; refine ⟨_, rfl, ?_⟩; have n0_ := Aside0.mk (Kd.R_below (by (with_reducible repeat (first | apply Kd.R_alloc | apply Kd.R_drewN | apply Kd.R_drew)); exact (Kd.R_mono (Kd.R_far (p := ⟨gb160, 2, none⟩) (Kd.R_far (p := ⟨gb160, 1, none⟩) (Kd.R_far (p := ⟨gb160, 0, none⟩) (Kd.R_types HO145.out BK160.out (by decide)) (fun _ hk => hk.2) (.slice Ao62 t152.length co62)) (fun _ hk => hk.2) (.slice Ao65 t155.length co65)) (fun _ hk => hk.2) (.int .i64 t158)) (fun _ h_ => h_.1))) hb); have n1_ := Aside0.mk (Kd.S_below (by (with_reducible repeat (first | apply Kd.S_alloc | apply Kd.S_drewN | apply Kd.S_drew)); exact (Kd.S_mono (Kd.S_far (p := ⟨gb160, 2, none⟩) (Kd.S_far (p := ⟨gb160, 1, none⟩) (Kd.S_far (p := ⟨gb160, 0, none⟩) (Kd.S_types HO148.out BK160.out (by decide)) (fun _ hk => hk.2) (.slice Ao62 t152.length co62)) (fun _ hk => hk.2) (.slice Ao65 t155.length co65)) (fun _ hk => hk.2) (.int .i64 t158)) (fun _ h_ => h_.1))) hb); have n2_ := Aside0.mk (Kd.R_below (by (with_reducible repeat (first | apply Kd.R_alloc | apply Kd.R_drewN | apply Kd.R_drew)); exact (Kd.R_mono (Kd.R_far (p := ⟨gb160, 2, none⟩) (Kd.R_far (p := ⟨gb160, 1, none⟩) (Kd.R_far (p := ⟨gb160, 0, none⟩) (Kd.R_types HO154.out BK160.out (by decide)) (fun _ hk => hk.2) (.slice Ao62 t152.length co62)) (fun _ hk => hk.2) (.slice Ao65 t155.length co65)) (fun _ hk => hk.2) (.int .i64 t158)) (fun _ h_ => h_.1))) hb); have n3_ := Aside0.mk (Kd.S_below (by (with_reducible repeat (first | apply Kd.S_alloc | apply Kd.S_drewN | apply Kd.S_drew)); exact (Kd.S_mono (Kd.S_far (p := ⟨gb160, 2, none⟩) (Kd.S_far (p := ⟨gb160, 1, none⟩) (Kd.S_far (p := ⟨gb160, 0, none⟩) (Kd.S_types HO157.out BK160.out (by decide)) (fun _ hk => hk.2) (.slice Ao62 t152.length co62)) (fun _ hk => hk.2) (.slice Ao65 t155.length co65)) (fun _ hk => hk.2) (.int .i64 t158)) (fun _ h_ => h_.1))) hb); have n4_ := Aside0.mk (blk_below (g := gb151) (o := .cells #[.slice Ao57 t143.length co57, .slice Ao59 t146.length co59, .int .i64 t149] 26 (0, 0)) (by (with_reducible repeat (first | refine blk_drewN ?_ _ | refine blk_drew ?_ | refine blk_alloc ?_ _)); refine blk_far ?_ NB151_160.out _; (with_reducible repeat (first | refine blk_drewN ?_ _ | refine blk_drew ?_ | refine blk_alloc ?_ _)); refine blk_far ?_ NB151_160.out _; (with_reducible repeat (first | refine blk_drewN ?_ _ | refine blk_drew ?_ | refine blk_alloc ?_ _)); refine blk_far ?_ NB151_160.out _; (with_reducible repeat (first | refine blk_drewN ?_ _ | refine blk_drew ?_ | refine blk_alloc ?_ _)); exact BK151.out) hb); have n5_ := Aside0.mk (blk_below (g := gb160) (o := .cells #[.slice Ao62 t152.length co62, .slice Ao65 t155.length co65, .int .i64 t158] 26 (0, 0)) (by (with_reducible repeat (first | refine blk_drewN ?_ _ | refine blk_drew ?_ | refine blk_alloc ?_ _)); refine blk_put (cs := #[.slice Ao62 t152.length co62, .slice Ao65 t155.length co65, .int .i64 0]) ?_ 2 _ rfl; (with_reducible repeat (first | refine blk_drewN ?_ _ | refine blk_drew ?_ | refine blk_alloc ?_ _)); refine blk_put (cs := #[.slice Ao62 t152.length co62, .slice none 0 0, .int .i64 0]) ?_ 1 _ rfl; (with_reducible repeat (first | refine blk_drewN ?_ _ | refine blk_drew ?_ | refine blk_alloc ?_ _)); refine blk_put (cs := #[.slice none 0 0, .slice none 0 0, .int .i64 0]) ?_ 0 _ rfl; (with_reducible repeat (first | refine blk_drewN ?_ _ | refine blk_drew ?_ | refine blk_alloc ?_ _)); exact BK160.out) hb); have n6_ := Aside0.mk (below_step (by repeat (first | (with_reducible first | exact HB.out | apply below_alloc | apply pw_below_drewN | apply below_drew1 | refine below_set ?_ GE151.out | refine below_set ?_ GE160.out) | exact HB.out)) hb); clear HO145; clear HO148; clear HO154; clear HO157; clear BK151; clear BK160; clear HB; have HO145 := n0_; have HO148 := n1_; have HO154 := n2_; have HO157 := n3_; have BK151 := n4_; have BK160 := n5_; have HB := n6_; clear n0_ n1_ n2_ n3_ n4_ n5_ n6_; (try clear hb); (try clear hb2); (try clear hk); (try clear hi)))
    go_ret
    exact ⟨by first | rfl | (simp [errW_none, errW_some] <;> rfl) | (simp [*, errW_none, errW_some] <;> rfl), by repeat (first | (with_reducible first | exact HB.out | apply below_alloc | apply pw_below_drewN | apply below_drew1 | refine below_set ?_ GE151.out | refine below_set ?_ GE160.out) | exact HB.out)⟩
/-- THE ONE PURE STATEMENT of malthouselaw14_ArbNew: yours. -/
def malthouselaw14_ArbNew.Pure : Prop := ∀ (a0 : Int), (Lit.int .i64 a0).wf = true → ∃ k, malthouselaw14_ArbNew.f k a0 = some true
theorem malthouselaw14_ArbNew.walk (P : malthouselaw14_ArbNew.Pure) (a0 : Int) (w : World) (w0 : (Lit.int .i64 a0).wf = true) :
    Calls Try.prog 3 #[.int .i64 a0] w fun e w' => e = .returned (.bool true) ∧ Below w.heap.size w w' := by
  obtain ⟨k, h⟩ := P a0 w0
  refine (malthouselaw14_ArbNew.calls k a0 true w h).mono ?_
  rintro e w' ⟨rfl, hd⟩
  exact ⟨rfl, hd⟩
end Go.Proofs.Ytgmcmhlomfeldaa.Print
/-! ### ArNew -/
namespace Go.Proofs.Ytgmcmhlomfeldaa.Print
open Go.RowKit Go.Proofs.YtgmcmhlomfeldaaW.PrintWords Go.Proofs.YtgmcmhlomfeldaaW.PrintLast Go.Proofs.YtgmcmhlomfeldaaW.PrintMore
set_option linter.unusedSimpArgs false
set_option linter.unusedVariables false
theorem new_none : ((malthouseref14_Same.f 5000 ([] : List Int) ([] : List _) 0 ([] : List Int) ([] : List _) 0).bind fun t161 => if (true : Bool) = true then (if t161 = true then (if (1 : Int) = 1 then ((arb_Right.f 5000 [] [] 0).bind fun t162 => some (t162 == ((1 : Int) == 0))) else some false) else some false) else some false) = some true := by kernel_rfl
theorem new_1 : malthouselaw14_ArbNew.f 5000 1 = some true := by kernel_rfl
theorem new_2 : malthouselaw14_ArbNew.f 5000 2 = some true := by kernel_rfl
theorem new_3 : malthouselaw14_ArbNew.f 5000 3 = some true := by kernel_rfl
theorem new_4 : malthouselaw14_ArbNew.f 5000 4 = some true := by kernel_rfl
theorem new_5 : malthouselaw14_ArbNew.f 5000 5 = some true := by kernel_rfl
theorem arbNew_pure : malthouselaw14_ArbNew.Pure := by
  intro a0 _
  refine ⟨5000, ?_⟩
  by_cases h1 : a0 < 1
  · unfold malthouselaw14_ArbNew.f arb_New.f malthouseref14_New.f
    simp only [if_pos h1]
    exact new_none
  · by_cases h5 : a0 > 5
    · unfold malthouselaw14_ArbNew.f arb_New.f malthouseref14_New.f
      simp only [if_neg h1, if_pos h5]
      exact new_none
    · have h : a0 = 1 ∨ a0 = 2 ∨ a0 = 3 ∨ a0 = 4 ∨ a0 = 5 := by omega
      rcases h with rfl | rfl | rfl | rfl | rfl
      · exact new_1
      · exact new_2
      · exact new_3
      · exact new_4
      · exact new_5
end Go.Proofs.Ytgmcmhlomfeldaa.Print
namespace Go.Proofs.Ytgmcmhlomfeldaa
open Go.RowKit
theorem arbNew_walk (a0 : Int) (w : World) (w0 : (Lit.int .i64 a0).wf = true) : Calls Try.prog 3 #[.int .i64 a0] w fun e w' => e = .returned (.bool true) ∧ Only [] w w' :=
  (Print.malthouselaw14_ArbNew.walk Print.arbNew_pure a0 w w0).mono fun _ _ h => ⟨h.1, .of_below h.2⟩
end Go.Proofs.Ytgmcmhlomfeldaa
/-! ### ArbNewRow -/
namespace Go.Proofs.Ytgmcmhlomfeldaa.arbNew
open Go.ChangeShapes Go.WideShapes Go.ChangeAt Go.RowKit
open Go.ChangeMaps (open_string shut_string)
set_option linter.unusedVariables false
set_option linter.unusedSimpArgs false
theorem own : ownKnob Try.prog.godebug = none := by kernel_rfl
set_option maxRecDepth 100000 in
theorem lifted (os : Os) (started : os.Started) (H : Type) (enc : TypeId × Value → H) :
    ReturnsInHanded {} Try.checked os 3 .any (Rows.arbNewSpec.pre6 enc Try.prog Try.f3 Rows.arbNewRow.domain false) (Rows.arbNewSpec.post enc Try.prog Try.f3 false true false false) := by
  refine returnsInHanded_of_change_sized (C := Try.checked) own started (by kernel_rfl) Try.func3
    (ChangeSpec.witness6 (enc := enc) (C := Try.checked) false ⟨#[], #[.int .i64 0], []⟩ 8 (by kernel_rfl) (by kernel_rfl) (by kernel_rfl) (by kernel_rfl)) ?_
  intro W base args ds gs before hval0 hW hcnd hsz0 _
  have hsz : (DataW.weightsEach Try.prog (Try.f3.params.toList ++ Rows.arbNewSpec.plain.varTypes Try.prog) (ds ++ gs)).all (· ≤ reachBytes) = true := hsz0
  have hval : ∀ (j : Nat) t v, Try.f3.params[j]? = some t → args[j]? = some v → Value.okWide Try.prog W .any base t v := hval0
  have hW' := hW
  obtain ⟨p, q, hA0, hV, rfl, hfz, hnd⟩ := hW
  have hA : DataW.TrodAll enc Try.prog W 0 (fun _ => true) true Try.f3.params.toList args.toList ds p := hA0
  rw [Try.params3] at hA hval hsz
  obtain ⟨v0, vs0, d0, ds0, p0, q0, hargs, rfl, rfl, h0, r0⟩ := trodAll_cons hA
  obtain ⟨rfl, rfl, rfl⟩ := trodAll_nil r0
  obtain rfl : args = #[v0] := by cases args; simp_all
  obtain ⟨rfl, rfl⟩ := trodVars_none hV
  obtain ⟨a0, rfl, rfl, rfl, w0⟩ := open_int Try.underlying3 (hval 0 3 v0 rfl rfl) h0
  clear hA0 hval0 hsz0 hsz
  refine (arbNew_walk a0 W w0).mono fun e W' ⟨he, ho⟩ => ?_
  have bel := ho.nil_below
  subst he
  exact ⟨_, rfl, _, _, _, [], _, [], hW', trodAll_mk1 (shut_bool Try.underlying4 _), (trodAll_cons_mk (shut_int Try.underlying3 w0) trodAll_mk0), rfl, bel.frame _, fun h => by cases h⟩
theorem over : Rows.arbNewRow.holds Try.pinned (OpenSpec.ofChange Rows.arbNewSpec) :=
  OpenClaim.holds_of_wide 3 Try.f3 rfl rfl rfl rfl rfl rfl rfl ⟨rfl, rfl, rfl, rfl, rfl⟩ rfl rfl rfl rfl rfl (by kernel_rfl) Try.func3 (by kernel_rfl)
    (of_decide_eq_true (by kernel_rfl)) (by unfold Func.isWrapper; first | (rw [if_pos (by decide +kernel)]; kernel_rfl) | (rw [if_neg (by decide +kernel)]; exact ⟨rfl, rfl⟩))
    (fun os started H enc _ => lifted os started H enc)
theorem proved : Rows.ArbNewSaid := over
#print axioms proved
end Go.Proofs.Ytgmcmhlomfeldaa.arbNew
namespace Go.Proofs.Ytgmcmhlomfeldaa
/-- The row, under a short name, for the claim. -/
theorem arbNew_holds : Rows.ArbNewSaid := arbNew.proved
end Go.Proofs.Ytgmcmhlomfeldaa
