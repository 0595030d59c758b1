import Derived.Test.YtejecmjajdhiiaaDoorLn2
import Derived.Laws.RangeAny
import Derived.Laws.ResultCell
import Derived.Lib.TrimUEq
import Derived.OrdersIn
set_option linter.unusedVariables false
set_option linter.unusedSimpArgs false
namespace Go.Proofs.YtejecmjajdhiiaaDoorW.PrintWords
end Go.Proofs.YtejecmjajdhiiaaDoorW.PrintWords
namespace Go.Proofs.YtejecmjajdhiiaaDoorW.PrintLast
end Go.Proofs.YtejecmjajdhiiaaDoorW.PrintLast
namespace Go.Proofs.YtejecmjajdhiiaaDoorW.PrintMore
end Go.Proofs.YtejecmjajdhiiaaDoorW.PrintMore
/-! ### EDraw -/
namespace Go.Proofs.YtejecmjajdhiiaaDoor.Print
open Go.RowKit Go.Proofs.YtejecmjajdhiiaaDoorW.PrintWords Go.Proofs.YtejecmjajdhiiaaDoorW.PrintLast Go.Proofs.YtejecmjajdhiiaaDoorW.PrintMore
set_option linter.unusedSimpArgs false
set_option linter.unusedVariables false
theorem Tk.move {D : TkP} {s : TkS} {L L' : List Res} (h : Tk D s L) (h1 : L'[D.ia]? = L[D.ia]?) (h2 : L'[D.ib]? = L[D.ib]?) (h3 : L'[D.ip]? = L[D.ip]?) (h4 : L'[D.iq]? = L[D.iq]?) : Tk D s L' := by
  obtain ⟨pre, cells, A, h⟩ := h
  exact ⟨pre, cells, A, h.len, h1.trans h.out, h.hdr, h.adr, h2.trans h.lot, h3.trans h.num, h4.trans h.ptr⟩
theorem Turned.other {D : TkP} {L L' : List Res} (h : Turned D L L') {j : Nat} (h1 : j ≠ D.ia) (h2 : j ≠ D.ib) (h3 : j ≠ D.ip) : L'[j]? = L[j]? := by
  obtain ⟨n, r, cells, v, _, rfl⟩ := h
  rw [List.getElem?_set_ne (Ne.symm h1), List.getElem?_set_ne (Ne.symm h2), List.getElem?_set_ne (Ne.symm h3)]
/-- Where Draw stands: N: the place of its own variable. -/
structure DI (D : TkP) (N lb dd : Nat) (L0 : List Res) (cells0 : List Value) (t0 : TkS) (R : Obj) (st s : TkS) (Ls : List Res) : Prop where
  tk : Tk D st Ls
  ok1 : ∀ x ∈ st.1, 1 ≤ x.f1 ∧ x.f1 ≤ 1125899906842624
  ok2 : 0 ≤ st.2.1 ∧ st.2.1 ≤ 1125899906842624
  var : ∃ v, Ls[N]? = some (.blk lb 23 [v]) ∧ Ls[N + 1]? = some (.row v 37 2 s.2.2.length (lotRow s.2.2))
  dfr : Ls[N + 4]? = some (.obj dd (.deferred (some [])))
  lop : Ls[N + 5]? = some (.obj (dd + 1) R)
  rest : ∀ j, 1 ≤ j → j < N → j ≠ D.ib → Ls[j]? = L0[j]?
  cel : ∀ cells, Ls[D.ia]? = some (D.outR cells) → ∀ q, q ≠ D.i0 * 3 + 2 → cells[q]? = cells0[q]?
  fst : (takeM st.1 st.2.1).1 = (takeM t0.1 t0.2.1).1
  snd : st.2.2 ++ (takeM st.1 st.2.1).2 = (takeM t0.1 t0.2.1).2
structure DPl (D : TkP) (N : Nat) : Prop where
  (ia : D.ia = 0) (ib : 1 ≤ D.ib ∧ D.ib < N) (ip : D.ip = N + 3) (iq : D.iq = N + 2)
theorem DI.step {D : TkP} {N lb dd : Nat} {L0 : List Res} {cells0 : List Value} {t0 : TkS} {R : Obj} {s : TkS} {L L' : List Res} (hp : DPl D N) (h : DI D N lb dd L0 cells0 t0 R s s L) (hg : goT s) (ht : Turned D L L') (hk : Tk D (nxtT s) L') : DI D N lb dd L0 cells0 t0 R (nxtT s) s L' := by
  obtain ⟨p1, p2, p3, p4⟩ := hp
  obtain ⟨o1, o2⟩ := nxt_ok hg h.ok1 h.ok2
  obtain ⟨t1, t2⟩ := takeM_next hg
  obtain ⟨v, v1, v2⟩ := h.var
  refine ⟨hk, o1, o2, ⟨v, (ht.other (by omega) (by omega) (by omega)).trans v1, (ht.other (by omega) (by omega) (by omega)).trans v2⟩, (ht.other (by omega) (by omega) (by omega)).trans h.dfr, (ht.other (by omega) (by omega) (by omega)).trans h.lop,
    fun j h1 h2 h3 => (ht.other (by omega) h3 (by omega)).trans (h.rest j h1 h2 h3), fun cells hc q hq => ?_, t1.trans h.fst, t2.trans h.snd⟩
  obtain ⟨n, r, cells1, v, hc1, rfl⟩ := ht
  have hlt := (List.getElem?_eq_some_iff.1 hc1).1
  rw [List.getElem?_set_self (by rw [List.length_set, List.length_set]; exact hlt)] at hc
  have e : cells = cells1.set (D.i0 * 3 + 2) v := by
    have := Option.some.inj hc
    unfold TkP.outR at this
    injection this with _ _ _ _ h5
    exact h5.symm
  rw [e, List.getElem?_set_ne (Ne.symm hq)]
  exact h.cel cells1 hc1 q hq
theorem DI.turn {D : TkP} {N lb dd : Nat} {L0 : List Res} {cells0 : List Value} {t0 : TkS} {R : Obj} {st s : TkS} {L : List Res} (hp : DPl D N) (h : DI D N lb dd L0 cells0 t0 R st s L) (R' : Obj) : DI D N lb dd L0 cells0 t0 R' st s (L.set (N + 5) (.obj (dd + 1) R')) := by
  obtain ⟨p1, p2, p3, p4⟩ := hp
  obtain ⟨v, v1, v2⟩ := h.var
  have e : ∀ j, j ≠ N + 5 → (L.set (N + 5) (.obj (dd + 1) R'))[j]? = L[j]? := fun j hj => List.getElem?_set_ne (Ne.symm hj)
  exact ⟨h.tk.move (e _ (by omega)) (e _ (by omega)) (e _ (by omega)) (e _ (by omega)), h.ok1, h.ok2, ⟨v, (e _ (by omega)).trans v1, (e _ (by omega)).trans v2⟩, (e _ (by omega)).trans h.dfr, List.getElem?_set_self (List.getElem?_eq_some_iff.1 h.lop).1,
    fun j h1 h2 h3 => (e _ (by omega)).trans (h.rest j h1 h2 h3), fun cells hc => h.cel cells ((e _ (by omega)).symm.trans hc), h.fst, h.snd⟩
/-- The body has run. -/
theorem DI.more {D : TkP} {N lb dd : Nat} {L0 : List Res} {cells0 : List Value} {t0 : TkS} {R : Obj} {s : TkS} {L : List Res} (hp : DPl D N) (h : DI D N lb dd L0 cells0 t0 R (nxtT s) s L) (v : Value) :
    DI D N lb dd L0 cells0 t0 R (nxtT s) (nxtT s) ((L.set (N + 1) (.row v 37 2 (nxtT s).2.2.length (lotRow (nxtT s).2.2))).set N (.blk lb 23 [v])) := by
  obtain ⟨p1, p2, p3, p4⟩ := hp
  obtain ⟨v0, v1, v2⟩ := h.var
  have hl1 := (List.getElem?_eq_some_iff.1 v1).1
  have hl2 := (List.getElem?_eq_some_iff.1 v2).1
  have e : ∀ j, j ≠ N → j ≠ N + 1 → ((L.set (N + 1) (.row v 37 2 (nxtT s).2.2.length (lotRow (nxtT s).2.2))).set N (.blk lb 23 [v]))[j]? = L[j]? := fun j hj hj2 => by rw [List.getElem?_set_ne (Ne.symm hj), List.getElem?_set_ne (Ne.symm hj2)]
  exact ⟨h.tk.move (e _ (by omega) (by omega)) (e _ (by omega) (by omega)) (e _ (by omega) (by omega)) (e _ (by omega) (by omega)), h.ok1, h.ok2, ⟨v, List.getElem?_set_self (by rw [List.length_set]; exact hl1), by rw [List.getElem?_set_ne (by omega)]; exact List.getElem?_set_self hl2⟩, (e _ (by omega) (by omega)).trans h.dfr, (e _ (by omega) (by omega)).trans h.lop,
    fun j h1 h2 h3 => (e _ (by omega) (by omega)).trans (h.rest j h1 h2 h3), fun cells hc => h.cel cells ((e _ (by omega) (by omega)).symm.trans hc), h.fst, h.snd⟩
theorem only_drew (W : World) : Only [] W W.drew := ⟨rfl, rfl, rfl, Nat.le_refl _, fun _ _ _ => rfl⟩
theorem St.two {w W : World} {o1 o2 : Obj} (ho : Only [] w W) (h1 : W.heap[w.heap.size]? = some o1) (h2 : W.heap[w.heap.size + 1]? = some o2) : St w [.obj w.heap.size o1, .obj (w.heap.size + 1) o2] W := by
  refine ⟨ho, fun i r hi => ?_, fun i j r s k hi hj hr hs => ?_⟩
  · match i with
    | 0 => obtain rfl := Option.some.inj hi; exact ⟨Nat.le_refl _, h1⟩
    | 1 => obtain rfl := Option.some.inj hi; exact ⟨Nat.le_succ _, h2⟩
    | i + 2 => simp at hi
  · match i, j with
    | 0, 0 => rfl
    | 1, 1 => rfl
    | 0, 1 =>
      obtain rfl := Option.some.inj hi
      obtain rfl := Option.some.inj hj
      have h1 := Option.some.inj hr
      have h2 := Option.some.inj hs
      omega
    | 1, 0 =>
      obtain rfl := Option.some.inj hi
      obtain rfl := Option.some.inj hj
      have h1 := Option.some.inj hr
      have h2 := Option.some.inj hs
      omega
    | i + 2, _ => simp at hi
    | _, j + 2 => simp at hj
theorem takeM_len (l : List S37) : ∀ n, (takeM l n).2.length ≤ l.length := by
  induction l with
  | nil => intro n; exact Nat.le_refl _
  | cons x l ih =>
    intro n
    rw [takeM]
    split
    · split
      · have := ih (n - mn n x.f1)
        simp only [List.length_cons]
        omega
      · simp
    · simp
theorem infoLt : (Tryd.prog.info? 37).map (fun i => (i.zero, i.size, i.bytes)) = some (some (.agg #[.string ⟨#[]⟩, .int .i64 0]), 2, 24) := by kernel_rfl
section
theorem wpList_one {P : Program} {ops : Array Oper} {rest : List Oper} {o : Oper} {a : Act} {w : World} {Q : Exit → Act → World → Prop} (hg : o.guard = none) (t : TypeId) (x : Operand) (ho : o.op = .buildSlice t 1 #[(0, x)]) (e : TypeId) (ht : P.underlying t = some (.slice e))
    (z : Value) (size bytes : Nat) (hinfo : (P.info? e).map (fun i => (i.zero, i.size, i.bytes)) = some (some z, size, bytes)) (hs0 : 0 < size) (hs1 : size ≤ 1000) (v : Value) (hx : a.eval x = v) (cells : Array Value)
    (hfill : Instr.fill (fun i => some (i * size, size)) ((Array.range (1 * size)).map (z.cells[· % z.cells.size]!)) [(0, v)] = some cells)
    (h : wpList P ops Q rest (a.put o.dst (.slice (some ⟨w.heap.size, 0, none⟩) 1 1)) (w.alloc (.cells cells e))) : wpList P ops Q (o :: rest) a w := by
  obtain ⟨ie, h2, h3, h4, h5⟩ := info_parts hinfo
  subst h4
  exact wpList_buildSlice hg t e 1 _ ho cells ie z ht h2 h3 (by omega) (by omega) (by simpa [hx] using hfill) h
end
theorem di_start {l0 : List S25} {us : List Value} {k g c5 gl cl lb dd : Nat} {x : S25} {n : Int} {R : Obj} {L0 : List Res} {D : TkP} (hk : k < l0.length) (hx : l0[k]? = some x) (hu : us[k]? = some (.slice (some ⟨gl, 0, none⟩) x.f2.length cl)) (hul : us.length = l0.length) (hlo : lotsOk x.f2 = true) (hn1 : 1 ≤ n) (hn9 : n ≤ 1125899906842624)
    (hL : L0 = vRes (.slice (some ⟨g, 0, none⟩) l0.length c5) us l0 ++ [.blk lb 23 [.slice none 0 0], .row (.slice none 0 0) 37 2 0 [], .blk (lb + 1) 64 [.pointer (some ⟨g, k * 3, none⟩)], .blk (lb + 1 + 1) 3 [.int .i64 n]])
    (hD : D = ⟨0, k + 1, l0.length + 1 + 3, l0.length + 1 + 2, g, c5, l0.length, k, gl, cl, x.f2.length, lb + 1 + 1, lb + 1⟩) :
    DI D (l0.length + 1) lb dd L0 (vCells l0 us) (x.f2, n, []) R (x.f2, n, []) (x.f2, n, []) (L0 ++ [.obj dd (.deferred (some [])), .obj (dd + 1) R]) := by
  have hvl : (vRes (.slice (some ⟨g, 0, none⟩) l0.length c5) us l0).length = l0.length + 1 := by
    show (lotRes us l0).length + 1 = _
    unfold lotRes
    rw [List.length_zipWith, hul, Nat.min_self]
  have e0 : ∀ N, (vRes (.slice (some ⟨g, 0, none⟩) l0.length c5) us l0 ++ N)[0]? = some (.row (.slice (some ⟨g, 0, none⟩) l0.length c5) 25 3 l0.length (vCells l0 us)) := fun N => rfl
  have ek : ∀ N, (vRes (.slice (some ⟨g, 0, none⟩) l0.length c5) us l0 ++ N)[k + 1]? = some (.row (.slice (some ⟨gl, 0, none⟩) x.f2.length cl) 37 2 x.f2.length (lotRow x.f2)) := fun N => get_app (by exact lotRes_get hx hu) N
  have ej : ∀ (N : List Res) (j : Nat), (vRes (.slice (some ⟨g, 0, none⟩) l0.length c5) us l0 ++ N)[l0.length + 1 + j]? = N[j]? := fun N j => by rw [List.getElem?_append_right (by omega), hvl, Nat.add_sub_cancel_left]
  subst hL hD
  rw [List.append_assoc]
  refine ⟨⟨[], vCells l0 us, some ⟨gl, 0, none⟩, ?_, e0 _, ?_, fun _ => ?_, ek _, ej _ 3, ej _ 2⟩, lotsOk_of hlo, ⟨by show 0 ≤ n; omega, hn9⟩, ⟨.slice none 0 0, ej _ 0, ej _ 1⟩, ej _ 4, ej _ 5, fun j h1 h2 h3 => ?_, fun cells hc q hq => ?_, rfl, rfl⟩
  · show 0 + x.f2.length = x.f2.length
    omega
  · exact (vCells_get hx hu).2.2
  · show some (⟨gl, 0, none⟩ : Addr) = some ⟨gl, 0 * 2, none⟩
    rw [Nat.zero_mul]
  · rw [List.getElem?_append_left (by rw [hvl]; exact h2), List.getElem?_append_left (by rw [hvl]; exact h2)]
  · have h1 := Option.some.inj ((e0 _).symm.trans hc)
    unfold TkP.outR at h1
    injection h1 with _ _ _ _ h5
    rw [h5]
theorem addr_shift (g a b : Nat) : (⟨g, 0, none⟩ : Addr).add (a + b) = (⟨g, a, none⟩ : Addr).add b := by
  unfold Addr.add
  split <;> split <;> simp_all
theorem draw_out {l0 : List S25} {us : List Value} {k g c5 gl cl lb dd : Nat} {x : S25} {n m : Int} {cur o : List S37} {R : Obj} {L0 Ls L2 : List Res} {D : TkP} {v0 : Value} {w W : World} (hc5 : l0.length ≤ c5) (hs1 : l0.length ≤ 1000000) (hx2 : x.f2.length ≤ 900000) (hlx : ∀ y ∈ l0, y.f2.length ≤ 900000) (hk : k < l0.length) (hx : l0[k]? = some x) (hu : us[k]? = some (.slice (some ⟨gl, 0, none⟩) x.f2.length cl)) (hul : us.length = l0.length) (hcl : x.f2.length ≤ cl)
    (hL : L0 = vRes (.slice (some ⟨g, 0, none⟩) l0.length c5) us l0 ++ [.blk lb 23 [.slice none 0 0], .row (.slice none 0 0) 37 2 0 [], .blk (lb + 1) 64 [.pointer (some ⟨g, k * 3, none⟩)], .blk (lb + 1 + 1) 3 [.int .i64 n]])
    (hD : D = ⟨0, k + 1, l0.length + 1 + 3, l0.length + 1 + 2, g, c5, l0.length, k, gl, cl, x.f2.length, lb + 1 + 1, lb + 1⟩)
    (h : DI D (l0.length + 1) lb dd L0 (vCells l0 us) (x.f2, n, []) R (cur, m, o) (cur, m, o) Ls) (he : ∀ j, j ≠ l0.length + 1 + 4 → L2[j]? = Ls[j]?) (hs : St w L2 W) (hv : Ls[l0.length + 1 + 1]? = some (.row v0 37 2 o.length (lotRow o))) :
    Kd.V k25 25 W w.heap.size (fun k_ => (w.heap.size ≤ k_) ∧ some k_ ≠ (v0 : Value).ownBlock) (.slice (some ⟨g, 0, none⟩) l0.length c5) (l0.set k (turned x cur)) ∧ Kd.R k37 37 W w.heap.size (fun _ => True) v0 o := by
  refine ⟨?_, R_lots (hs.row (l0.length + 1 + 1) ((he _ (by omega)).trans hv)) (fun _ _ => trivial)⟩
  obtain ⟨pre, cells, A, hF⟩ := h.tk
  have hvl : (vRes (.slice (some ⟨g, 0, none⟩) l0.length c5) us l0).length = l0.length + 1 := by
    show (lotRes us l0).length + 1 = _
    unfold lotRes
    rw [List.length_zipWith, hul, Nat.min_self]
  have hout := hF.out
  have hcel := h.cel
  have hrest := h.rest
  have hlot := hF.lot
  have hhdr := hF.hdr
  have hadr := hF.adr
  have hlen := hF.len
  subst hD
  dsimp only at hout hcel hrest hlot hhdr hadr hlen
  obtain ⟨h0, hh0⟩ : ∃ h0, h0 = Value.slice A cur.length (cl - pre.length) := ⟨_, rfl⟩
  rw [← hh0] at hhdr
  have hcells : cells = vCells l0 (us.set k h0) := by
    rw [← vCells_set hx hu]
    refine List.ext_getElem? (fun q => ?_)
    by_cases hq : q = k * 3 + 2
    · subst hq
      rw [hhdr, List.getElem?_set_self]
      rw [vCells_length _ _ hul]
      omega
    · rw [List.getElem?_set_ne (Ne.symm hq)]
      exact hcel cells hout q hq
  have hlg : (l0.set k (turned x cur)).length = l0.length := List.length_set
  rw [← hlg]
  refine Kd.V_mk (by rw [hlg]; exact hc5) (fun W' hW => ?_)
  have hmv : ∀ (i : Nat) (r : Res), L2[i]? = some r → i ≠ l0.length + 1 + 1 → r.holds W' w.heap.size := fun i r hi hne =>
    Res.holds.move (hs.each i r hi) (fun k' hk' => hW k' ⟨(hs.lt hi hk').1, fun e => hs.ne hi ((he _ (by omega)).trans hv) hne hk' e.symm⟩ (hs.lt hi hk').2)
  refine C_ves (hs := us.set k h0) (by rw [List.length_set, hlg, hul]) (by rw [hlg]; omega) (fun _ => ?_) (fun j xx u hj hu2 => ?_)
  · rw [vCells_turned cur hx, ← hcells]
    exact ownsRow_at (hmv 0 _ ((he _ (by omega)).trans hout) (by omega)) (by show 0 < l0.length; omega)
  · by_cases hjk : j = k
    · subst hjk
      rw [List.getElem?_set_self hk] at hj
      rw [List.getElem?_set_self (by omega)] at hu2
      obtain rfl := Option.some.inj hj
      obtain rfl := Option.some.inj hu2
      refine ⟨A, cl - pre.length, hh0, by show cur.length ≤ _; omega, C_lots (by show cur.length ≤ _; omega) (fun hp => ?_)⟩
      have hne : cur ≠ [] := List.length_pos_iff.1 hp
      have ha := hadr hne
      have hp2 : 0 < cur.length := hp
      refine ⟨_, ha, ?_⟩
      obtain ⟨ad, e1, h1⟩ := ownsRow_at (hmv (j + 1) _ ((he _ (by omega)).trans hlot) (by omega)) (by show 0 < x.f2.length; omega)
      obtain rfl := Option.some.inj e1
      intro i u hi
      have hi2 : (lotRow cur)[i]? = some u := hi
      have h2 := h1 (pre.length * 2 + i) u (by rw [lotRow_append, List.getElem?_append_right (by rw [lotRow_length]; omega), lotRow_length, Nat.add_sub_cancel_left]; exact hi2)
      rw [addr_shift] at h2
      exact h2
    · rw [List.getElem?_set_ne (Ne.symm hjk)] at hj hu2
      have hjl : j < l0.length := (List.getElem?_eq_some_iff.1 hj).1
      have h1 : L2[j + 1]? = some (.row u 37 2 xx.f2.length (lotRow xx.f2)) := by
        rw [he _ (by omega), hrest (j + 1) (by omega) (by omega) (by omega), hL]
        exact get_app (by exact lotRes_get hj hu2) _
      exact S_lots (hmv (j + 1) _ h1 (by omega)) (by have := hlx xx (List.mem_of_getElem? hj); omega)
def drawOk (l : List S37) (n : Int) : Bool := lotsOk l && decide (n ≤ 1125899906842624) && decide (0 < l.length)
def ledger_Draw.f (l : List S25) (a : ByteArray) (n : Int) : Option (List S25 × List S37 × Int) :=
  if smallV l = true then
    (ledger_Check.f 100000 l).bind fun e => if e = 0 then
      (ledger_find.f l a).bind fun i => if i < 0 then some ([], [], 4) else if n < 1 then some ([], [], 130) else
        (ledger_Level.f 100000 (rd_T25 l i).f0 (rd_T25 l i).f1 (rd_T25 l i).f2).bind fun r => if r < n then some ([], [], 130) else
          if drawOk (rd_T25 l i).f2 n = true then some (l.set i.toNat (turned (rd_T25 l i) (takeM (rd_T25 l i).f2 n).1), (takeM (rd_T25 l i).f2 n).2, 0) else none
    else some ([], [], 1)
  else none
set_option maxHeartbeats 16000000 in
set_option maxRecDepth 100000 in
theorem draw_ok (A0 : Option Addr) (c0 : Nat) (l0 : List S25) (a1 : ByteArray) (n : Int) (k : Nat) (r : Int) (w : World) (hr0 : Kd.C k25 w A0 l0.length l0) (hc0 : l0.length ≤ c0) (hT : Tabs w) (hs1 : l0.length ≤ 1000000) (hs2 : ∀ x ∈ l0, x.f2.length ≤ 900000)
    (he : ledger_Check.f 100000 l0 = some 0) (hf : ledger_find.f l0 a1 = some (k : Int)) (x : S25) (hx : l0[k]? = some x) (hn1 : 1 ≤ n) (hlv : ledger_Level.f 100000 x.f0 x.f1 x.f2 = some r) (hrn : n ≤ r) (hdo : drawOk x.f2 n = true) :
    Calls Tryd.prog 18 #[.slice A0 l0.length c0, .string a1, .int .i64 n] w fun e w' => ∃ v0_ v1_ : Value, e = .returned (.tuple #[v0_, v1_, .int .i64 0]) ∧ Kd.V k25 25 w' w.heap.size (fun k_ => (w.heap.size ≤ k_) ∧ some k_ ≠ (v1_ : Value).ownBlock) v0_ (l0.set k (turned x (takeM x.f2 n).1)) ∧ Kd.R k37 37 w' w.heap.size (fun _ => True) v1_ (takeM x.f2 n).2 ∧ Below w.heap.size w w' := by
  have hk : k < l0.length := (List.getElem?_eq_some_iff.1 hx).1
  have hkk : (k : Int) < l0.length := by omega
  have hk0 : (0 : Int) ≤ k := by omega
  have HX := Lib.hid hx
  have HR := Lib.hid hr0
  have HT := Lib.hid hT
  have HS2 := Lib.hid hs2
  have HF := Lib.hid hf
  have HLV := Lib.hid hlv
  have HDO := Lib.hid hdo
  have hrn' : ¬ r < n := by omega
  have hn1' : ¬ n < 1 := by omega
  have HCK := Lib.hid (ledger_Check.calls 100000 A0 c0 l0 0 w hr0 hc0 hT he)
  clear hx hr0 hT hs2 hf hlv hdo he hrn
  refine (callsIn_wide (n := 0)).1 (callsIn_of_wp_marks Tryd.func18 rfl trivial ?_)
  simp only [Tryd.ntmps18, List.size_toArray, List.length_cons, List.length_nil, Nat.reduceAdd, Nat.reduceSub, Array.replicate_succ, Array.replicate_zero, List.push_toArray, List.append_toArray, List.nil_append, List.cons_append]
  refine (wpIn_wide (n := 0)).2 ?_
  go_wp2_with (go_at_call 12; refine HCK.out.mono ?_; rintro x W1 ⟨rfl, hb1⟩; have HO := Lib.hid (Only.of_below hb1); clear hb1; refine (fun (h : Hid _) => h.out) ?_)
  refine Lib.hid ?_
  clear HCK
  have HFN := Lib.hid (ledger_find.calls A0 c0 l0 a1 k W1 (Kd.C_below HR.out HO.out.nil_below) hc0 HF.out)
  go_wp2_with (go_at_call 33; refine HFN.out.mono ?_; rintro x W3 ⟨rfl, hb1⟩; replace HO := Lib.hid (HO.out.trans (Only.of_below hb1)); clear hb1; refine (fun (h : Hid _) => h.out) ?_)
  refine Lib.hid ?_
  clear HFN HF
  obtain ⟨ad, cs, rfl, _, hK, hcs⟩ := Kd.C_cells (Kd.C_below HR.out HO.out.nil_below) k hk
  rw [(List.getElem?_eq_some_iff.1 HX.out).2] at hK
  obtain ⟨A2, c2, rfl, hl2, hk2⟩ := k25_open hK
  have HC := Lib.hid (show CellsAt W3 (ad.add (k * 3)) _ from hcs)
  have HRM := Lib.hid (ledger_Level.calls 100000 x.f0 x.f1 (fun k_ => k_ < W3.heap.size) A2 c2 x.f2 r W3 (Kd.V_mk hl2 (Kd.C_F k37_heap hk2)) (HT.out.below HO.out.nil_below) HLV.out)
  clear hcs hK hl2 hk2 HLV
  go_wp2_with (first
    | (with_reducible refine wpList_load_at rfl 25 (.tmp 28) rfl (ad.add (k * 3)) rfl _ _ HC.out Tryd.underlying25 rfl (by kernel_rfl) ?_)
    | (go_at_call 16; refine HRM.out.mono ?_; rintro x W4 ⟨rfl, hb1⟩; replace HO := Lib.hid (HO.out.trans (Only.of_below hb1)); clear hb1; refine (fun (h : Hid _) => h.out) ?_))
  refine Lib.hid ?_
  clear HC HRM
  have HCP := Lib.hid (lcopied_calls (some ad) c0 l0 W4 (Kd.C_below HR.out HO.out.nil_below) hs1 (fun y hy => Nat.le_trans (HS2.out y hy) (by omega)))
  go_wp2_with (go_at_call 38; refine HCP.out.mono ?_; rintro x W5 ⟨v, rfl, us, hul, hS⟩; obtain ⟨g, c5, rfl, hc5⟩ := ownsRow_some (hS.row 0 rfl) (by omega); have HS := Lib.hid (hS.from HO.out); have HUL := Lib.hid hul; clear hS hul; refine (fun (h : Hid _) => h.out) ?_)
  refine Lib.hid ?_
  clear HCP HO
  replace HS := Lib.hid ((HS.out.alloc [.slice none 0 0] 23).empty 37 2)
  go_wp2_with (go_at_call 39; refine (taken_calls ⟨g, k * 3, none⟩ n _).mono ?_; rintro x W6 ⟨rfl, rfl⟩; refine (fun (h : Hid _) => h.out) ?_)
  refine Lib.hid ?_
  replace HS := Lib.hid ((HS.out.alloc [.pointer (some ⟨g, k * 3, none⟩)] 64).alloc [.int .i64 n] 3)
  simp only [World.size_alloc, List.append_assoc, List.cons_append, List.nil_append] at HS
  obtain ⟨u, hu⟩ : ∃ u, us[k]? = some u := ⟨us[k]'(by have := HUL.out; omega), List.getElem?_eq_getElem _⟩
  obtain ⟨hlo, hn9, hxl⟩ : lotsOk x.f2 = true ∧ n ≤ 1125899906842624 ∧ 0 < x.f2.length := by
    have := HDO.out
    unfold drawOk at this
    simpa [and_assoc] using this
  have hLk : ∀ N, (vRes (.slice (some ⟨g, 0, none⟩) l0.length c5) us l0 ++ N)[k + 1]? = some (.row u 37 2 x.f2.length (lotRow x.f2)) := fun N => get_app (by exact lotRes_get HX.out hu) N
  obtain ⟨gl, cl, rfl, hcl⟩ := ownsRow_some (HS.out.row (k + 1) (hLk _)) hxl
  rename_i K hK
  refine hK _ _ ?_
  clear hK K
  unfold wpList
  try simp only [Exit.then]
  rename_i K hK
  refine hK _ _ ?_
  clear hK K
  generalize W5.heap.size = lb at *
  generalize (((W5.alloc (.cells #[.slice none 0 0] 23)).alloc (.cells #[.pointer (some ⟨g, k * 3, none⟩)] 64)).alloc (.cells #[.int .i64 n] 3)) = W6 at *
  obtain ⟨L0, hL0⟩ : ∃ L0, L0 = vRes (.slice (some ⟨g, 0, none⟩) l0.length c5) us l0 ++ [.blk lb 23 [.slice none 0 0], .row (.slice none 0 0) 37 2 0 [], .blk (lb + 1) 64 [.pointer (some ⟨g, k * 3, none⟩)], .blk (lb + 1 + 1) 3 [.int .i64 n]] := ⟨_, rfl⟩
  have HL0 := Lib.hid hL0
  rw [← hL0] at HS
  clear hL0
  obtain ⟨D, hDD⟩ : ∃ D : TkP, D = ⟨0, k + 1, l0.length + 1 + 3, l0.length + 1 + 2, g, c5, l0.length, k, gl, cl, x.f2.length, lb + 1 + 1, lb + 1⟩ := ⟨_, rfl⟩
  have HDD := Lib.hid hDD
  have HP := Lib.hid (show DPl D (l0.length + 1) from by rw [hDD]; exact ⟨rfl, ⟨by show 1 ≤ k + 1; omega, by show k + 1 < _; omega⟩, rfl, rfl⟩)
  have HA := Lib.hid (show D.Apart from by rw [hDD]; constructor <;> (dsimp only; omega))
  clear hDD
  obtain ⟨dd, hdd⟩ : ∃ dd, dd = W6.heap.size := ⟨_, rfl⟩
  refine wp_block ?_
  refine wp_rangeFunc (gf := 56) (lb := #[.pointer (some ⟨lb + 1 + 1, 0, none⟩), .pointer (some ⟨lb + 1, 0, none⟩)]) rfl (enters_of Tryd.func56 (by kernel_rfl) rfl) encT nxtT goT (x.f2, n, []) ?_
    (fun R s W => ∃ Ls, DI D (l0.length + 1) lb dd L0 (vCells l0 us) (x.f2, n, []) R s s Ls ∧ St w Ls W)
    (fun R s W => ∃ Ls, DI D (l0.length + 1) lb dd L0 (vCells l0 us) (x.f2, n, []) R (nxtT s) s Ls ∧ St w Ls W)
    (fun a R s a' W => ∃ Ls bx, DI D (l0.length + 1) lb dd L0 (vCells l0 us) (x.f2, n, []) R (nxtT s) s Ls ∧ St w (Ls ++ [.blk bx 37 (lotCells (outL (s.1.headD ⟨⟨#[]⟩, 0⟩) s.2.1))]) W ∧ a' = { tmps := (a.tmps.setIfInBounds 39 (valT s)).setIfInBounds 12 (.pointer (some ⟨bx, 0, none⟩)), defers := [] })
    ?_ ?_ ?_ ?_ ?_ ?_ ?_ ?_ ?_ ?_
  · intro s; rfl
  · rintro R s W ⟨Ls, h, hs⟩
    rw [← hdd]
    exact ⟨(hs.each _ _ h.dfr).2, (hs.each _ _ h.lop).2⟩
  · rintro R s W ⟨Ls, h, hs⟩
    rw [← hdd]
    exact (hs.each _ _ h.lop).2
  · rintro R s a' W ⟨Ls, bx, h, hs, _⟩
    rw [← hdd]
    exact (hs.each _ _ (get_app h.lop _)).2
  · rintro R R' s W ⟨Ls, h, hs⟩
    rw [← hdd]
    exact ⟨_, h.turn HP.out R', hs.turnObj _ h.lop R'⟩
  · rintro R R' s a' W ⟨Ls, bx, h, hs, e⟩
    rw [← hdd]
    refine ⟨_, bx, h.turn HP.out R', ?_, e⟩
    have := hs.turnObj _ (get_app h.lop _) R'
    rwa [List.set_append_left _ _ (List.getElem?_eq_some_iff.1 h.lop).1] at this
  · intro R W ho h1 h2
    rw [← hdd] at h1 h2
    refine ⟨L0 ++ [.obj dd (.deferred (some [])), .obj (dd + 1) R], ?_, HS.out.join (by rw [hdd]; rw [hdd] at h1 h2; exact St.two ho h1 h2)⟩
    exact di_start hk HX.out hu HUL.out hlo hn1 hn9 HL0.out HDD.out
  · intro R hy W h
    obtain ⟨Ls, h, hs⟩ := h
    have hT := taken_clo D HA.out w (fun s Ls => DI D (l0.length + 1) lb dd L0 (vCells l0 us) (x.f2, n, []) R s s Ls) (fun s Ls => DI D (l0.length + 1) lb dd L0 (vCells l0 us) (x.f2, n, []) R (nxtT s) s Ls)
      (fun s Ls h => ⟨h.tk, h.ok1, h.ok2⟩) (fun s Ls L' h hg ht hk => h.step HP.out hg ht hk) (dd + 1) (x.f2, n, []) (fun s Ls W1 hg h hs => by have := hy s W1 hg ⟨Ls, h, hs⟩; rw [← hdd] at this; exact this) Ls W h hs
    rw [show D.nb = lb + 1 + 1 from by rw [HDD.out], show D.vb = lb + 1 from by rw [HDD.out]] at hT
    rw [← hdd, List.append_toArray, List.cons_append, List.nil_append]
    refine callsIn_wide.2 (hT.mono ?_)
    rintro e W' ⟨h1, s, Ls, h2, h3, h4⟩
    exact ⟨h1, s, h2, Ls, h3, h4⟩
  · rintro R ⟨cur, m, o⟩ W hg ⟨Ls, h, hs⟩
    obtain ⟨y, t, rfl⟩ : ∃ y t, cur = y :: t := by
      cases cur with
      | nil => exact absurd rfl hg.2
      | cons y t => exact ⟨y, t, rfl⟩
    have H := Lib.hid h
    have HS1 := Lib.hid hs
    clear h hs hg
    simp only [encT, valT, List.zip_toArray, List.zip_cons_cons, List.zip_nil_left, List.foldl_toArray', List.foldl_cons, List.foldl_nil, List.setIfInBounds_toArray, List.set_cons_succ, List.set_cons_zero]
    gi_wp2_with (refine wpListIn_of (by rintro ⟨_, _, h⟩; exact h) _ _ _ (by simp) ?_)
    go_wp2
    exact ⟨Ls, W.heap.size, H.out, HS1.out.alloc _ _, rfl⟩
  · rintro R ⟨cur, m, o⟩ a₁ W hg ⟨Ls, bx, h, hs, rfl⟩
    obtain ⟨y, t, rfl⟩ : ∃ y t, cur = y :: t := by
      cases cur with
      | nil => exact absurd rfl hg.2
      | cons y t => exact ⟨y, t, rfl⟩
    have hol : o.length ≤ 900000 := by
      have h1 := congrArg List.length h.snd
      have h2 := takeM_len x.f2 n
      have h3 := HS2.out x (List.mem_of_getElem? HX.out)
      have h4 : (nxtT (y :: t, m, o)).2.2.length = o.length + 1 := by show (o ++ [outL y m]).length = _; simp
      rw [List.length_append, h4] at h1
      have h5 : (takeM (x.f2, n, ([] : List S37)).1 (x.f2, n, ([] : List S37)).2.1).2 = (takeM x.f2 n).2 := rfl
      rw [h5] at h1
      omega
    obtain ⟨v0, v1, v2⟩ := h.var
    obtain ⟨q, hq⟩ : ∃ q, mn m y.f1 = q := ⟨_, rfl⟩
    have hnx : (nxtT (y :: t, m, o)).2.2 = o ++ [⟨y.f0, q⟩] := by rw [← hq]; rfl
    have hve : valT (y :: t, m, o) = .agg #[.string y.f0, .int .i64 q] := by rw [← hq]; rfl
    replace hs : St w (Ls ++ [.blk bx 37 [.string y.f0, .int .i64 q]]) W := by rw [← hq]; exact hs
    rw [hve]
    have HS1 := Lib.hid hs
    have H := Lib.hid h
    have HNX := Lib.hid hnx
    have HV1 := Lib.hid (fun N => get_app v1 N)
    have HV2 := Lib.hid (show ∀ N, (Ls ++ N)[l0.length + 1 + 1]? = some (.row v0 37 2 o.length (lotRow o)) from fun N => get_app v2 N)
    have HBX := Lib.hid (hs.cells Ls.length (get_end Ls _ []))
    have c1 : W.cell? ⟨lb, 0, none⟩ = some v0 := hs.cell (l0.length + 1) 0 (HV1.out _) rfl
    clear h hs hg v1 v2 hq hnx hve
    simp only [List.setIfInBounds_toArray, List.set_cons_succ, List.set_cons_zero]
    gi_wp2_with (refine wpListIn_of (by rintro ⟨_, _, h⟩; exact h) _ _ _ (by simp) ?_)
    go_wp2_with (first
      | (with_reducible refine wpList_load_at rfl 37 (.tmp 12) rfl ⟨bx, 0, none⟩ rfl _ _ HBX.out Tryd.underlying37 rfl (by kernel_rfl) ?_)
      | (with_reducible refine wpList_one rfl 23 (.tmp 41) rfl 37 Tryd.underlying23 (.agg #[.string ⟨#[]⟩, .int .i64 0]) 2 24 infoLt (by omega) (by omega) (.agg #[.string y.f0, .int .i64 q]) rfl #[.string y.f0, .int .i64 q] (fill_one2 (.agg #[.string ⟨#[]⟩, .int .i64 0]) _ _ rfl rfl) ?_; refine (fun (h : Hid _) => h.out) ?_))
    refine Lib.hid ?_
    clear c1
    have HS2 := Lib.hid (HS1.out.alloc [.string y.f0, .int .i64 q] 37)
    have HW1 := Lib.hid (show w.heap.size ≤ W.heap.size from HS1.out.le)
    simp only [List.append_assoc, List.cons_append, List.nil_append] at HS2
    have HNB := Lib.hid (HS2.out.cells (Ls.length + 1) (by rw [List.getElem?_append_right (by omega), Nat.add_sub_cancel_left]; rfl))
    clear HS1 HBX
    generalize W.heap.size = nb at *
    generalize W.alloc _ = Wa at *
    go_wp2_with (first
      | (at_builtin; refine wpList_appendR rfl _ _ 23 rfl HS2.out (l0.length + 1 + 1) (HV2.out _) 24 (.agg #[.string ⟨#[]⟩, .int .i64 0]) Tryd.underlying23 infoLt rfl (by omega) rfl (some ⟨nb, 0, none⟩) 1 1 [.string y.f0, .int .i64 q] rfl rfl (fun _ => ⟨_, rfl, HNB.out⟩) (by simp [Value.oneCell']) (by unfold maxLen; omega) (by omega) ?_; intro A7 c7 W7 h2; have HS3 := h2; clear h2; refine (fun (h : Hid _) => h.out) ?_))
    refine Lib.hid ?_
    have HV3 := Lib.hid (show ((Ls ++ ([.blk bx 37 [.string y.f0, .int .i64 q], .blk nb 37 [.string y.f0, .int .i64 q]] : List Res)).set (l0.length + 1 + 1) (Res.row (.slice A7 (o.length + 1) c7) 37 2 (o.length + 1) (lotRow o ++ [.string y.f0, .int .i64 q])))[l0.length + 1]? = some (Res.blk lb 23 [v0]) from by rw [List.getElem?_set_ne (by omega)]; exact HV1.out _)
    go_wp2_with (first
      | (with_reducible refine wpList_storeB rfl 23 (.tmp 11) (.tmp 43) rfl HS3.out (l0.length + 1) HV3.out 0 (.slice A7 (o.length + 1) c7) rfl rfl [.slice A7 (o.length + 1) c7] rfl (by kernel_rfl) (by simp) (by simp [Value.oneCell']) ?_; intro W8 HS4; refine (fun (h : Hid _) => h.out) ?_))
    refine Lib.hid ?_
    go_wp2
    have hl1 := (List.getElem?_eq_some_iff.1 H.out.var.choose_spec.2).1
    refine ⟨_, H.out.more HP.out (.slice A7 (o.length + 1) c7), ?_⟩
    have h3 := HS4.out
    rw [List.set_append_left _ _ hl1, List.set_append_left _ _ (by rw [List.length_set]; omega)] at h3
    rw [HNX.out, lotRow_append, List.length_append]
    exact h3.front
  · rintro R ⟨cur, m, o⟩ W hg ⟨Ls, h, hs⟩
    obtain ⟨v0, v1, v2⟩ := h.var
    have e1 : takeM cur m = (cur, []) := takeM_stop hg
    have hf : (takeM cur m).1 = (takeM x.f2 n).1 := h.fst
    have hs2 : o ++ (takeM cur m).2 = (takeM x.f2 n).2 := h.snd
    rw [e1] at hf hs2
    have HF1 := Lib.hid (show (takeM x.f2 n).1 = cur from hf.symm)
    have HF2 := Lib.hid (show (takeM x.f2 n).2 = o from by rw [← hs2, List.append_nil])
    have c1 : W.cell? ⟨lb, 0, none⟩ = some v0 := hs.cell (l0.length + 1) 0 v1 rfl
    have H := Lib.hid h
    have HS1 := Lib.hid hs
    have HV2 := Lib.hid v2
    clear h hs v1 v2 hf hs2 e1 hg
    simp only [Exit.inBlock, Exit.then]
    rename_i K hK
    refine hK _ _ ?_
    clear hK K
    go_wp2
    go_region
    simp only [Exit.then]
    rename_i K hK
    refine hK _ _ ?_
    clear hK K
    go_wp2
    have hd := (HS1.out.each _ _ H.out.dfr).2
    rw [hdd] at hd
    refine ⟨by simp, .inl ⟨_, _, rfl, run_takeDeferred (w := W.drew) hd, ?_⟩⟩
    refine ⟨_, results_tmp3 rfl _ _ _, ?_⟩
    have hS7 : St w (Ls.set (l0.length + 1 + 4) (.obj dd (.deferred none))) (W.drew.putObj W6.heap.size (.deferred none)) := by
      rw [← hdd]
      exact (HS1.out.keep (only_drew W)).turnObj _ H.out.dfr _
    obtain ⟨hV, hR⟩ := draw_out hc5 hs1 (HS2.out x (List.mem_of_getElem? HX.out)) HS2.out hk HX.out hu HUL.out hcl HL0.out HDD.out H.out (fun j hj => List.getElem?_set_ne (Ne.symm hj)) hS7 HV2.out
    rw [HF1.out, HF2.out]
    exact ⟨_, _, rfl, hV, hR, hS7.only.nil_below⟩
set_option maxHeartbeats 16000000 in
set_option maxRecDepth 100000 in
theorem ledger_Draw.calls (A0 : Option Addr) (c0 : Nat) (l0 : List S25) (a1 : ByteArray) (a2 : Int) (r1 : List S25) (r2 : List S37) (r3 : Int) (w : World) (hr0 : Kd.C k25 w A0 l0.length l0) (hc0 : l0.length ≤ c0) (hT : Tabs w) (h : ledger_Draw.f l0 a1 a2 = some (r1, r2, r3)) :
    Calls Tryd.prog 18 #[.slice A0 l0.length c0, .string a1, .int .i64 a2] w fun e w' => ∃ v0_ v1_ : Value, e = .returned (.tuple #[v0_, v1_, .int .i64 r3]) ∧ Kd.V k25 25 w' w.heap.size (fun k_ => (w.heap.size ≤ k_) ∧ some k_ ≠ (v1_ : Value).ownBlock) v0_ r1 ∧ Kd.R k37 37 w' w.heap.size (fun _ => True) v1_ r2 ∧ Below w.heap.size w w' := by
  unfold ledger_Draw.f at h
  split at h
  case isFalse => cases h
  rename_i hsm
  obtain ⟨hs1, hs2⟩ := smallV_of hsm
  obtain ⟨e, he, h⟩ := Option.bind_eq_some_iff.1 h
  have HR := Lib.hid hr0
  have HT := Lib.hid hT
  have HS2 := Lib.hid hs2
  have H := Lib.hid h
  have HCK := Lib.hid (ledger_Check.calls 100000 A0 c0 l0 e w hr0 hc0 hT he)
  have HE := Lib.hid he
  clear hsm hs2 h he hr0 hT
  by_cases he0 : e = 0
  rotate_left
  · have h := H.out
    rw [if_neg he0] at h
    obtain ⟨rfl, h2⟩ := Prod.mk.inj (Option.some.inj h)
    obtain ⟨rfl, rfl⟩ := Prod.mk.inj h2
    clear H h h2
    refine (callsIn_wide (n := 0)).1 (callsIn_of_wp_marks Tryd.func18 rfl trivial ?_)
    simp only [Tryd.ntmps18, List.size_toArray, List.length_cons, List.length_nil, Nat.reduceAdd, Nat.reduceSub, Array.replicate_succ, Array.replicate_zero, List.push_toArray, List.append_toArray, List.nil_append, List.cons_append]
    refine (wpIn_wide (n := 0)).2 ?_
    go_wp2_with (go_at_call 12; refine HCK.out.mono ?_; rintro x W1 ⟨rfl, hb1⟩; have HO := Lib.hid (Only.of_below hb1); clear hb1; refine (fun (h : Hid _) => h.out) ?_)
    refine Lib.hid ?_
    clear HCK
    go_wp2
    refine ⟨_, results_tmp3 rfl _ _ _, ?_⟩
    exact ⟨_, _, rfl, Kd.V_nil _ _ _ _ _, Kd.R_nil _ _ _ _ _, HO.out.nil_below⟩
  subst he0
  replace H := Lib.hid (show _ from (if_pos rfl).symm.trans H.out)
  obtain ⟨i, hi, h⟩ := Option.bind_eq_some_iff.1 H.out
  have hilt := find_lt hi
  have HF := Lib.hid hi
  replace H := Lib.hid h
  clear h hi
  by_cases hi0 : i < 0
  · have h := H.out
    rw [if_pos hi0] at h
    obtain ⟨rfl, h2⟩ := Prod.mk.inj (Option.some.inj h)
    obtain ⟨rfl, rfl⟩ := Prod.mk.inj h2
    clear H h h2
    refine (callsIn_wide (n := 0)).1 (callsIn_of_wp_marks Tryd.func18 rfl trivial ?_)
    simp only [Tryd.ntmps18, List.size_toArray, List.length_cons, List.length_nil, Nat.reduceAdd, Nat.reduceSub, Array.replicate_succ, Array.replicate_zero, List.push_toArray, List.append_toArray, List.nil_append, List.cons_append]
    refine (wpIn_wide (n := 0)).2 ?_
    go_wp2_with (go_at_call 12; refine HCK.out.mono ?_; rintro x W1 ⟨rfl, hb1⟩; have HO := Lib.hid (Only.of_below hb1); clear hb1; refine (fun (h : Hid _) => h.out) ?_)
    refine Lib.hid ?_
    clear HCK
    have HFN := Lib.hid (ledger_find.calls A0 c0 l0 a1 i W1 (Kd.C_below HR.out HO.out.nil_below) hc0 HF.out)
    go_wp2_with (go_at_call 33; refine HFN.out.mono ?_; rintro x W3 ⟨rfl, hb1⟩; replace HO := Lib.hid (HO.out.trans (Only.of_below hb1)); clear hb1; refine (fun (h : Hid _) => h.out) ?_)
    refine Lib.hid ?_
    clear HFN HF
    go_wp2
    refine ⟨_, results_tmp3 rfl _ _ _, ?_⟩
    exact ⟨_, _, rfl, Kd.V_nil _ _ _ _ _, Kd.R_nil _ _ _ _ _, HO.out.nil_below⟩
  replace H := Lib.hid (show _ from (if_neg hi0).symm.trans H.out)
  by_cases hn1 : a2 < 1
  · have h := H.out
    rw [if_pos hn1] at h
    obtain ⟨rfl, h2⟩ := Prod.mk.inj (Option.some.inj h)
    obtain ⟨rfl, rfl⟩ := Prod.mk.inj h2
    clear H h h2
    refine (callsIn_wide (n := 0)).1 (callsIn_of_wp_marks Tryd.func18 rfl trivial ?_)
    simp only [Tryd.ntmps18, List.size_toArray, List.length_cons, List.length_nil, Nat.reduceAdd, Nat.reduceSub, Array.replicate_succ, Array.replicate_zero, List.push_toArray, List.append_toArray, List.nil_append, List.cons_append]
    refine (wpIn_wide (n := 0)).2 ?_
    go_wp2_with (go_at_call 12; refine HCK.out.mono ?_; rintro x W1 ⟨rfl, hb1⟩; have HO := Lib.hid (Only.of_below hb1); clear hb1; refine (fun (h : Hid _) => h.out) ?_)
    refine Lib.hid ?_
    clear HCK
    have HFN := Lib.hid (ledger_find.calls A0 c0 l0 a1 i W1 (Kd.C_below HR.out HO.out.nil_below) hc0 HF.out)
    go_wp2_with (go_at_call 33; refine HFN.out.mono ?_; rintro x W3 ⟨rfl, hb1⟩; replace HO := Lib.hid (HO.out.trans (Only.of_below hb1)); clear hb1; refine (fun (h : Hid _) => h.out) ?_)
    refine Lib.hid ?_
    clear HFN HF
    go_wp2
    refine ⟨_, results_tmp3 rfl _ _ _, ?_⟩
    exact ⟨_, _, rfl, Kd.V_nil _ _ _ _ _, Kd.R_nil _ _ _ _ _, HO.out.nil_below⟩
  replace H := Lib.hid (show _ from (if_neg hn1).symm.trans H.out)
  obtain ⟨k, rfl⟩ := Int.eq_ofNat_of_zero_le (show 0 ≤ i by omega)
  have hk : k < l0.length := by omega
  have hkk : (k : Int) < l0.length := by omega
  have hk0 : (0 : Int) ≤ k := by omega
  have erd : rd_T25 l0 k = l0[k] := getD_at l0 _ k hk
  have HX := Lib.hid (List.getElem?_eq_getElem hk)
  rw [erd] at H
  clear erd
  obtain ⟨r, hr, h⟩ := Option.bind_eq_some_iff.1 H.out
  have HLV := Lib.hid hr
  replace H := Lib.hid h
  clear h hr
  by_cases hrn : r < a2
  · have h := H.out
    rw [if_pos hrn] at h
    obtain ⟨rfl, h2⟩ := Prod.mk.inj (Option.some.inj h)
    obtain ⟨rfl, rfl⟩ := Prod.mk.inj h2
    clear H h h2 HX
    refine (callsIn_wide (n := 0)).1 (callsIn_of_wp_marks Tryd.func18 rfl trivial ?_)
    simp only [Tryd.ntmps18, List.size_toArray, List.length_cons, List.length_nil, Nat.reduceAdd, Nat.reduceSub, Array.replicate_succ, Array.replicate_zero, List.push_toArray, List.append_toArray, List.nil_append, List.cons_append]
    refine (wpIn_wide (n := 0)).2 ?_
    go_wp2_with (go_at_call 12; refine HCK.out.mono ?_; rintro x W1 ⟨rfl, hb1⟩; have HO := Lib.hid (Only.of_below hb1); clear hb1; refine (fun (h : Hid _) => h.out) ?_)
    refine Lib.hid ?_
    clear HCK
    have HFN := Lib.hid (ledger_find.calls A0 c0 l0 a1 k W1 (Kd.C_below HR.out HO.out.nil_below) hc0 HF.out)
    go_wp2_with (go_at_call 33; refine HFN.out.mono ?_; rintro x W3 ⟨rfl, hb1⟩; replace HO := Lib.hid (HO.out.trans (Only.of_below hb1)); clear hb1; refine (fun (h : Hid _) => h.out) ?_)
    refine Lib.hid ?_
    clear HFN HF
    obtain ⟨ad, cs, rfl, _, hK, hcs⟩ := Kd.C_cells (Kd.C_below HR.out HO.out.nil_below) k hk
    obtain ⟨A2, c2, rfl, hl2, hk2⟩ := k25_open hK
    have HC := Lib.hid (show CellsAt W3 (ad.add (k * 3)) _ from hcs)
    have HRM := Lib.hid (ledger_Level.calls 100000 l0[k].f0 l0[k].f1 (fun k_ => k_ < W3.heap.size) A2 c2 l0[k].f2 r W3 (Kd.V_mk hl2 (Kd.C_F k37_heap hk2)) (HT.out.below HO.out.nil_below) HLV.out)
    clear hcs hK hl2 hk2 HLV
    generalize hx : l0[k] = x at *
    clear hx
    go_wp2_with (first
      | (with_reducible refine wpList_load_at rfl 25 (.tmp 28) rfl (ad.add (k * 3)) rfl _ _ HC.out Tryd.underlying25 rfl (by kernel_rfl) ?_)
      | (go_at_call 16; refine HRM.out.mono ?_; rintro x W4 ⟨rfl, hb1⟩; replace HO := Lib.hid (HO.out.trans (Only.of_below hb1)); clear hb1; refine (fun (h : Hid _) => h.out) ?_))
    refine Lib.hid ?_
    clear HC HRM
    go_wp2
    refine ⟨_, results_tmp3 rfl _ _ _, ?_⟩
    exact ⟨_, _, rfl, Kd.V_nil _ _ _ _ _, Kd.R_nil _ _ _ _ _, HO.out.nil_below⟩
  have h := (if_neg hrn).symm.trans H.out
  split at h
  case isFalse => cases h
  rename_i hdo
  obtain ⟨rfl, h2⟩ := Prod.mk.inj (Option.some.inj h)
  obtain ⟨rfl, rfl⟩ := Prod.mk.inj h2
  have := draw_ok A0 c0 l0 a1 a2 k r w HR.out hc0 HT.out hs1 HS2.out HE.out HF.out l0[k] HX.out (by omega) HLV.out (by omega) hdo
  exact this
end Go.Proofs.YtejecmjajdhiiaaDoor.Print
/-! ### LgMov -/
namespace Go.Proofs.YtejecmjajdhiiaaDoor.Print
open Go.RowKit Go.Proofs.YtejecmjajdhiiaaDoorW.PrintWords Go.Proofs.YtejecmjajdhiiaaDoorW.PrintLast Go.Proofs.YtejecmjajdhiiaaDoorW.PrintMore
set_option linter.unusedSimpArgs false
set_option linter.unusedVariables false
theorem firstFrom_spec {α : Type} (p : α → Bool) : ∀ (l : List α) (i : Nat) (k : Nat), firstFrom p i l = ((i + k : Nat) : Int) → ∃ x, l[k]? = some x ∧ p x = true
  | [], i, k, h => by unfold firstFrom at h; omega
  | x :: l, i, k, h => by
    unfold firstFrom at h
    split at h
    · rename_i hp
      have : k = 0 := by omega
      subst this
      exact ⟨x, rfl, hp⟩
    · cases k with
      | zero =>
        have h2 : ∀ (l : List α) (i : Nat), firstFrom p i l < 0 ∨ (i : Int) ≤ firstFrom p i l := by
          intro l
          induction l with
          | nil => intro i; left; simp [firstFrom]
          | cons y t ih =>
            intro i
            unfold firstFrom
            split
            · right; omega
            · rcases ih (i + 1) with h | h
              · left; exact h
              · right; omega
        have := h2 l (i + 1)
        omega
      | succ k =>
        obtain ⟨y, h1, h2⟩ := firstFrom_spec p l (i + 1) k (by rw [h]; congr 1; omega)
        exact ⟨y, h1, h2⟩
theorem find_is {l : List S25} {a : ByteArray} {k : Nat} (h : ledger_find.f l a = some (k : Int)) : ∃ x, l[k]? = some x ∧ x.f0.toList = a.toList := by
  unfold ledger_find.f at h
  split at h
  · have h2 := Option.some.inj h
    obtain ⟨x, h1, h3⟩ := firstFrom_spec (vesselIs a) l 0 k (by rw [h2]; simp)
    exact ⟨x, h1, by unfold vesselIs at h3; simpa using h3⟩
  · cases h
theorem find_ne {l : List S25} {a b : ByteArray} {i k : Nat} (h : ledger_find.f l a = some (i : Int)) (h' : ledger_find.f l b = some (k : Int)) (hab : a ≠ b) : k ≠ i := by
  intro e
  subst e
  obtain ⟨x, h1, h2⟩ := find_is h
  obtain ⟨y, h3, h4⟩ := find_is h'
  have : x = y := Option.some.inj (h1.symm.trans h3)
  subst this
  have e2 : a.toList = b.toList := h2.symm.trans h4
  have h5 := bytes_beq a b
  rw [e2, beq_self_eq_true] at h5
  exact hab (of_decide_eq_true h5.symm)
def poursM (l : List S37) (o : List S37) : List S37 := o.foldl pourM l
theorem poursM_more (l o : List S37) (x : S37) : poursM l (o ++ [x]) = pourM (poursM l o) x := by unfold poursM; rw [List.foldl_append]; rfl
def poursOk : List S37 → List S37 → Bool
  | _, [] => true
  | l, x :: t => pourOk l x && poursOk (pourM l x) t
theorem poursOk_at : ∀ (o : List S37) (l : List S37) (x : S37) (t : List S37), poursOk l (o ++ x :: t) = true → pourOk (poursM l o) x = true
  | [], l, x, t, h => by
    have h' : (pourOk l x && poursOk (pourM l x) t) = true := h
    simp only [Bool.and_eq_true] at h'
    exact h'.1
  | y :: o, l, x, t, h => by
    have h' : (pourOk l y && poursOk (pourM l y) (o ++ x :: t)) = true := h
    simp only [Bool.and_eq_true] at h'
    exact poursOk_at o (pourM l y) x t h'.2
theorem pourM_len (l : List S37) (x : S37) : (pourM l x).length ≤ l.length + 1 := by
  unfold pourM
  split
  · split
    · rw [List.length_set]; omega
    · simp
  · simp
theorem poursM_len : ∀ (o l : List S37), (poursM l o).length ≤ l.length + o.length
  | [], l => by show l.length ≤ _; omega
  | x :: o, l => by
    have h1 := poursM_len o (pourM l x)
    have h2 := pourM_len l x
    show (poursM (pourM l x) o).length ≤ _
    simp only [List.length_cons]
    omega
/-- Where Move stands. -/
structure MI (D : TkP) (N k2 kb ob dd : Nat) (outv : Value) (L0 : List Res) (cells0 : List Value) (t0 : TkS) (ys0 : List S37) (R : Obj) (st s : TkS) (Ls : List Res) : Prop where
  tk : Tk D st Ls
  ok1 : ∀ x ∈ st.1, 1 ≤ x.f1 ∧ x.f1 ≤ 1125899906842624
  ok2 : 0 ≤ st.2.1 ∧ st.2.1 ≤ 1125899906842624
  idx : Ls[N]? = some (.blk kb 3 [.int .i64 k2])
  hd : Ls[N + 1]? = some (.blk ob 22 [outv])
  dst : ∃ u, Ls[k2 + 1]? = some (.row u 37 2 (poursM ys0 s.2.2).length (lotRow (poursM ys0 s.2.2))) ∧ ∀ cells, Ls[D.ia]? = some (D.outR cells) → cells[k2 * 3 + 2]? = some u
  dfr : Ls[N + 4]? = some (.obj dd (.deferred (some [])))
  lop : Ls[N + 5]? = some (.obj (dd + 1) R)
  rest : ∀ j, 1 ≤ j → j < N → j ≠ D.ib → j ≠ k2 + 1 → Ls[j]? = L0[j]?
  cel : ∀ cells, Ls[D.ia]? = some (D.outR cells) → ∀ q, q ≠ D.i0 * 3 + 2 → q ≠ k2 * 3 + 2 → cells[q]? = cells0[q]?
  fst : (takeM st.1 st.2.1).1 = (takeM t0.1 t0.2.1).1
  snd : st.2.2 ++ (takeM st.1 st.2.1).2 = (takeM t0.1 t0.2.1).2
structure MPl (D : TkP) (N k2 : Nat) : Prop where
  (ia : D.ia = 0) (ib : D.ib = D.i0 + 1) (ibN : D.ib < N) (ip : D.ip = N + 3) (iq : D.iq = N + 2) (kN : k2 + 1 < N) (ne : k2 ≠ D.i0)
theorem outR_inj {D : TkP} {a b : List Value} (h : D.outR a = D.outR b) : a = b := by
  unfold TkP.outR at h
  injection h
theorem MI.step {D : TkP} {N k2 kb ob dd : Nat} {outv : Value} {L0 : List Res} {cells0 : List Value} {t0 : TkS} {ys0 : List S37} {R : Obj} {s : TkS} {L L' : List Res} (hp : MPl D N k2) (h : MI D N k2 kb ob dd outv L0 cells0 t0 ys0 R s s L) (hg : goT s) (ht : Turned D L L') (hk : Tk D (nxtT s) L') : MI D N k2 kb ob dd outv L0 cells0 t0 ys0 R (nxtT s) s L' := by
  obtain ⟨p1, p2, p2N, p3, p4, p5, p6⟩ := hp
  obtain ⟨o1, o2⟩ := nxt_ok hg h.ok1 h.ok2
  obtain ⟨t1, t2⟩ := takeM_next hg
  obtain ⟨u, u1, u2⟩ := h.dst
  have hnew : ∀ cells, L'[D.ia]? = some (D.outR cells) → ∃ cells1 v, L[D.ia]? = some (D.outR cells1) ∧ cells = cells1.set (D.i0 * 3 + 2) v := by
    intro cells hc
    obtain ⟨n, r, cells1, v, hc1, rfl⟩ := ht
    have hlt := (List.getElem?_eq_some_iff.1 hc1).1
    rw [List.getElem?_set_self (by rw [List.length_set, List.length_set]; exact hlt)] at hc
    exact ⟨cells1, v, hc1, (outR_inj (Option.some.inj hc)).symm⟩
  refine ⟨hk, o1, o2, (ht.other (by omega) (by omega) (by omega)).trans h.idx, (ht.other (by omega) (by omega) (by omega)).trans h.hd, ⟨u, (ht.other (by omega) (by omega) (by omega)).trans u1, fun cells hc => ?_⟩, (ht.other (by omega) (by omega) (by omega)).trans h.dfr, (ht.other (by omega) (by omega) (by omega)).trans h.lop,
    fun j h1 h2 h3 h4 => (ht.other (by omega) h3 (by omega)).trans (h.rest j h1 h2 h3 h4), fun cells hc q hq hq2 => ?_, t1.trans h.fst, t2.trans h.snd⟩
  · obtain ⟨cells1, v, hc1, rfl⟩ := hnew cells hc
    rw [List.getElem?_set_ne (by omega)]
    exact u2 cells1 hc1
  · obtain ⟨cells1, v, hc1, rfl⟩ := hnew cells hc
    rw [List.getElem?_set_ne (Ne.symm hq)]
    exact h.cel cells1 hc1 q hq hq2
theorem MI.turn {D : TkP} {N k2 kb ob dd : Nat} {outv : Value} {L0 : List Res} {cells0 : List Value} {t0 : TkS} {ys0 : List S37} {R : Obj} {st s : TkS} {L : List Res} (hp : MPl D N k2) (h : MI D N k2 kb ob dd outv L0 cells0 t0 ys0 R st s L) (R' : Obj) : MI D N k2 kb ob dd outv L0 cells0 t0 ys0 R' st s (L.set (N + 5) (.obj (dd + 1) R')) := by
  obtain ⟨p1, p2, p2N, p3, p4, p5, p6⟩ := hp
  obtain ⟨u, u1, u2⟩ := h.dst
  have e : ∀ j, j ≠ N + 5 → (L.set (N + 5) (.obj (dd + 1) R'))[j]? = L[j]? := fun j hj => List.getElem?_set_ne (Ne.symm hj)
  exact ⟨h.tk.move (e _ (by omega)) (e _ (by omega)) (e _ (by omega)) (e _ (by omega)), h.ok1, h.ok2, (e _ (by omega)).trans h.idx, (e _ (by omega)).trans h.hd, ⟨u, (e _ (by omega)).trans u1, fun cells hc => u2 cells ((e _ (by omega)).symm.trans hc)⟩, (e _ (by omega)).trans h.dfr, List.getElem?_set_self (List.getElem?_eq_some_iff.1 h.lop).1,
    fun j h1 h2 h3 h4 => (e _ (by omega)).trans (h.rest j h1 h2 h3 h4), fun cells hc => h.cel cells ((e _ (by omega)).symm.trans hc), h.fst, h.snd⟩
/-- The body has run: one lot has been poured. -/
theorem MI.more {D : TkP} {N k2 kb ob dd : Nat} {outv : Value} {L0 : List Res} {cells0 : List Value} {t0 : TkS} {ys0 : List S37} {R : Obj} {s : TkS} {L : List Res} (hp : MPl D N k2) (h : MI D N k2 kb ob dd outv L0 cells0 t0 ys0 R (nxtT s) s L) (u' : Value) {cells : List Value} (hc : L[D.ia]? = some (D.outR cells)) (hcl : k2 * 3 + 2 < cells.length) {ys : List S37} (hys : poursM ys0 (nxtT s).2.2 = ys) :
    MI D N k2 kb ob dd outv L0 cells0 t0 ys0 R (nxtT s) (nxtT s) ((L.set (k2 + 1) (.row u' 37 2 ys.length (lotRow ys))).set D.ia (D.outR (cells.set (k2 * 3 + 2) u'))) := by
  obtain ⟨p1, p2, p2N, p3, p4, p5, p6⟩ := hp
  obtain ⟨u, u1, u2⟩ := h.dst
  have hl1 := (List.getElem?_eq_some_iff.1 u1).1
  have hl0 := (List.getElem?_eq_some_iff.1 hc).1
  have e : ∀ j, j ≠ D.ia → j ≠ k2 + 1 → ((L.set (k2 + 1) (.row u' 37 2 ys.length (lotRow ys))).set D.ia (D.outR (cells.set (k2 * 3 + 2) u')))[j]? = L[j]? := fun j hj hj2 => by rw [List.getElem?_set_ne (Ne.symm hj), List.getElem?_set_ne (Ne.symm hj2)]
  have e0 : ((L.set (k2 + 1) (.row u' 37 2 ys.length (lotRow ys))).set D.ia (D.outR (cells.set (k2 * 3 + 2) u')))[D.ia]? = some (D.outR (cells.set (k2 * 3 + 2) u')) := List.getElem?_set_self (by rw [List.length_set]; exact hl0)
  have hnew : ∀ cells2, ((L.set (k2 + 1) (.row u' 37 2 ys.length (lotRow ys))).set D.ia (D.outR (cells.set (k2 * 3 + 2) u')))[D.ia]? = some (D.outR cells2) → cells2 = cells.set (k2 * 3 + 2) u' := fun cells2 h2 => (outR_inj (Option.some.inj (e0.symm.trans h2))).symm
  obtain ⟨pre, cells1, A, hF⟩ := h.tk
  obtain rfl : cells1 = cells := outR_inj (Option.some.inj (hF.out.symm.trans hc))
  refine ⟨⟨pre, cells1.set (k2 * 3 + 2) u', A, hF.len, e0, ?_, hF.adr, (e _ (by omega) (by omega)).trans hF.lot, (e _ (by omega) (by omega)).trans hF.num, (e _ (by omega) (by omega)).trans hF.ptr⟩, h.ok1, h.ok2, (e _ (by omega) (by omega)).trans h.idx, (e _ (by omega) (by omega)).trans h.hd, ⟨u', ?_, fun cells2 h2 => ?_⟩, (e _ (by omega) (by omega)).trans h.dfr, (e _ (by omega) (by omega)).trans h.lop,
    fun j h1 h2 h3 h4 => (e _ (by omega) h4).trans (h.rest j h1 h2 h3 h4), fun cells2 h2 q hq hq2 => ?_, h.fst, h.snd⟩
  · rw [List.getElem?_set_ne (by omega)]
    exact hF.hdr
  · rw [hys, List.getElem?_set_ne (by omega)]
    exact List.getElem?_set_self hl1
  · rw [hnew cells2 h2]
    exact List.getElem?_set_self hcl
  · rw [hnew cells2 h2, List.getElem?_set_ne (Ne.symm hq2)]
    exact h.cel cells1 hc q hq hq2
end Go.Proofs.YtejecmjajdhiiaaDoor.Print
/-! ### LIn -/
namespace Go.Proofs.YtejecmjajdhiiaaDoor
open Go.RowKit
section
variable {P : Program} {ops : Array Oper} {Q : Exit → Act → World → Prop} {md : Region.Mode}
theorem wpAnyIn_of {l n : Nat} (hQ : ¬ LetsOut Q) (hnd : ∀ o ∈ ops.toList, ∀ c, o.op ≠ .defer c) : ∀ (fuel : Nat) (listed : Array Bool) (a : Act) (w : World), wpAny P md ops Q fuel listed a w → wpAnyIn (Fence.wide.inRound l) n P md ops Q fuel listed a w
  | 0, _, _, _, h => h
  | fuel + 1, listed, a, w, h => by
    refine ⟨h.1, fun i hi => ?_⟩
    have h2 := h.2 i hi
    unfold wpOp at h2
    unfold wpOpIn
    split at h2
    · rename_i ho
      rw [ho]
      exact wpAnyIn_of hQ hnd fuel _ _ _ h2
    · rename_i o ho
      rw [ho]
      have hno : ∀ c, o.op ≠ .defer c := hnd o (by
        have h1 := Array.mem_of_getElem? ho
        simpa using h1)
      dsimp only
      split at h2
      · rename_i hw
        rw [if_pos hw]
        rcases h2 with h2 | ⟨_, h2⟩
        · refine ⟨fun _ _ => trivial, ?_⟩
          show o.uponIn (Fence.wide.inRound l) n P a _ Q (Sem.run P (Oper.semAt (some l) a.eval o) w)
          rw [Oper.semAt_some l _ _ hno]
          exact upon_in (fun a' w' h' => wpAnyIn_of hQ hnd fuel _ a' w' h') h2
        · exact absurd h2 hQ
      · rename_i hw
        rw [if_neg hw]
        exact ⟨fun _ _ => trivial, wpAnyIn_of hQ hnd fuel _ _ _ h2⟩
end
namespace L
section
variable {P : Program} {ops : Array Oper} {Q : Exit → Act → World → Prop}
/-- The beginning, within a round. -/
theorem grow_start_in {l k : Nat} (hQl : ¬ LetsOut Q) (hnd : ∀ o ∈ ops.toList, ∀ c, o.op ≠ .defer c) (S : List Nat) (z : Nat) (T : List (Nat × Bool × Bool)) {id : Nat} {a : Act} {w : World} (hm : P.follows .mixedOrders = true)
    (tab : List Row) (htab : tabOf .any ops = tab) (hs : Region.noSelect ops = true) {n : Nat} (hn : ops.size = n) (hT : (lastT (plains ops) tab n z && rowsT tab n z T (List.replicate n false) && T.length == n) = true)
    (hQ : ∀ c (a : Act) t v w, Q (.panic c) (a.put (some t) v) w → Q (.panic c) a w)
    (h : ∀ w1, Only [] w w1 → GrowL P ops Q S z T a w1) : (Code.region id ops true).wpIn (Fence.wide.inRound l) k P Q a w := by
  subst htab
  subst hn
  simp only [Bool.and_eq_true, beq_iff_eq] at hT
  obtain ⟨⟨h2, h1⟩, h3⟩ := hT
  have ho : Only [] w { w with drawn := w.drawn + 1 } := ⟨rfl, rfl, rfl, Nat.le_refl _, fun _ _ _ => rfl⟩
  refine wpIn_region_any hm (wpAnyIn_of hQl hnd _ _ _ _ (wpAny_of_grow (S := S) (z := z) _ _ _ _ ?_))
  have := grow_of_rows (S := S) (z := z) (lastT_spec h2) hs (fun c a d v w h => by cases d with | none => exact h | some t => exact hQ c a t v w h) T _ h1 (fun j oj _ hl => by exfalso; rw [Array.getD_eq_getD_getElem?, List.getElem?_toArray, List.getElem?_replicate] at hl; split at hl <;> simp at hl) a _ (h _ ho)
  rw [h3, List.toArray_replicate] at this
  exact this
/-- A call that writes, come to when all else is done. -/
theorem ge_lastcall {S : List Nat} {z : Nat} {f : Bool} {oi : Oper} {d : Nat} {T : List (Nat × Bool × Bool)} {a : Act} {w : World} {N : Nat} {env : List (Nat × Value)} {g : FuncId} {xs : Array Operand} {tys : Array TypeId} {vs : Array Value} (hi : ops[z]? = some oi) (hdst : oi.dst = some d) (hd : decide (d < N) = true) (hw : wantE ops env oi = some true)
    (hx : oi.op = .call { callee := .value (.func g), args := xs, argTypes := tys }) (hvs : xs.map (evE a env) = vs) (hcf : (callFunc g vs).run P w = .ok (.enter g vs) w)
    (h : Calls P g vs w fun e w' => ∃ v, e = .returned v ∧ GrowE P ops Q S z T a N ((d, v) :: env) w') : GrowE P ops Q S z ((z, f, true) :: T) a N env w := by
  intro hN he
  subst hN
  refine growl_alone hi (wantE_spec a he hw) ?_
  unfold Oper.wp execOp
  rw [puts_eval a env he, hx]
  have hr : (do let d ← resolve (evE a env) { callee := .value (.func g), args := xs, argTypes := tys } oi.type; invoke d.target d.args).run P w = .ok (.enter g vs) w := by
    simp only [resolve, Sem.run_bind, hvs]
    have e1 : (evE a env (.func g)) = .func (.func g) #[] #[] := rfl
    rw [e1]
    simp only [Deferred.ofValue]
    simp [invoke, hcf]
  rw [hr]
  simp only [Oper.upon]
  refine Calls.mono h fun e w' ⟨v, he', hg⟩ => ?_
  subst he'
  refine ⟨by simp, ?_⟩
  rw [hdst]
  exact hg rfl (more_lt (of_decide_eq_true hd) he)
end
end L
end Go.Proofs.YtejecmjajdhiiaaDoor
/-! ### EMove -/
namespace Go.Proofs.YtejecmjajdhiiaaDoor.Print
open Go.RowKit Go.Proofs.YtejecmjajdhiiaaDoorW.PrintWords Go.Proofs.YtejecmjajdhiiaaDoorW.PrintLast Go.Proofs.YtejecmjajdhiiaaDoorW.PrintMore
set_option linter.unusedSimpArgs false
set_option linter.unusedVariables false
theorem mi_start {l0 : List S25} {us : List Value} {i k2 g c5 gl cl kb ob dd : Nat} {x y : S25} {n : Int} {R : Obj} {L0 : List Res} {D : TkP} {outv : Value} (hk : i < l0.length) (hk2 : k2 < l0.length) (hx : l0[i]? = some x) (hy : l0[k2]? = some y) (hu : us[i]? = some (.slice (some ⟨gl, 0, none⟩) x.f2.length cl)) (hul : us.length = l0.length) (hlo : lotsOk x.f2 = true) (hn1 : 1 ≤ n) (hn9 : n ≤ 1125899906842624)
    (hL : L0 = vRes (.slice (some ⟨g, 0, none⟩) l0.length c5) us l0 ++ [.blk kb 3 [.int .i64 k2], .blk ob 22 [outv], .blk (ob + 1) 64 [.pointer (some ⟨g, i * 3, none⟩)], .blk (ob + 1 + 1) 3 [.int .i64 n]])
    (hD : D = ⟨0, i + 1, l0.length + 1 + 3, l0.length + 1 + 2, g, c5, l0.length, i, gl, cl, x.f2.length, ob + 1 + 1, ob + 1⟩) :
    MI D (l0.length + 1) k2 kb ob dd outv L0 (vCells l0 us) (x.f2, n, []) y.f2 R (x.f2, n, []) (x.f2, n, []) (L0 ++ [.obj dd (.deferred (some [])), .obj (dd + 1) R]) := by
  have hvl : (vRes (.slice (some ⟨g, 0, none⟩) l0.length c5) us l0).length = l0.length + 1 := by
    show (lotRes us l0).length + 1 = _
    unfold lotRes
    rw [List.length_zipWith, hul, Nat.min_self]
  have e0 : ∀ N, (vRes (.slice (some ⟨g, 0, none⟩) l0.length c5) us l0 ++ N)[0]? = some (.row (.slice (some ⟨g, 0, none⟩) l0.length c5) 25 3 l0.length (vCells l0 us)) := fun N => rfl
  have ek : ∀ N, (vRes (.slice (some ⟨g, 0, none⟩) l0.length c5) us l0 ++ N)[i + 1]? = some (.row (.slice (some ⟨gl, 0, none⟩) x.f2.length cl) 37 2 x.f2.length (lotRow x.f2)) := fun N => get_app (by exact lotRes_get hx hu) N
  have hu2 : us[k2]? = some us[k2] := List.getElem?_eq_getElem (by omega)
  have ek2 : ∀ N, (vRes (.slice (some ⟨g, 0, none⟩) l0.length c5) us l0 ++ N)[k2 + 1]? = some (.row us[k2] 37 2 y.f2.length (lotRow y.f2)) := fun N => get_app (by exact lotRes_get hy hu2) N
  have ej : ∀ (N : List Res) (j : Nat), (vRes (.slice (some ⟨g, 0, none⟩) l0.length c5) us l0 ++ N)[l0.length + 1 + j]? = N[j]? := fun N j => by rw [List.getElem?_append_right (by omega), hvl, Nat.add_sub_cancel_left]
  have hcin : ∀ (N : List Res) cells, (vRes (.slice (some ⟨g, 0, none⟩) l0.length c5) us l0 ++ N)[0]? = some (D.outR cells) → cells = vCells l0 us := by
    intro N cells hc
    subst hD
    exact (outR_inj (D := ⟨0, i + 1, l0.length + 1 + 3, l0.length + 1 + 2, g, c5, l0.length, i, gl, cl, x.f2.length, ob + 1 + 1, ob + 1⟩) (Option.some.inj ((e0 N).symm.trans hc))).symm
  subst hL hD
  rw [List.append_assoc]
  refine ⟨⟨[], vCells l0 us, some ⟨gl, 0, none⟩, ?_, e0 _, ?_, fun _ => ?_, ek _, ej _ 3, ej _ 2⟩, lotsOk_of hlo, ⟨by show 0 ≤ n; omega, hn9⟩, ej _ 0, ej _ 1, ⟨us[k2], ek2 _, fun cells hc => ?_⟩, ej _ 4, ej _ 5, fun j h1 h2 h3 h4 => ?_, fun cells hc q hq hq2 => ?_, rfl, rfl⟩
  · show 0 + x.f2.length = x.f2.length
    omega
  · exact (vCells_get hx hu).2.2
  · show some (⟨gl, 0, none⟩ : Addr) = some ⟨gl, 0 * 2, none⟩
    rw [Nat.zero_mul]
  · rw [hcin _ cells hc]
    exact (vCells_get hy hu2).2.2
  · rw [List.getElem?_append_left (by rw [hvl]; exact h2), List.getElem?_append_left (by rw [hvl]; exact h2)]
  · rw [hcin _ cells hc]
theorem move_out {l0 : List S25} {us : List Value} {i k2 g c5 gl cl kb ob dd : Nat} {x y : S25} {n m : Int} {cur o : List S37} {R : Obj} {L0 Ls L2 : List Res} {D : TkP} {outv : Value} {w W : World} (hc5 : l0.length ≤ c5) (hs1 : l0.length ≤ 1000000) (hlx : ∀ z ∈ l0, z.f2.length ≤ 900000) (hk : i < l0.length) (hk2 : k2 < l0.length) (hne : k2 ≠ i) (hx : l0[i]? = some x) (hy : l0[k2]? = some y) (hu : us[i]? = some (.slice (some ⟨gl, 0, none⟩) x.f2.length cl)) (hul : us.length = l0.length) (hcl : x.f2.length ≤ cl) (hol : o.length ≤ 900000)
    (hL : L0 = vRes (.slice (some ⟨g, 0, none⟩) l0.length c5) us l0 ++ [.blk kb 3 [.int .i64 k2], .blk ob 22 [outv], .blk (ob + 1) 64 [.pointer (some ⟨g, i * 3, none⟩)], .blk (ob + 1 + 1) 3 [.int .i64 n]])
    (hD : D = ⟨0, i + 1, l0.length + 1 + 3, l0.length + 1 + 2, g, c5, l0.length, i, gl, cl, x.f2.length, ob + 1 + 1, ob + 1⟩)
    (h : MI D (l0.length + 1) k2 kb ob dd outv L0 (vCells l0 us) (x.f2, n, []) y.f2 R (cur, m, o) (cur, m, o) Ls) (he : ∀ j, j ≠ l0.length + 1 + 4 → L2[j]? = Ls[j]?) (hs : St w L2 W) :
    Kd.V k25 25 W w.heap.size (fun k_ => w.heap.size ≤ k_) (.slice (some ⟨g, 0, none⟩) l0.length c5) ((l0.set i (turned x cur)).set k2 (turned y (poursM y.f2 o))) := by
  obtain ⟨pre, cells, A, hF⟩ := h.tk
  have hvl : (vRes (.slice (some ⟨g, 0, none⟩) l0.length c5) us l0).length = l0.length + 1 := by
    show (lotRes us l0).length + 1 = _
    unfold lotRes
    rw [List.length_zipWith, hul, Nat.min_self]
  have hx2 := hlx x (List.mem_of_getElem? hx)
  have hy2 := hlx y (List.mem_of_getElem? hy)
  have hpl := poursM_len o y.f2
  have hout := hF.out
  have hcel := h.cel
  have hrest := h.rest
  have hlot := hF.lot
  have hhdr := hF.hdr
  have hadr := hF.adr
  have hlen := hF.len
  obtain ⟨u2, hv1, hv2⟩ := h.dst
  subst hD
  dsimp only at hout hcel hrest hlot hhdr hadr hlen hv1 hv2
  replace hv2 := hv2 cells hout
  obtain ⟨h0, hh0⟩ : ∃ h0, h0 = Value.slice A cur.length (cl - pre.length) := ⟨_, rfl⟩
  rw [← hh0] at hhdr
  have huk : us[k2]? = some us[k2] := List.getElem?_eq_getElem (by omega)
  have huk2 : (us.set i h0)[k2]? = some us[k2] := by rw [List.getElem?_set_ne (Ne.symm hne)]; exact huk
  have hcells : cells = vCells l0 ((us.set i h0).set k2 u2) := by
    rw [← vCells_set hy huk2, ← vCells_set hx hu]
    have hcl0 : (vCells l0 us).length = l0.length * 3 := vCells_length _ _ hul
    refine List.ext_getElem? (fun q => ?_)
    by_cases hq2 : q = k2 * 3 + 2
    · subst hq2
      rw [hv2, List.getElem?_set_self]
      rw [List.length_set, hcl0]
      omega
    · rw [List.getElem?_set_ne (Ne.symm hq2)]
      by_cases hq : q = i * 3 + 2
      · subst hq
        rw [hhdr, List.getElem?_set_self]
        rw [hcl0]
        omega
      · rw [List.getElem?_set_ne (Ne.symm hq)]
        exact hcel cells hout q hq hq2
  have hy' : (l0.set i (turned x cur))[k2]? = some y := by rw [List.getElem?_set_ne (Ne.symm hne)]; exact hy
  have hlg : ((l0.set i (turned x cur)).set k2 (turned y (poursM y.f2 o))).length = l0.length := by rw [List.length_set, List.length_set]
  rw [← hlg]
  refine Kd.V_mk (by rw [hlg]; exact hc5) (fun W' hW => ?_)
  have hmv : ∀ (j : Nat) (r : Res), L2[j]? = some r → r.holds W' w.heap.size := fun j r hj =>
    Res.holds.move (hs.each j r hj) (fun k' hk' => hW k' (hs.lt hj hk').1 (hs.lt hj hk').2)
  refine C_ves (hs := (us.set i h0).set k2 u2) (by rw [List.length_set, List.length_set, hlg, hul]) (by rw [hlg]; omega) (fun _ => ?_) (fun j xx u hj hu2 => ?_)
  · rw [vCells_turned (poursM y.f2 o) hy', vCells_turned cur hx, ← hcells]
    exact ownsRow_at (hmv 0 _ ((he _ (by omega)).trans hout)) (by show 0 < l0.length; omega)
  · by_cases hjk2 : j = k2
    · subst hjk2
      rw [List.getElem?_set_self (by rw [List.length_set]; exact hk2)] at hj
      rw [List.getElem?_set_self (by rw [List.length_set]; omega)] at hu2
      obtain rfl := Option.some.inj hj
      obtain rfl := Option.some.inj hu2
      exact S_lots (l := poursM y.f2 o) (hmv (j + 1) _ ((he _ (by omega)).trans hv1)) (by omega)
    rw [List.getElem?_set_ne (Ne.symm hjk2)] at hj hu2
    by_cases hjk : j = i
    · subst hjk
      rw [List.getElem?_set_self hk] at hj
      rw [List.getElem?_set_self (by omega)] at hu2
      obtain rfl := Option.some.inj hj
      obtain rfl := Option.some.inj hu2
      refine ⟨A, cl - pre.length, hh0, by show cur.length ≤ _; omega, C_lots (by show cur.length ≤ _; omega) (fun hp => ?_)⟩
      have hne2 : cur ≠ [] := List.length_pos_iff.1 hp
      have ha := hadr hne2
      have hp2 : 0 < cur.length := hp
      refine ⟨_, ha, ?_⟩
      obtain ⟨ad, e1, h1⟩ := ownsRow_at (hmv (j + 1) _ ((he _ (by omega)).trans hlot)) (by show 0 < x.f2.length; omega)
      obtain rfl := Option.some.inj e1
      intro i u hi
      have hi2 : (lotRow cur)[i]? = some u := hi
      have h2 := h1 (pre.length * 2 + i) u (by rw [lotRow_append, List.getElem?_append_right (by rw [lotRow_length]; omega), lotRow_length, Nat.add_sub_cancel_left]; exact hi2)
      rw [addr_shift] at h2
      exact h2
    · rw [List.getElem?_set_ne (Ne.symm hjk)] at hj hu2
      have hjl : j < l0.length := (List.getElem?_eq_some_iff.1 hj).1
      have h1 : L2[j + 1]? = some (.row u 37 2 xx.f2.length (lotRow xx.f2)) := by
        rw [he _ (by omega), hrest (j + 1) (by omega) (by omega) (by omega) (by omega), hL]
        exact get_app (by exact lotRes_get hj hu2) _
      exact S_lots (hmv (j + 1) _ h1) (by have := hlx xx (List.mem_of_getElem? hj); omega)
def moveOk (x y : S25) (n : Int) : Bool := drawOk x.f2 n && poursOk y.f2 (takeM x.f2 n).2 && decide (x.f2.length + y.f2.length ≤ 900000)
def movedM (l : List S25) (i k : Nat) (x y : S25) (n : Int) : List S25 := (l.set i (turned x (takeM x.f2 n).1)).set k (turned y (poursM y.f2 (takeM x.f2 n).2))
def ledger_Move.f (l : List S25) (a b : ByteArray) (n : Int) : Option (List S25 × Int) :=
  if smallV l = true then
    (ledger_Check.f 100000 l).bind fun e => if e = 0 then
      if a = b then some ([], 1) else
      (ledger_find.f l a).bind fun i => (ledger_find.f l b).bind fun k => if i < 0 then some ([], 4) else if k < 0 then some ([], 4) else if n < 1 then some ([], 130) else
        (ledger_Level.f 100000 (rd_T25 l i).f0 (rd_T25 l i).f1 (rd_T25 l i).f2).bind fun r => if r < n then some ([], 130) else
          (ledger_room.f 100000 (rd_T25 l k).f0 (rd_T25 l k).f1 (rd_T25 l k).f2).bind fun q => if q < n then some ([], 130) else
            if moveOk (rd_T25 l i) (rd_T25 l k) n = true then some (outV (movedM l i.toNat k.toNat (rd_T25 l i) (rd_T25 l k) n)) else none
    else some ([], 1)
  else none
theorem St.swap {w0 w : World} {A B : List Res} (h : St w0 (A ++ B) w) : St w0 (B ++ A) w := by
  refine h.pickN (A.length + B.length) (by simp [Nat.add_comm]) (fun i => if i < B.length then A.length + i else i - B.length) (fun i hi j hj e => ?_) (fun i r hi => ?_)
  · try dsimp only at e
    split at e <;> split at e <;> omega
  · try dsimp only
    split
    · rename_i hlt
      rw [List.getElem?_append_left hlt] at hi
      rw [List.getElem?_append_right (by omega), Nat.add_sub_cancel_left]
      exact hi
    · rename_i hlt
      rw [List.getElem?_append_right (by omega)] at hi
      have := (List.getElem?_eq_some_iff.1 hi).1
      rw [List.getElem?_append_left (by omega)]
      exact hi
set_option maxHeartbeats 16000000 in
set_option maxRecDepth 100000 in
theorem move_ok (A0 : Option Addr) (c0 : Nat) (l0 : List S25) (a1 a2 : ByteArray) (n : Int) (i k : Nat) (r q : Int) (w : World) (hr0 : Kd.C k25 w A0 l0.length l0) (hc0 : l0.length ≤ c0) (hT : Tabs w) (hs1 : l0.length ≤ 1000000) (hs2 : ∀ x ∈ l0, x.f2.length ≤ 900000)
    (he : ledger_Check.f 100000 l0 = some 0) (hab : a1 ≠ a2) (hf : ledger_find.f l0 a1 = some (i : Int)) (hf2 : ledger_find.f l0 a2 = some (k : Int)) (x y : S25) (hx : l0[i]? = some x) (hy : l0[k]? = some y) (hn1 : 1 ≤ n) (hlv : ledger_Level.f 100000 x.f0 x.f1 x.f2 = some r) (hrn : n ≤ r) (hrm : ledger_room.f 100000 y.f0 y.f1 y.f2 = some q) (hqn : n ≤ q) (hmo : moveOk x y n = true) (out : List S25) (hout : out = movedM l0 i k x y n) :
    Calls Tryd.prog 26 #[.slice A0 l0.length c0, .string a1, .string a2, .int .i64 n] w fun e w' => ∃ v0_ : Value, e = .returned (.tuple #[v0_, .int .i64 (outV out).2]) ∧ Kd.V k25 25 w' w.heap.size (fun k_ => (w.heap.size ≤ k_)) v0_ (outV out).1 ∧ Below w.heap.size w w' := by
  have hi : i < l0.length := (List.getElem?_eq_some_iff.1 hx).1
  have hk : k < l0.length := (List.getElem?_eq_some_iff.1 hy).1
  have hii : (i : Int) < l0.length := by omega
  have hkk : (k : Int) < l0.length := by omega
  have hi0 : (0 : Int) ≤ i := by omega
  have hk0 : (0 : Int) ≤ k := by omega
  have HNE := Lib.hid (find_ne hf hf2 hab)
  have HX := Lib.hid hx
  have HY := Lib.hid hy
  have HR := Lib.hid hr0
  have HT := Lib.hid hT
  have HS2 := Lib.hid hs2
  have HF := Lib.hid hf
  have HF2 := Lib.hid hf2
  have HLV := Lib.hid hlv
  have HRM := Lib.hid hrm
  have HMO := Lib.hid hmo
  have HOUT := Lib.hid hout
  have hrn' : ¬ r < n := by omega
  have hqn' : ¬ q < n := by omega
  have hn1' : ¬ n < 1 := by omega
  have hab' : (a1.toList == a2.toList) = false := by rw [bytes_beq]; exact decide_eq_false hab
  have HCK := Lib.hid (ledger_Check.calls 100000 A0 c0 l0 0 w hr0 hc0 hT he)
  clear hx hy hr0 hT hs2 hf hf2 hlv hrm hmo he hrn hqn hab hout
  refine (callsIn_wide (n := 0)).1 (callsIn_of_wp_marks Tryd.func26 rfl trivial ?_)
  simp only [Tryd.ntmps26, List.size_toArray, List.length_cons, List.length_nil, Nat.reduceAdd, Nat.reduceSub, Array.replicate_succ, Array.replicate_zero, List.push_toArray, List.append_toArray, List.nil_append, List.cons_append]
  refine (wpIn_wide (n := 0)).2 ?_
  go_wp2_with (go_at_call 12; refine HCK.out.mono ?_; rintro x W1 ⟨rfl, hb1⟩; have HO := Lib.hid (Only.of_below hb1); clear hb1; refine (fun (h : Hid _) => h.out) ?_)
  refine Lib.hid ?_
  clear HCK
  have HFN := Lib.hid (ledger_find.calls A0 c0 l0 a1 i W1 (Kd.C_below HR.out HO.out.nil_below) hc0 HF.out)
  go_wp2_with (go_at_call 33; refine HFN.out.mono ?_; rintro x W3 ⟨rfl, hb1⟩; replace HO := Lib.hid (HO.out.trans (Only.of_below hb1)); clear hb1; refine (fun (h : Hid _) => h.out) ?_)
  refine Lib.hid ?_
  clear HFN HF
  replace HFN := Lib.hid (ledger_find.calls A0 c0 l0 a2 k W3 (Kd.C_below HR.out HO.out.nil_below) hc0 HF2.out)
  go_wp2_with (go_at_call 33; refine HFN.out.mono ?_; rintro x W4 ⟨rfl, hb1⟩; replace HO := Lib.hid (HO.out.trans (Only.of_below hb1)); clear hb1; refine (fun (h : Hid _) => h.out) ?_)
  refine Lib.hid ?_
  clear HFN HF2
  have HS := Lib.hid ((St.of_only HO.out).alloc [.int .i64 k] 3)
  simp only [List.nil_append] at HS
  have HRD := Lib.hid (Kd.C_below HR.out HS.out.only.nil_below)
  obtain ⟨ad, cs, rfl, _, hK, hcs⟩ := Kd.C_cells HRD.out i hi
  rw [(List.getElem?_eq_some_iff.1 HX.out).2] at hK
  obtain ⟨A2, c2, rfl, hl2, hk2⟩ := k25_open hK
  have HC := Lib.hid (show CellsAt (W4.alloc (.cells #[.int .i64 (k : Int)] 3)) (ad.add (i * 3)) _ from hcs)
  have HRL := Lib.hid (ledger_Level.calls 100000 x.f0 x.f1 (fun k_ => k_ < (W4.alloc (.cells #[.int .i64 (k : Int)] 3)).heap.size) A2 c2 x.f2 r (W4.alloc (.cells #[.int .i64 (k : Int)] 3)) (Kd.V_mk hl2 (Kd.C_F k37_heap hk2)) (HT.out.below HS.out.only.nil_below) HLV.out)
  clear hcs hK hl2 hk2 HLV HO HRD
  go_wp2_with (first
    | (with_reducible refine wpList_load_at rfl 25 (.tmp 39) rfl (ad.add (i * 3)) rfl _ _ HC.out Tryd.underlying25 rfl (by kernel_rfl) ?_)
    | (go_at_call 16; refine HRL.out.mono ?_; rintro x W5 ⟨rfl, hb1⟩; replace HS := Lib.hid (HS.out.keep (Only.of_below hb1)); clear hb1; refine (fun (h : Hid _) => h.out) ?_))
  refine Lib.hid ?_
  clear HC HRL
  generalize W4.heap.size = kb at *
  obtain ⟨cs, _, hK, hcs⟩ : ∃ cs, cs.length = k25.sz ∧ k25.K W5 l0[k] cs ∧ CellsAt W5 (ad.add (k * k25.sz)) cs := by
    obtain ⟨ad2, cs, e, h1, h2, h3⟩ := Kd.C_cells (Kd.C_below HR.out HS.out.only.nil_below) k hk
    obtain rfl := Option.some.inj e
    exact ⟨cs, h1, h2, h3⟩
  rw [(List.getElem?_eq_some_iff.1 HY.out).2] at hK
  obtain ⟨A3, c3, rfl, hl3, hk3⟩ := k25_open hK
  have HC := Lib.hid (show CellsAt W5 (ad.add (k * 3)) _ from hcs)
  have HRL := Lib.hid (ledger_room.calls 100000 y.f0 y.f1 A3 c3 y.f2 q W5 hk3 hl3 (HT.out.below HS.out.only.nil_below) HRM.out)
  have c1 : W5.cell? ⟨kb, 0, none⟩ = some (.int .i64 k) := HS.out.cell 0 0 rfl rfl
  clear hcs hK hl3 hk3 HRM
  go_wp2_with (first
    | (with_reducible refine wpList_load_at rfl 25 (.tmp 46) rfl (ad.add (k * 3)) rfl _ _ HC.out Tryd.underlying25 rfl (by kernel_rfl) ?_)
    | (go_at_call 40; refine HRL.out.mono ?_; rintro x W6 ⟨rfl, hb1⟩; replace HS := Lib.hid (HS.out.keep (Only.of_below hb1)); clear hb1; refine (fun (h : Hid _) => h.out) ?_))
  refine Lib.hid ?_
  clear HC HRL c1
  have HCP := Lib.hid (lcopied_calls (some ad) c0 l0 W6 (Kd.C_below HR.out HS.out.only.nil_below) hs1 (fun y hy => Nat.le_trans (HS2.out y hy) (by omega)))
  go_wp2_with (go_at_call 38; refine HCP.out.mono ?_; rintro x W7 ⟨v, rfl, us, hul, hS⟩; obtain ⟨g, c5, rfl, hc5⟩ := ownsRow_some (hS.row 0 rfl) (by omega); have HS7 := Lib.hid hS; have HUL := Lib.hid hul; clear hS hul; refine (fun (h : Hid _) => h.out) ?_)
  refine Lib.hid ?_
  clear HCP
  replace HS := Lib.hid (St.swap (HS.out.join HS7.out))
  clear HS7
  replace HS := Lib.hid (HS.out.alloc [.slice (some ⟨g, 0, none⟩) l0.length c5] 22)
  go_wp2_with (go_at_call 39; refine (taken_calls ⟨g, i * 3, none⟩ n _).mono ?_; rintro x W8 ⟨rfl, rfl⟩; refine (fun (h : Hid _) => h.out) ?_)
  refine Lib.hid ?_
  replace HS := Lib.hid ((HS.out.alloc [.pointer (some ⟨g, i * 3, none⟩)] 64).alloc [.int .i64 n] 3)
  simp only [World.size_alloc, List.append_assoc, List.cons_append, List.nil_append] at HS
  obtain ⟨u, hu⟩ : ∃ u, us[i]? = some u := ⟨us[i]'(by have := HUL.out; omega), List.getElem?_eq_getElem _⟩
  obtain ⟨hdo, hpk, hxy⟩ : drawOk x.f2 n = true ∧ poursOk y.f2 (takeM x.f2 n).2 = true ∧ x.f2.length + y.f2.length ≤ 900000 := by
    have := HMO.out
    unfold moveOk at this
    simpa [and_assoc] using this
  have HPK := Lib.hid hpk
  obtain ⟨hlo, hn9, hxl⟩ : lotsOk x.f2 = true ∧ n ≤ 1125899906842624 ∧ 0 < x.f2.length := by
    unfold drawOk at hdo
    simpa [and_assoc] using hdo
  clear hpk hdo
  have hLk : ∀ N, (vRes (.slice (some ⟨g, 0, none⟩) l0.length c5) us l0 ++ N)[i + 1]? = some (.row u 37 2 x.f2.length (lotRow x.f2)) := fun N => get_app (by exact lotRes_get HX.out hu) N
  obtain ⟨gl, cl, rfl, hcl⟩ := ownsRow_some (HS.out.row (i + 1) (hLk _)) hxl
  rename_i K hK
  refine hK _ _ ?_
  clear hK K
  unfold wpList
  try simp only [Exit.then]
  rename_i K hK
  refine hK _ _ ?_
  clear hK K
  generalize W7.heap.size = ob at *
  generalize (((W7.alloc (.cells #[.slice (some ⟨g, 0, none⟩) l0.length c5] 22)).alloc (.cells #[.pointer (some ⟨g, i * 3, none⟩)] 64)).alloc (.cells #[.int .i64 n] 3)) = W9 at *
  obtain ⟨L0, hL0⟩ : ∃ L0, L0 = vRes (.slice (some ⟨g, 0, none⟩) l0.length c5) us l0 ++ [.blk kb 3 [.int .i64 k], .blk ob 22 [.slice (some ⟨g, 0, none⟩) l0.length c5], .blk (ob + 1) 64 [.pointer (some ⟨g, i * 3, none⟩)], .blk (ob + 1 + 1) 3 [.int .i64 n]] := ⟨_, rfl⟩
  have HL0 := Lib.hid hL0
  rw [← hL0] at HS
  clear hL0
  obtain ⟨D, hDD⟩ : ∃ D : TkP, D = ⟨0, i + 1, l0.length + 1 + 3, l0.length + 1 + 2, g, c5, l0.length, i, gl, cl, x.f2.length, ob + 1 + 1, ob + 1⟩ := ⟨_, rfl⟩
  have HDD := Lib.hid hDD
  have HP := Lib.hid (show MPl D (l0.length + 1) k from by rw [hDD]; have := HNE.out; constructor <;> first | rfl | (dsimp only; omega) | omega)
  have HA := Lib.hid (show D.Apart from by rw [hDD]; constructor <;> (dsimp only; omega))
  clear hDD
  obtain ⟨dd, hdd⟩ : ∃ dd, dd = W9.heap.size := ⟨_, rfl⟩
  refine wp_block ?_
  refine wp_rangeFunc (gf := 56) (lb := #[.pointer (some ⟨ob + 1 + 1, 0, none⟩), .pointer (some ⟨ob + 1, 0, none⟩)]) rfl (enters_of Tryd.func56 (by kernel_rfl) rfl) encT nxtT goT (x.f2, n, []) ?_
    (fun R s W => ∃ Ls, MI D (l0.length + 1) k kb ob dd (.slice (some ⟨g, 0, none⟩) l0.length c5) L0 (vCells l0 us) (x.f2, n, []) y.f2 R s s Ls ∧ St w Ls W)
    (fun R s W => ∃ Ls, MI D (l0.length + 1) k kb ob dd (.slice (some ⟨g, 0, none⟩) l0.length c5) L0 (vCells l0 us) (x.f2, n, []) y.f2 R (nxtT s) s Ls ∧ St w Ls W)
    (fun a R s a' W => ∃ Ls bx, MI D (l0.length + 1) k kb ob dd (.slice (some ⟨g, 0, none⟩) l0.length c5) L0 (vCells l0 us) (x.f2, n, []) y.f2 R (nxtT s) s Ls ∧ St w (Ls ++ [.blk bx 37 (lotCells (outL (s.1.headD ⟨⟨#[]⟩, 0⟩) s.2.1))]) W ∧ a' = { tmps := (a.tmps.setIfInBounds 57 (valT s)).setIfInBounds 13 (.pointer (some ⟨bx, 0, none⟩)), defers := [] })
    ?_ ?_ ?_ ?_ ?_ ?_ ?_ ?_ ?_ ?_
  · intro s; rfl
  · rintro R s W ⟨Ls, h, hs⟩
    rw [← hdd]
    exact ⟨(hs.each _ _ h.dfr).2, (hs.each _ _ h.lop).2⟩
  · rintro R s W ⟨Ls, h, hs⟩
    rw [← hdd]
    exact (hs.each _ _ h.lop).2
  · rintro R s a' W ⟨Ls, bx, h, hs, _⟩
    rw [← hdd]
    exact (hs.each _ _ (get_app h.lop _)).2
  · rintro R R' s W ⟨Ls, h, hs⟩
    rw [← hdd]
    exact ⟨_, h.turn HP.out R', hs.turnObj _ h.lop R'⟩
  · rintro R R' s a' W ⟨Ls, bx, h, hs, e⟩
    rw [← hdd]
    refine ⟨_, bx, h.turn HP.out R', ?_, e⟩
    have := hs.turnObj _ (get_app h.lop _) R'
    rwa [List.set_append_left _ _ (List.getElem?_eq_some_iff.1 h.lop).1] at this
  · intro R W ho h1 h2
    rw [← hdd] at h1 h2
    refine ⟨L0 ++ [.obj dd (.deferred (some [])), .obj (dd + 1) R], ?_, HS.out.join (by rw [hdd]; rw [hdd] at h1 h2; exact St.two ho h1 h2)⟩
    exact mi_start hi hk HX.out HY.out hu HUL.out hlo hn1 hn9 HL0.out HDD.out
  · intro R hy W h
    obtain ⟨Ls, h, hs⟩ := h
    have hT := taken_clo D HA.out w (fun s Ls => MI D (l0.length + 1) k kb ob dd (.slice (some ⟨g, 0, none⟩) l0.length c5) L0 (vCells l0 us) (x.f2, n, []) y.f2 R s s Ls) (fun s Ls => MI D (l0.length + 1) k kb ob dd (.slice (some ⟨g, 0, none⟩) l0.length c5) L0 (vCells l0 us) (x.f2, n, []) y.f2 R (nxtT s) s Ls)
      (fun s Ls h => ⟨h.tk, h.ok1, h.ok2⟩) (fun s Ls L' h hg ht hk => h.step HP.out hg ht hk) (dd + 1) (x.f2, n, []) (fun s Ls W1 hg h hs => by have := hy s W1 hg ⟨Ls, h, hs⟩; rw [← hdd] at this; exact this) Ls W h hs
    rw [show D.nb = ob + 1 + 1 from by rw [HDD.out], show D.vb = ob + 1 from by rw [HDD.out]] at hT
    rw [← hdd, List.append_toArray, List.cons_append, List.nil_append]
    refine callsIn_wide.2 (hT.mono ?_)
    rintro e W' ⟨h1, s, Ls, h2, h3, h4⟩
    exact ⟨h1, s, h2, Ls, h3, h4⟩
  · rintro R ⟨cur, m, o⟩ W hg ⟨Ls, h, hs⟩
    obtain ⟨z, t, rfl⟩ : ∃ z t, cur = z :: t := by
      cases cur with
      | nil => exact absurd rfl hg.2
      | cons z t => exact ⟨z, t, rfl⟩
    have H := Lib.hid h
    have HS1 := Lib.hid hs
    clear h hs hg
    simp only [encT, valT, List.zip_toArray, List.zip_cons_cons, List.zip_nil_left, List.foldl_toArray', List.foldl_cons, List.foldl_nil, List.setIfInBounds_toArray, List.set_cons_succ, List.set_cons_zero]
    gi_wp2_with (refine wpListIn_of (by rintro ⟨_, _, h⟩; exact h) _ _ _ (by simp) ?_)
    go_wp2
    exact ⟨Ls, W.heap.size, H.out, HS1.out.alloc _ _, rfl⟩
  · rintro R ⟨cur, m, o⟩ a₁ W hg ⟨Ls, bx, h, hs, rfl⟩
    obtain ⟨z, t, rfl⟩ : ∃ z t, cur = z :: t := by
      cases cur with
      | nil => exact absurd rfl hg.2
      | cons z t => exact ⟨z, t, rfl⟩
    obtain ⟨q2, hq⟩ : ∃ q2, mn m z.f1 = q2 := ⟨_, rfl⟩
    have hnx : (nxtT (z :: t, m, o)).2.2 = o ++ [⟨z.f0, q2⟩] := by rw [← hq]; rfl
    have hve : valT (z :: t, m, o) = .agg #[.string z.f0, .int .i64 q2] := by rw [← hq]; rfl
    have hsn := h.snd
    rw [hnx] at hsn
    have hsn2 : (o ++ [⟨z.f0, q2⟩]) ++ (takeM (nxtT (z :: t, m, o)).1 (nxtT (z :: t, m, o)).2.1).2 = (takeM x.f2 n).2 := hsn
    rw [List.append_assoc] at hsn2
    have hPO := HPK.out
    rw [← hsn2] at hPO
    have HPO := Lib.hid (pourOk_last (poursOk_at _ _ _ _ hPO))
    have hol : (poursM y.f2 o).length ≤ 1000000 := by
      have h1 := congrArg List.length hsn2
      have h2 := takeM_len x.f2 n
      have h5 := poursM_len o y.f2
      simp only [List.length_append] at h1
      omega
    replace hs : St w (Ls ++ [.blk bx 37 [.string z.f0, .int .i64 q2]]) W := by rw [← hq]; exact hs
    rw [hve]
    have HS1 := Lib.hid hs
    have H := Lib.hid h
    have HYS := Lib.hid (show poursM y.f2 (nxtT (z :: t, m, o)).2.2 = pourM (poursM y.f2 o) ⟨z.f0, q2⟩ from by rw [hnx, poursM_more])
    obtain ⟨u, v1, v2⟩ := h.dst
    obtain ⟨pre, cells, A, hF⟩ := h.tk
    have HO1 := Lib.hid hF.out
    have HCK := Lib.hid (v2 cells hF.out)
    have I0 := Lib.hid (show ∀ N, (Ls ++ N)[0]? = some (.row (.slice (some ⟨g, 0, none⟩) l0.length c5) 25 3 l0.length cells) from fun N => get_app (by have h1 := hF.out; rw [HDD.out] at h1; exact h1) N)
    have I1 := Lib.hid (show ∀ N, (Ls ++ N)[k + 1]? = some (.row u 37 2 (poursM y.f2 o).length (lotRow (poursM y.f2 o))) from fun N => get_app v1 N)
    have HOL := Lib.hid hol
    clear h hs hg hq hnx hve hsn hsn2 hPO v1 v2 hF hol
    simp only [List.setIfInBounds_toArray, List.set_cons_succ, List.set_cons_zero]
    refine wpIn_block ?_
    refine L.grow_start_in (by rintro ⟨_, _, h⟩; exact h) (by simp) [] 4 ((0, true, false) :: (1, true, false) :: (2, true, false) :: (3, true, true) :: (4, false, true) :: []) (by kernel_rfl) (([], [12], some 58) :: ([], [11], some 59) :: ([0, 1], [58, 59], some 60) :: ([], [13], some 61) :: ([2, 3], [60, 61], some 62) :: []) (by kernel_rfl) (by kernel_rfl) (n := 5) rfl (by kernel_rfl) (fun _ _ _ _ _ h => h) (fun wg hog => ?_)
    refine L.growe_start (N := 67) (by rfl) ?_
    replace HS1 := Lib.hid (HS1.out.keep hog)
    clear hog
    have e1 : ∀ w', Only [] wg w' → w'.cell? ⟨ob, 0, none⟩ = some (.slice (some ⟨g, 0, none⟩) l0.length c5) := fun w' k => (HS1.out.keep k).cell (l0.length + 1 + 1) 0 (get_app H.out.hd _) rfl
    have e2 : ∀ w', Only [] wg w' → w'.cell? ⟨kb, 0, none⟩ = some (.int .i64 k) := fun w' k => (HS1.out.keep k).cell (l0.length + 1) 0 (get_app H.out.idx _) rfl
    iterate 3 (first | (refine L.ge_off rfl rfl rfl (by rfl) ?_) | (refine L.ge_move rfl rfl rfl (by rfl) rfl (by simp [L.evE, L.lk, Act.eval]; rfl) ?_) | (refine L.ge_pick rfl rfl rfl (by rfl) rfl (by simp [L.evE, L.lk, Act.eval]; rfl) (by simp [L.evE, L.lk, Act.eval]; rfl) ?_) | (refine L.ge_val rfl rfl rfl (by rfl) (by intro w' hw'; simp [execOp, L.evE, L.lk, Act.eval]; go_simp; rfl) ?_))
    refine ge_load_at rfl rfl rfl (by rfl) _ _ rfl ⟨bx, 0, none⟩ (by simp [L.evE, L.lk, Act.eval]) [.string z.f0, .int .i64 q2] _ (fun w' k => (HS1.out.keep k).cells Ls.length (get_end Ls _ [])) Tryd.underlying37 rfl (by kernel_rfl) ?_
    clear e1 e2
    refine L.ge_lastcall rfl rfl rfl (by rfl) rfl (by simp [L.evE, L.lk, Act.eval]; rfl) (by go_simp) ?_
    refine (pour_any w (Ls ++ [.blk bx 37 [.string z.f0, .int .i64 q2]]) 0 (k + 1) g c5 l0.length cells u k (poursM y.f2 o) ⟨z.f0, q2⟩ wg HS1.out (I0.out _) (I1.out _) (by omega) HCK.out hk HOL.out HPO.out).mono ?_
    rintro e W5 ⟨⟨rr, rfl⟩, u', hS5⟩
    refine ⟨_, rfl, ?_⟩
    refine L.ge_done ?_
    have hfin : ∃ Ls', MI D (l0.length + 1) k kb ob dd (.slice (some ⟨g, 0, none⟩) l0.length c5) L0 (vCells l0 us) (x.f2, n, []) y.f2 R (nxtT (z :: t, m, o)) (nxtT (z :: t, m, o)) Ls' ∧ St w Ls' W5 := by
      have hcl1 : cells.length = l0.length * 3 := (HS1.out.row 0 (I0.out _)).1
      refine ⟨_, H.out.more HP.out u' HO1.out (by omega) HYS.out, ?_⟩
      have hl1 := (List.getElem?_eq_some_iff.1 H.out.dst.choose_spec.1).1
      rw [List.set_append_left _ _ hl1, List.set_append_left _ _ (by rw [List.length_set]; omega)] at hS5
      rw [HDD.out]
      exact hS5.front
    exact hfin
  · rintro R ⟨cur, m, o⟩ W hg ⟨Ls, h, hs⟩
    have e1 : takeM cur m = (cur, []) := takeM_stop hg
    have hf : (takeM cur m).1 = (takeM x.f2 n).1 := h.fst
    have hs2 : o ++ (takeM cur m).2 = (takeM x.f2 n).2 := h.snd
    rw [e1] at hf hs2
    have hf2 : (takeM x.f2 n).2 = o := by rw [← hs2, List.append_nil]
    have HOL := Lib.hid (show o.length ≤ 900000 from by
      have h1 := takeM_len x.f2 n
      rw [hf2] at h1
      omega)
    have HMV := Lib.hid (show out = (l0.set i (turned x cur)).set k (turned y (poursM y.f2 o)) from by rw [HOUT.out]; unfold movedM; rw [← hf, hf2])
    have c1 : W.cell? ⟨ob, 0, none⟩ = some (.slice (some ⟨g, 0, none⟩) l0.length c5) := hs.cell (l0.length + 1 + 1) 0 h.hd rfl
    have H := Lib.hid h
    have HS1 := Lib.hid hs
    clear h hs hf hs2 hf2 e1 hg
    simp only [Exit.inBlock, Exit.then]
    rename_i K hK
    refine hK _ _ ?_
    clear hK K
    have HV := Lib.hid (fun (L2 : List Res) (W2 : World) (he : ∀ j, j ≠ l0.length + 1 + 4 → L2[j]? = Ls[j]?) (hs : St w L2 W2) => move_out hc5 hs1 HS2.out hi hk HNE.out HX.out HY.out hu HUL.out hcl HOL.out HL0.out HDD.out H.out he hs)
    rw [← HMV.out] at HV
    have hml : out.length = l0.length := by rw [HMV.out, List.length_set, List.length_set]
    clear HMV
    have HCC := Lib.hid (checked_any (some ⟨g, 0, none⟩) c5 out W (by
      have h1 := HV.out Ls W (fun _ _ => rfl) HS1.out
      rw [← hml] at h1
      exact Kd.V_F h1 W (fun _ _ _ => rfl)) (by omega))
    rw [hml] at HCC
    clear hml
    have hd2 : ∀ W2, Only [] W W2 → (Instr.takeDeferred W9.heap.size).run Tryd.prog W2 = .ok [] (W2.putObj W9.heap.size (.deferred none)) ∧ St w (Ls.set (l0.length + 1 + 4) (.obj dd (.deferred none))) (W2.putObj W9.heap.size (.deferred none)) := by
      intro W2 ho
      have hS2 := HS1.out.keep ho
      have hd := (hS2.each _ _ H.out.dfr).2
      rw [hdd] at hd
      refine ⟨run_takeDeferred (w := W2) hd, ?_⟩
      rw [← hdd]
      exact hS2.turnObj _ H.out.dfr _
    have HD2 := Lib.hid hd2
    clear hd2
    cases hm : out.any manyLots
    · have HHM := Lib.hid (show outV out = (out, 0) from by unfold outV; rw [hm, if_neg (by simp)])
      rw [hm, if_neg (by simp), if_neg (by simp)] at HCC
      clear hm
      go_wp2_with (go_at_call 42; refine HCC.out.mono ?_; rintro x W10 ⟨rfl, hb1⟩; have HB7 := Lib.hid hb1; clear hb1)
      obtain ⟨t1, t2⟩ := HD2.out _ (Only.of_below HB7.out)
      refine ⟨by simp, .inl ⟨_, _, rfl, t1, ?_⟩⟩
      refine ⟨_, results_tmp2 rfl _ _ _, ?_⟩
      rw [HHM.out]
      exact ⟨_, rfl, HV.out _ _ (fun j hj => List.getElem?_set_ne (Ne.symm hj)) t2, t2.only.nil_below⟩
    · have HHM := Lib.hid (show outV out = ([], 2) from by unfold outV; rw [hm, if_pos rfl])
      rw [hm, if_pos rfl, if_pos rfl] at HCC
      clear hm
      go_wp2_with (go_at_call 42; refine HCC.out.mono ?_; rintro x W10 ⟨rfl, hb1⟩; have HB7 := Lib.hid hb1; clear hb1)
      obtain ⟨t1, t2⟩ := HD2.out _ (Only.of_below HB7.out)
      refine ⟨by simp, .inl ⟨_, _, rfl, t1, ?_⟩⟩
      refine ⟨_, results_tmp2 rfl _ _ _, ?_⟩
      rw [HHM.out]
      exact ⟨_, rfl, Kd.V_nil _ _ _ _ _, t2.only.nil_below⟩
set_option maxHeartbeats 16000000 in
set_option maxRecDepth 100000 in
theorem ledger_Move.calls (A0 : Option Addr) (c0 : Nat) (l0 : List S25) (a1 a2 : ByteArray) (n : Int) (r1 : List S25) (r2 : Int) (w : World) (hr0 : Kd.C k25 w A0 l0.length l0) (hc0 : l0.length ≤ c0) (hT : Tabs w) (h : ledger_Move.f l0 a1 a2 n = some (r1, r2)) :
    Calls Tryd.prog 26 #[.slice A0 l0.length c0, .string a1, .string a2, .int .i64 n] w fun e w' => ∃ v0_ : Value, e = .returned (.tuple #[v0_, .int .i64 r2]) ∧ Kd.V k25 25 w' w.heap.size (fun k_ => (w.heap.size ≤ k_)) v0_ r1 ∧ Below w.heap.size w w' := by
  unfold ledger_Move.f at h
  split at h
  case isFalse => cases h
  rename_i hsm
  obtain ⟨hs1, hs2⟩ := smallV_of hsm
  obtain ⟨e, he, h⟩ := Option.bind_eq_some_iff.1 h
  have HR := Lib.hid hr0
  have HT := Lib.hid hT
  have HS2 := Lib.hid hs2
  have H := Lib.hid h
  have HCK := Lib.hid (ledger_Check.calls 100000 A0 c0 l0 e w hr0 hc0 hT he)
  have HE := Lib.hid he
  clear hsm hs2 h he hr0 hT
  by_cases he0 : e = 0
  rotate_left
  · have h := H.out
    rw [if_neg he0] at h
    obtain ⟨rfl, rfl⟩ := Prod.mk.inj (Option.some.inj h)
    clear H h
    refine (callsIn_wide (n := 0)).1 (callsIn_of_wp_marks Tryd.func26 rfl trivial ?_)
    simp only [Tryd.ntmps26, List.size_toArray, List.length_cons, List.length_nil, Nat.reduceAdd, Nat.reduceSub, Array.replicate_succ, Array.replicate_zero, List.push_toArray, List.append_toArray, List.nil_append, List.cons_append]
    refine (wpIn_wide (n := 0)).2 ?_
    go_wp2_with (go_at_call 12; refine HCK.out.mono ?_; rintro x W1 ⟨rfl, hb1⟩; have HO := Lib.hid (Only.of_below hb1); clear hb1; refine (fun (h : Hid _) => h.out) ?_)
    refine Lib.hid ?_
    clear HCK
    go_wp2
    refine ⟨_, results_tmp2 rfl _ _ _, ?_⟩
    exact ⟨_, rfl, Kd.V_nil _ _ _ _ _, HO.out.nil_below⟩
  subst he0
  replace H := Lib.hid (show _ from (if_pos rfl).symm.trans H.out)
  by_cases hab : a1 = a2
  · have h := H.out
    rw [if_pos hab] at h
    obtain ⟨rfl, rfl⟩ := Prod.mk.inj (Option.some.inj h)
    clear H h
    have hab' : (a1.toList == a2.toList) = true := by rw [bytes_beq]; exact decide_eq_true hab
    clear hab
    refine (callsIn_wide (n := 0)).1 (callsIn_of_wp_marks Tryd.func26 rfl trivial ?_)
    simp only [Tryd.ntmps26, List.size_toArray, List.length_cons, List.length_nil, Nat.reduceAdd, Nat.reduceSub, Array.replicate_succ, Array.replicate_zero, List.push_toArray, List.append_toArray, List.nil_append, List.cons_append]
    refine (wpIn_wide (n := 0)).2 ?_
    go_wp2_with (go_at_call 12; refine HCK.out.mono ?_; rintro x W1 ⟨rfl, hb1⟩; have HO := Lib.hid (Only.of_below hb1); clear hb1; refine (fun (h : Hid _) => h.out) ?_)
    refine Lib.hid ?_
    clear HCK
    go_wp2
    refine ⟨_, results_tmp2 rfl _ _ _, ?_⟩
    exact ⟨_, rfl, Kd.V_nil _ _ _ _ _, HO.out.nil_below⟩
  replace H := Lib.hid (show _ from (if_neg hab).symm.trans H.out)
  have hab' : (a1.toList == a2.toList) = false := by rw [bytes_beq]; exact decide_eq_false hab
  have HAB := Lib.hid hab
  clear hab
  obtain ⟨i, hi, h⟩ := Option.bind_eq_some_iff.1 H.out
  obtain ⟨k, hk, h⟩ := Option.bind_eq_some_iff.1 h
  have hilt := find_lt hi
  have hklt := find_lt hk
  have HF := Lib.hid hi
  have HF2 := Lib.hid hk
  replace H := Lib.hid h
  clear h hi hk
  by_cases hi0 : i < 0
  · have h := H.out
    rw [if_pos hi0] at h
    obtain ⟨rfl, rfl⟩ := Prod.mk.inj (Option.some.inj h)
    clear H h
    refine (callsIn_wide (n := 0)).1 (callsIn_of_wp_marks Tryd.func26 rfl trivial ?_)
    simp only [Tryd.ntmps26, List.size_toArray, List.length_cons, List.length_nil, Nat.reduceAdd, Nat.reduceSub, Array.replicate_succ, Array.replicate_zero, List.push_toArray, List.append_toArray, List.nil_append, List.cons_append]
    refine (wpIn_wide (n := 0)).2 ?_
    go_wp2_with (go_at_call 12; refine HCK.out.mono ?_; rintro x W1 ⟨rfl, hb1⟩; have HO := Lib.hid (Only.of_below hb1); clear hb1; refine (fun (h : Hid _) => h.out) ?_)
    refine Lib.hid ?_
    clear HCK
    have HFN := Lib.hid (ledger_find.calls A0 c0 l0 a1 i W1 (Kd.C_below HR.out HO.out.nil_below) hc0 HF.out)
    go_wp2_with (go_at_call 33; refine HFN.out.mono ?_; rintro x W3 ⟨rfl, hb1⟩; replace HO := Lib.hid (HO.out.trans (Only.of_below hb1)); clear hb1; refine (fun (h : Hid _) => h.out) ?_)
    refine Lib.hid ?_
    clear HFN HF
    replace HFN := Lib.hid (ledger_find.calls A0 c0 l0 a2 k W3 (Kd.C_below HR.out HO.out.nil_below) hc0 HF2.out)
    go_wp2_with (go_at_call 33; refine HFN.out.mono ?_; rintro x W4 ⟨rfl, hb1⟩; replace HO := Lib.hid (HO.out.trans (Only.of_below hb1)); clear hb1; refine (fun (h : Hid _) => h.out) ?_)
    refine Lib.hid ?_
    clear HFN HF2
    have HS := Lib.hid ((St.of_only HO.out).alloc [.int .i64 k] 3)
    simp only [List.nil_append] at HS
    go_wp2
    refine ⟨_, results_tmp2 rfl _ _ _, ?_⟩
    exact ⟨_, rfl, Kd.V_nil _ _ _ _ _, HS.out.only.nil_below⟩
  replace H := Lib.hid (show _ from (if_neg hi0).symm.trans H.out)
  by_cases hk0 : k < 0
  · have h := H.out
    rw [if_pos hk0] at h
    obtain ⟨rfl, rfl⟩ := Prod.mk.inj (Option.some.inj h)
    clear H h
    refine (callsIn_wide (n := 0)).1 (callsIn_of_wp_marks Tryd.func26 rfl trivial ?_)
    simp only [Tryd.ntmps26, List.size_toArray, List.length_cons, List.length_nil, Nat.reduceAdd, Nat.reduceSub, Array.replicate_succ, Array.replicate_zero, List.push_toArray, List.append_toArray, List.nil_append, List.cons_append]
    refine (wpIn_wide (n := 0)).2 ?_
    go_wp2_with (go_at_call 12; refine HCK.out.mono ?_; rintro x W1 ⟨rfl, hb1⟩; have HO := Lib.hid (Only.of_below hb1); clear hb1; refine (fun (h : Hid _) => h.out) ?_)
    refine Lib.hid ?_
    clear HCK
    have HFN := Lib.hid (ledger_find.calls A0 c0 l0 a1 i W1 (Kd.C_below HR.out HO.out.nil_below) hc0 HF.out)
    go_wp2_with (go_at_call 33; refine HFN.out.mono ?_; rintro x W3 ⟨rfl, hb1⟩; replace HO := Lib.hid (HO.out.trans (Only.of_below hb1)); clear hb1; refine (fun (h : Hid _) => h.out) ?_)
    refine Lib.hid ?_
    clear HFN HF
    replace HFN := Lib.hid (ledger_find.calls A0 c0 l0 a2 k W3 (Kd.C_below HR.out HO.out.nil_below) hc0 HF2.out)
    go_wp2_with (go_at_call 33; refine HFN.out.mono ?_; rintro x W4 ⟨rfl, hb1⟩; replace HO := Lib.hid (HO.out.trans (Only.of_below hb1)); clear hb1; refine (fun (h : Hid _) => h.out) ?_)
    refine Lib.hid ?_
    clear HFN HF2
    have HS := Lib.hid ((St.of_only HO.out).alloc [.int .i64 k] 3)
    simp only [List.nil_append] at HS
    go_wp2
    refine ⟨_, results_tmp2 rfl _ _ _, ?_⟩
    exact ⟨_, rfl, Kd.V_nil _ _ _ _ _, HS.out.only.nil_below⟩
  replace H := Lib.hid (show _ from (if_neg hk0).symm.trans H.out)
  by_cases hn1 : n < 1
  · have h := H.out
    rw [if_pos hn1] at h
    obtain ⟨rfl, rfl⟩ := Prod.mk.inj (Option.some.inj h)
    clear H h
    refine (callsIn_wide (n := 0)).1 (callsIn_of_wp_marks Tryd.func26 rfl trivial ?_)
    simp only [Tryd.ntmps26, List.size_toArray, List.length_cons, List.length_nil, Nat.reduceAdd, Nat.reduceSub, Array.replicate_succ, Array.replicate_zero, List.push_toArray, List.append_toArray, List.nil_append, List.cons_append]
    refine (wpIn_wide (n := 0)).2 ?_
    go_wp2_with (go_at_call 12; refine HCK.out.mono ?_; rintro x W1 ⟨rfl, hb1⟩; have HO := Lib.hid (Only.of_below hb1); clear hb1; refine (fun (h : Hid _) => h.out) ?_)
    refine Lib.hid ?_
    clear HCK
    have HFN := Lib.hid (ledger_find.calls A0 c0 l0 a1 i W1 (Kd.C_below HR.out HO.out.nil_below) hc0 HF.out)
    go_wp2_with (go_at_call 33; refine HFN.out.mono ?_; rintro x W3 ⟨rfl, hb1⟩; replace HO := Lib.hid (HO.out.trans (Only.of_below hb1)); clear hb1; refine (fun (h : Hid _) => h.out) ?_)
    refine Lib.hid ?_
    clear HFN HF
    replace HFN := Lib.hid (ledger_find.calls A0 c0 l0 a2 k W3 (Kd.C_below HR.out HO.out.nil_below) hc0 HF2.out)
    go_wp2_with (go_at_call 33; refine HFN.out.mono ?_; rintro x W4 ⟨rfl, hb1⟩; replace HO := Lib.hid (HO.out.trans (Only.of_below hb1)); clear hb1; refine (fun (h : Hid _) => h.out) ?_)
    refine Lib.hid ?_
    clear HFN HF2
    have HS := Lib.hid ((St.of_only HO.out).alloc [.int .i64 k] 3)
    simp only [List.nil_append] at HS
    go_wp2
    refine ⟨_, results_tmp2 rfl _ _ _, ?_⟩
    exact ⟨_, rfl, Kd.V_nil _ _ _ _ _, HS.out.only.nil_below⟩
  replace H := Lib.hid (show _ from (if_neg hn1).symm.trans H.out)
  obtain ⟨i, rfl⟩ := Int.eq_ofNat_of_zero_le (show 0 ≤ i by omega)
  obtain ⟨k, rfl⟩ := Int.eq_ofNat_of_zero_le (show 0 ≤ k by omega)
  have hi : i < l0.length := by omega
  have hk : k < l0.length := by omega
  have hii : (i : Int) < l0.length := by omega
  have hkk : (k : Int) < l0.length := by omega
  have hi0' : (0 : Int) ≤ i := by omega
  have hk0' : (0 : Int) ≤ k := by omega
  have erd : rd_T25 l0 i = l0[i] := getD_at l0 _ i hi
  have erd2 : rd_T25 l0 k = l0[k] := getD_at l0 _ k hk
  rw [erd, erd2] at H
  obtain ⟨x, hx⟩ : ∃ x, l0[i]? = some x := ⟨_, List.getElem?_eq_getElem hi⟩
  obtain ⟨y, hy⟩ : ∃ y, l0[k]? = some y := ⟨_, List.getElem?_eq_getElem hk⟩
  rw [(List.getElem?_eq_some_iff.1 hx).2, (List.getElem?_eq_some_iff.1 hy).2] at H
  have HX := Lib.hid hx
  have HY := Lib.hid hy
  clear erd erd2 hx hy
  obtain ⟨r, hr, h⟩ := Option.bind_eq_some_iff.1 H.out
  have HLV := Lib.hid hr
  replace H := Lib.hid h
  clear h hr
  by_cases hrn : r < n
  · have h := H.out
    rw [if_pos hrn] at h
    obtain ⟨rfl, rfl⟩ := Prod.mk.inj (Option.some.inj h)
    clear H h
    clear HY
    refine (callsIn_wide (n := 0)).1 (callsIn_of_wp_marks Tryd.func26 rfl trivial ?_)
    simp only [Tryd.ntmps26, List.size_toArray, List.length_cons, List.length_nil, Nat.reduceAdd, Nat.reduceSub, Array.replicate_succ, Array.replicate_zero, List.push_toArray, List.append_toArray, List.nil_append, List.cons_append]
    refine (wpIn_wide (n := 0)).2 ?_
    go_wp2_with (go_at_call 12; refine HCK.out.mono ?_; rintro x W1 ⟨rfl, hb1⟩; have HO := Lib.hid (Only.of_below hb1); clear hb1; refine (fun (h : Hid _) => h.out) ?_)
    refine Lib.hid ?_
    clear HCK
    have HFN := Lib.hid (ledger_find.calls A0 c0 l0 a1 i W1 (Kd.C_below HR.out HO.out.nil_below) hc0 HF.out)
    go_wp2_with (go_at_call 33; refine HFN.out.mono ?_; rintro x W3 ⟨rfl, hb1⟩; replace HO := Lib.hid (HO.out.trans (Only.of_below hb1)); clear hb1; refine (fun (h : Hid _) => h.out) ?_)
    refine Lib.hid ?_
    clear HFN HF
    replace HFN := Lib.hid (ledger_find.calls A0 c0 l0 a2 k W3 (Kd.C_below HR.out HO.out.nil_below) hc0 HF2.out)
    go_wp2_with (go_at_call 33; refine HFN.out.mono ?_; rintro x W4 ⟨rfl, hb1⟩; replace HO := Lib.hid (HO.out.trans (Only.of_below hb1)); clear hb1; refine (fun (h : Hid _) => h.out) ?_)
    refine Lib.hid ?_
    clear HFN HF2
    have HS := Lib.hid ((St.of_only HO.out).alloc [.int .i64 k] 3)
    simp only [List.nil_append] at HS
    have HRD := Lib.hid (Kd.C_below HR.out HS.out.only.nil_below)
    obtain ⟨ad, cs, rfl, _, hK, hcs⟩ := Kd.C_cells HRD.out i hi
    rw [(List.getElem?_eq_some_iff.1 HX.out).2] at hK
    obtain ⟨A2, c2, rfl, hl2, hk2⟩ := k25_open hK
    have HC := Lib.hid (show CellsAt (W4.alloc (.cells #[.int .i64 (k : Int)] 3)) (ad.add (i * 3)) _ from hcs)
    have HRL := Lib.hid (ledger_Level.calls 100000 x.f0 x.f1 (fun k_ => k_ < (W4.alloc (.cells #[.int .i64 (k : Int)] 3)).heap.size) A2 c2 x.f2 r (W4.alloc (.cells #[.int .i64 (k : Int)] 3)) (Kd.V_mk hl2 (Kd.C_F k37_heap hk2)) (HT.out.below HS.out.only.nil_below) HLV.out)
    clear hcs hK hl2 hk2 HLV HO HRD
    go_wp2_with (first
      | (with_reducible refine wpList_load_at rfl 25 (.tmp 39) rfl (ad.add (i * 3)) rfl _ _ HC.out Tryd.underlying25 rfl (by kernel_rfl) ?_)
      | (go_at_call 16; refine HRL.out.mono ?_; rintro x W5 ⟨rfl, hb1⟩; replace HS := Lib.hid (HS.out.keep (Only.of_below hb1)); clear hb1; refine (fun (h : Hid _) => h.out) ?_))
    refine Lib.hid ?_
    clear HC HRL
    go_wp2
    refine ⟨_, results_tmp2 rfl _ _ _, ?_⟩
    exact ⟨_, rfl, Kd.V_nil _ _ _ _ _, HS.out.only.nil_below⟩
  replace H := Lib.hid (show _ from (if_neg hrn).symm.trans H.out)
  obtain ⟨q, hq, h⟩ := Option.bind_eq_some_iff.1 H.out
  have HRM := Lib.hid hq
  replace H := Lib.hid h
  clear h hq
  by_cases hqn : q < n
  · have h := H.out
    rw [if_pos hqn] at h
    obtain ⟨rfl, rfl⟩ := Prod.mk.inj (Option.some.inj h)
    clear H h
    refine (callsIn_wide (n := 0)).1 (callsIn_of_wp_marks Tryd.func26 rfl trivial ?_)
    simp only [Tryd.ntmps26, List.size_toArray, List.length_cons, List.length_nil, Nat.reduceAdd, Nat.reduceSub, Array.replicate_succ, Array.replicate_zero, List.push_toArray, List.append_toArray, List.nil_append, List.cons_append]
    refine (wpIn_wide (n := 0)).2 ?_
    go_wp2_with (go_at_call 12; refine HCK.out.mono ?_; rintro x W1 ⟨rfl, hb1⟩; have HO := Lib.hid (Only.of_below hb1); clear hb1; refine (fun (h : Hid _) => h.out) ?_)
    refine Lib.hid ?_
    clear HCK
    have HFN := Lib.hid (ledger_find.calls A0 c0 l0 a1 i W1 (Kd.C_below HR.out HO.out.nil_below) hc0 HF.out)
    go_wp2_with (go_at_call 33; refine HFN.out.mono ?_; rintro x W3 ⟨rfl, hb1⟩; replace HO := Lib.hid (HO.out.trans (Only.of_below hb1)); clear hb1; refine (fun (h : Hid _) => h.out) ?_)
    refine Lib.hid ?_
    clear HFN HF
    replace HFN := Lib.hid (ledger_find.calls A0 c0 l0 a2 k W3 (Kd.C_below HR.out HO.out.nil_below) hc0 HF2.out)
    go_wp2_with (go_at_call 33; refine HFN.out.mono ?_; rintro x W4 ⟨rfl, hb1⟩; replace HO := Lib.hid (HO.out.trans (Only.of_below hb1)); clear hb1; refine (fun (h : Hid _) => h.out) ?_)
    refine Lib.hid ?_
    clear HFN HF2
    have HS := Lib.hid ((St.of_only HO.out).alloc [.int .i64 k] 3)
    simp only [List.nil_append] at HS
    have HRD := Lib.hid (Kd.C_below HR.out HS.out.only.nil_below)
    obtain ⟨ad, cs, rfl, _, hK, hcs⟩ := Kd.C_cells HRD.out i hi
    rw [(List.getElem?_eq_some_iff.1 HX.out).2] at hK
    obtain ⟨A2, c2, rfl, hl2, hk2⟩ := k25_open hK
    have HC := Lib.hid (show CellsAt (W4.alloc (.cells #[.int .i64 (k : Int)] 3)) (ad.add (i * 3)) _ from hcs)
    have HRL := Lib.hid (ledger_Level.calls 100000 x.f0 x.f1 (fun k_ => k_ < (W4.alloc (.cells #[.int .i64 (k : Int)] 3)).heap.size) A2 c2 x.f2 r (W4.alloc (.cells #[.int .i64 (k : Int)] 3)) (Kd.V_mk hl2 (Kd.C_F k37_heap hk2)) (HT.out.below HS.out.only.nil_below) HLV.out)
    clear hcs hK hl2 hk2 HLV HO HRD
    go_wp2_with (first
      | (with_reducible refine wpList_load_at rfl 25 (.tmp 39) rfl (ad.add (i * 3)) rfl _ _ HC.out Tryd.underlying25 rfl (by kernel_rfl) ?_)
      | (go_at_call 16; refine HRL.out.mono ?_; rintro x W5 ⟨rfl, hb1⟩; replace HS := Lib.hid (HS.out.keep (Only.of_below hb1)); clear hb1; refine (fun (h : Hid _) => h.out) ?_))
    refine Lib.hid ?_
    clear HC HRL
    generalize W4.heap.size = kb at *
    obtain ⟨cs, _, hK, hcs⟩ : ∃ cs, cs.length = k25.sz ∧ k25.K W5 l0[k] cs ∧ CellsAt W5 (ad.add (k * k25.sz)) cs := by
      obtain ⟨ad2, cs, e, h1, h2, h3⟩ := Kd.C_cells (Kd.C_below HR.out HS.out.only.nil_below) k hk
      obtain rfl := Option.some.inj e
      exact ⟨cs, h1, h2, h3⟩
    rw [(List.getElem?_eq_some_iff.1 HY.out).2] at hK
    obtain ⟨A3, c3, rfl, hl3, hk3⟩ := k25_open hK
    have HC := Lib.hid (show CellsAt W5 (ad.add (k * 3)) _ from hcs)
    have HRL := Lib.hid (ledger_room.calls 100000 y.f0 y.f1 A3 c3 y.f2 q W5 hk3 hl3 (HT.out.below HS.out.only.nil_below) HRM.out)
    have c1 : W5.cell? ⟨kb, 0, none⟩ = some (.int .i64 k) := HS.out.cell 0 0 rfl rfl
    clear hcs hK hl3 hk3 HRM
    go_wp2_with (first
      | (with_reducible refine wpList_load_at rfl 25 (.tmp 46) rfl (ad.add (k * 3)) rfl _ _ HC.out Tryd.underlying25 rfl (by kernel_rfl) ?_)
      | (go_at_call 40; refine HRL.out.mono ?_; rintro x W6 ⟨rfl, hb1⟩; replace HS := Lib.hid (HS.out.keep (Only.of_below hb1)); clear hb1; refine (fun (h : Hid _) => h.out) ?_))
    refine Lib.hid ?_
    clear HC HRL c1
    go_wp2
    refine ⟨_, results_tmp2 rfl _ _ _, ?_⟩
    exact ⟨_, rfl, Kd.V_nil _ _ _ _ _, HS.out.only.nil_below⟩
  have h := (if_neg hqn).symm.trans H.out
  split at h
  case isFalse => cases h
  rename_i hmo
  have hh := Option.some.inj h
  have := move_ok A0 c0 l0 a1 a2 n i k r q w HR.out hc0 HT.out hs1 HS2.out HE.out HAB.out HF.out HF2.out x y HX.out HY.out (by omega) HLV.out (by omega) HRM.out (by omega) hmo _ rfl
  have e1 : outV (movedM l0 i k x y n) = (r1, r2) := hh
  rw [e1] at this
  exact this
end Go.Proofs.YtejecmjajdhiiaaDoor.Print
/-! ### NmPure -/
namespace Go.Proofs.YtejecmjajdhiiaaDoor.Print
open Go.RowKit Go.Proofs.YtejecmjajdhiiaaDoorW.PrintWords Go.Proofs.YtejecmjajdhiiaaDoorW.PrintLast Go.Proofs.YtejecmjajdhiiaaDoorW.PrintMore
set_option linter.unusedSimpArgs false
set_option linter.unusedVariables false
def byteAt (s : ByteArray) (i : Nat) : Nat := (s.get! i).toNat
theorem bt_byteAt (s : ByteArray) (i : Nat) (h : i < s.size) : bt s (i : Int) = byteAt s i := by
  unfold bt byteAt
  have e : s.get! i = s[i]'h := by have := get_at s i h; simpa using this
  rw [Int.toNat_natCast, dif_pos h, e]
theorem wrap_small (x : Int) (h0 : -9223372036854775808 ≤ x) (h1 : x ≤ 9223372036854775807) : wrap64 x = x := by unfold wrap64; omega
/-- Is a text a name? -/
def nameB (s : ByteArray) : Bool := Lib.validD s.data.toList && wordyB s && (decide (byteAt s 0 < 48) || decide (57 < byteAt s 0)) && decide (Lib.runeCount s ≤ 12)
theorem lex_name_is (s : ByteArray) (hs : s.size ≤ 1000000000) : lex_Name.f s = some (nameB s) := by
  have hcount : utf8_RuneCountInString.f s = some (Lib.runeCount s : Int) := if_pos (by omega)
  have hvalid : utf8_ValidString.f s = some (Lib.validD s.data.toList) := if_pos (by omega)
  unfold lex_Name.f nameB lex_wordy.f
  rw [hvalid, hcount]
  simp only [Option.bind_some]
  by_cases h1 : Lib.validD s.data.toList = true
  · rw [if_pos h1, h1]
    by_cases h2 : wordyB s = true
    · rw [if_pos h2, h2]
      have hpos : 0 < s.size := by
        have := h2
        unfold wordyB at this
        simp at this
        exact this.2
      rw [if_pos (by omega), show (0 : Int) = ((0 : Nat) : Int) from rfl, bt_byteAt s 0 hpos]
      simp only [Bool.true_and]
      by_cases h3 : byteAt s 0 < 48
      · rw [if_pos (by omega)]
        simp [h3]
        norm_cast
      · rw [if_neg (by omega)]
        by_cases h4 : 57 < byteAt s 0
        · rw [if_pos (by omega)]
          simp [h3, h4]
          norm_cast
        · rw [if_neg (by omega)]
          simp [h3, h4]
    · rw [if_neg h2]
      simp [h2]
  · rw [if_neg h1]
    simp [h1]
end Go.Proofs.YtejecmjajdhiiaaDoor.Print
/-! ### LgWrong -/
namespace Go.Proofs.YtejecmjajdhiiaaDoor.Print
open Go.RowKit Go.Proofs.YtejecmjajdhiiaaDoorW.PrintWords Go.Proofs.YtejecmjajdhiiaaDoorW.PrintLast Go.Proofs.YtejecmjajdhiiaaDoorW.PrintMore
set_option linter.unusedSimpArgs false
set_option linter.unusedVariables false
/-- May a lot stand here, with so many grams left, behind a lot of that name? -/
def lotB (left : Int) (prev : Option ByteArray) (x : S37) : Bool := nameB x.f0 && decide (1 ≤ x.f1) && decide (x.f1 ≤ left) && decide (prev ≠ some x.f0)
/-- What is left, where no lot is wrong. -/
def leftM : Int → Option ByteArray → List S37 → Option Int
  | left, _, [] => some left
  | left, prev, x :: l => if lotB left prev x = true then leftM (left - x.f1) (some x.f0) l else none
def wrongR (cap : Int) : Option Int → Int × Bool
  | some left => (cap - left, false)
  | none => (0, true)
def prevOf (L : List S37) : Nat → Option ByteArray
  | 0 => none
  | i + 1 => (L[i]?).map (·.f0)
theorem wrong_loop (name : ByteArray) (cap : Int) (hc1 : -9223372036854775808 ≤ cap) (hc2 : cap ≤ 9223372036854775807) (L : List S37) (hL : ∀ x ∈ L, x.f0.size ≤ 1000000000) (hl : L.length ≤ 1000000) : ∀ (f i k : Nat) (left : Int), L.length ≤ i + f → i ≤ L.length → (left = cap ∨ 0 ≤ left ∧ left ≤ cap) →
    ledger_wrong.l0 (k + f + 1) left L (L.length : Int) (i : Int) name cap L = some (wrongR cap (leftM left (prevOf L i) (L.drop i))) := by
  intro f
  induction f with
  | zero =>
    intro i k left h1 h2 h3
    simp only [ledger_wrong.l0]
    rw [if_neg (by omega), List.drop_eq_nil_of_le (by omega)]
    show some (wrap64 (cap - left), false) = some (cap - left, false)
    rw [wrap_small _ (by omega) (by omega)]
  | succ f ih =>
    intro i k left h1 h2 h3
    rw [show k + (f + 1) + 1 = (k + f + 1) + 1 by omega]
    have ih' := fun i => ih i k
    clear ih
    generalize k + f + 1 = K at *
    simp only [ledger_wrong.l0]
    by_cases hi : i < L.length
    · have e : rd_T37 L (i : Int) = L[i] := getD_at L _ i hi
      rw [if_pos (by omega), if_pos (by omega), if_pos (by omega), e, lex_name_is _ (hL _ (List.getElem_mem hi)), List.drop_eq_getElem_cons hi]
      simp only [Option.bind_some]
      obtain ⟨x, hx⟩ : ∃ x, L[i] = x := ⟨_, rfl⟩
      rw [hx]
      have hx2 : L[i]? = some x := by rw [List.getElem?_eq_getElem hi, hx]
      have hnext : leftM left (prevOf L i) (x :: L.drop (i + 1)) = if lotB left (prevOf L i) x = true then leftM (left - x.f1) (some x.f0) (L.drop (i + 1)) else none := rfl
      rw [hnext]
      have hp : prevOf L (i + 1) = some x.f0 := by show (L[i]?).map (·.f0) = _; rw [hx2]; rfl
      cases hn : nameB x.f0
      · rw [if_neg (by simp), if_neg (by unfold lotB; simp [hn])]
        rfl
      rw [if_pos rfl]
      by_cases h4 : x.f1 < 1
      · rw [if_pos h4, if_neg (by unfold lotB; simp only [Bool.and_eq_true, decide_eq_true_eq]; omega)]
        rfl
      rw [if_neg h4]
      by_cases h5 : x.f1 > left
      · rw [if_pos h5, if_neg (by unfold lotB; simp only [Bool.and_eq_true, decide_eq_true_eq]; omega)]
        rfl
      rw [if_neg h5]
      have hstep := ih' (i + 1) (left - x.f1) (by omega) (by omega) (by right; omega)
      rw [hp] at hstep
      rw [wrap_small (left - x.f1) (by omega) (by omega), wrap_small ((i : Int) + 1) (by omega) (by omega), show (i : Int) + 1 = ((i + 1 : Nat) : Int) by omega, hstep]
      cases i with
      | zero =>
        rw [if_neg (by omega), if_pos (by unfold lotB; simp only [Bool.and_eq_true, decide_eq_true_eq]; exact ⟨⟨⟨hn, by omega⟩, by omega⟩, by simp [prevOf]⟩)]
      | succ i =>
        have e2 : rd_T37 L (wrap64 (((i + 1 : Nat) : Int) - 1)) = L[i] := by
          rw [wrap_small _ (by omega) (by omega), show ((i + 1 : Nat) : Int) - 1 = (i : Int) by omega]
          exact getD_at L _ i (by omega)
        have hpi : prevOf L (i + 1) = some L[i].f0 := by show (L[i]?).map (·.f0) = _; rw [List.getElem?_eq_getElem (by omega)]; rfl
        rw [if_pos (by omega), e2, wrap_small _ (by omega) (by omega), if_pos (by omega), if_pos (by omega)]
        by_cases h6 : L[i].f0 = x.f0
        · rw [if_pos (by rw [h6]), if_neg (by unfold lotB; rw [hpi, h6]; simp)]
          rfl
        · rw [if_neg (fun h => h6 (by have := bytes_beq L[i].f0 x.f0; rw [h, beq_self_eq_true] at this; exact of_decide_eq_true this.symm)), if_pos (by unfold lotB; simp only [Bool.and_eq_true, decide_eq_true_eq]; exact ⟨⟨⟨hn, by omega⟩, by omega⟩, by rw [hpi]; simpa using h6⟩)]
    · rw [if_neg (by omega), List.drop_eq_nil_of_le (by omega)]
      show some (wrap64 (cap - left), false) = some (cap - left, false)
      rw [wrap_small _ (by omega) (by omega)]
theorem wrong_is (name : ByteArray) (cap : Int) (hc1 : -9223372036854775808 ≤ cap) (hc2 : cap ≤ 9223372036854775807) (L : List S37) (hL : ∀ x ∈ L, x.f0.size ≤ 1000000000) (hl : L.length ≤ 1000000) (k : Nat) : ledger_wrong.f (k + L.length + 1) name cap L = some (wrongR cap (leftM cap none L)) := by
  unfold ledger_wrong.f
  have := wrong_loop name cap hc1 hc2 L hL hl L.length 0 k cap (by omega) (by omega) (.inl rfl)
  rw [List.drop_zero] at this
  exact this
end Go.Proofs.YtejecmjajdhiiaaDoor.Print
/-! ### LgCheck -/
namespace Go.Proofs.YtejecmjajdhiiaaDoor.Print
open Go.RowKit Go.Proofs.YtejecmjajdhiiaaDoorW.PrintWords Go.Proofs.YtejecmjajdhiiaaDoorW.PrintLast Go.Proofs.YtejecmjajdhiiaaDoorW.PrintMore
set_option linter.unusedSimpArgs false
set_option linter.unusedVariables false
def vesB (x : S25) : Bool := nameB x.f0 && decide (1 ≤ x.f1) && decide (x.f1 ≤ 1125899906842624) && (leftM x.f1 none x.f2).isSome
def checkGo (l : List S25) : Nat → List S25 → Int
  | _, [] => 0
  | i, x :: t => if vesB x = true then (if firstFrom (vesselIs x.f0) 0 l < i then 5 else if 5 < x.f2.length then 2 else checkGo l (i + 1) t) else 1
def checkM (l : List S25) : Int := if 6 < l.length then 2 else checkGo l 0 l
/-- What the walks may be handed. -/
structure LtV (m : Nat) (x : S25) : Prop where
  name : x.f0.size ≤ 1000000000
  lo : -9223372036854775808 ≤ x.f1
  hi : x.f1 ≤ 9223372036854775807
  len : x.f2.length ≤ m
  lots : ∀ y ∈ x.f2, y.f0.size ≤ 1000000000
theorem check_flag (K : Nat) (l : List S25) (i : Int) (x : S25) :
    (if nameB x.f0 = true then (if x.f1 < 1 then ledger_Check.j1 K l i l (l.length : Int) i (decide (x.f1 < 1)) x.f0 x.f1 x.f2 else (if x.f1 > 1125899906842624 then ledger_Check.j1 K l i l (l.length : Int) i (decide (x.f1 > 1125899906842624)) x.f0 x.f1 x.f2 else ledger_Check.j1 K l i l (l.length : Int) i (wrongR x.f1 (leftM x.f1 none x.f2)).2 x.f0 x.f1 x.f2)) else ledger_Check.j1 K l i l (l.length : Int) i (!nameB x.f0) x.f0 x.f1 x.f2)
      = ledger_Check.j1 K l i l (l.length : Int) i (!vesB x) x.f0 x.f1 x.f2 := by
  unfold vesB
  cases hn : nameB x.f0
  · rw [if_neg (by simp)]; simp
  · rw [if_pos rfl]
    by_cases h1 : x.f1 < 1
    · rw [if_pos h1]
      have : ¬ 1 ≤ x.f1 := by omega
      simp [h1, this]
    · rw [if_neg h1]
      have h1' : 1 ≤ x.f1 := by omega
      by_cases h2 : x.f1 > 1125899906842624
      · rw [if_pos h2]
        have : ¬ x.f1 ≤ 1125899906842624 := by omega
        simp [h2, this]
      · rw [if_neg h2]
        have h2' : x.f1 ≤ 1125899906842624 := by omega
        cases leftM x.f1 none x.f2 <;> simp [wrongR, h1', h2']
theorem check_loop (m : Nat) (hm : m ≤ 1000000) (l : List S25) (hl : l.length ≤ 1000000) (hs : ∀ x ∈ l, LtV m x) : ∀ (f i k : Nat), l.length ≤ i + f → i ≤ l.length → ledger_Check.l0 (k + 2 * f + m + 2) l l (l.length : Int) (i : Int) = some (checkGo l i (l.drop i)) := by
  intro f
  induction f with
  | zero =>
    intro i k h1 h2
    simp only [ledger_Check.l0]
    rw [if_neg (by omega), List.drop_eq_nil_of_le (by omega)]
    rfl
  | succ f ih =>
    intro i k h1 h2
    have ih' := fun i => ih i k
    clear ih
    rw [show k + 2 * (f + 1) + m + 2 = (k + 2 * f + m + 2) + 1 + 1 by omega]
    simp only [ledger_Check.l0]
    by_cases hi : i < l.length
    · have e : rd_T25 l (i : Int) = l[i] := getD_at l _ i hi
      obtain ⟨x, hx⟩ : ∃ x, l[i] = x := ⟨_, rfl⟩
      have hxs := hs _ (List.getElem_mem hi)
      rw [if_pos (by omega), if_pos (by omega), if_pos (by omega), e, List.drop_eq_getElem_cons hi]
      rw [hx] at hxs ⊢
      have hw := wrong_is x.f0 x.f1 hxs.lo hxs.hi x.f2 hxs.lots (by have := hxs.len; omega) (k + 2 * f + m + 2 - x.f2.length)
      rw [show k + 2 * f + m + 2 - x.f2.length + x.f2.length + 1 = k + 2 * f + m + 2 + 1 by have := hxs.len; omega] at hw
      rw [hw, lex_name_is _ hxs.name]
      simp only [Option.bind_some]
      rw [check_flag]
      simp only [ledger_Check.j1]
      have hc : checkGo l i (x :: l.drop (i + 1)) = if vesB x = true then (if firstFrom (vesselIs x.f0) 0 l < i then 5 else if 5 < x.f2.length then 2 else checkGo l (i + 1) (l.drop (i + 1))) else 1 := rfl
      rw [hc]
      cases hv : vesB x
      · rw [if_pos (by simp), if_neg (by simp)]
      · rw [if_neg (by simp), if_pos rfl]
        have hf : ledger_find.f l x.f0 = some (firstFrom (vesselIs x.f0) 0 l) := by
          unfold ledger_find.f
          rw [if_pos (by omega)]
        rw [hf]
        simp only [Option.bind_some]
        by_cases h5 : firstFrom (vesselIs x.f0) 0 l < i
        · rw [if_pos h5, if_pos h5]
        rw [if_neg h5, if_neg h5]
        by_cases h6 : 5 < x.f2.length
        · rw [if_pos (by omega), if_pos h6]
        rw [if_neg (by omega), if_neg h6, wrap_small _ (by omega) (by omega), show (i : Int) + 1 = ((i + 1 : Nat) : Int) by omega]
        exact ih' (i + 1) (by omega) (by omega)
    · rw [if_neg (by omega), List.drop_eq_nil_of_le (by omega)]
      rfl
theorem check_is (m : Nat) (hm : m ≤ 1000000) (l : List S25) (hl : l.length ≤ 1000000) (hs : ∀ x ∈ l, LtV m x) (k : Nat) : ledger_Check.f (k + m + 14) l = some (checkM l) := by
  unfold ledger_Check.f checkM
  by_cases h6 : 6 < l.length
  · rw [if_pos (by omega), if_pos h6]
  · rw [if_neg (by omega), if_neg h6]
    have := check_loop m hm l hl hs l.length 0 (k + 12 - 2 * l.length) (by omega) (by omega)
    rw [show k + 12 - 2 * l.length + 2 * l.length + m + 2 = k + m + 14 by omega, List.drop_zero] at this
    exact this
/-- How full a vessel is. -/
def levelM (x : S25) : Int := if checkM [x] = 0 then (wrongR x.f1 (leftM x.f1 none x.f2)).1 else 0
theorem level_is (m : Nat) (hm : m ≤ 1000000) (x : S25) (hs : LtV m x) (k : Nat) : ledger_Level.f (k + m + 14) x.f0 x.f1 x.f2 = some (levelM x) := by
  unfold ledger_Level.f levelM
  have h1 := check_is m hm [x] (by simp) (by simpa using hs) k
  have h2 : ([(⟨x.f0, x.f1, x.f2⟩ : S25)] : List S25) = [x] := rfl
  rw [h2, h1]
  simp only [Option.bind_some]
  have hw := wrong_is x.f0 x.f1 hs.lo hs.hi x.f2 hs.lots (by have := hs.len; omega) (k + m + 13 - x.f2.length)
  rw [show k + m + 13 - x.f2.length + x.f2.length + 1 = k + m + 14 by have := hs.len; omega] at hw
  split
  · rw [hw]; rfl
  · rfl
end Go.Proofs.YtejecmjajdhiiaaDoor.Print
/-! ### LgGood -/
namespace Go.Proofs.YtejecmjajdhiiaaDoor.Print
open Go.RowKit Go.Proofs.YtejecmjajdhiiaaDoorW.PrintWords Go.Proofs.YtejecmjajdhiiaaDoorW.PrintLast Go.Proofs.YtejecmjajdhiiaaDoorW.PrintMore
set_option linter.unusedSimpArgs false
set_option linter.unusedVariables false
theorem checkGo_zero (l : List S25) : ∀ (t : List S25) (i : Nat), checkGo l i t = 0 ↔ ∀ (j : Nat) (x : S25), t[j]? = some x → vesB x = true ∧ ¬ firstFrom (vesselIs x.f0) 0 l < ((i + j : Nat) : Int) ∧ x.f2.length ≤ 5
  | [], i => by simp [checkGo]
  | y :: t, i => by
    have ih := checkGo_zero l t (i + 1)
    have e : checkGo l i (y :: t) = if vesB y = true then (if firstFrom (vesselIs y.f0) 0 l < i then 5 else if 5 < y.f2.length then 2 else checkGo l (i + 1) t) else 1 := rfl
    rw [e]
    constructor
    · intro h j x hx
      split at h
      · rename_i hv
        split at h
        · cases h
        · rename_i hf
          split at h
          · cases h
          · rename_i hl
            cases j with
            | zero =>
              obtain rfl := Option.some.inj hx
              exact ⟨hv, by simpa using hf, by omega⟩
            | succ j =>
              have := ih.1 h j x hx
              rw [show i + 1 + j = i + (j + 1) by omega] at this
              exact this
      · cases h
    · intro h
      obtain ⟨h1, h2, h3⟩ := h 0 y rfl
      rw [if_pos h1, if_neg (by simpa using h2), if_neg (by omega)]
      refine ih.2 (fun j x hx => ?_)
      have := h (j + 1) x hx
      rw [show i + (j + 1) = i + 1 + j by omega] at this
      exact this
structure Good (l : List S25) : Prop where
  len : l.length ≤ 6
  all : ∀ (j : Nat) (x : S25), l[j]? = some x → vesB x = true ∧ ¬ firstFrom (vesselIs x.f0) 0 l < (j : Int) ∧ x.f2.length ≤ 5
theorem good_iff (l : List S25) : checkM l = 0 ↔ Good l := by
  unfold checkM
  constructor
  · intro h
    split at h
    · cases h
    · refine ⟨by omega, fun j x hx => ?_⟩
      have := (checkGo_zero l l 0).1 h j x hx
      rwa [Nat.zero_add] at this
  · intro h
    rw [if_neg (by have := h.len; omega)]
    refine (checkGo_zero l l 0).2 (fun j x hx => ?_)
    rw [Nat.zero_add]
    exact h.all j x hx
theorem firstFrom_names (a : ByteArray) : ∀ (l l' : List S25) (i : Nat), l.map (·.f0) = l'.map (·.f0) → firstFrom (vesselIs a) i l = firstFrom (vesselIs a) i l'
  | [], [], _, _ => rfl
  | [], _ :: _, _, h => by simp at h
  | _ :: _, [], _, h => by simp at h
  | x :: l, y :: l', i, h => by
    simp only [List.map_cons, List.cons.injEq] at h
    unfold firstFrom
    rw [firstFrom_names a l l' (i + 1) h.2]
    unfold vesselIs
    rw [h.1]
theorem names_turn {l : List S25} {i : Nat} {x : S25} (m : List S37) (hx : l[i]? = some x) : (l.set i (turned x m)).map (·.f0) = l.map (·.f0) := by
  rw [List.map_set]
  exact set_same (by rw [List.getElem?_map, hx]; rfl)
theorem Good.turn {l : List S25} (h : Good l) {i : Nat} {x : S25} {m : List S37} (hx : l[i]? = some x) (hv : vesB (turned x m) = true) (hm : m.length ≤ 5) : Good (l.set i (turned x m)) := by
  refine ⟨by rw [List.length_set]; exact h.len, fun j y hy => ?_⟩
  rw [firstFrom_names _ _ l 0 (names_turn m hx)]
  by_cases hj : j = i
  · subst hj
    rw [List.getElem?_set_self (List.getElem?_eq_some_iff.1 hx).1] at hy
    obtain rfl := Option.some.inj hy
    exact ⟨hv, (h.all j x hx).2.1, hm⟩
  · rw [List.getElem?_set_ne (Ne.symm hj)] at hy
    exact h.all j y hy
def sumL (l : List S37) : Int := l.foldr (fun x s => x.f1 + s) 0
theorem sumL_cons (x : S37) (l : List S37) : sumL (x :: l) = x.f1 + sumL l := rfl
/-- Lots that stand well: by names and grams alone. -/
def fine : Option ByteArray → List S37 → Bool
  | _, [] => true
  | p, x :: l => nameB x.f0 && decide (1 ≤ x.f1) && decide (p ≠ some x.f0) && fine (some x.f0) l
theorem fine_sum : ∀ (l : List S37) (p : Option ByteArray), fine p l = true → 0 ≤ sumL l
  | [], _, _ => Int.le_refl _
  | x :: l, p, h => by
    unfold fine at h
    simp only [Bool.and_eq_true, decide_eq_true_eq] at h
    have := fine_sum l _ h.2
    rw [sumL_cons]
    omega
theorem leftM_fine : ∀ (l : List S37) (left : Int) (p : Option ByteArray), leftM left p l = if fine p l && (l.isEmpty || decide (sumL l ≤ left)) then some (left - sumL l) else none
  | [], left, p => by
    show some left = some (left - 0)
    rw [Int.sub_zero]
  | x :: l, left, p => by
    have ih := leftM_fine l (left - x.f1) (some x.f0)
    have e : leftM left p (x :: l) = if lotB left p x = true then leftM (left - x.f1) (some x.f0) l else none := rfl
    rw [e, ih]
    have ef : fine p (x :: l) = (nameB x.f0 && decide (1 ≤ x.f1) && decide (p ≠ some x.f0) && fine (some x.f0) l) := rfl
    rw [ef, sumL_cons]
    unfold lotB
    cases hf : fine (some x.f0) l
    · simp
    · have hs := fine_sum l _ hf
      cases hn : nameB x.f0
      · simp
      by_cases hp : p = some x.f0
      · simp [hp]
      by_cases h1 : 1 ≤ x.f1
      · by_cases h2 : x.f1 ≤ left
        · cases l with
          | nil =>
            have h0 : sumL ([] : List S37) = 0 := rfl
            simp [hp, h1, h2, h0]
          | cons z t =>
            by_cases h3 : x.f1 + sumL (z :: t) ≤ left
            · have h4 : sumL (z :: t) ≤ left - x.f1 := by omega
              simp [hp, h1, h2, h3, h4]
              omega
            · have h4 : ¬ sumL (z :: t) ≤ left - x.f1 := by omega
              simp [hp, h1, h2, h3, h4]
        · have h3 : ¬ x.f1 + sumL l ≤ left := by omega
          simp [hp, h1, h2, h3]
      · simp [h1]
end Go.Proofs.YtejecmjajdhiiaaDoor.Print
/-! ### LgSum -/
namespace Go.Proofs.YtejecmjajdhiiaaDoor.Print
open Go.RowKit Go.Proofs.YtejecmjajdhiiaaDoorW.PrintWords Go.Proofs.YtejecmjajdhiiaaDoorW.PrintLast Go.Proofs.YtejecmjajdhiiaaDoorW.PrintMore
set_option linter.unusedSimpArgs false
set_option linter.unusedVariables false
theorem fine_cons (p : Option ByteArray) (x : S37) (l : List S37) : fine p (x :: l) = true ↔ nameB x.f0 = true ∧ 1 ≤ x.f1 ∧ p ≠ some x.f0 ∧ fine (some x.f0) l = true := by
  have e : fine p (x :: l) = (nameB x.f0 && decide (1 ≤ x.f1) && decide (p ≠ some x.f0) && fine (some x.f0) l) := rfl
  rw [e]
  simp only [Bool.and_eq_true, decide_eq_true_eq]
  constructor
  · rintro ⟨⟨⟨h1, h2⟩, h3⟩, h4⟩
    exact ⟨h1, h2, h3, h4⟩
  · rintro ⟨h1, h2, h3, h4⟩
    exact ⟨⟨⟨h1, h2⟩, h3⟩, h4⟩
theorem fine_none {p : Option ByteArray} {l : List S37} (h : fine p l = true) : fine none l = true := by
  cases l with
  | nil => rfl
  | cons x l =>
    obtain ⟨h1, h2, h3, h4⟩ := (fine_cons p x l).1 h
    exact (fine_cons none x l).2 ⟨h1, h2, by simp, h4⟩
theorem takeM_fine : ∀ (l : List S37) (p : Option ByteArray) (n : Int), fine p l = true → fine none (takeM l n).1 = true
  | [], _, _, _ => rfl
  | x :: l, p, n, h => by
    obtain ⟨h1, h2, h3, h4⟩ := (fine_cons p x l).1 h
    rw [takeM]
    split
    · split
      · exact takeM_fine l _ _ h4
      · rename_i hn hz
        refine (fine_cons none _ l).2 ⟨h1, ?_, by simp, h4⟩
        show 1 ≤ x.f1 - mn n x.f1
        unfold mn at hz ⊢
        split at hz <;> omega
    · exact fine_none h
theorem takeM_sum : ∀ (l : List S37) (p : Option ByteArray) (n : Int), fine p l = true → 0 ≤ n → n ≤ sumL l → sumL (takeM l n).2 = n ∧ sumL (takeM l n).1 = sumL l - n
  | [], _, n, _, h0, h9 => by
    have : sumL ([] : List S37) = 0 := rfl
    rw [this] at h9
    obtain rfl : n = 0 := by omega
    exact ⟨rfl, rfl⟩
  | x :: l, p, n, h, h0, h9 => by
    obtain ⟨h1, h2, h3, h4⟩ := (fine_cons p x l).1 h
    rw [sumL_cons] at h9 ⊢
    have hs := fine_sum l _ h4
    rw [takeM]
    by_cases hn : 0 < n
    · rw [if_pos hn]
      by_cases hx : x.f1 ≤ n
      · have hm : mn n x.f1 = x.f1 := by unfold mn; split <;> omega
        rw [hm, if_pos (by omega)]
        obtain ⟨i1, i2⟩ := takeM_sum l _ (n - x.f1) h4 (by omega) (by omega)
        refine ⟨?_, ?_⟩
        · show (outL x n).f1 + sumL (takeM l (n - x.f1)).2 = n
          have : (outL x n).f1 = x.f1 := hm
          omega
        · show sumL (takeM l (n - x.f1)).1 = _
          omega
      · have hm : mn n x.f1 = n := by unfold mn; split <;> omega
        rw [hm, if_neg (by omega)]
        have e : (outL x n).f1 = n := hm
        refine ⟨?_, ?_⟩
        · show (outL x n).f1 + 0 = n
          omega
        · show (x.f1 - n) + sumL l = _
          omega
    · rw [if_neg hn]
      have e0 : sumL ([] : List S37) = 0 := rfl
      have e1 : sumL (x :: l) = x.f1 + sumL l := rfl
      refine ⟨by show sumL ([] : List S37) = n; omega, by show sumL (x :: l) = _; omega⟩
theorem takeM_out : ∀ (l : List S37) (p : Option ByteArray) (n : Int), fine p l = true → ∀ y ∈ (takeM l n).2, nameB y.f0 = true ∧ 1 ≤ y.f1 ∧ ∃ z ∈ l, z.f0 = y.f0
  | [], _, _, _ => by intro y hy; simp [takeM] at hy
  | x :: l, p, n, h => by
    obtain ⟨h1, h2, h3, h4⟩ := (fine_cons p x l).1 h
    rw [takeM]
    by_cases hn : 0 < n
    · rw [if_pos hn]
      have hm : 1 ≤ mn n x.f1 := by unfold mn; split <;> omega
      split
      · intro y hy
        rcases List.mem_cons.1 hy with rfl | hy
        · exact ⟨h1, hm, x, by simp, rfl⟩
        · obtain ⟨a, b, z, c, d⟩ := takeM_out l _ _ h4 y hy
          exact ⟨a, b, z, by simp [c], d⟩
      · intro y hy
        have hy2 : y = outL x n := by simpa using hy
        subst hy2
        exact ⟨h1, hm, x, by simp, rfl⟩
    · rw [if_neg hn]
      intro y hy
      simp at hy
theorem takeM_rest : ∀ (l : List S37) (n : Int), (takeM l n).1.length ≤ l.length ∧ ∀ y ∈ (takeM l n).1, ∃ z ∈ l, z.f0 = y.f0
  | [], _ => ⟨Nat.le_refl _, by intro y hy; simp [takeM] at hy⟩
  | x :: l, n => by
    obtain ⟨i1, i2⟩ := takeM_rest l (n - mn n x.f1)
    rw [takeM]
    split
    · split
      · refine ⟨by simp only [List.length_cons]; omega, fun y hy => ?_⟩
        obtain ⟨z, a, b⟩ := i2 y hy
        exact ⟨z, by simp [a], b⟩
      · refine ⟨by simp, fun y hy => ?_⟩
        have hy' : y ∈ (⟨x.f0, x.f1 - mn n x.f1⟩ : S37) :: l := hy
        rcases List.mem_cons.1 hy' with rfl | hy
        · exact ⟨x, by simp, rfl⟩
        · exact ⟨y, by simp [hy], rfl⟩
    · exact ⟨Nat.le_refl _, fun y hy => ⟨y, hy, rfl⟩⟩
theorem pourM_cons (z w x : S37) (l : List S37) : pourM (z :: w :: l) x = z :: pourM (w :: l) x := by
  unfold pourM
  rw [List.getLast?_cons_cons]
  cases hg : (w :: l).getLast? with
  | none => simp at hg
  | some y =>
    dsimp only
    by_cases h : y.f0 = x.f0
    · rw [if_pos h, if_pos h]
      rfl
    · rw [if_neg h, if_neg h]
      rfl
theorem pourM_one (z x : S37) : pourM [z] x = if z.f0 = x.f0 then [⟨z.f0, z.f1 + x.f1⟩] else [z, x] := rfl
theorem pour_fine (x : S37) (hn : nameB x.f0 = true) (h1 : 1 ≤ x.f1) : ∀ (l : List S37) (p : Option ByteArray), fine p l = true → (l = [] → p ≠ some x.f0) → fine p (pourM l x) = true
  | [], p, _, hp => (fine_cons p x []).2 ⟨hn, h1, hp rfl, rfl⟩
  | [z], p, h, _ => by
    obtain ⟨a, b, c, _⟩ := (fine_cons p z []).1 h
    rw [pourM_one]
    split
    · exact (fine_cons p _ []).2 ⟨a, by show 1 ≤ z.f1 + x.f1; omega, c, rfl⟩
    · rename_i hz
      exact (fine_cons p _ _).2 ⟨a, b, c, (fine_cons _ x []).2 ⟨hn, h1, by simpa using hz, rfl⟩⟩
  | z :: w :: l, p, h, _ => by
    obtain ⟨a, b, c, d⟩ := (fine_cons p z _).1 h
    rw [pourM_cons]
    exact (fine_cons p z _).2 ⟨a, b, c, pour_fine x hn h1 (w :: l) _ d (fun h => by simp at h)⟩
theorem pour_sum (x : S37) : ∀ (l : List S37), sumL (pourM l x) = sumL l + x.f1
  | [] => by show x.f1 + 0 = 0 + x.f1; omega
  | [z] => by
    rw [pourM_one]
    split
    · show (z.f1 + x.f1) + 0 = (z.f1 + 0) + x.f1
      omega
    · show z.f1 + (x.f1 + 0) = (z.f1 + 0) + x.f1
      omega
  | z :: w :: l => by
    rw [pourM_cons, sumL_cons, sumL_cons, pour_sum x (w :: l)]
    omega
theorem pour_names (x : S37) : ∀ (l : List S37), ∀ y ∈ pourM l x, y.f0 = x.f0 ∨ ∃ z ∈ l, z.f0 = y.f0
  | [] => by intro y hy; have : y = x := by simpa [pourM] using hy
             subst this; exact .inl rfl
  | [z] => by
    intro y hy
    rw [pourM_one] at hy
    split at hy
    · have : y = ⟨z.f0, z.f1 + x.f1⟩ := by simpa using hy
      subst this
      exact .inr ⟨z, by simp, rfl⟩
    · simp at hy
      rcases hy with rfl | rfl
      · exact .inr ⟨_, by simp, rfl⟩
      · exact .inl rfl
  | z :: w :: l => by
    intro y hy
    rw [pourM_cons] at hy
    rcases List.mem_cons.1 hy with rfl | hy
    · exact .inr ⟨_, by simp, rfl⟩
    · rcases pour_names x (w :: l) y hy with h | ⟨q, h1, h2⟩
      · exact .inl h
      · exact .inr ⟨q, by simp [h1], h2⟩
theorem pour_grow (x : S37) : ∀ (l : List S37), l.length ≤ (pourM l x).length
  | [] => by simp
  | [z] => by rw [pourM_one]; split <;> simp
  | z :: w :: l => by
    have := pour_grow x (w :: l)
    rw [pourM_cons]
    simp only [List.length_cons] at this ⊢
    omega
theorem getLast_le : ∀ (l : List S37) (p : Option ByteArray) (q : S37), fine p l = true → l.getLast? = some q → 1 ≤ q.f1 ∧ q.f1 ≤ sumL l
  | [], _, _, _, h => by simp at h
  | [z], p, q, hf, h => by
    obtain ⟨a, b, c, d⟩ := (fine_cons p z []).1 hf
    obtain rfl : z = q := by simpa using h
    exact ⟨b, by show z.f1 ≤ z.f1 + 0; omega⟩
  | z :: w :: l, p, q, hf, h => by
    obtain ⟨a, b, c, d⟩ := (fine_cons p z _).1 hf
    rw [List.getLast?_cons_cons] at h
    obtain ⟨i1, i2⟩ := getLast_le (w :: l) _ q d h
    rw [sumL_cons]
    exact ⟨i1, by omega⟩
end Go.Proofs.YtejecmjajdhiiaaDoor.Print
/-! ### Print7 -/
namespace Go.Proofs.YtejecmjajdhiiaaDoor.Print
open Go.RowKit Go.Proofs.YtejecmjajdhiiaaDoorW.PrintWords Go.Proofs.YtejecmjajdhiiaaDoorW.PrintLast Go.Proofs.YtejecmjajdhiiaaDoorW.PrintMore
attribute [local go_sem] min_two
set_option linter.unusedVariables false
set_option linter.unusedSimpArgs false
mutual
def malthouseref13_Light.l0 : Nat → List (S25) → Int → Option (Bool)
  | 0, _, _ => none
  | k + 1, x0, x3 => if x3 < (x0.length : Int) then (if 0 ≤ x3 then (if (((rd_T25 x0 x3).f2).length : Int) > 50 then (malthouseref13_Light.j1 k x0 x3 true) else (malthouseref13_Light.j1 k x0 x3 (decide ((((rd_T25 x0 x3).f0).size : Int) > 200)))) else (none)) else (some true)
def malthouseref13_Light.j1 : Nat → List (S25) → Int → Bool → Option (Bool)
  | 0, _, _, _ => none
  | k + 1, x0, x3, x29 => if x29 = true then (some false) else (malthouseref13_Light.l1 k x0 x3 0)
def malthouseref13_Light.l1 : Nat → List (S25) → Int → Int → Option (Bool)
  | 0, _, _, _ => none
  | k + 1, x0, x3, x4 => if 0 ≤ x3 then (if x3 < (x0.length : Int) then (if x4 < (((rd_T25 x0 x3).f2).length : Int) then (if 0 ≤ x4 then (if (((rd_T37 ((rd_T25 x0 x3).f2) x4).f0).size : Int) > 200 then (some false) else (malthouseref13_Light.l1 k x0 x3 (wrap64 (x4 + 1)))) else (none)) else (malthouseref13_Light.l0 k x0 (wrap64 (x3 + 1)))) else (none)) else (none)
end
def malthouseref13_Light.f (k : Nat) (l0 : List (S25)) : Option (Bool) := if (l0.length : Int) > 50 then (some false) else (malthouseref13_Light.l0 k l0 0)
set_option maxHeartbeats 8000000 in
set_option maxRecDepth 100000 in
theorem malthouseref13_Light.calls (k : Nat) (A0 : Option Addr) (c0 : Nat) (l0 : List (S25)) (r : Bool) (w : World) (hr0 : Kd.C k25 w A0 l0.length l0) (hc0 : l0.length ≤ c0) (h : malthouseref13_Light.f k l0 = some r) :
    Calls Tryd.prog 11 #[.slice A0 l0.length c0] w fun e w' => e = .returned (.bool r) ∧ Drawn0 w w' := by
  have HR0 := Aside0.mk hr0
  have HC0 := Aside0.mk hc0
  clear hr0 hc0
  have H : (if (l0.length : Int) > 50 then (some false) else (malthouseref13_Light.l0 k l0 0)) = some r := h
  clear h
  by_cases c2 : (l0.length : Int) > 50
  · rw [if_pos c2] at H
    have c2b0 : decide (50 < (l0.length : Int)) = true := decide_eq_true c2
    have c2b1 : decide (50 < l0.length) = true := decide_eq_true (by omega)
    clear c2
    obtain rfl := Option.some.inj H
    go_enter Tryd.func11, Tryd.ntmps11
    go_wp2
    go_ret
    exact ⟨by first | rfl | (simp; done) | (simp [*]; done), by repeat (first | exact Drawn0.refl _ | apply Drawn0.step)⟩
  · rw [if_neg c2] at H
    have c2b0 : decide (50 < (l0.length : Int)) = false := decide_eq_false c2
    have c2b1 : decide (50 < l0.length) = false := decide_eq_false (by omega)
    clear c2
    have H' := Aside0.mk H
    clear H
    go_enter Tryd.func11, Tryd.ntmps11
    go_wp2
    go_loopg [3] k (fun kq v3 w' => ∃ (x3_1 : Int), v3 = .int .i64 x3_1 ∧ Aside0 (malthouseref13_Light.l0 kq l0 x3_1 = some r) ∧ Aside0 (kq ≤ k) ∧ Drawn0 w w')
    case atStart => exact ⟨(0), (by first | rfl | (simp; done) | (simp [*]; done)), H', ⟨Nat.le_refl _⟩, by repeat (first | exact Drawn0.refl _ | apply Drawn0.step)⟩
    case round =>
      clear H'
      try clear c1
      try clear c2
      try clear c2b0
      try clear c2b1
      try clear p2
      obtain ⟨x3_1, rfl, HA, HK1, ⟨m1, rfl⟩⟩ := hrel
      cases gk with
      | zero => exact absurd HA.out (by simp [malthouseref13_Light.l0])
      | succ k1 =>
        have H := HA.out
        clear HA
        simp only [malthouseref13_Light.l0] at H
        by_cases c3 : x3_1 < (l0.length : Int)
        · rw [if_pos c3] at H
          have c3b0 : decide (x3_1 < (l0.length : Int)) = true := decide_eq_true c3
          clear c3
          have HC4 := Aside0.mk H
          clear H
          go_upto_region 6 with (fail)
          go_cut [29] (fun v29 wc => ∃ (kq : Nat) (x29_3 : Bool), v29 = .bool x29_3 ∧ Aside0 (malthouseref13_Light.j1 kq l0 x3_1 x29_3 = some r) ∧ Aside0 (kq ≤ k1) ∧ Drawn0 w wc)
          case first =>
            have H := HC4.out
            clear HC4
            by_cases c5 : 0 ≤ x3_1
            · rw [if_pos c5] at H
              have c5b0 : decide (0 ≤ x3_1) = true := decide_eq_true c5
              clear c5
              (first | rw [c5b0] | (simp only [i64_w, i32_w]; rw [c5b0]) | skip)
              by_cases c6 : (((rd_T25 l0 x3_1).f2).length : Int) > 50
              · rw [if_pos c6] at H
                have c6b0 : decide (50 < (((rd_T25 l0 x3_1).f2).length : Int)) = true := decide_eq_true c6
                have c6b1 : decide (50 < ((rd_T25 l0 x3_1).f2).length) = true := decide_eq_true (by omega)
                clear c6
                have H' := Aside0.mk H
                clear H
                have p126 : 0 ≤ (x3_1 : Int) := of_decide_eq_true (by first | (with_reducible assumption) | assumption)
                have q126 : x3_1 < (l0.length : Int) := of_decide_eq_true (by first | (with_reducible assumption) | assumption)
                obtain ⟨ad126, A126_2, c126_2, e126, hx126_0, hx126_1, hx126_2, hl126_2, hi126_2⟩ := at_T25 HR0.out x3_1 p126 q126
                cases e126
                have HR126_2 := Aside0.mk hi126_2
                have HC126_2 := Aside0.mk hl126_2
                clear hi126_2 hl126_2
                replace p126 := eq_true p126
                replace q126 := eq_true q126
                go_wp2
                go_meet
                case rel => exact ⟨_, (true), (by first | rfl | (simp; done) | (simp [*]; done)), H', ⟨by have := HK1.out; first | omega | exact Nat.le_refl _⟩, by repeat (first | exact Drawn0.refl _ | apply Drawn0.step)⟩
              · rw [if_neg c6] at H
                have c6b0 : decide (50 < (((rd_T25 l0 x3_1).f2).length : Int)) = false := decide_eq_false c6
                have c6b1 : decide (50 < ((rd_T25 l0 x3_1).f2).length) = false := decide_eq_false (by omega)
                clear c6
                have H' := Aside0.mk H
                clear H
                have p126 : 0 ≤ (x3_1 : Int) := of_decide_eq_true (by first | (with_reducible assumption) | assumption)
                have q126 : x3_1 < (l0.length : Int) := of_decide_eq_true (by first | (with_reducible assumption) | assumption)
                obtain ⟨ad126, A126_2, c126_2, e126, hx126_0, hx126_1, hx126_2, hl126_2, hi126_2⟩ := at_T25 HR0.out x3_1 p126 q126
                cases e126
                have HR126_2 := Aside0.mk hi126_2
                have HC126_2 := Aside0.mk hl126_2
                clear hi126_2 hl126_2
                replace p126 := eq_true p126
                replace q126 := eq_true q126
                have p127 : 0 ≤ (x3_1 : Int) := of_decide_eq_true (by first | (with_reducible assumption) | assumption)
                have q127 : x3_1 < (l0.length : Int) := of_decide_eq_true (by first | (with_reducible assumption) | assumption)
                obtain ⟨ad127, A127_2, c127_2, e127, hx127_0, hx127_1, hx127_2, hl127_2, hi127_2⟩ := at_T25 HR0.out x3_1 p127 q127
                obtain rfl : ad126 = ad127 := (by injection e127)
                have HR127_2 := Aside0.mk hi127_2
                have HC127_2 := Aside0.mk hl127_2
                clear hi127_2 hl127_2
                replace p127 := eq_true p127
                replace q127 := eq_true q127
                have ea_ := Option.some.inj (hx126_2.symm.trans hx127_2)
                injection ea_ with ea_ en_ ec_
                subst ea_
                subst ec_
                clear en_
                go_wp2
                go_meet
                case rel => exact ⟨_, (decide ((((rd_T25 l0 x3_1).f0).size : Int) > 200)), (by first | rfl | (simp; done) | (simp [*]; done)), H', ⟨by have := HK1.out; first | omega | exact Nat.le_refl _⟩, by repeat (first | exact Drawn0.refl _ | apply Drawn0.step)⟩
            · rw [if_neg c5] at H
              exact absurd H (by simp)
          case rest =>
            clear HC4
            try clear c1
            try clear p1
            try clear q1
            try clear hx1
            try clear c2
            try clear c2b0
            try clear c2b1
            try clear p2
            try clear c3
            try clear c3b0
            try clear c5
            try clear c5b0
            try clear c6
            try clear c6b0
            try clear c6b1
            try clear hx126_0
            try clear hx126_1
            try clear hx126_2
            try clear hx127_0
            try clear hx127_1
            try clear hx127_2
            try clear p126
            try clear p127
            try clear p2
            try clear q126
            try clear q127
            obtain ⟨kq, x29_3, rfl, HA, HJ3, ⟨mc3, rfl⟩⟩ := hcut
            cases kq with
            | zero => exact absurd HA.out (by simp [malthouseref13_Light.j1])
            | succ kj3 =>
              have H := HA.out
              clear HA
              simp only [malthouseref13_Light.j1] at H
              by_cases c7 : x29_3 = true
              · subst c7
                have H1 : (some false) = some r := by rw [if_pos rfl] at H; exact H
                clear H
                have H := H1
                clear H1
                obtain rfl := Option.some.inj H
                go_wp2
                go_ret
                exact ⟨by first | rfl | (simp; done) | (simp [*]; done), by repeat (first | exact Drawn0.refl _ | apply Drawn0.step)⟩
              · replace c7 := Bool.eq_false_iff.mpr c7
                subst c7
                have H1 : (malthouseref13_Light.l1 kj3 l0 x3_1 0) = some r := by rw [if_neg (show ¬ (false = true) by decide)] at H; exact H
                clear H
                have H := H1
                clear H1
                have H' := Aside0.mk H
                clear H
                go_wp2
                go_loopg [4] kj3 (fun kq v4 w' => ∃ (x4_3 : Int), v4 = .int .i64 x4_3 ∧ Aside0 (malthouseref13_Light.l1 kq l0 x3_1 x4_3 = some r) ∧ Aside0 (kq ≤ kj3) ∧ Drawn0 w w')
                case atStart => exact ⟨(0), (by first | rfl | (simp; done) | (simp [*]; done)), H', ⟨Nat.le_refl _⟩, by repeat (first | exact Drawn0.refl _ | apply Drawn0.step)⟩
                case round =>
                  clear H'
                  try clear c1
                  try clear p1
                  try clear q1
                  try clear hx1
                  try clear c2
                  try clear c2b0
                  try clear c2b1
                  try clear p2
                  try clear c3
                  try clear c3b0
                  try clear c5
                  try clear c5b0
                  try clear c6
                  try clear c6b0
                  try clear c6b1
                  try clear c7
                  try clear hx126_0
                  try clear hx126_1
                  try clear hx126_2
                  try clear hx127_0
                  try clear hx127_1
                  try clear hx127_2
                  try clear p1
                  try clear p126
                  try clear p127
                  try clear p2
                  try clear q1
                  try clear q126
                  try clear q127
                  obtain ⟨x4_3, rfl, HA, HK3, ⟨m3, rfl⟩⟩ := hrel
                  cases gk with
                  | zero => exact absurd HA.out (by simp [malthouseref13_Light.l1])
                  | succ k3 =>
                    have H := HA.out
                    clear HA
                    simp only [malthouseref13_Light.l1] at H
                    by_cases c8 : 0 ≤ x3_1
                    · rw [if_pos c8] at H
                      have c8b0 : decide (0 ≤ x3_1) = true := decide_eq_true c8
                      clear c8
                      by_cases c9 : x3_1 < (l0.length : Int)
                      · rw [if_pos c9] at H
                        have c9b0 : decide (x3_1 < (l0.length : Int)) = true := decide_eq_true c9
                        clear c9
                        by_cases c10 : x4_3 < (((rd_T25 l0 x3_1).f2).length : Int)
                        · rw [if_pos c10] at H
                          have c10b0 : decide (x4_3 < (((rd_T25 l0 x3_1).f2).length : Int)) = true := decide_eq_true c10
                          clear c10
                          by_cases c11 : 0 ≤ x4_3
                          · rw [if_pos c11] at H
                            have c11b0 : decide (0 ≤ x4_3) = true := decide_eq_true c11
                            clear c11
                            by_cases c12 : (((rd_T37 ((rd_T25 l0 x3_1).f2) x4_3).f0).size : Int) > 200
                            · rw [if_pos c12] at H
                              have c12b0 : decide (200 < (((rd_T37 ((rd_T25 l0 x3_1).f2) x4_3).f0).size : Int)) = true := decide_eq_true c12
                              have c12b1 : decide (200 < ((rd_T37 ((rd_T25 l0 x3_1).f2) x4_3).f0).size) = true := decide_eq_true (by omega)
                              clear c12
                              obtain rfl := Option.some.inj H
                              have p128 : 0 ≤ (x3_1 : Int) := of_decide_eq_true (by first | (with_reducible assumption) | assumption)
                              have q128 : x3_1 < (l0.length : Int) := of_decide_eq_true (by first | (with_reducible assumption) | assumption)
                              obtain ⟨ad128, A128_2, c128_2, e128, hx128_0, hx128_1, hx128_2, hl128_2, hi128_2⟩ := at_T25 HR0.out x3_1 p128 q128
                              cases e128
                              have HR128_2 := Aside0.mk hi128_2
                              have HC128_2 := Aside0.mk hl128_2
                              clear hi128_2 hl128_2
                              replace p128 := eq_true p128
                              replace q128 := eq_true q128
                              have p129 : 0 ≤ (x3_1 : Int) := of_decide_eq_true (by first | (with_reducible assumption) | assumption)
                              have q129 : x3_1 < (l0.length : Int) := of_decide_eq_true (by first | (with_reducible assumption) | assumption)
                              obtain ⟨ad129, A129_2, c129_2, e129, hx129_0, hx129_1, hx129_2, hl129_2, hi129_2⟩ := at_T25 HR0.out x3_1 p129 q129
                              obtain rfl : ad128 = ad129 := (by injection e129)
                              have HR129_2 := Aside0.mk hi129_2
                              have HC129_2 := Aside0.mk hl129_2
                              clear hi129_2 hl129_2
                              replace p129 := eq_true p129
                              replace q129 := eq_true q129
                              have ea_ := Option.some.inj (hx128_2.symm.trans hx129_2)
                              injection ea_ with ea_ en_ ec_
                              subst ea_
                              subst ec_
                              clear en_
                              have p130 : 0 ≤ (x4_3 : Int) := of_decide_eq_true (by first | (with_reducible assumption) | assumption)
                              have q130 : x4_3 < (((rd_T25 l0 x3_1).f2).length : Int) := of_decide_eq_true (by first | (with_reducible assumption) | assumption)
                              obtain ⟨ad130, e130, hx130_0, hx130_1⟩ := at_T37 HR129_2.out x4_3 p130 q130
                              cases e130
                              replace p130 := eq_true p130
                              replace q130 := eq_true q130
                              go_wp2
                              go_ret
                              exact ⟨by first | rfl | (simp; done) | (simp [*]; done), by repeat (first | exact Drawn0.refl _ | apply Drawn0.step)⟩
                            · rw [if_neg c12] at H
                              have c12b0 : decide (200 < (((rd_T37 ((rd_T25 l0 x3_1).f2) x4_3).f0).size : Int)) = false := decide_eq_false c12
                              have c12b1 : decide (200 < ((rd_T37 ((rd_T25 l0 x3_1).f2) x4_3).f0).size) = false := decide_eq_false (by omega)
                              clear c12
                              have H' := Aside0.mk H
                              clear H
                              have p128 : 0 ≤ (x3_1 : Int) := of_decide_eq_true (by first | (with_reducible assumption) | assumption)
                              have q128 : x3_1 < (l0.length : Int) := of_decide_eq_true (by first | (with_reducible assumption) | assumption)
                              obtain ⟨ad128, A128_2, c128_2, e128, hx128_0, hx128_1, hx128_2, hl128_2, hi128_2⟩ := at_T25 HR0.out x3_1 p128 q128
                              cases e128
                              have HR128_2 := Aside0.mk hi128_2
                              have HC128_2 := Aside0.mk hl128_2
                              clear hi128_2 hl128_2
                              replace p128 := eq_true p128
                              replace q128 := eq_true q128
                              have p129 : 0 ≤ (x3_1 : Int) := of_decide_eq_true (by first | (with_reducible assumption) | assumption)
                              have q129 : x3_1 < (l0.length : Int) := of_decide_eq_true (by first | (with_reducible assumption) | assumption)
                              obtain ⟨ad129, A129_2, c129_2, e129, hx129_0, hx129_1, hx129_2, hl129_2, hi129_2⟩ := at_T25 HR0.out x3_1 p129 q129
                              obtain rfl : ad128 = ad129 := (by injection e129)
                              have HR129_2 := Aside0.mk hi129_2
                              have HC129_2 := Aside0.mk hl129_2
                              clear hi129_2 hl129_2
                              replace p129 := eq_true p129
                              replace q129 := eq_true q129
                              have ea_ := Option.some.inj (hx128_2.symm.trans hx129_2)
                              injection ea_ with ea_ en_ ec_
                              subst ea_
                              subst ec_
                              clear en_
                              have p130 : 0 ≤ (x4_3 : Int) := of_decide_eq_true (by first | (with_reducible assumption) | assumption)
                              have q130 : x4_3 < (((rd_T25 l0 x3_1).f2).length : Int) := of_decide_eq_true (by first | (with_reducible assumption) | assumption)
                              obtain ⟨ad130, e130, hx130_0, hx130_1⟩ := at_T37 HR129_2.out x4_3 p130 q130
                              cases e130
                              replace p130 := eq_true p130
                              replace q130 := eq_true q130
                              go_wp2
                              go_roundg k3
                              case measure => have := HK1.out; have := HJ3.out; have := HK3.out; omega
                              case rel => exact ⟨(wrap64 (x4_3 + 1)), (by first | rfl | (simp; done) | (simp [*]; done)), H', ⟨by have := HK1.out; have := HJ3.out; have := HK3.out; omega⟩, by repeat (first | exact Drawn0.refl _ | apply Drawn0.step)⟩
                          · rw [if_neg c11] at H
                            exact absurd H (by simp)
                        · rw [if_neg c10] at H
                          have c10b0 : decide (x4_3 < (((rd_T25 l0 x3_1).f2).length : Int)) = false := decide_eq_false c10
                          clear c10
                          have H' := Aside0.mk H
                          clear H
                          have p128 : 0 ≤ (x3_1 : Int) := of_decide_eq_true (by first | (with_reducible assumption) | assumption)
                          have q128 : x3_1 < (l0.length : Int) := of_decide_eq_true (by first | (with_reducible assumption) | assumption)
                          obtain ⟨ad128, A128_2, c128_2, e128, hx128_0, hx128_1, hx128_2, hl128_2, hi128_2⟩ := at_T25 HR0.out x3_1 p128 q128
                          cases e128
                          have HR128_2 := Aside0.mk hi128_2
                          have HC128_2 := Aside0.mk hl128_2
                          clear hi128_2 hl128_2
                          replace p128 := eq_true p128
                          replace q128 := eq_true q128
                          go_wp2
                          go_roundg k3
                          case measure => have := HK1.out; have := HJ3.out; have := HK3.out; omega
                          case rel => exact ⟨(wrap64 (x3_1 + 1)), (by first | rfl | (simp; done) | (simp [*]; done)), H', ⟨by have := HK1.out; have := HJ3.out; have := HK3.out; omega⟩, by repeat (first | exact Drawn0.refl _ | apply Drawn0.step)⟩
                      · rw [if_neg c9] at H
                        exact absurd H (by simp)
                    · rw [if_neg c8] at H
                      exact absurd H (by simp)
        · rw [if_neg c3] at H
          have c3b0 : decide (x3_1 < (l0.length : Int)) = false := decide_eq_false c3
          clear c3
          obtain rfl := Option.some.inj H
          go_wp2
          go_ret
          exact ⟨by first | rfl | (simp; done) | (simp [*]; done), by repeat (first | exact Drawn0.refl _ | apply Drawn0.step)⟩
end Go.Proofs.YtejecmjajdhiiaaDoor.Print
/-! ### Print1 -/
namespace Go.Proofs.YtejecmjajdhiiaaDoor.Print
open Go.RowKit Go.Proofs.YtejecmjajdhiiaaDoorW.PrintWords Go.Proofs.YtejecmjajdhiiaaDoorW.PrintLast Go.Proofs.YtejecmjajdhiiaaDoorW.PrintMore
attribute [local go_sem] min_two
set_option linter.unusedVariables false
set_option linter.unusedSimpArgs false
theorem eqA37 (d : Nat) (w : World) (x0 y0 : ByteArray) (x1 y1 : Int) :
    (Op.equalIn (d + 2) 37 (.agg #[.string x0, .int .i64 x1]) (.agg #[.string y0, .int .i64 y1])).run Tryd.prog w = .ok (x0.toList == y0.toList && (x1 == y1)) w := by
  refine eqA_of Tryd.underlying37 (by kernel_rfl) ?_
  refine eqf_cons (by rfl) (by go_simp; rfl) (by go_simp; rfl) (by go_simp) ?_
  exact eqf_last (by rfl) (by go_simp; rfl) (by go_simp; rfl) (by go_simp)
end Go.Proofs.YtejecmjajdhiiaaDoor.Print
/-! ### Print12 -/
namespace Go.Proofs.YtejecmjajdhiiaaDoor.Print
open Go.RowKit Go.Proofs.YtejecmjajdhiiaaDoorW.PrintWords Go.Proofs.YtejecmjajdhiiaaDoorW.PrintLast Go.Proofs.YtejecmjajdhiiaaDoorW.PrintMore
attribute [local go_sem] min_two
set_option linter.unusedVariables false
set_option linter.unusedSimpArgs false
attribute [local go_sem high] eqA37
def malthouseref13_Lots.l0 : Nat → List (S37) → List (S37) → Int → Option (Bool)
  | 0, _, _, _ => none
  | k + 1, x0, x1, x5 => if x5 < (x0.length : Int) then (if 0 ≤ x5 then (if x5 < (x1.length : Int) then (if (!((((rd_T37 x0 x5).f0).toList) == (((rd_T37 x1 x5).f0).toList)) || (!(((rd_T37 x0 x5).f1) == ((rd_T37 x1 x5).f1)))) = true then (some false) else (malthouseref13_Lots.l0 k x0 x1 (wrap64 (x5 + 1)))) else (none)) else (none)) else (some true)
def malthouseref13_Lots.f (k : Nat) (l0 : List (S37)) (l1 : List (S37)) : Option (Bool) := if (l0.length : Int) = (l1.length : Int) then (malthouseref13_Lots.l0 k l0 l1 0) else (some false)
set_option maxHeartbeats 8000000 in
set_option maxRecDepth 100000 in
theorem malthouseref13_Lots.calls (k : Nat) (A0 : Option Addr) (c0 : Nat) (l0 : List (S37)) (A1 : Option Addr) (c1 : Nat) (l1 : List (S37)) (r : Bool) (w : World) (hr0 : Kd.C k37 w A0 l0.length l0) (hc0 : l0.length ≤ c0) (hr1 : Kd.C k37 w A1 l1.length l1) (hc1 : l1.length ≤ c1) (h : malthouseref13_Lots.f k l0 l1 = some r) :
    Calls Tryd.prog 20 #[.slice A0 l0.length c0, .slice A1 l1.length c1] w fun e w' => e = .returned (.bool r) ∧ Drawn0 w w' := by
  have hu37 := Tryd.underlying37
  have HR0 := Aside0.mk hr0
  have HC0 := Aside0.mk hc0
  clear hr0 hc0
  have HR1 := Aside0.mk hr1
  have HC1 := Aside0.mk hc1
  clear hr1 hc1
  have H : (if (l0.length : Int) = (l1.length : Int) then (malthouseref13_Lots.l0 k l0 l1 0) else (some false)) = some r := h
  clear h
  by_cases c3 : (l0.length : Int) = (l1.length : Int)
  · rw [if_pos c3] at H
    have c3b0 : ((l0.length : Int) == (l1.length : Int)) = true := beq_iff_eq.mpr c3
    have c3b1 : ((l0.length : Int) != (l1.length : Int)) = false := bne_eq_false_iff_eq.mpr c3
    have c3b2 : (l0.length == l1.length) = true := by first | simpa using c3 | (simp at c3 ⊢; omega)
    clear c3
    have H' := Aside0.mk H
    clear H
    go_enter Tryd.func20, Tryd.ntmps20
    go_wp2
    repeat (go_quiet (fail); try go_wp2)
    go_loopg [5] k (fun kq v5 w' => ∃ (x5_1 : Int), v5 = .int .i64 x5_1 ∧ Aside0 (malthouseref13_Lots.l0 kq l0 l1 x5_1 = some r) ∧ Aside0 (kq ≤ k) ∧ Drawn0 w w')
    case atStart => exact ⟨(0), (by first | rfl | (simp; done) | (simp [*]; done)), H', ⟨Nat.le_refl _⟩, by repeat (first | exact Drawn0.refl _ | apply Drawn0.step)⟩
    case round =>
      clear H'
      try clear c1
      try clear c2
      try clear p2
      try clear c3
      try clear c3b0
      try clear c3b1
      try clear c3b2
      obtain ⟨x5_1, rfl, HA, HK1, ⟨m1, rfl⟩⟩ := hrel
      cases gk with
      | zero => exact absurd HA.out (by simp [malthouseref13_Lots.l0])
      | succ k1 =>
        have H := HA.out
        clear HA
        simp only [malthouseref13_Lots.l0] at H
        by_cases c4 : x5_1 < (l0.length : Int)
        · rw [if_pos c4] at H
          have c4b0 : decide (x5_1 < (l0.length : Int)) = true := decide_eq_true c4
          clear c4
          by_cases c5 : 0 ≤ x5_1
          · rw [if_pos c5] at H
            have c5b0 : decide (0 ≤ x5_1) = true := decide_eq_true c5
            clear c5
            by_cases c6 : x5_1 < (l1.length : Int)
            · rw [if_pos c6] at H
              have c6b0 : decide (x5_1 < (l1.length : Int)) = true := decide_eq_true c6
              clear c6
              by_cases c7 : (!((((rd_T37 l0 x5_1).f0).toList) == (((rd_T37 l1 x5_1).f0).toList)) || (!(((rd_T37 l0 x5_1).f1) == ((rd_T37 l1 x5_1).f1)))) = true
              · rw [if_pos c7] at H
                have c7b0 : (!((((rd_T37 l0 x5_1).f0).toList) == (((rd_T37 l1 x5_1).f0).toList)) || (!(((rd_T37 l0 x5_1).f1) == ((rd_T37 l1 x5_1).f1)))) = true := c7
                clear c7
                obtain rfl := Option.some.inj H
                have p194 : 0 ≤ (x5_1 : Int) := of_decide_eq_true (by first | (with_reducible assumption) | assumption)
                have q194 : x5_1 < (l0.length : Int) := of_decide_eq_true (by first | (with_reducible assumption) | assumption)
                obtain ⟨ad194, e194, hx194_0, hx194_1⟩ := at_T37 HR0.out x5_1 p194 q194
                cases e194
                replace p194 := eq_true p194
                replace q194 := eq_true q194
                have p195 : 0 ≤ (x5_1 : Int) := of_decide_eq_true (by first | (with_reducible assumption) | assumption)
                have q195 : x5_1 < (l1.length : Int) := of_decide_eq_true (by first | (with_reducible assumption) | assumption)
                obtain ⟨ad195, e195, hx195_0, hx195_1⟩ := at_T37 HR1.out x5_1 p195 q195
                cases e195
                replace p195 := eq_true p195
                replace q195 := eq_true q195
                go_wp2
                repeat (go_quiet (fail); try go_wp2)
                go_ret
                exact ⟨by first | rfl | (simp; done) | (simp [*]; done), by repeat (first | exact Drawn0.refl _ | apply Drawn0.step)⟩
              · rw [if_neg c7] at H
                have c7b0 : (!((((rd_T37 l0 x5_1).f0).toList) == (((rd_T37 l1 x5_1).f0).toList)) || (!(((rd_T37 l0 x5_1).f1) == ((rd_T37 l1 x5_1).f1)))) = false := by simpa using c7
                clear c7
                have H' := Aside0.mk H
                clear H
                have p194 : 0 ≤ (x5_1 : Int) := of_decide_eq_true (by first | (with_reducible assumption) | assumption)
                have q194 : x5_1 < (l0.length : Int) := of_decide_eq_true (by first | (with_reducible assumption) | assumption)
                obtain ⟨ad194, e194, hx194_0, hx194_1⟩ := at_T37 HR0.out x5_1 p194 q194
                cases e194
                replace p194 := eq_true p194
                replace q194 := eq_true q194
                have p195 : 0 ≤ (x5_1 : Int) := of_decide_eq_true (by first | (with_reducible assumption) | assumption)
                have q195 : x5_1 < (l1.length : Int) := of_decide_eq_true (by first | (with_reducible assumption) | assumption)
                obtain ⟨ad195, e195, hx195_0, hx195_1⟩ := at_T37 HR1.out x5_1 p195 q195
                cases e195
                replace p195 := eq_true p195
                replace q195 := eq_true q195
                go_wp2
                repeat (go_quiet (fail); try go_wp2)
                go_roundg k1
                case measure => have := HK1.out; omega
                case rel => exact ⟨(wrap64 (x5_1 + 1)), (by first | rfl | (simp; done) | (simp [*]; done)), H', ⟨by have := HK1.out; omega⟩, by repeat (first | exact Drawn0.refl _ | apply Drawn0.step)⟩
            · rw [if_neg c6] at H
              exact absurd H (by simp)
          · rw [if_neg c5] at H
            exact absurd H (by simp)
        · rw [if_neg c4] at H
          have c4b0 : decide (x5_1 < (l0.length : Int)) = false := decide_eq_false c4
          clear c4
          obtain rfl := Option.some.inj H
          go_wp2
          repeat (go_quiet (fail); try go_wp2)
          go_ret
          exact ⟨by first | rfl | (simp; done) | (simp [*]; done), by repeat (first | exact Drawn0.refl _ | apply Drawn0.step)⟩
  · rw [if_neg c3] at H
    have c3b0 : ((l0.length : Int) == (l1.length : Int)) = false := beq_eq_false_iff_ne.mpr c3
    have c3b1 : ((l0.length : Int) != (l1.length : Int)) = true := bne_iff_ne.mpr c3
    have c3b2 : (l0.length == l1.length) = false := by first | simpa using c3 | (simp at c3 ⊢; omega)
    obtain rfl := Option.some.inj H
    go_enter Tryd.func20, Tryd.ntmps20
    go_wp2
    repeat (go_quiet (fail); try go_wp2)
    go_ret
    exact ⟨by first | rfl | (simp; done) | (simp [*]; done), by repeat (first | exact Drawn0.refl _ | apply Drawn0.step)⟩
def malthouseref13_Same.l0 : Nat → List (S25) → List (S25) → Int → Option (Bool)
  | 0, _, _, _ => none
  | k + 1, x0, x1, x5 => if x5 < (x0.length : Int) then (if 0 ≤ x5 then (if x5 < (x1.length : Int) then ((malthouseref13_Lots.f k ((rd_T25 x0 x5).f2) ((rd_T25 x1 x5).f2)).bind fun t198 => (if t198 = true then (if ((rd_T25 x0 x5).f0).toList = ((rd_T25 x1 x5).f0).toList then (if ((rd_T25 x0 x5).f1) = ((rd_T25 x1 x5).f1) then (malthouseref13_Same.l0 k x0 x1 (wrap64 (x5 + 1))) else (some false)) else (some false)) else (some false))) else (none)) else (none)) else (some true)
def malthouseref13_Same.f (k : Nat) (l0 : List (S25)) (l1 : List (S25)) : Option (Bool) := if (l0.length : Int) = (l1.length : Int) then (malthouseref13_Same.l0 k l0 l1 0) else (some false)
set_option maxHeartbeats 8000000 in
set_option maxRecDepth 100000 in
theorem malthouseref13_Same.calls (k : Nat) (A0 : Option Addr) (c0 : Nat) (l0 : List (S25)) (A1 : Option Addr) (c1 : Nat) (l1 : List (S25)) (r : Bool) (w : World) (hr0 : Kd.C k25 w A0 l0.length l0) (hc0 : l0.length ≤ c0) (hr1 : Kd.C k25 w A1 l1.length l1) (hc1 : l1.length ≤ c1) (h : malthouseref13_Same.f k l0 l1 = some r) :
    Calls Tryd.prog 19 #[.slice A0 l0.length c0, .slice A1 l1.length c1] w fun e w' => e = .returned (.bool r) ∧ Drawn0 w w' := by
  have HR0 := Aside0.mk hr0
  have HC0 := Aside0.mk hc0
  clear hr0 hc0
  have HR1 := Aside0.mk hr1
  have HC1 := Aside0.mk hc1
  clear hr1 hc1
  have H : (if (l0.length : Int) = (l1.length : Int) then (malthouseref13_Same.l0 k l0 l1 0) else (some false)) = some r := h
  clear h
  by_cases c3 : (l0.length : Int) = (l1.length : Int)
  · rw [if_pos c3] at H
    have c3b0 : ((l0.length : Int) == (l1.length : Int)) = true := beq_iff_eq.mpr c3
    have c3b1 : ((l0.length : Int) != (l1.length : Int)) = false := bne_eq_false_iff_eq.mpr c3
    have c3b2 : (l0.length == l1.length) = true := by first | simpa using c3 | (simp at c3 ⊢; omega)
    clear c3
    have H' := Aside0.mk H
    clear H
    go_enter Tryd.func19, Tryd.ntmps19
    go_wp2
    repeat (go_quiet (fail); try go_wp2)
    go_loopg [5] k (fun kq v5 w' => ∃ (x5_1 : Int), v5 = .int .i64 x5_1 ∧ Aside0 (malthouseref13_Same.l0 kq l0 l1 x5_1 = some r) ∧ Aside0 (kq ≤ k) ∧ Drawn0 w w')
    case atStart => exact ⟨(0), (by first | rfl | (simp; done) | (simp [*]; done)), H', ⟨Nat.le_refl _⟩, by repeat (first | exact Drawn0.refl _ | apply Drawn0.step)⟩
    case round =>
      clear H'
      try clear c1
      try clear p2
      try clear c3
      try clear c3b0
      try clear c3b1
      try clear c3b2
      obtain ⟨x5_1, rfl, HA, HK1, ⟨m1, rfl⟩⟩ := hrel
      cases gk with
      | zero => exact absurd HA.out (by simp [malthouseref13_Same.l0])
      | succ k1 =>
        have H := HA.out
        clear HA
        simp only [malthouseref13_Same.l0] at H
        by_cases c4 : x5_1 < (l0.length : Int)
        · rw [if_pos c4] at H
          have c4b0 : decide (x5_1 < (l0.length : Int)) = true := decide_eq_true c4
          clear c4
          by_cases c5 : 0 ≤ x5_1
          · rw [if_pos c5] at H
            have c5b0 : decide (0 ≤ x5_1) = true := decide_eq_true c5
            clear c5
            by_cases c6 : x5_1 < (l1.length : Int)
            · rw [if_pos c6] at H
              have c6b0 : decide (x5_1 < (l1.length : Int)) = true := decide_eq_true c6
              clear c6
              replace H := Option.bind_eq_some_iff.mp H
              obtain ⟨t198, A70, H⟩ := H
              replace H : (if t198 = true then (if ((rd_T25 l0 x5_1).f0).toList = ((rd_T25 l1 x5_1).f0).toList then (if ((rd_T25 l0 x5_1).f1) = ((rd_T25 l1 x5_1).f1) then (malthouseref13_Same.l0 k1 l0 l1 (wrap64 (x5_1 + 1))) else (some false)) else (some false)) else (some false)) = some r := H
              have A7 := Aside0.mk A70
              clear A70
              by_cases c8 : t198 = true
              · subst c8
                have H1 : (if ((rd_T25 l0 x5_1).f0).toList = ((rd_T25 l1 x5_1).f0).toList then (if ((rd_T25 l0 x5_1).f1) = ((rd_T25 l1 x5_1).f1) then (malthouseref13_Same.l0 k1 l0 l1 (wrap64 (x5_1 + 1))) else (some false)) else (some false)) = some r := by rw [if_pos rfl] at H; exact H
                clear H
                have H := H1
                clear H1
                by_cases c9 : ((rd_T25 l0 x5_1).f0).toList = ((rd_T25 l1 x5_1).f0).toList
                · rw [if_pos c9] at H
                  have c9b0 : (((rd_T25 l0 x5_1).f0).toList == ((rd_T25 l1 x5_1).f0).toList) = true := beq_iff_eq.mpr c9
                  have c9b1 : (((rd_T25 l0 x5_1).f0).toList != ((rd_T25 l1 x5_1).f0).toList) = false := bne_eq_false_iff_eq.mpr c9
                  clear c9
                  by_cases c10 : ((rd_T25 l0 x5_1).f1) = ((rd_T25 l1 x5_1).f1)
                  · rw [if_pos c10] at H
                    have c10b0 : (((rd_T25 l0 x5_1).f1) == ((rd_T25 l1 x5_1).f1)) = true := beq_iff_eq.mpr c10
                    have c10b1 : (((rd_T25 l0 x5_1).f1) != ((rd_T25 l1 x5_1).f1)) = false := bne_eq_false_iff_eq.mpr c10
                    clear c10
                    have H' := Aside0.mk H
                    clear H
                    have p196 : 0 ≤ (x5_1 : Int) := of_decide_eq_true (by first | (with_reducible assumption) | assumption)
                    have q196 : x5_1 < (l0.length : Int) := of_decide_eq_true (by first | (with_reducible assumption) | assumption)
                    obtain ⟨ad196, A196_2, c196_2, e196, hx196_0, hx196_1, hx196_2, hl196_2, hi196_2⟩ := at_T25 HR0.out x5_1 p196 q196
                    cases e196
                    have HR196_2 := Aside0.mk hi196_2
                    have HC196_2 := Aside0.mk hl196_2
                    clear hi196_2 hl196_2
                    replace p196 := eq_true p196
                    replace q196 := eq_true q196
                    have p197 : 0 ≤ (x5_1 : Int) := of_decide_eq_true (by first | (with_reducible assumption) | assumption)
                    have q197 : x5_1 < (l1.length : Int) := of_decide_eq_true (by first | (with_reducible assumption) | assumption)
                    obtain ⟨ad197, A197_2, c197_2, e197, hx197_0, hx197_1, hx197_2, hl197_2, hi197_2⟩ := at_T25 HR1.out x5_1 p197 q197
                    cases e197
                    have HR197_2 := Aside0.mk hi197_2
                    have HC197_2 := Aside0.mk hl197_2
                    clear hi197_2 hl197_2
                    replace p197 := eq_true p197
                    replace q197 := eq_true q197
                    go_wp2_with (first | (go_at_call 20; (with_reducible refine (malthouseref13_Lots.calls k1 _ _ ((rd_T25 l0 x5_1).f2) _ _ ((rd_T25 l1 x5_1).f2) true _ ?side1 ?side2 ?side3 ?side4 A7.out).mono ?_); (case side1 => repeat (first | exact HR196_2.out | (with_reducible refine Kd.C_alloc ?_ _) | (with_reducible refine Kd.C_drewN ?_ _) | (with_reducible refine Kd.C_drew ?_))); (case side2 => exact HC196_2.out); (case side3 => repeat (first | exact HR197_2.out | (with_reducible refine Kd.C_alloc ?_ _) | (with_reducible refine Kd.C_drewN ?_ _) | (with_reducible refine Kd.C_drew ?_))); (case side4 => exact HC197_2.out); rintro e w' ⟨rfl, ⟨nd, rfl⟩⟩; (try first | exact ⟨rfl, _, World.drewN_drewN _ _ _⟩ | exact ⟨rfl, _, Eq.trans (World.drewN_drewN _ _ _) (congrArg (World.drewN _) (Nat.add_assoc _ _ _))⟩); have p199 : 0 ≤ (x5_1 : Int) := of_decide_eq_true (by first | (with_reducible assumption) | assumption); have q199 : x5_1 < (l0.length : Int) := of_decide_eq_true (by first | (with_reducible assumption) | assumption); obtain ⟨ad199, A199_2, c199_2, e199, hx199_0, hx199_1, hx199_2, hl199_2, hi199_2⟩ := at_T25 HR0.out x5_1 p199 q199; obtain rfl : ad196 = ad199 := (by injection e199); have HR199_2 := Aside0.mk hi199_2; have HC199_2 := Aside0.mk hl199_2; clear hi199_2 hl199_2; replace p199 := eq_true p199; replace q199 := eq_true q199; have ea_ := Option.some.inj (hx196_2.symm.trans hx199_2); injection ea_ with ea_ en_ ec_; subst ea_; subst ec_; clear en_; have p200 : 0 ≤ (x5_1 : Int) := of_decide_eq_true (by first | (with_reducible assumption) | assumption); have q200 : x5_1 < (l1.length : Int) := of_decide_eq_true (by first | (with_reducible assumption) | assumption); obtain ⟨ad200, A200_2, c200_2, e200, hx200_0, hx200_1, hx200_2, hl200_2, hi200_2⟩ := at_T25 HR1.out x5_1 p200 q200; obtain rfl : ad197 = ad200 := (by injection e200); have HR200_2 := Aside0.mk hi200_2; have HC200_2 := Aside0.mk hl200_2; clear hi200_2 hl200_2; replace p200 := eq_true p200; replace q200 := eq_true q200; have ea_ := Option.some.inj (hx197_2.symm.trans hx200_2); injection ea_ with ea_ en_ ec_; subst ea_; subst ec_; clear en_; have p201 : 0 ≤ (x5_1 : Int) := of_decide_eq_true (by first | (with_reducible assumption) | assumption); have q201 : x5_1 < (l0.length : Int) := of_decide_eq_true (by first | (with_reducible assumption) | assumption); obtain ⟨ad201, A201_2, c201_2, e201, hx201_0, hx201_1, hx201_2, hl201_2, hi201_2⟩ := at_T25 HR0.out x5_1 p201 q201; obtain rfl : ad196 = ad201 := (by injection e201); have HR201_2 := Aside0.mk hi201_2; have HC201_2 := Aside0.mk hl201_2; clear hi201_2 hl201_2; replace p201 := eq_true p201; replace q201 := eq_true q201; have ea_ := Option.some.inj (hx196_2.symm.trans hx201_2); injection ea_ with ea_ en_ ec_; subst ea_; subst ec_; clear en_; have p202 : 0 ≤ (x5_1 : Int) := of_decide_eq_true (by first | (with_reducible assumption) | assumption); have q202 : x5_1 < (l1.length : Int) := of_decide_eq_true (by first | (with_reducible assumption) | assumption); obtain ⟨ad202, A202_2, c202_2, e202, hx202_0, hx202_1, hx202_2, hl202_2, hi202_2⟩ := at_T25 HR1.out x5_1 p202 q202; obtain rfl : ad197 = ad202 := (by injection e202); have HR202_2 := Aside0.mk hi202_2; have HC202_2 := Aside0.mk hl202_2; clear hi202_2 hl202_2; replace p202 := eq_true p202; replace q202 := eq_true q202; have ea_ := Option.some.inj (hx197_2.symm.trans hx202_2); injection ea_ with ea_ en_ ec_; subst ea_; subst ec_; clear en_))
                    repeat (go_quiet (first | (go_at_call 20; (with_reducible refine (malthouseref13_Lots.calls k1 _ _ ((rd_T25 l0 x5_1).f2) _ _ ((rd_T25 l1 x5_1).f2) true _ ?side1 ?side2 ?side3 ?side4 A7.out).mono ?_); (case side1 => repeat (first | exact HR196_2.out | (with_reducible refine Kd.C_alloc ?_ _) | (with_reducible refine Kd.C_drewN ?_ _) | (with_reducible refine Kd.C_drew ?_))); (case side2 => exact HC196_2.out); (case side3 => repeat (first | exact HR197_2.out | (with_reducible refine Kd.C_alloc ?_ _) | (with_reducible refine Kd.C_drewN ?_ _) | (with_reducible refine Kd.C_drew ?_))); (case side4 => exact HC197_2.out); rintro e w' ⟨rfl, ⟨nd, rfl⟩⟩; (try first | exact ⟨rfl, _, World.drewN_drewN _ _ _⟩ | exact ⟨rfl, _, Eq.trans (World.drewN_drewN _ _ _) (congrArg (World.drewN _) (Nat.add_assoc _ _ _))⟩); have p199 : 0 ≤ (x5_1 : Int) := of_decide_eq_true (by first | (with_reducible assumption) | assumption); have q199 : x5_1 < (l0.length : Int) := of_decide_eq_true (by first | (with_reducible assumption) | assumption); obtain ⟨ad199, A199_2, c199_2, e199, hx199_0, hx199_1, hx199_2, hl199_2, hi199_2⟩ := at_T25 HR0.out x5_1 p199 q199; obtain rfl : ad196 = ad199 := (by injection e199); have HR199_2 := Aside0.mk hi199_2; have HC199_2 := Aside0.mk hl199_2; clear hi199_2 hl199_2; replace p199 := eq_true p199; replace q199 := eq_true q199; have ea_ := Option.some.inj (hx196_2.symm.trans hx199_2); injection ea_ with ea_ en_ ec_; subst ea_; subst ec_; clear en_; have p200 : 0 ≤ (x5_1 : Int) := of_decide_eq_true (by first | (with_reducible assumption) | assumption); have q200 : x5_1 < (l1.length : Int) := of_decide_eq_true (by first | (with_reducible assumption) | assumption); obtain ⟨ad200, A200_2, c200_2, e200, hx200_0, hx200_1, hx200_2, hl200_2, hi200_2⟩ := at_T25 HR1.out x5_1 p200 q200; obtain rfl : ad197 = ad200 := (by injection e200); have HR200_2 := Aside0.mk hi200_2; have HC200_2 := Aside0.mk hl200_2; clear hi200_2 hl200_2; replace p200 := eq_true p200; replace q200 := eq_true q200; have ea_ := Option.some.inj (hx197_2.symm.trans hx200_2); injection ea_ with ea_ en_ ec_; subst ea_; subst ec_; clear en_; have p201 : 0 ≤ (x5_1 : Int) := of_decide_eq_true (by first | (with_reducible assumption) | assumption); have q201 : x5_1 < (l0.length : Int) := of_decide_eq_true (by first | (with_reducible assumption) | assumption); obtain ⟨ad201, A201_2, c201_2, e201, hx201_0, hx201_1, hx201_2, hl201_2, hi201_2⟩ := at_T25 HR0.out x5_1 p201 q201; obtain rfl : ad196 = ad201 := (by injection e201); have HR201_2 := Aside0.mk hi201_2; have HC201_2 := Aside0.mk hl201_2; clear hi201_2 hl201_2; replace p201 := eq_true p201; replace q201 := eq_true q201; have ea_ := Option.some.inj (hx196_2.symm.trans hx201_2); injection ea_ with ea_ en_ ec_; subst ea_; subst ec_; clear en_; have p202 : 0 ≤ (x5_1 : Int) := of_decide_eq_true (by first | (with_reducible assumption) | assumption); have q202 : x5_1 < (l1.length : Int) := of_decide_eq_true (by first | (with_reducible assumption) | assumption); obtain ⟨ad202, A202_2, c202_2, e202, hx202_0, hx202_1, hx202_2, hl202_2, hi202_2⟩ := at_T25 HR1.out x5_1 p202 q202; obtain rfl : ad197 = ad202 := (by injection e202); have HR202_2 := Aside0.mk hi202_2; have HC202_2 := Aside0.mk hl202_2; clear hi202_2 hl202_2; replace p202 := eq_true p202; replace q202 := eq_true q202; have ea_ := Option.some.inj (hx197_2.symm.trans hx202_2); injection ea_ with ea_ en_ ec_; subst ea_; subst ec_; clear en_)); try go_wp2_with (first | (go_at_call 20; (with_reducible refine (malthouseref13_Lots.calls k1 _ _ ((rd_T25 l0 x5_1).f2) _ _ ((rd_T25 l1 x5_1).f2) true _ ?side1 ?side2 ?side3 ?side4 A7.out).mono ?_); (case side1 => repeat (first | exact HR196_2.out | (with_reducible refine Kd.C_alloc ?_ _) | (with_reducible refine Kd.C_drewN ?_ _) | (with_reducible refine Kd.C_drew ?_))); (case side2 => exact HC196_2.out); (case side3 => repeat (first | exact HR197_2.out | (with_reducible refine Kd.C_alloc ?_ _) | (with_reducible refine Kd.C_drewN ?_ _) | (with_reducible refine Kd.C_drew ?_))); (case side4 => exact HC197_2.out); rintro e w' ⟨rfl, ⟨nd, rfl⟩⟩; (try first | exact ⟨rfl, _, World.drewN_drewN _ _ _⟩ | exact ⟨rfl, _, Eq.trans (World.drewN_drewN _ _ _) (congrArg (World.drewN _) (Nat.add_assoc _ _ _))⟩); have p199 : 0 ≤ (x5_1 : Int) := of_decide_eq_true (by first | (with_reducible assumption) | assumption); have q199 : x5_1 < (l0.length : Int) := of_decide_eq_true (by first | (with_reducible assumption) | assumption); obtain ⟨ad199, A199_2, c199_2, e199, hx199_0, hx199_1, hx199_2, hl199_2, hi199_2⟩ := at_T25 HR0.out x5_1 p199 q199; obtain rfl : ad196 = ad199 := (by injection e199); have HR199_2 := Aside0.mk hi199_2; have HC199_2 := Aside0.mk hl199_2; clear hi199_2 hl199_2; replace p199 := eq_true p199; replace q199 := eq_true q199; have ea_ := Option.some.inj (hx196_2.symm.trans hx199_2); injection ea_ with ea_ en_ ec_; subst ea_; subst ec_; clear en_; have p200 : 0 ≤ (x5_1 : Int) := of_decide_eq_true (by first | (with_reducible assumption) | assumption); have q200 : x5_1 < (l1.length : Int) := of_decide_eq_true (by first | (with_reducible assumption) | assumption); obtain ⟨ad200, A200_2, c200_2, e200, hx200_0, hx200_1, hx200_2, hl200_2, hi200_2⟩ := at_T25 HR1.out x5_1 p200 q200; obtain rfl : ad197 = ad200 := (by injection e200); have HR200_2 := Aside0.mk hi200_2; have HC200_2 := Aside0.mk hl200_2; clear hi200_2 hl200_2; replace p200 := eq_true p200; replace q200 := eq_true q200; have ea_ := Option.some.inj (hx197_2.symm.trans hx200_2); injection ea_ with ea_ en_ ec_; subst ea_; subst ec_; clear en_; have p201 : 0 ≤ (x5_1 : Int) := of_decide_eq_true (by first | (with_reducible assumption) | assumption); have q201 : x5_1 < (l0.length : Int) := of_decide_eq_true (by first | (with_reducible assumption) | assumption); obtain ⟨ad201, A201_2, c201_2, e201, hx201_0, hx201_1, hx201_2, hl201_2, hi201_2⟩ := at_T25 HR0.out x5_1 p201 q201; obtain rfl : ad196 = ad201 := (by injection e201); have HR201_2 := Aside0.mk hi201_2; have HC201_2 := Aside0.mk hl201_2; clear hi201_2 hl201_2; replace p201 := eq_true p201; replace q201 := eq_true q201; have ea_ := Option.some.inj (hx196_2.symm.trans hx201_2); injection ea_ with ea_ en_ ec_; subst ea_; subst ec_; clear en_; have p202 : 0 ≤ (x5_1 : Int) := of_decide_eq_true (by first | (with_reducible assumption) | assumption); have q202 : x5_1 < (l1.length : Int) := of_decide_eq_true (by first | (with_reducible assumption) | assumption); obtain ⟨ad202, A202_2, c202_2, e202, hx202_0, hx202_1, hx202_2, hl202_2, hi202_2⟩ := at_T25 HR1.out x5_1 p202 q202; obtain rfl : ad197 = ad202 := (by injection e202); have HR202_2 := Aside0.mk hi202_2; have HC202_2 := Aside0.mk hl202_2; clear hi202_2 hl202_2; replace p202 := eq_true p202; replace q202 := eq_true q202; have ea_ := Option.some.inj (hx197_2.symm.trans hx202_2); injection ea_ with ea_ en_ ec_; subst ea_; subst ec_; clear en_)))
                    go_roundg k1
                    case measure => have := HK1.out; omega
                    case rel => exact ⟨(wrap64 (x5_1 + 1)), (by first | rfl | (simp; done) | (simp [*]; done)), H', ⟨by have := HK1.out; omega⟩, by repeat (first | exact Drawn0.refl _ | apply Drawn0.step)⟩
                  · rw [if_neg c10] at H
                    have c10b0 : (((rd_T25 l0 x5_1).f1) == ((rd_T25 l1 x5_1).f1)) = false := beq_eq_false_iff_ne.mpr c10
                    have c10b1 : (((rd_T25 l0 x5_1).f1) != ((rd_T25 l1 x5_1).f1)) = true := bne_iff_ne.mpr c10
                    obtain rfl := Option.some.inj H
                    have p196 : 0 ≤ (x5_1 : Int) := of_decide_eq_true (by first | (with_reducible assumption) | assumption)
                    have q196 : x5_1 < (l0.length : Int) := of_decide_eq_true (by first | (with_reducible assumption) | assumption)
                    obtain ⟨ad196, A196_2, c196_2, e196, hx196_0, hx196_1, hx196_2, hl196_2, hi196_2⟩ := at_T25 HR0.out x5_1 p196 q196
                    cases e196
                    have HR196_2 := Aside0.mk hi196_2
                    have HC196_2 := Aside0.mk hl196_2
                    clear hi196_2 hl196_2
                    replace p196 := eq_true p196
                    replace q196 := eq_true q196
                    have p197 : 0 ≤ (x5_1 : Int) := of_decide_eq_true (by first | (with_reducible assumption) | assumption)
                    have q197 : x5_1 < (l1.length : Int) := of_decide_eq_true (by first | (with_reducible assumption) | assumption)
                    obtain ⟨ad197, A197_2, c197_2, e197, hx197_0, hx197_1, hx197_2, hl197_2, hi197_2⟩ := at_T25 HR1.out x5_1 p197 q197
                    cases e197
                    have HR197_2 := Aside0.mk hi197_2
                    have HC197_2 := Aside0.mk hl197_2
                    clear hi197_2 hl197_2
                    replace p197 := eq_true p197
                    replace q197 := eq_true q197
                    go_wp2_with (first | (go_at_call 20; (with_reducible refine (malthouseref13_Lots.calls k1 _ _ ((rd_T25 l0 x5_1).f2) _ _ ((rd_T25 l1 x5_1).f2) true _ ?side1 ?side2 ?side3 ?side4 A7.out).mono ?_); (case side1 => repeat (first | exact HR196_2.out | (with_reducible refine Kd.C_alloc ?_ _) | (with_reducible refine Kd.C_drewN ?_ _) | (with_reducible refine Kd.C_drew ?_))); (case side2 => exact HC196_2.out); (case side3 => repeat (first | exact HR197_2.out | (with_reducible refine Kd.C_alloc ?_ _) | (with_reducible refine Kd.C_drewN ?_ _) | (with_reducible refine Kd.C_drew ?_))); (case side4 => exact HC197_2.out); rintro e w' ⟨rfl, ⟨nd, rfl⟩⟩; (try first | exact ⟨rfl, _, World.drewN_drewN _ _ _⟩ | exact ⟨rfl, _, Eq.trans (World.drewN_drewN _ _ _) (congrArg (World.drewN _) (Nat.add_assoc _ _ _))⟩); have p199 : 0 ≤ (x5_1 : Int) := of_decide_eq_true (by first | (with_reducible assumption) | assumption); have q199 : x5_1 < (l0.length : Int) := of_decide_eq_true (by first | (with_reducible assumption) | assumption); obtain ⟨ad199, A199_2, c199_2, e199, hx199_0, hx199_1, hx199_2, hl199_2, hi199_2⟩ := at_T25 HR0.out x5_1 p199 q199; obtain rfl : ad196 = ad199 := (by injection e199); have HR199_2 := Aside0.mk hi199_2; have HC199_2 := Aside0.mk hl199_2; clear hi199_2 hl199_2; replace p199 := eq_true p199; replace q199 := eq_true q199; have ea_ := Option.some.inj (hx196_2.symm.trans hx199_2); injection ea_ with ea_ en_ ec_; subst ea_; subst ec_; clear en_; have p200 : 0 ≤ (x5_1 : Int) := of_decide_eq_true (by first | (with_reducible assumption) | assumption); have q200 : x5_1 < (l1.length : Int) := of_decide_eq_true (by first | (with_reducible assumption) | assumption); obtain ⟨ad200, A200_2, c200_2, e200, hx200_0, hx200_1, hx200_2, hl200_2, hi200_2⟩ := at_T25 HR1.out x5_1 p200 q200; obtain rfl : ad197 = ad200 := (by injection e200); have HR200_2 := Aside0.mk hi200_2; have HC200_2 := Aside0.mk hl200_2; clear hi200_2 hl200_2; replace p200 := eq_true p200; replace q200 := eq_true q200; have ea_ := Option.some.inj (hx197_2.symm.trans hx200_2); injection ea_ with ea_ en_ ec_; subst ea_; subst ec_; clear en_; have p201 : 0 ≤ (x5_1 : Int) := of_decide_eq_true (by first | (with_reducible assumption) | assumption); have q201 : x5_1 < (l0.length : Int) := of_decide_eq_true (by first | (with_reducible assumption) | assumption); obtain ⟨ad201, A201_2, c201_2, e201, hx201_0, hx201_1, hx201_2, hl201_2, hi201_2⟩ := at_T25 HR0.out x5_1 p201 q201; obtain rfl : ad196 = ad201 := (by injection e201); have HR201_2 := Aside0.mk hi201_2; have HC201_2 := Aside0.mk hl201_2; clear hi201_2 hl201_2; replace p201 := eq_true p201; replace q201 := eq_true q201; have ea_ := Option.some.inj (hx196_2.symm.trans hx201_2); injection ea_ with ea_ en_ ec_; subst ea_; subst ec_; clear en_; have p202 : 0 ≤ (x5_1 : Int) := of_decide_eq_true (by first | (with_reducible assumption) | assumption); have q202 : x5_1 < (l1.length : Int) := of_decide_eq_true (by first | (with_reducible assumption) | assumption); obtain ⟨ad202, A202_2, c202_2, e202, hx202_0, hx202_1, hx202_2, hl202_2, hi202_2⟩ := at_T25 HR1.out x5_1 p202 q202; obtain rfl : ad197 = ad202 := (by injection e202); have HR202_2 := Aside0.mk hi202_2; have HC202_2 := Aside0.mk hl202_2; clear hi202_2 hl202_2; replace p202 := eq_true p202; replace q202 := eq_true q202; have ea_ := Option.some.inj (hx197_2.symm.trans hx202_2); injection ea_ with ea_ en_ ec_; subst ea_; subst ec_; clear en_))
                    repeat (go_quiet (first | (go_at_call 20; (with_reducible refine (malthouseref13_Lots.calls k1 _ _ ((rd_T25 l0 x5_1).f2) _ _ ((rd_T25 l1 x5_1).f2) true _ ?side1 ?side2 ?side3 ?side4 A7.out).mono ?_); (case side1 => repeat (first | exact HR196_2.out | (with_reducible refine Kd.C_alloc ?_ _) | (with_reducible refine Kd.C_drewN ?_ _) | (with_reducible refine Kd.C_drew ?_))); (case side2 => exact HC196_2.out); (case side3 => repeat (first | exact HR197_2.out | (with_reducible refine Kd.C_alloc ?_ _) | (with_reducible refine Kd.C_drewN ?_ _) | (with_reducible refine Kd.C_drew ?_))); (case side4 => exact HC197_2.out); rintro e w' ⟨rfl, ⟨nd, rfl⟩⟩; (try first | exact ⟨rfl, _, World.drewN_drewN _ _ _⟩ | exact ⟨rfl, _, Eq.trans (World.drewN_drewN _ _ _) (congrArg (World.drewN _) (Nat.add_assoc _ _ _))⟩); have p199 : 0 ≤ (x5_1 : Int) := of_decide_eq_true (by first | (with_reducible assumption) | assumption); have q199 : x5_1 < (l0.length : Int) := of_decide_eq_true (by first | (with_reducible assumption) | assumption); obtain ⟨ad199, A199_2, c199_2, e199, hx199_0, hx199_1, hx199_2, hl199_2, hi199_2⟩ := at_T25 HR0.out x5_1 p199 q199; obtain rfl : ad196 = ad199 := (by injection e199); have HR199_2 := Aside0.mk hi199_2; have HC199_2 := Aside0.mk hl199_2; clear hi199_2 hl199_2; replace p199 := eq_true p199; replace q199 := eq_true q199; have ea_ := Option.some.inj (hx196_2.symm.trans hx199_2); injection ea_ with ea_ en_ ec_; subst ea_; subst ec_; clear en_; have p200 : 0 ≤ (x5_1 : Int) := of_decide_eq_true (by first | (with_reducible assumption) | assumption); have q200 : x5_1 < (l1.length : Int) := of_decide_eq_true (by first | (with_reducible assumption) | assumption); obtain ⟨ad200, A200_2, c200_2, e200, hx200_0, hx200_1, hx200_2, hl200_2, hi200_2⟩ := at_T25 HR1.out x5_1 p200 q200; obtain rfl : ad197 = ad200 := (by injection e200); have HR200_2 := Aside0.mk hi200_2; have HC200_2 := Aside0.mk hl200_2; clear hi200_2 hl200_2; replace p200 := eq_true p200; replace q200 := eq_true q200; have ea_ := Option.some.inj (hx197_2.symm.trans hx200_2); injection ea_ with ea_ en_ ec_; subst ea_; subst ec_; clear en_; have p201 : 0 ≤ (x5_1 : Int) := of_decide_eq_true (by first | (with_reducible assumption) | assumption); have q201 : x5_1 < (l0.length : Int) := of_decide_eq_true (by first | (with_reducible assumption) | assumption); obtain ⟨ad201, A201_2, c201_2, e201, hx201_0, hx201_1, hx201_2, hl201_2, hi201_2⟩ := at_T25 HR0.out x5_1 p201 q201; obtain rfl : ad196 = ad201 := (by injection e201); have HR201_2 := Aside0.mk hi201_2; have HC201_2 := Aside0.mk hl201_2; clear hi201_2 hl201_2; replace p201 := eq_true p201; replace q201 := eq_true q201; have ea_ := Option.some.inj (hx196_2.symm.trans hx201_2); injection ea_ with ea_ en_ ec_; subst ea_; subst ec_; clear en_; have p202 : 0 ≤ (x5_1 : Int) := of_decide_eq_true (by first | (with_reducible assumption) | assumption); have q202 : x5_1 < (l1.length : Int) := of_decide_eq_true (by first | (with_reducible assumption) | assumption); obtain ⟨ad202, A202_2, c202_2, e202, hx202_0, hx202_1, hx202_2, hl202_2, hi202_2⟩ := at_T25 HR1.out x5_1 p202 q202; obtain rfl : ad197 = ad202 := (by injection e202); have HR202_2 := Aside0.mk hi202_2; have HC202_2 := Aside0.mk hl202_2; clear hi202_2 hl202_2; replace p202 := eq_true p202; replace q202 := eq_true q202; have ea_ := Option.some.inj (hx197_2.symm.trans hx202_2); injection ea_ with ea_ en_ ec_; subst ea_; subst ec_; clear en_)); try go_wp2_with (first | (go_at_call 20; (with_reducible refine (malthouseref13_Lots.calls k1 _ _ ((rd_T25 l0 x5_1).f2) _ _ ((rd_T25 l1 x5_1).f2) true _ ?side1 ?side2 ?side3 ?side4 A7.out).mono ?_); (case side1 => repeat (first | exact HR196_2.out | (with_reducible refine Kd.C_alloc ?_ _) | (with_reducible refine Kd.C_drewN ?_ _) | (with_reducible refine Kd.C_drew ?_))); (case side2 => exact HC196_2.out); (case side3 => repeat (first | exact HR197_2.out | (with_reducible refine Kd.C_alloc ?_ _) | (with_reducible refine Kd.C_drewN ?_ _) | (with_reducible refine Kd.C_drew ?_))); (case side4 => exact HC197_2.out); rintro e w' ⟨rfl, ⟨nd, rfl⟩⟩; (try first | exact ⟨rfl, _, World.drewN_drewN _ _ _⟩ | exact ⟨rfl, _, Eq.trans (World.drewN_drewN _ _ _) (congrArg (World.drewN _) (Nat.add_assoc _ _ _))⟩); have p199 : 0 ≤ (x5_1 : Int) := of_decide_eq_true (by first | (with_reducible assumption) | assumption); have q199 : x5_1 < (l0.length : Int) := of_decide_eq_true (by first | (with_reducible assumption) | assumption); obtain ⟨ad199, A199_2, c199_2, e199, hx199_0, hx199_1, hx199_2, hl199_2, hi199_2⟩ := at_T25 HR0.out x5_1 p199 q199; obtain rfl : ad196 = ad199 := (by injection e199); have HR199_2 := Aside0.mk hi199_2; have HC199_2 := Aside0.mk hl199_2; clear hi199_2 hl199_2; replace p199 := eq_true p199; replace q199 := eq_true q199; have ea_ := Option.some.inj (hx196_2.symm.trans hx199_2); injection ea_ with ea_ en_ ec_; subst ea_; subst ec_; clear en_; have p200 : 0 ≤ (x5_1 : Int) := of_decide_eq_true (by first | (with_reducible assumption) | assumption); have q200 : x5_1 < (l1.length : Int) := of_decide_eq_true (by first | (with_reducible assumption) | assumption); obtain ⟨ad200, A200_2, c200_2, e200, hx200_0, hx200_1, hx200_2, hl200_2, hi200_2⟩ := at_T25 HR1.out x5_1 p200 q200; obtain rfl : ad197 = ad200 := (by injection e200); have HR200_2 := Aside0.mk hi200_2; have HC200_2 := Aside0.mk hl200_2; clear hi200_2 hl200_2; replace p200 := eq_true p200; replace q200 := eq_true q200; have ea_ := Option.some.inj (hx197_2.symm.trans hx200_2); injection ea_ with ea_ en_ ec_; subst ea_; subst ec_; clear en_; have p201 : 0 ≤ (x5_1 : Int) := of_decide_eq_true (by first | (with_reducible assumption) | assumption); have q201 : x5_1 < (l0.length : Int) := of_decide_eq_true (by first | (with_reducible assumption) | assumption); obtain ⟨ad201, A201_2, c201_2, e201, hx201_0, hx201_1, hx201_2, hl201_2, hi201_2⟩ := at_T25 HR0.out x5_1 p201 q201; obtain rfl : ad196 = ad201 := (by injection e201); have HR201_2 := Aside0.mk hi201_2; have HC201_2 := Aside0.mk hl201_2; clear hi201_2 hl201_2; replace p201 := eq_true p201; replace q201 := eq_true q201; have ea_ := Option.some.inj (hx196_2.symm.trans hx201_2); injection ea_ with ea_ en_ ec_; subst ea_; subst ec_; clear en_; have p202 : 0 ≤ (x5_1 : Int) := of_decide_eq_true (by first | (with_reducible assumption) | assumption); have q202 : x5_1 < (l1.length : Int) := of_decide_eq_true (by first | (with_reducible assumption) | assumption); obtain ⟨ad202, A202_2, c202_2, e202, hx202_0, hx202_1, hx202_2, hl202_2, hi202_2⟩ := at_T25 HR1.out x5_1 p202 q202; obtain rfl : ad197 = ad202 := (by injection e202); have HR202_2 := Aside0.mk hi202_2; have HC202_2 := Aside0.mk hl202_2; clear hi202_2 hl202_2; replace p202 := eq_true p202; replace q202 := eq_true q202; have ea_ := Option.some.inj (hx197_2.symm.trans hx202_2); injection ea_ with ea_ en_ ec_; subst ea_; subst ec_; clear en_)))
                    go_ret
                    exact ⟨by first | rfl | (simp; done) | (simp [*]; done), by repeat (first | exact Drawn0.refl _ | apply Drawn0.step)⟩
                · rw [if_neg c9] at H
                  have c9b0 : (((rd_T25 l0 x5_1).f0).toList == ((rd_T25 l1 x5_1).f0).toList) = false := beq_eq_false_iff_ne.mpr c9
                  have c9b1 : (((rd_T25 l0 x5_1).f0).toList != ((rd_T25 l1 x5_1).f0).toList) = true := bne_iff_ne.mpr c9
                  obtain rfl := Option.some.inj H
                  have p196 : 0 ≤ (x5_1 : Int) := of_decide_eq_true (by first | (with_reducible assumption) | assumption)
                  have q196 : x5_1 < (l0.length : Int) := of_decide_eq_true (by first | (with_reducible assumption) | assumption)
                  obtain ⟨ad196, A196_2, c196_2, e196, hx196_0, hx196_1, hx196_2, hl196_2, hi196_2⟩ := at_T25 HR0.out x5_1 p196 q196
                  cases e196
                  have HR196_2 := Aside0.mk hi196_2
                  have HC196_2 := Aside0.mk hl196_2
                  clear hi196_2 hl196_2
                  replace p196 := eq_true p196
                  replace q196 := eq_true q196
                  have p197 : 0 ≤ (x5_1 : Int) := of_decide_eq_true (by first | (with_reducible assumption) | assumption)
                  have q197 : x5_1 < (l1.length : Int) := of_decide_eq_true (by first | (with_reducible assumption) | assumption)
                  obtain ⟨ad197, A197_2, c197_2, e197, hx197_0, hx197_1, hx197_2, hl197_2, hi197_2⟩ := at_T25 HR1.out x5_1 p197 q197
                  cases e197
                  have HR197_2 := Aside0.mk hi197_2
                  have HC197_2 := Aside0.mk hl197_2
                  clear hi197_2 hl197_2
                  replace p197 := eq_true p197
                  replace q197 := eq_true q197
                  go_wp2_with (first | (go_at_call 20; (with_reducible refine (malthouseref13_Lots.calls k1 _ _ ((rd_T25 l0 x5_1).f2) _ _ ((rd_T25 l1 x5_1).f2) true _ ?side1 ?side2 ?side3 ?side4 A7.out).mono ?_); (case side1 => repeat (first | exact HR196_2.out | (with_reducible refine Kd.C_alloc ?_ _) | (with_reducible refine Kd.C_drewN ?_ _) | (with_reducible refine Kd.C_drew ?_))); (case side2 => exact HC196_2.out); (case side3 => repeat (first | exact HR197_2.out | (with_reducible refine Kd.C_alloc ?_ _) | (with_reducible refine Kd.C_drewN ?_ _) | (with_reducible refine Kd.C_drew ?_))); (case side4 => exact HC197_2.out); rintro e w' ⟨rfl, ⟨nd, rfl⟩⟩; (try first | exact ⟨rfl, _, World.drewN_drewN _ _ _⟩ | exact ⟨rfl, _, Eq.trans (World.drewN_drewN _ _ _) (congrArg (World.drewN _) (Nat.add_assoc _ _ _))⟩); have p199 : 0 ≤ (x5_1 : Int) := of_decide_eq_true (by first | (with_reducible assumption) | assumption); have q199 : x5_1 < (l0.length : Int) := of_decide_eq_true (by first | (with_reducible assumption) | assumption); obtain ⟨ad199, A199_2, c199_2, e199, hx199_0, hx199_1, hx199_2, hl199_2, hi199_2⟩ := at_T25 HR0.out x5_1 p199 q199; obtain rfl : ad196 = ad199 := (by injection e199); have HR199_2 := Aside0.mk hi199_2; have HC199_2 := Aside0.mk hl199_2; clear hi199_2 hl199_2; replace p199 := eq_true p199; replace q199 := eq_true q199; have ea_ := Option.some.inj (hx196_2.symm.trans hx199_2); injection ea_ with ea_ en_ ec_; subst ea_; subst ec_; clear en_; have p200 : 0 ≤ (x5_1 : Int) := of_decide_eq_true (by first | (with_reducible assumption) | assumption); have q200 : x5_1 < (l1.length : Int) := of_decide_eq_true (by first | (with_reducible assumption) | assumption); obtain ⟨ad200, A200_2, c200_2, e200, hx200_0, hx200_1, hx200_2, hl200_2, hi200_2⟩ := at_T25 HR1.out x5_1 p200 q200; obtain rfl : ad197 = ad200 := (by injection e200); have HR200_2 := Aside0.mk hi200_2; have HC200_2 := Aside0.mk hl200_2; clear hi200_2 hl200_2; replace p200 := eq_true p200; replace q200 := eq_true q200; have ea_ := Option.some.inj (hx197_2.symm.trans hx200_2); injection ea_ with ea_ en_ ec_; subst ea_; subst ec_; clear en_))
                  repeat (go_quiet (first | (go_at_call 20; (with_reducible refine (malthouseref13_Lots.calls k1 _ _ ((rd_T25 l0 x5_1).f2) _ _ ((rd_T25 l1 x5_1).f2) true _ ?side1 ?side2 ?side3 ?side4 A7.out).mono ?_); (case side1 => repeat (first | exact HR196_2.out | (with_reducible refine Kd.C_alloc ?_ _) | (with_reducible refine Kd.C_drewN ?_ _) | (with_reducible refine Kd.C_drew ?_))); (case side2 => exact HC196_2.out); (case side3 => repeat (first | exact HR197_2.out | (with_reducible refine Kd.C_alloc ?_ _) | (with_reducible refine Kd.C_drewN ?_ _) | (with_reducible refine Kd.C_drew ?_))); (case side4 => exact HC197_2.out); rintro e w' ⟨rfl, ⟨nd, rfl⟩⟩; (try first | exact ⟨rfl, _, World.drewN_drewN _ _ _⟩ | exact ⟨rfl, _, Eq.trans (World.drewN_drewN _ _ _) (congrArg (World.drewN _) (Nat.add_assoc _ _ _))⟩); have p199 : 0 ≤ (x5_1 : Int) := of_decide_eq_true (by first | (with_reducible assumption) | assumption); have q199 : x5_1 < (l0.length : Int) := of_decide_eq_true (by first | (with_reducible assumption) | assumption); obtain ⟨ad199, A199_2, c199_2, e199, hx199_0, hx199_1, hx199_2, hl199_2, hi199_2⟩ := at_T25 HR0.out x5_1 p199 q199; obtain rfl : ad196 = ad199 := (by injection e199); have HR199_2 := Aside0.mk hi199_2; have HC199_2 := Aside0.mk hl199_2; clear hi199_2 hl199_2; replace p199 := eq_true p199; replace q199 := eq_true q199; have ea_ := Option.some.inj (hx196_2.symm.trans hx199_2); injection ea_ with ea_ en_ ec_; subst ea_; subst ec_; clear en_; have p200 : 0 ≤ (x5_1 : Int) := of_decide_eq_true (by first | (with_reducible assumption) | assumption); have q200 : x5_1 < (l1.length : Int) := of_decide_eq_true (by first | (with_reducible assumption) | assumption); obtain ⟨ad200, A200_2, c200_2, e200, hx200_0, hx200_1, hx200_2, hl200_2, hi200_2⟩ := at_T25 HR1.out x5_1 p200 q200; obtain rfl : ad197 = ad200 := (by injection e200); have HR200_2 := Aside0.mk hi200_2; have HC200_2 := Aside0.mk hl200_2; clear hi200_2 hl200_2; replace p200 := eq_true p200; replace q200 := eq_true q200; have ea_ := Option.some.inj (hx197_2.symm.trans hx200_2); injection ea_ with ea_ en_ ec_; subst ea_; subst ec_; clear en_)); try go_wp2_with (first | (go_at_call 20; (with_reducible refine (malthouseref13_Lots.calls k1 _ _ ((rd_T25 l0 x5_1).f2) _ _ ((rd_T25 l1 x5_1).f2) true _ ?side1 ?side2 ?side3 ?side4 A7.out).mono ?_); (case side1 => repeat (first | exact HR196_2.out | (with_reducible refine Kd.C_alloc ?_ _) | (with_reducible refine Kd.C_drewN ?_ _) | (with_reducible refine Kd.C_drew ?_))); (case side2 => exact HC196_2.out); (case side3 => repeat (first | exact HR197_2.out | (with_reducible refine Kd.C_alloc ?_ _) | (with_reducible refine Kd.C_drewN ?_ _) | (with_reducible refine Kd.C_drew ?_))); (case side4 => exact HC197_2.out); rintro e w' ⟨rfl, ⟨nd, rfl⟩⟩; (try first | exact ⟨rfl, _, World.drewN_drewN _ _ _⟩ | exact ⟨rfl, _, Eq.trans (World.drewN_drewN _ _ _) (congrArg (World.drewN _) (Nat.add_assoc _ _ _))⟩); have p199 : 0 ≤ (x5_1 : Int) := of_decide_eq_true (by first | (with_reducible assumption) | assumption); have q199 : x5_1 < (l0.length : Int) := of_decide_eq_true (by first | (with_reducible assumption) | assumption); obtain ⟨ad199, A199_2, c199_2, e199, hx199_0, hx199_1, hx199_2, hl199_2, hi199_2⟩ := at_T25 HR0.out x5_1 p199 q199; obtain rfl : ad196 = ad199 := (by injection e199); have HR199_2 := Aside0.mk hi199_2; have HC199_2 := Aside0.mk hl199_2; clear hi199_2 hl199_2; replace p199 := eq_true p199; replace q199 := eq_true q199; have ea_ := Option.some.inj (hx196_2.symm.trans hx199_2); injection ea_ with ea_ en_ ec_; subst ea_; subst ec_; clear en_; have p200 : 0 ≤ (x5_1 : Int) := of_decide_eq_true (by first | (with_reducible assumption) | assumption); have q200 : x5_1 < (l1.length : Int) := of_decide_eq_true (by first | (with_reducible assumption) | assumption); obtain ⟨ad200, A200_2, c200_2, e200, hx200_0, hx200_1, hx200_2, hl200_2, hi200_2⟩ := at_T25 HR1.out x5_1 p200 q200; obtain rfl : ad197 = ad200 := (by injection e200); have HR200_2 := Aside0.mk hi200_2; have HC200_2 := Aside0.mk hl200_2; clear hi200_2 hl200_2; replace p200 := eq_true p200; replace q200 := eq_true q200; have ea_ := Option.some.inj (hx197_2.symm.trans hx200_2); injection ea_ with ea_ en_ ec_; subst ea_; subst ec_; clear en_)))
                  go_ret
                  exact ⟨by first | rfl | (simp; done) | (simp [*]; done), by repeat (first | exact Drawn0.refl _ | apply Drawn0.step)⟩
              · replace c8 := Bool.eq_false_iff.mpr c8
                subst c8
                have H1 : (some false) = some r := by rw [if_neg (show ¬ (false = true) by decide)] at H; exact H
                clear H
                have H := H1
                clear H1
                obtain rfl := Option.some.inj H
                have p196 : 0 ≤ (x5_1 : Int) := of_decide_eq_true (by first | (with_reducible assumption) | assumption)
                have q196 : x5_1 < (l0.length : Int) := of_decide_eq_true (by first | (with_reducible assumption) | assumption)
                obtain ⟨ad196, A196_2, c196_2, e196, hx196_0, hx196_1, hx196_2, hl196_2, hi196_2⟩ := at_T25 HR0.out x5_1 p196 q196
                cases e196
                have HR196_2 := Aside0.mk hi196_2
                have HC196_2 := Aside0.mk hl196_2
                clear hi196_2 hl196_2
                replace p196 := eq_true p196
                replace q196 := eq_true q196
                have p197 : 0 ≤ (x5_1 : Int) := of_decide_eq_true (by first | (with_reducible assumption) | assumption)
                have q197 : x5_1 < (l1.length : Int) := of_decide_eq_true (by first | (with_reducible assumption) | assumption)
                obtain ⟨ad197, A197_2, c197_2, e197, hx197_0, hx197_1, hx197_2, hl197_2, hi197_2⟩ := at_T25 HR1.out x5_1 p197 q197
                cases e197
                have HR197_2 := Aside0.mk hi197_2
                have HC197_2 := Aside0.mk hl197_2
                clear hi197_2 hl197_2
                replace p197 := eq_true p197
                replace q197 := eq_true q197
                go_wp2_with (first | (go_at_call 20; (with_reducible refine (malthouseref13_Lots.calls k1 _ _ ((rd_T25 l0 x5_1).f2) _ _ ((rd_T25 l1 x5_1).f2) false _ ?side1 ?side2 ?side3 ?side4 A7.out).mono ?_); (case side1 => repeat (first | exact HR196_2.out | (with_reducible refine Kd.C_alloc ?_ _) | (with_reducible refine Kd.C_drewN ?_ _) | (with_reducible refine Kd.C_drew ?_))); (case side2 => exact HC196_2.out); (case side3 => repeat (first | exact HR197_2.out | (with_reducible refine Kd.C_alloc ?_ _) | (with_reducible refine Kd.C_drewN ?_ _) | (with_reducible refine Kd.C_drew ?_))); (case side4 => exact HC197_2.out); rintro e w' ⟨rfl, ⟨nd, rfl⟩⟩; (try first | exact ⟨rfl, _, World.drewN_drewN _ _ _⟩ | exact ⟨rfl, _, Eq.trans (World.drewN_drewN _ _ _) (congrArg (World.drewN _) (Nat.add_assoc _ _ _))⟩)))
                repeat (go_quiet (first | (go_at_call 20; (with_reducible refine (malthouseref13_Lots.calls k1 _ _ ((rd_T25 l0 x5_1).f2) _ _ ((rd_T25 l1 x5_1).f2) false _ ?side1 ?side2 ?side3 ?side4 A7.out).mono ?_); (case side1 => repeat (first | exact HR196_2.out | (with_reducible refine Kd.C_alloc ?_ _) | (with_reducible refine Kd.C_drewN ?_ _) | (with_reducible refine Kd.C_drew ?_))); (case side2 => exact HC196_2.out); (case side3 => repeat (first | exact HR197_2.out | (with_reducible refine Kd.C_alloc ?_ _) | (with_reducible refine Kd.C_drewN ?_ _) | (with_reducible refine Kd.C_drew ?_))); (case side4 => exact HC197_2.out); rintro e w' ⟨rfl, ⟨nd, rfl⟩⟩; (try first | exact ⟨rfl, _, World.drewN_drewN _ _ _⟩ | exact ⟨rfl, _, Eq.trans (World.drewN_drewN _ _ _) (congrArg (World.drewN _) (Nat.add_assoc _ _ _))⟩))); try go_wp2_with (first | (go_at_call 20; (with_reducible refine (malthouseref13_Lots.calls k1 _ _ ((rd_T25 l0 x5_1).f2) _ _ ((rd_T25 l1 x5_1).f2) false _ ?side1 ?side2 ?side3 ?side4 A7.out).mono ?_); (case side1 => repeat (first | exact HR196_2.out | (with_reducible refine Kd.C_alloc ?_ _) | (with_reducible refine Kd.C_drewN ?_ _) | (with_reducible refine Kd.C_drew ?_))); (case side2 => exact HC196_2.out); (case side3 => repeat (first | exact HR197_2.out | (with_reducible refine Kd.C_alloc ?_ _) | (with_reducible refine Kd.C_drewN ?_ _) | (with_reducible refine Kd.C_drew ?_))); (case side4 => exact HC197_2.out); rintro e w' ⟨rfl, ⟨nd, rfl⟩⟩; (try first | exact ⟨rfl, _, World.drewN_drewN _ _ _⟩ | exact ⟨rfl, _, Eq.trans (World.drewN_drewN _ _ _) (congrArg (World.drewN _) (Nat.add_assoc _ _ _))⟩))))
                go_ret
                exact ⟨by first | rfl | (simp; done) | (simp [*]; done), by repeat (first | exact Drawn0.refl _ | apply Drawn0.step)⟩
            · rw [if_neg c6] at H
              exact absurd H (by simp)
          · rw [if_neg c5] at H
            exact absurd H (by simp)
        · rw [if_neg c4] at H
          have c4b0 : decide (x5_1 < (l0.length : Int)) = false := decide_eq_false c4
          clear c4
          obtain rfl := Option.some.inj H
          go_wp2
          repeat (go_quiet (fail); try go_wp2)
          go_ret
          exact ⟨by first | rfl | (simp; done) | (simp [*]; done), by repeat (first | exact Drawn0.refl _ | apply Drawn0.step)⟩
  · rw [if_neg c3] at H
    have c3b0 : ((l0.length : Int) == (l1.length : Int)) = false := beq_eq_false_iff_ne.mpr c3
    have c3b1 : ((l0.length : Int) != (l1.length : Int)) = true := bne_iff_ne.mpr c3
    have c3b2 : (l0.length == l1.length) = false := by first | simpa using c3 | (simp at c3 ⊢; omega)
    obtain rfl := Option.some.inj H
    go_enter Tryd.func19, Tryd.ntmps19
    go_wp2
    repeat (go_quiet (fail); try go_wp2)
    go_ret
    exact ⟨by first | rfl | (simp; done) | (simp [*]; done), by repeat (first | exact Drawn0.refl _ | apply Drawn0.step)⟩
end Go.Proofs.YtejecmjajdhiiaaDoor.Print
/-! ### LgLight -/
namespace Go.Proofs.YtejecmjajdhiiaaDoor.Print
open Go.RowKit Go.Proofs.YtejecmjajdhiiaaDoorW.PrintWords Go.Proofs.YtejecmjajdhiiaaDoorW.PrintLast Go.Proofs.YtejecmjajdhiiaaDoorW.PrintMore
set_option linter.unusedSimpArgs false
set_option linter.unusedVariables false
def lotL (y : S37) : Bool := decide (y.f0.size ≤ 200)
def vesL (x : S25) : Bool := decide (x.f2.length ≤ 50) && decide (x.f0.size ≤ 200) && x.f2.all lotL
def lightM (l : List S25) : Bool := decide (l.length ≤ 50) && l.all vesL
theorem light_in (l : List S25) (hl : l.length ≤ 50) (i : Nat) (hi : i < l.length) (x : S25) (hx : l[i]? = some x) (hxl : x.f2.length ≤ 50) (k : Nat) : ∀ (f j : Nat), x.f2.length = j + f →
    malthouseref13_Light.l1 (k + f + 1) l (i : Int) (j : Int) = if (x.f2.drop j).all lotL = true then malthouseref13_Light.l0 k l ((i + 1 : Nat) : Int) else some false := by
  have e : rd_T25 l (i : Int) = x := by rw [show rd_T25 l (i : Int) = l[i] from getD_at l _ i hi]; exact (List.getElem?_eq_some_iff.1 hx).2
  intro f
  induction f with
  | zero =>
    intro j hj
    simp only [malthouseref13_Light.l1]
    rw [if_pos (by omega), if_pos (by omega), e, if_neg (by omega), List.drop_eq_nil_of_le (by omega), if_pos (show ([] : List S37).all lotL = true from rfl), wrap_small _ (by omega) (by omega), show (i : Int) + 1 = ((i + 1 : Nat) : Int) by omega]
  | succ f ih =>
    intro j hj
    rw [show k + (f + 1) + 1 = (k + f + 1) + 1 by omega]
    generalize k + f + 1 = K at *
    simp only [malthouseref13_Light.l1]
    have hjl : j < x.f2.length := by omega
    have e2 : rd_T37 x.f2 (j : Int) = x.f2[j] := getD_at _ _ j hjl
    rw [if_pos (by omega), if_pos (by omega), e, if_pos (by omega), if_pos (by omega), e2, List.drop_eq_getElem_cons hjl, List.all_cons]
    by_cases h : (x.f2[j].f0.size : Int) > 200
    · rw [if_pos h, if_neg (by unfold lotL; simp; omega)]
    · rw [if_neg h, wrap_small _ (by omega) (by omega), show (j : Int) + 1 = ((j + 1 : Nat) : Int) by omega, ih (j + 1) (by omega)]
      have h2 : lotL x.f2[j] = true := by unfold lotL; simp; omega
      rw [h2, Bool.true_and]
theorem light_loop (l : List S25) (hl : l.length ≤ 50) : ∀ (f i K : Nat), l.length ≤ i + f → 60 * f + 1 ≤ K → malthouseref13_Light.l0 K l (i : Int) = some ((l.drop i).all vesL) := by
  intro f
  induction f with
  | zero =>
    intro i K h1 hK
    obtain ⟨K, rfl⟩ : ∃ K', K = K' + 1 := ⟨K - 1, by omega⟩
    simp only [malthouseref13_Light.l0]
    rw [if_neg (by omega), List.drop_eq_nil_of_le (by omega)]
    rfl
  | succ f ih =>
    intro i K h1 hK
    by_cases hi : i < l.length
    · obtain ⟨K, rfl⟩ : ∃ K', K = K' + 1 + 1 := ⟨K - 2, by omega⟩
      simp only [malthouseref13_Light.l0]
      obtain ⟨x, hx⟩ : ∃ x, l[i]? = some x := ⟨_, List.getElem?_eq_getElem hi⟩
      have e : rd_T25 l (i : Int) = x := by rw [show rd_T25 l (i : Int) = l[i] from getD_at l _ i hi]; exact (List.getElem?_eq_some_iff.1 hx).2
      rw [if_pos (by omega), if_pos (by omega), e, List.drop_eq_getElem_cons hi, (List.getElem?_eq_some_iff.1 hx).2, List.all_cons]
      simp only [malthouseref13_Light.j1]
      by_cases h5 : (x.f2.length : Int) > 50
      · rw [if_pos h5, if_pos trivial]
        have : ¬ x.f2.length ≤ 50 := by omega
        unfold vesL
        simp [this]
      rw [if_neg h5]
      by_cases h6 : (x.f0.size : Int) > 200
      · rw [if_pos (by simpa using h6)]
        have : ¬ x.f0.size ≤ 200 := by omega
        unfold vesL
        simp [this]
      rw [if_neg (by simpa using h6)]
      have hin := light_in l hl i hi x hx (by omega) (K - x.f2.length - 1) x.f2.length 0 (by omega)
      rw [show K - x.f2.length - 1 + x.f2.length + 1 = K by omega, List.drop_zero] at hin
      have h50 : x.f2.length ≤ 50 := by omega
      have h200 : x.f0.size ≤ 200 := by omega
      rw [show (0 : Int) = ((0 : Nat) : Int) from rfl, hin]
      cases hq : x.f2.all lotL
      · rw [if_neg (by simp)]
        unfold vesL
        simp [hq]
      · rw [if_pos rfl, ih (i + 1) _ (by omega) (by omega)]
        have : vesL x = true := by unfold vesL; simp only [hq, h50, h200, decide_true, Bool.and_self]
        rw [this, Bool.true_and]
    · obtain ⟨K, rfl⟩ : ∃ K', K = K' + 1 := ⟨K - 1, by omega⟩
      simp only [malthouseref13_Light.l0]
      rw [if_neg (by omega), List.drop_eq_nil_of_le (by omega)]
      rfl
theorem light_is (l : List S25) (K : Nat) (hK : 3100 ≤ K) : malthouseref13_Light.f K l = some (lightM l) := by
  unfold malthouseref13_Light.f lightM
  by_cases h : (l.length : Int) > 50
  · rw [if_pos h]
    have : ¬ l.length ≤ 50 := by omega
    simp [this]
  · rw [if_neg h]
    have h50 : l.length ≤ 50 := by omega
    have := light_loop l h50 l.length 0 K (by omega) (by omega)
    rw [List.drop_zero] at this
    rw [show (0 : Int) = ((0 : Nat) : Int) from rfl, this]
    simp [h50]
theorem lots_refl (l : List S37) (hl : l.length ≤ 1000000) : ∀ (f i K : Nat), l.length ≤ i + f → f + 1 ≤ K → malthouseref13_Lots.l0 K l l (i : Int) = some true := by
  intro f
  induction f with
  | zero =>
    intro i K h1 hK
    obtain ⟨K, rfl⟩ : ∃ K', K = K' + 1 := ⟨K - 1, by omega⟩
    simp only [malthouseref13_Lots.l0]
    rw [if_neg (by omega)]
  | succ f ih =>
    intro i K h1 hK
    obtain ⟨K, rfl⟩ : ∃ K', K = K' + 1 := ⟨K - 1, by omega⟩
    simp only [malthouseref13_Lots.l0]
    by_cases hi : i < l.length
    · rw [if_pos (by omega), if_pos (by omega), if_pos (by omega), if_neg (by simp), wrap_small _ (by omega) (by omega), show (i : Int) + 1 = ((i + 1 : Nat) : Int) by omega]
      exact ih (i + 1) K (by omega) (by omega)
    · rw [if_neg (by omega)]
theorem same_refl (m : Nat) (hm : m ≤ 1000000) (l : List S25) (hl : l.length ≤ 1000000) (hx : ∀ x ∈ l, x.f2.length ≤ m) : ∀ (f i K : Nat), l.length ≤ i + f → f + m + 2 ≤ K → malthouseref13_Same.l0 K l l (i : Int) = some true := by
  intro f
  induction f with
  | zero =>
    intro i K h1 hK
    obtain ⟨K, rfl⟩ : ∃ K', K = K' + 1 := ⟨K - 1, by omega⟩
    simp only [malthouseref13_Same.l0]
    rw [if_neg (by omega)]
  | succ f ih =>
    intro i K h1 hK
    obtain ⟨K, rfl⟩ : ∃ K', K = K' + 1 := ⟨K - 1, by omega⟩
    simp only [malthouseref13_Same.l0]
    by_cases hi : i < l.length
    · have e : rd_T25 l (i : Int) = l[i] := getD_at l _ i hi
      have hxm := hx _ (List.getElem_mem hi)
      have hlo : malthouseref13_Lots.f K l[i].f2 l[i].f2 = some true := by
        unfold malthouseref13_Lots.f
        rw [if_pos rfl]
        exact lots_refl _ (by omega) l[i].f2.length 0 K (by omega) (by omega)
      rw [if_pos (by omega), if_pos (by omega), if_pos (by omega), e, hlo]
      simp only [Option.bind_some]
      rw [if_pos trivial, if_pos trivial, if_pos trivial, wrap_small _ (by omega) (by omega), show (i : Int) + 1 = ((i + 1 : Nat) : Int) by omega]
      exact ih (i + 1) K (by omega) (by omega)
    · rw [if_neg (by omega)]
theorem same_is (m : Nat) (hm : m ≤ 1000000) (l : List S25) (hl : l.length ≤ 1000000) (hx : ∀ x ∈ l, x.f2.length ≤ m) (K : Nat) (hK : l.length + m + 2 ≤ K) : malthouseref13_Same.f K l l = some true := by
  unfold malthouseref13_Same.f
  rw [if_pos rfl]
  exact same_refl m hm l hl hx l.length 0 K (by omega) hK
end Go.Proofs.YtejecmjajdhiiaaDoor.Print
/-! ### LgOk -/
namespace Go.Proofs.YtejecmjajdhiiaaDoor.Print
open Go.RowKit Go.Proofs.YtejecmjajdhiiaaDoorW.PrintWords Go.Proofs.YtejecmjajdhiiaaDoorW.PrintLast Go.Proofs.YtejecmjajdhiiaaDoorW.PrintMore
set_option linter.unusedSimpArgs false
set_option linter.unusedVariables false
structure Lite (l : List S25) : Prop where
  len : l.length ≤ 50
  all : ∀ x ∈ l, LtV 60 x
theorem lite_of {l : List S25} (h : lightM l = true) (hr : ∀ x ∈ l, -9223372036854775808 ≤ x.f1 ∧ x.f1 ≤ 9223372036854775807) : Lite l := by
  unfold lightM at h
  simp only [Bool.and_eq_true, decide_eq_true_eq, List.all_eq_true] at h
  refine ⟨h.1, fun x hx => ?_⟩
  have h2 := h.2 x hx
  unfold vesL at h2
  simp only [Bool.and_eq_true, decide_eq_true_eq, List.all_eq_true] at h2
  refine ⟨by omega, (hr x hx).1, (hr x hx).2, by omega, fun y hy => ?_⟩
  have h3 := h2.2 y hy
  unfold lotL at h3
  have := of_decide_eq_true h3
  omega
theorem vesB_iff (x : S25) : vesB x = true ↔ nameB x.f0 = true ∧ 1 ≤ x.f1 ∧ x.f1 ≤ 1125899906842624 ∧ fine none x.f2 = true ∧ sumL x.f2 ≤ x.f1 := by
  unfold vesB
  rw [leftM_fine]
  cases hf : fine none x.f2
  · simp
  · cases hx : x.f2 with
    | nil =>
      have h0 : sumL ([] : List S37) = 0 := rfl
      simp only [h0, List.isEmpty_nil, Bool.true_or, Bool.and_true, if_true, Option.isSome_some, Bool.and_eq_true, decide_eq_true_eq, true_and]
      constructor
      · rintro ⟨⟨a, b⟩, c⟩
        exact ⟨a, b, c, by omega⟩
      · rintro ⟨a, b, c, _⟩
        exact ⟨⟨a, b⟩, c⟩
    | cons y t =>
      by_cases h : sumL (y :: t) ≤ x.f1 <;> simp [h, and_assoc]
theorem level_good {l : List S25} (h : Good l) {j : Nat} {x : S25} (hx : l[j]? = some x) : levelM x = sumL x.f2 := by
  obtain ⟨h1, _, h3⟩ := h.all j x hx
  have hg : Good [x] := ⟨by simp, fun i y hy => by
    cases i with
    | zero =>
      obtain rfl := Option.some.inj hy
      refine ⟨h1, ?_, h3⟩
      unfold firstFrom
      have : vesselIs x.f0 x = true := by unfold vesselIs; simp
      rw [if_pos this]
      omega
    | succ i => simp at hy⟩
  unfold levelM
  rw [if_pos ((good_iff [x]).2 hg), leftM_fine]
  obtain ⟨a, b, c, d, e⟩ := (vesB_iff x).1 h1
  rw [if_pos (by rw [d]; simp [e])]
  show x.f1 - (x.f1 - sumL x.f2) = _
  omega
theorem smallV_lite {l : List S25} (h : Lite l) : smallV l = true := by
  unfold smallV
  simp only [Bool.and_eq_true, decide_eq_true_eq, List.all_eq_true]
  exact ⟨by have := h.len; omega, fun x hx => by have := (h.all x hx).len; omega⟩
theorem check_lite {l : List S25} (h : Lite l) : ledger_Check.f 100000 l = some (checkM l) := by
  have h1 := check_is 60 (by omega) l (by have := h.len; omega) h.all 99926
  rw [show (99926 + 60 + 14 : Nat) = 100000 from rfl] at h1
  exact h1
theorem find_lite {l : List S25} (h : Lite l) (a : ByteArray) : ledger_find.f l a = some (firstFrom (vesselIs a) 0 l) := by
  unfold ledger_find.f
  rw [if_pos (by have := h.len; omega)]
theorem level_lite {x : S25} (h : LtV 60 x) : ledger_Level.f 100000 x.f0 x.f1 x.f2 = some (levelM x) := by
  have h1 := level_is 60 (by omega) x h 99926
  rw [show (99926 + 60 + 14 : Nat) = 100000 from rfl] at h1
  exact h1
theorem lots_good {l : List S37} {p : Option ByteArray} (h : fine p l = true) (hs : sumL l ≤ 1125899906842624) : lotsOk l = true := by
  unfold lotsOk
  rw [List.all_eq_true]
  induction l generalizing p with
  | nil => simp
  | cons x l ih =>
    obtain ⟨a, b, c, d⟩ := (fine_cons p x l).1 h
    rw [sumL_cons] at hs
    have h0 := fine_sum l _ d
    intro y hy
    rcases List.mem_cons.1 hy with rfl | hy
    · simp only [Bool.and_eq_true, decide_eq_true_eq]
      omega
    · exact ih d (by omega) y hy
theorem pourOk_good {l : List S37} {x : S37} {p : Option ByteArray} (h : fine p l = true) (hs : sumL l ≤ 1125899906842624) (h1 : 1 ≤ x.f1) (h2 : x.f1 ≤ 1125899906842624) : pourOk l x = true := by
  unfold pourOk
  cases hg : l.getLast? with
  | none => rfl
  | some q =>
    obtain ⟨a, b⟩ := getLast_le l p q h hg
    simp only [Bool.and_eq_true, decide_eq_true_eq]
    omega
theorem sumL_pos : ∀ (o : List S37), (∀ y ∈ o, 1 ≤ y.f1) → 0 ≤ sumL o ∧ ∀ y ∈ o, y.f1 ≤ sumL o
  | [], _ => ⟨Int.le_refl _, by simp⟩
  | x :: o, h => by
    obtain ⟨i1, i2⟩ := sumL_pos o (fun y hy => h y (by simp [hy]))
    have h1 := h x (by simp)
    rw [sumL_cons]
    refine ⟨by omega, fun y hy => ?_⟩
    rcases List.mem_cons.1 hy with rfl | hy
    · omega
    · have := i2 y hy
      omega
theorem poursOk_good : ∀ (o : List S37) (l : List S37), fine none l = true → (∀ y ∈ o, nameB y.f0 = true ∧ 1 ≤ y.f1) → sumL l + sumL o ≤ 1125899906842624 → poursOk l o = true
  | [], l, _, _, _ => rfl
  | x :: o, l, h, ho, hs => by
    obtain ⟨h1, h2⟩ := ho x (by simp)
    rw [sumL_cons] at hs
    have h0 := fine_sum l _ h
    have h3 := (sumL_pos o (fun y hy => (ho y (by simp [hy])).2)).1
    show (pourOk l x && poursOk (pourM l x) o) = true
    rw [pourOk_good h (by omega) h2 (by omega), Bool.true_and]
    exact poursOk_good o (pourM l x) (pour_fine x h1 h2 l none h (by simp)) (fun y hy => ho y (by simp [hy])) (by rw [pour_sum]; omega)
end Go.Proofs.YtejecmjajdhiiaaDoor.Print
/-! ### Print11 -/
namespace Go.Proofs.YtejecmjajdhiiaaDoor.Print
open Go.RowKit Go.Proofs.YtejecmjajdhiiaaDoorW.PrintWords Go.Proofs.YtejecmjajdhiiaaDoorW.PrintLast Go.Proofs.YtejecmjajdhiiaaDoorW.PrintMore
attribute [local go_sem] min_two
set_option linter.unusedVariables false
set_option linter.unusedSimpArgs false
def ledger_Sum.l0 : Nat → Int → List (S25) → Int → Int → Option (Int)
  | 0, _, _, _, _ => none
  | k + 1, x3, x9, x10, x11 => if x11 < x10 then (if 0 ≤ x11 then (if x11 < (x9.length : Int) then ((ledger_Level.f k ((rd_T25 x9 x11).f0) ((rd_T25 x9 x11).f1) ((rd_T25 x9 x11).f2)).bind fun t180 => (ledger_Sum.l0 k (wrap64 (x3 + t180)) x9 x10 (wrap64 (x11 + 1)))) else (none)) else (none)) else (some x3)
def ledger_Sum.f (k : Nat) (l0 : List (S25)) : Option (Int) := (ledger_Check.f k l0).bind fun t177 => (if t177 = 0 then (ledger_Sum.l0 k 0 l0 (l0.length : Int) 0) else (some 0))
set_option maxHeartbeats 8000000 in
set_option maxRecDepth 100000 in
theorem ledger_Sum.calls (k : Nat) (A0 : Option Addr) (c0 : Nat) (l0 : List (S25)) (r : Int) (w : World) (hr0 : Kd.C k25 w A0 l0.length l0) (hc0 : l0.length ≤ c0) (hT : Tabs w) (h : ledger_Sum.f k l0 = some r) :
    Calls Tryd.prog 14 #[.slice A0 l0.length c0] w fun e w' => e = .returned (.int .i64 r) ∧ Below w.heap.size w w' := by
  have hu25 := Tryd.underlying25
  have HR0 := Aside0.mk hr0
  have HC0 := Aside0.mk hc0
  clear hr0 hc0
  have HB := Aside0.mk (Below.refl w.heap.size w)
  have H : ((ledger_Check.f k l0).bind fun t177 => (if t177 = 0 then (ledger_Sum.l0 k 0 l0 (l0.length : Int) 0) else (some 0))) = some r := h
  clear h
  replace H := Option.bind_eq_some_iff.mp H
  obtain ⟨t177, A20, H⟩ := H
  replace H : (if t177 = 0 then (ledger_Sum.l0 k 0 l0 (l0.length : Int) 0) else (some 0)) = some r := H
  have A2 := Aside0.mk A20
  clear A20
  by_cases c3 : t177 = 0
  · rw [if_pos c3] at H
    have c3b0 : (t177 == 0) = true := beq_iff_eq.mpr c3
    have c3b1 : (t177 != 0) = false := bne_eq_false_iff_eq.mpr c3
    clear c3
    have H' := Aside0.mk H
    clear H
    go_enter Tryd.func14, Tryd.ntmps14
    go_wp2_with (first | ((with_reducible refine gate_callee (f := 12) rfl ?_); refine goesL_ (some 7) rfl rfl Tryd.func12 (by kernel_rfl) rfl #[.slice A0 l0.length c0] rfl (by (try simp only [List.map_toArray, List.map_cons, List.map_nil]); first | done | rfl | (simp only [List.length_drop, List.length_take]; rfl)) ?_; (with_reducible refine (ledger_Check.calls k _ _ l0 t177 _ ?side1 ?side2 ?side3 A2.out).mono ?_); (case side1 => repeat (first | exact HR0.out | (with_reducible refine Kd.C_alloc ?_ _) | (with_reducible refine Kd.C_drewN ?_ _) | (with_reducible refine Kd.C_drew ?_))); (case side2 => exact HC0.out); (case side3 => exact Tabs.below hT (by repeat (first | (with_reducible first | exact HB.out | apply below_alloc | apply pw_below_drewN | apply below_drew1) | exact HB.out))); rintro e w4 ⟨rfl, hb⟩; refine ⟨_, rfl, ?_⟩; have n0_ := Aside0.mk (below_step (by repeat (first | (with_reducible first | exact HB.out | apply below_alloc | apply pw_below_drewN | apply below_drew1) | exact HB.out)) hb); clear HB; have HB := n0_; clear n0_; (try clear hb); (try clear hb2); (try clear hk); (try clear hi)))
    go_loopg [3, 11] k (fun kq v3 v11 w' => ∃ (x3_1 : Int) (x11_1 : Int), v3 = .int .i64 x3_1 ∧ v11 = .int .i64 x11_1 ∧ Aside0 (ledger_Sum.l0 kq x3_1 l0 (l0.length : Int) x11_1 = some r) ∧ Aside0 (kq ≤ k) ∧ Aside0 (Below w.heap.size w w'))
    case atStart => exact ⟨(0), (0), (by first | rfl | (simp; done) | (simp [*]; done)), (by first | rfl | (simp; done) | (simp [*]; done)), H', ⟨Nat.le_refl _⟩, ⟨by repeat (first | (with_reducible first | exact HB.out | apply below_alloc | apply pw_below_drewN | apply below_drew1) | exact HB.out)⟩⟩
    case round =>
      clear H'
      try clear c1
      try clear p2
      try clear c3
      try clear c3b0
      try clear c3b1
      obtain ⟨x3_1, x11_1, rfl, rfl, HA, HK1, HB⟩ := hrel
      cases gk with
      | zero => exact absurd HA.out (by simp [ledger_Sum.l0])
      | succ k1 =>
        have H := HA.out
        clear HA
        simp only [ledger_Sum.l0] at H
        by_cases c5 : x11_1 < (l0.length : Int)
        · rw [if_pos c5] at H
          have c5b0 : decide (x11_1 < (l0.length : Int)) = true := decide_eq_true c5
          clear c5
          by_cases c6 : 0 ≤ x11_1
          · rw [if_pos c6] at H
            have c6b0 : decide (0 ≤ x11_1) = true := decide_eq_true c6
            clear c6
            by_cases c7 : x11_1 < (l0.length : Int)
            · rw [if_pos c7] at H
              have c7b0 : decide (x11_1 < (l0.length : Int)) = true := decide_eq_true c7
              clear c7
              replace H := Option.bind_eq_some_iff.mp H
              obtain ⟨t180, A80, H⟩ := H
              replace H : (ledger_Sum.l0 k1 (wrap64 (x3_1 + t180)) l0 (l0.length : Int) (wrap64 (x11_1 + 1))) = some r := H
              have A8 := Aside0.mk A80
              clear A80
              have H' := Aside0.mk H
              clear H
              have p178 : 0 ≤ (x11_1 : Int) := of_decide_eq_true (by first | (with_reducible assumption) | assumption)
              have q178 : x11_1 < (l0.length : Int) := of_decide_eq_true (by first | (with_reducible assumption) | assumption)
              obtain ⟨ad178, A178_2, c178_2, e178, hx178_0, hx178_1, hx178_2, hl178_2, hi178_2⟩ := at_T25 HR0.out x11_1 p178 q178
              cases e178
              replace hx178_0 := (HB.out.cell (World.block_lt_of_cell? w _ hx178_0)).trans hx178_0
              replace hx178_1 := (HB.out.cell (World.block_lt_of_cell? w _ hx178_1)).trans hx178_1
              replace hx178_2 := (HB.out.cell (World.block_lt_of_cell? w _ hx178_2)).trans hx178_2
              have HR178_2 := Aside0.mk hi178_2
              have HC178_2 := Aside0.mk hl178_2
              clear hi178_2 hl178_2
              replace p178 := eq_true p178
              replace q178 := eq_true q178
              go_wp2_with (first | ((with_reducible refine gate_dst (N := 5) rfl ?_); refine box_event ?hg (N := 5) ?hd (cs := #[.string (⟨#[]⟩ : ByteArray), .int .i64 0, .slice none 0 0]) (t := 25) ?hr ?_; (case hd => rfl); (case hg => rfl); (case hr => first | (go_simp; done) | (go_simp; rfl)); intro gb179 hg w9 hbox hb; have n0_ := Aside0.mk (below_step (by repeat (first | (with_reducible first | exact HB.out | apply below_alloc | apply pw_below_drewN | apply below_drew1) | exact HB.out)) hb); have n1_ := Aside0.mk (hbox); have n2_ := Aside0.mk ((by rw [hg]; exact (below_size (by repeat (first | (with_reducible first | exact HB.out | apply below_alloc | apply pw_below_drewN | apply below_drew1) | exact HB.out))) : w.heap.size ≤ gb179)); have n3_ := Aside0.mk ((by rw [hg]; exact (below_size (by repeat (first | (with_reducible first | exact HB.out | apply below_alloc | apply pw_below_drewN | apply below_drew1) | exact HB.out))) : w.heap.size ≤ gb179)); clear HB; have HB := n0_; have BK179 := n1_; have GW179 := n2_; have GE179 := n3_; clear n0_ n1_ n2_ n3_; clear hb hbox hg; have hcz10_0 : w9.cell? ⟨gb179, 0, none⟩ = some (.string (⟨#[]⟩ : ByteArray)) := (blk_cell BK179.out 0).trans rfl; have hcz10_1 : w9.cell? ⟨gb179, 1, none⟩ = some (.int .i64 0) := (blk_cell BK179.out 1).trans rfl; have hcz10_2 : w9.cell? ⟨gb179, 2, none⟩ = some (.slice none 0 0) := (blk_cell BK179.out 2).trans rfl; have hfz10_0 := blk_frozen BK179.out 0; have hfz10_1 := blk_frozen BK179.out 1; have hfz10_2 := blk_frozen BK179.out 2) | ((with_reducible refine gate_store (t := 25) (p := 5) rfl ?_); refine store_event (t := 25) (p := 5) (v := ?vo_w11) (w1 := (((w9.setCell ⟨gb179, 0, none⟩ (.string ((rd_T25 l0 x11_1).f0))).setCell ⟨gb179, 1, none⟩ (.int .i64 ((rd_T25 l0 x11_1).f1))).setCell ⟨gb179, 2, none⟩ (.slice A178_2 ((rd_T25 l0 x11_1).f2).length c178_2))) ?hg ?ho ?hn ?hr ?_; (case ho => rfl); (case hg => rfl); (case hn => rfl); (case hr => first | (go_simp; done) | (go_simp; rfl)); intro w11 hw; have n0_ : Aside0 (w11.heap[gb179]? = some (.cells #[.string ((rd_T25 l0 x11_1).f0), .int .i64 ((rd_T25 l0 x11_1).f1), .slice A178_2 ((rd_T25 l0 x11_1).f2).length c178_2] 25 (0, 0))) := ⟨(by rw [hw]; exact (by (with_reducible repeat (first | refine blk_drewN ?_ _ | refine blk_drew ?_ | refine blk_alloc ?_ _)); refine blk_put (cs := #[.string ((rd_T25 l0 x11_1).f0), .int .i64 ((rd_T25 l0 x11_1).f1), .slice none 0 0]) ?_ 2 _ rfl; (with_reducible repeat (first | refine blk_drewN ?_ _ | refine blk_drew ?_ | refine blk_alloc ?_ _)); refine blk_put (cs := #[.string ((rd_T25 l0 x11_1).f0), .int .i64 0, .slice none 0 0]) ?_ 1 _ rfl; (with_reducible repeat (first | refine blk_drewN ?_ _ | refine blk_drew ?_ | refine blk_alloc ?_ _)); refine blk_put (cs := #[.string (⟨#[]⟩ : ByteArray), .int .i64 0, .slice none 0 0]) ?_ 0 _ rfl; (with_reducible repeat (first | refine blk_drewN ?_ _ | refine blk_drew ?_ | refine blk_alloc ?_ _)); exact BK179.out))⟩; have n1_ : Aside0 (Below w.heap.size w w11) := ⟨(by rw [hw]; exact (by repeat (first | (with_reducible first | exact HB.out | apply below_alloc | apply pw_below_drewN | apply below_drew1 | refine below_set ?_ GE179.out) | exact HB.out)))⟩; clear hw; clear BK179; clear HB; have BK179 := n0_; have HB := n1_; clear n0_ n1_; have hcz12_0 : w11.cell? ⟨gb179, 0, none⟩ = some (.string ((rd_T25 l0 x11_1).f0)) := (blk_cell BK179.out 0).trans rfl; have hcz12_1 : w11.cell? ⟨gb179, 1, none⟩ = some (.int .i64 ((rd_T25 l0 x11_1).f1)) := (blk_cell BK179.out 1).trans rfl; have hcz12_2 : w11.cell? ⟨gb179, 2, none⟩ = some (.slice A178_2 ((rd_T25 l0 x11_1).f2).length c178_2) := (blk_cell BK179.out 2).trans rfl; have hfz12_0 := blk_frozen BK179.out 0; have hfz12_1 := blk_frozen BK179.out 1; have hfz12_2 := blk_frozen BK179.out 2) | ((with_reducible refine gate_callee (f := 16) rfl ?_); refine goesL_ (some 17) rfl rfl Tryd.func16 (by kernel_rfl) rfl #[.agg #[.string ((rd_T25 l0 x11_1).f0), .int .i64 ((rd_T25 l0 x11_1).f1), .slice A178_2 ((rd_T25 l0 x11_1).f2).length c178_2]] rfl (by (try simp only [List.map_toArray, List.map_cons, List.map_nil]); first | done | rfl | (simp only [List.length_drop, List.length_take]; rfl)) ?_; (with_reducible refine (ledger_Level.calls k1 ((rd_T25 l0 x11_1).f0) ((rd_T25 l0 x11_1).f1) (fun k_ => k_ < w.heap.size) _ _ ((rd_T25 l0 x11_1).f2) t180 _ ?side1 ?side2 A8.out).mono ?_); (case side1 => exact Kd.V_mk HC178_2.out (Kd.F_below (Kd.C_F k37_heap HR178_2.out) (by repeat (first | (with_reducible first | exact HB.out | apply below_alloc | apply pw_below_drewN | apply below_drew1 | refine below_set ?_ GE179.out) | exact HB.out)))); (case side2 => exact Tabs.below hT (by repeat (first | (with_reducible first | exact HB.out | apply below_alloc | apply pw_below_drewN | apply below_drew1 | refine below_set ?_ GE179.out) | exact HB.out))); rintro e w13 ⟨rfl, hb⟩; refine ⟨_, rfl, ?_⟩; have n0_ := Aside0.mk (blk_below (g := gb179) (o := .cells #[.string ((rd_T25 l0 x11_1).f0), .int .i64 ((rd_T25 l0 x11_1).f1), .slice A178_2 ((rd_T25 l0 x11_1).f2).length c178_2] 25 (0, 0)) (by (with_reducible repeat (first | refine blk_drewN ?_ _ | refine blk_drew ?_ | refine blk_alloc ?_ _)); exact BK179.out) hb); have n1_ := Aside0.mk (below_step (by repeat (first | (with_reducible first | exact HB.out | apply below_alloc | apply pw_below_drewN | apply below_drew1 | refine below_set ?_ GE179.out) | exact HB.out)) hb); clear BK179; clear HB; have BK179 := n0_; have HB := n1_; clear n0_ n1_; (try clear hb); (try clear hb2); (try clear hk); (try clear hi)))
              go_roundg k1
              case measure => have := HK1.out; omega
              case rel => exact ⟨(wrap64 (x3_1 + t180)), (wrap64 (x11_1 + 1)), (by first | rfl | (simp; done) | (simp [*]; done)), (by first | rfl | (simp; done) | (simp [*]; done)), H', ⟨by have := HK1.out; omega⟩, ⟨by repeat (first | (with_reducible first | exact HB.out | apply below_alloc | apply pw_below_drewN | apply below_drew1 | refine below_set ?_ GE179.out) | exact HB.out)⟩⟩
            · rw [if_neg c7] at H
              exact absurd H (by simp)
          · rw [if_neg c6] at H
            exact absurd H (by simp)
        · rw [if_neg c5] at H
          have c5b0 : decide (x11_1 < (l0.length : Int)) = false := decide_eq_false c5
          clear c5
          obtain rfl := Option.some.inj H
          go_wp2
          go_ret
          exact ⟨by first | rfl | (simp [errW_none, errW_some] <;> rfl) | (simp [*, errW_none, errW_some] <;> rfl), by repeat (first | (with_reducible first | exact HB.out | apply below_alloc | apply pw_below_drewN | apply below_drew1) | exact HB.out)⟩
  · rw [if_neg c3] at H
    have c3b0 : (t177 == 0) = false := beq_eq_false_iff_ne.mpr c3
    have c3b1 : (t177 != 0) = true := bne_iff_ne.mpr c3
    obtain rfl := Option.some.inj H
    go_enter Tryd.func14, Tryd.ntmps14
    go_wp2_with (first | ((with_reducible refine gate_callee (f := 12) rfl ?_); refine goesL_ (some 7) rfl rfl Tryd.func12 (by kernel_rfl) rfl #[.slice A0 l0.length c0] rfl (by (try simp only [List.map_toArray, List.map_cons, List.map_nil]); first | done | rfl | (simp only [List.length_drop, List.length_take]; rfl)) ?_; (with_reducible refine (ledger_Check.calls k _ _ l0 t177 _ ?side1 ?side2 ?side3 A2.out).mono ?_); (case side1 => repeat (first | exact HR0.out | (with_reducible refine Kd.C_alloc ?_ _) | (with_reducible refine Kd.C_drewN ?_ _) | (with_reducible refine Kd.C_drew ?_))); (case side2 => exact HC0.out); (case side3 => exact Tabs.below hT (by repeat (first | (with_reducible first | exact HB.out | apply below_alloc | apply pw_below_drewN | apply below_drew1) | exact HB.out))); rintro e w14 ⟨rfl, hb⟩; refine ⟨_, rfl, ?_⟩; have n0_ := Aside0.mk (below_step (by repeat (first | (with_reducible first | exact HB.out | apply below_alloc | apply pw_below_drewN | apply below_drew1) | exact HB.out)) hb); clear HB; have HB := n0_; clear n0_; (try clear hb); (try clear hb2); (try clear hk); (try clear hi)))
    go_ret
    exact ⟨by first | rfl | (simp [errW_none, errW_some] <;> rfl) | (simp [*, errW_none, errW_some] <;> rfl), by repeat (first | (with_reducible first | exact HB.out | apply below_alloc | apply pw_below_drewN | apply below_drew1) | exact HB.out)⟩
end Go.Proofs.YtejecmjajdhiiaaDoor.Print
/-! ### EAwake -/
namespace Go.Proofs.YtejecmjajdhiiaaDoor.Print
open Go.RowKit Go.Proofs.YtejecmjajdhiiaaDoorW.PrintWords Go.Proofs.YtejecmjajdhiiaaDoorW.PrintLast Go.Proofs.YtejecmjajdhiiaaDoorW.PrintMore
set_option linter.unusedSimpArgs false
set_option linter.unusedVariables false
def exL : List S25 := [⟨⟨#[116, 49]⟩, 100, [⟨⟨#[97]⟩, 10⟩, ⟨⟨#[98]⟩, 20⟩]⟩, ⟨⟨#[116, 50]⟩, 50, []⟩]
def exM : List S25 := [⟨⟨#[116, 49]⟩, 100, [⟨⟨#[98]⟩, 5⟩]⟩, ⟨⟨#[116, 50]⟩, 50, [⟨⟨#[97]⟩, 10⟩, ⟨⟨#[98]⟩, 15⟩]⟩]
theorem ex_move : ledger_Move.f exL ⟨#[116, 49]⟩ ⟨#[116, 50]⟩ 25 = some (exM, 0) := by kernel_rfl
theorem ex_draw : ledger_Draw.f exL ⟨#[116, 49]⟩ 15 = some ([⟨⟨#[116, 49]⟩, 100, [⟨⟨#[98]⟩, 15⟩]⟩, ⟨⟨#[116, 50]⟩, 50, []⟩], [⟨⟨#[97]⟩, 10⟩, ⟨⟨#[98]⟩, 5⟩], 0) := by kernel_rfl
def malthouselaw13_awake.f : Option Bool := some true
set_option maxHeartbeats 8000000 in
set_option maxRecDepth 100000 in
theorem malthouselaw13_awake.calls (r : Bool) (w : World) (hT : Tabs w) (h : malthouselaw13_awake.f = some r) :
    Calls Tryd.prog 10 #[] w fun e w' => e = .returned (.bool r) ∧ Below w.heap.size w w' := by
  obtain rfl := Option.some.inj h
  clear h
  have HT := Lib.hid hT
  clear hT
  go_enter Tryd.func10, Tryd.ntmps10
  go_wp2_with (go_at_call 26; refine (fun (h : Hid _) => h.out) ?_)
  refine Lib.hid ?_
  have HS := Lib.hid (((St.nil w).alloc [.string ⟨#[97]⟩, .int .i64 10, .string ⟨#[98]⟩, .int .i64 20] 37).alloc [.string ⟨#[116, 49]⟩, .int .i64 100, .slice (some ⟨w.heap.size, 0, none⟩) 2 2, .string ⟨#[116, 50]⟩, .int .i64 50, .slice none 0 0] 25)
  simp only [World.size_alloc, List.append_assoc, List.cons_append, List.nil_append] at HS
  have HCV := Lib.hid (show Kd.C k25 ((w.alloc (.cells #[.string ⟨#[97]⟩, .int .i64 10, .string ⟨#[98]⟩, .int .i64 20] 37)).alloc (.cells #[.string ⟨#[116, 49]⟩, .int .i64 100, .slice (some ⟨w.heap.size, 0, none⟩) 2 2, .string ⟨#[116, 50]⟩, .int .i64 50, .slice none 0 0] 25)) (some ⟨w.heap.size + 1, 0, none⟩) exL.length exL from
    C_ves (hs := [.slice (some ⟨w.heap.size, 0, none⟩) 2 2, .slice none 0 0]) rfl (by decide) (fun _ => ⟨_, rfl, HS.out.cells 1 rfl⟩) (fun j x u hj hu => by
      match j with
      | 0 =>
        obtain rfl := Option.some.inj hj
        obtain rfl := Option.some.inj hu
        exact ⟨some ⟨w.heap.size, 0, none⟩, 2, rfl, by decide, C_lots (by decide) (fun _ => ⟨_, rfl, HS.out.cells 0 rfl⟩)⟩
      | 1 =>
        obtain rfl := Option.some.inj hj
        obtain rfl := Option.some.inj hu
        exact ⟨none, 0, rfl, by decide, C_lots (by decide) (fun h => absurd h (by decide))⟩
      | j + 2 => simp [exL] at hj))
  generalize (w.alloc (.cells #[.string ⟨#[97]⟩, .int .i64 10, .string ⟨#[98]⟩, .int .i64 20] 37)).alloc (.cells #[.string ⟨#[116, 49]⟩, .int .i64 100, .slice (some ⟨w.heap.size, 0, none⟩) 2 2, .string ⟨#[116, 50]⟩, .int .i64 50, .slice none 0 0] 25) = W1 at *
  refine (ledger_Move.calls (some ⟨w.heap.size + 1, 0, none⟩) 2 exL ⟨#[116, 49]⟩ ⟨#[116, 50]⟩ 25 exM 0 W1 HCV.out (by decide) (HT.out.below HS.out.only.nil_below) ex_move).mono ?_
  rintro e W2 ⟨v0, rfl, ⟨Am, cm, rfl, hcm, hF⟩, hb⟩
  have HF := Lib.hid hF
  have HB := Lib.hid hb
  replace HS := Lib.hid (HS.out.keep (Only.of_below hb))
  have HDR := Lib.hid (ledger_Draw.calls (some ⟨w.heap.size + 1, 0, none⟩) 2 exL ⟨#[116, 49]⟩ 15 _ _ 0 W2 (Kd.C_below HCV.out hb) (by decide) (HT.out.below HS.out.only.nil_below) ex_draw)
  clear hF hb
  simp only []
  go_wp2_with (go_at_call 18; refine HDR.out.mono ?_; rintro e W3 ⟨v1, v2, rfl, hV2, hR2, hb2⟩; have HR2 := Lib.hid hR2; have HB2 := Lib.hid hb2; clear hV2 hR2 hb2; refine (fun (h : Hid _) => h.out) ?_)
  refine Lib.hid ?_
  clear HDR
  obtain ⟨Ao, co, rfl, hco, hCo⟩ := Kd.R_reads HR2.out
  have HCM := Lib.hid (show Kd.C k25 W3 Am exM.length exM from HF.out W3 (fun k hk hlt => HB2.out.block k hlt))
  have HSM := Lib.hid (ledger_Sum.calls 100000 Am cm exM 30 W3 HCM.out hcm (HT.out.below ((HS.out.only).trans (Only.of_below HB2.out)).nil_below) (by kernel_rfl))
  obtain ⟨am, cs, rfl, _, hK, hcs⟩ := Kd.C_cells HCM.out 1 (by decide)
  obtain ⟨A1, c1, rfl, hl1, hk1⟩ := k25_open hK
  have hm1 : W3.cell? ⟨am.block, am.off + 3 + 2, none⟩ = some (.slice A1 2 c1) := hcs 2 _ rfl
  obtain ⟨a1, rfl, hcs1⟩ := flat_lots hk1 (by decide)
  have hm2 : W3.cell? ⟨a1.block, a1.off + 2 + 1, none⟩ = some (.int .i64 15) := hcs1 3 _ rfl
  obtain ⟨ao, rfl, hcso⟩ := flat_lots hCo (by decide)
  have hm3 : W3.cell? ⟨ao.block, ao.off + 2 + 1, none⟩ = some (.int .i64 5) := hcso 3 _ rfl
  simp only [show exM.length = 2 from rfl, List.length_cons, List.length_nil, Nat.reduceAdd] at HSM ⊢
  clear hK hcs hcs1 hcso hCo hl1 hk1
  go_wp2_with (go_at_call 14; refine HSM.out.mono ?_; rintro e W4 ⟨rfl, hb3⟩; have HB3 := Lib.hid hb3; clear hb3; refine (fun (h : Hid _) => h.out) ?_)
  refine Lib.hid ?_
  clear hm1 hm2 hm3 HSM
  obtain ⟨ad, cs, e, _, hK, hcs⟩ := Kd.C_cells (Kd.C_below HCM.out HB3.out) 0 (by decide)
  obtain rfl := Option.some.inj e
  obtain ⟨A0, c0, rfl, hl0, hk0⟩ := k25_open hK
  have HLV := Lib.hid (ledger_Level.calls 100000 ⟨#[116, 49]⟩ 100 (fun k_ => k_ < W4.heap.size) A0 c0 [⟨⟨#[98]⟩, 5⟩] 5 W4 (Kd.V_mk hl0 (Kd.C_F k37_heap hk0)) (HT.out.below ((HS.out.only).trans ((Only.of_below HB2.out).trans (Only.of_below HB3.out))).nil_below) (by kernel_rfl))
  have hm1 : W4.cell? am = some (.string ⟨#[116, 49]⟩) := hcs 0 _ rfl
  have hm2 : W4.cell? ⟨am.block, am.off + 1, none⟩ = some (.int .i64 100) := hcs 1 _ rfl
  have hm3 : W4.cell? ⟨am.block, am.off + 2, none⟩ = some (.slice A0 1 c0) := hcs 2 _ rfl
  clear hK hcs hl0 hk0 e
  go_wp2_with (go_at_call 16; refine HLV.out.mono ?_; rintro e W5 ⟨rfl, hb4⟩; have HB4 := Lib.hid hb4; clear hb4)
  go_ret
  exact ⟨rfl, ((HS.out.only).trans ((Only.of_below HB2.out).trans ((Only.of_below HB3.out).trans (Only.of_below HB4.out)))).nil_below⟩
end Go.Proofs.YtejecmjajdhiiaaDoor.Print
