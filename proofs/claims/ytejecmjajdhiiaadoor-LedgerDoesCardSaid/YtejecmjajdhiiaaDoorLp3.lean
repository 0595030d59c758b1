import Derived.Test.YtejecmjajdhiiaaDoorLp2
import Derived.Laws.ResultCell
import Derived.Lib.Hide
import Derived.OrdersIn
import Derived.Test.YtejecmjajdhiiaaDoorProg
set_option linter.unusedVariables false
set_option linter.unusedSimpArgs false
namespace Go.Proofs.YtejecmjajdhiiaaDoorW.PrintWords
end Go.Proofs.YtejecmjajdhiiaaDoorW.PrintWords
namespace Go.Proofs.YtejecmjajdhiiaaDoorW.PrintLast
end Go.Proofs.YtejecmjajdhiiaaDoorW.PrintLast
namespace Go.Proofs.YtejecmjajdhiiaaDoorW.PrintMore
end Go.Proofs.YtejecmjajdhiiaaDoorW.PrintMore
/-! ### EDraw -/
namespace Go.Proofs.YtejecmjajdhiiaaDoor.Print
open Go.RowKit Go.Proofs.YtejecmjajdhiiaaDoorW.PrintWords Go.Proofs.YtejecmjajdhiiaaDoorW.PrintLast Go.Proofs.YtejecmjajdhiiaaDoorW.PrintMore
set_option linter.unusedSimpArgs false
set_option linter.unusedVariables false
theorem Tk.move {D : TkP} {s : TkS} {L L' : List Res} (h : Tk D s L) (h1 : L'[D.ia]? = L[D.ia]?) (h2 : L'[D.ib]? = L[D.ib]?) (h3 : L'[D.ip]? = L[D.ip]?) (h4 : L'[D.iq]? = L[D.iq]?) : Tk D s L' := by
  obtain ⟨pre, cells, A, h⟩ := h
  exact ⟨pre, cells, A, h.len, h1.trans h.out, h.hdr, h.adr, h2.trans h.lot, h3.trans h.num, h4.trans h.ptr⟩
theorem Turned.other {D : TkP} {L L' : List Res} (h : Turned D L L') {j : Nat} (h1 : j ≠ D.ia) (h2 : j ≠ D.ib) (h3 : j ≠ D.ip) : L'[j]? = L[j]? := by
  obtain ⟨n, r, cells, v, _, rfl⟩ := h
  rw [List.getElem?_set_ne (Ne.symm h1), List.getElem?_set_ne (Ne.symm h2), List.getElem?_set_ne (Ne.symm h3)]
/-- Where Draw stands: N: the place of its own variable. -/
structure DI (D : TkP) (N lb dd : Nat) (L0 : List Res) (cells0 : List Value) (t0 : TkS) (R : Obj) (st s : TkS) (Ls : List Res) : Prop where
  tk : Tk D st Ls
  ok1 : ∀ x ∈ st.1, 1 ≤ x.f1 ∧ x.f1 ≤ 1125899906842624
  ok2 : 0 ≤ st.2.1 ∧ st.2.1 ≤ 1125899906842624
  var : ∃ v, Ls[N]? = some (.blk lb 23 [v]) ∧ Ls[N + 1]? = some (.row v 37 2 s.2.2.length (lotRow s.2.2))
  dfr : Ls[N + 4]? = some (.obj dd (.deferred (some [])))
  lop : Ls[N + 5]? = some (.obj (dd + 1) R)
  rest : ∀ j, 1 ≤ j → j < N → j ≠ D.ib → Ls[j]? = L0[j]?
  cel : ∀ cells, Ls[D.ia]? = some (D.outR cells) → ∀ q, q ≠ D.i0 * 3 + 2 → cells[q]? = cells0[q]?
  fst : (takeM st.1 st.2.1).1 = (takeM t0.1 t0.2.1).1
  snd : st.2.2 ++ (takeM st.1 st.2.1).2 = (takeM t0.1 t0.2.1).2
structure DPl (D : TkP) (N : Nat) : Prop where
  (ia : D.ia = 0) (ib : 1 ≤ D.ib ∧ D.ib < N) (ip : D.ip = N + 3) (iq : D.iq = N + 2)
theorem DI.step {D : TkP} {N lb dd : Nat} {L0 : List Res} {cells0 : List Value} {t0 : TkS} {R : Obj} {s : TkS} {L L' : List Res} (hp : DPl D N) (h : DI D N lb dd L0 cells0 t0 R s s L) (hg : goT s) (ht : Turned D L L') (hk : Tk D (nxtT s) L') : DI D N lb dd L0 cells0 t0 R (nxtT s) s L' := by
  obtain ⟨p1, p2, p3, p4⟩ := hp
  obtain ⟨o1, o2⟩ := nxt_ok hg h.ok1 h.ok2
  obtain ⟨t1, t2⟩ := takeM_next hg
  obtain ⟨v, v1, v2⟩ := h.var
  refine ⟨hk, o1, o2, ⟨v, (ht.other (by omega) (by omega) (by omega)).trans v1, (ht.other (by omega) (by omega) (by omega)).trans v2⟩, (ht.other (by omega) (by omega) (by omega)).trans h.dfr, (ht.other (by omega) (by omega) (by omega)).trans h.lop,
    fun j h1 h2 h3 => (ht.other (by omega) h3 (by omega)).trans (h.rest j h1 h2 h3), fun cells hc q hq => ?_, t1.trans h.fst, t2.trans h.snd⟩
  obtain ⟨n, r, cells1, v, hc1, rfl⟩ := ht
  have hlt := (List.getElem?_eq_some_iff.1 hc1).1
  rw [List.getElem?_set_self (by rw [List.length_set, List.length_set]; exact hlt)] at hc
  have e : cells = cells1.set (D.i0 * 3 + 2) v := by
    have := Option.some.inj hc
    unfold TkP.outR at this
    injection this with _ _ _ _ h5
    exact h5.symm
  rw [e, List.getElem?_set_ne (Ne.symm hq)]
  exact h.cel cells1 hc1 q hq
theorem DI.turn {D : TkP} {N lb dd : Nat} {L0 : List Res} {cells0 : List Value} {t0 : TkS} {R : Obj} {st s : TkS} {L : List Res} (hp : DPl D N) (h : DI D N lb dd L0 cells0 t0 R st s L) (R' : Obj) : DI D N lb dd L0 cells0 t0 R' st s (L.set (N + 5) (.obj (dd + 1) R')) := by
  obtain ⟨p1, p2, p3, p4⟩ := hp
  obtain ⟨v, v1, v2⟩ := h.var
  have e : ∀ j, j ≠ N + 5 → (L.set (N + 5) (.obj (dd + 1) R'))[j]? = L[j]? := fun j hj => List.getElem?_set_ne (Ne.symm hj)
  exact ⟨h.tk.move (e _ (by omega)) (e _ (by omega)) (e _ (by omega)) (e _ (by omega)), h.ok1, h.ok2, ⟨v, (e _ (by omega)).trans v1, (e _ (by omega)).trans v2⟩, (e _ (by omega)).trans h.dfr, List.getElem?_set_self (List.getElem?_eq_some_iff.1 h.lop).1,
    fun j h1 h2 h3 => (e _ (by omega)).trans (h.rest j h1 h2 h3), fun cells hc => h.cel cells ((e _ (by omega)).symm.trans hc), h.fst, h.snd⟩
/-- The body has run. -/
theorem DI.more {D : TkP} {N lb dd : Nat} {L0 : List Res} {cells0 : List Value} {t0 : TkS} {R : Obj} {s : TkS} {L : List Res} (hp : DPl D N) (h : DI D N lb dd L0 cells0 t0 R (nxtT s) s L) (v : Value) :
    DI D N lb dd L0 cells0 t0 R (nxtT s) (nxtT s) ((L.set (N + 1) (.row v 37 2 (nxtT s).2.2.length (lotRow (nxtT s).2.2))).set N (.blk lb 23 [v])) := by
  obtain ⟨p1, p2, p3, p4⟩ := hp
  obtain ⟨v0, v1, v2⟩ := h.var
  have hl1 := (List.getElem?_eq_some_iff.1 v1).1
  have hl2 := (List.getElem?_eq_some_iff.1 v2).1
  have e : ∀ j, j ≠ N → j ≠ N + 1 → ((L.set (N + 1) (.row v 37 2 (nxtT s).2.2.length (lotRow (nxtT s).2.2))).set N (.blk lb 23 [v]))[j]? = L[j]? := fun j hj hj2 => by rw [List.getElem?_set_ne (Ne.symm hj), List.getElem?_set_ne (Ne.symm hj2)]
  exact ⟨h.tk.move (e _ (by omega) (by omega)) (e _ (by omega) (by omega)) (e _ (by omega) (by omega)) (e _ (by omega) (by omega)), h.ok1, h.ok2, ⟨v, List.getElem?_set_self (by rw [List.length_set]; exact hl1), by rw [List.getElem?_set_ne (by omega)]; exact List.getElem?_set_self hl2⟩, (e _ (by omega) (by omega)).trans h.dfr, (e _ (by omega) (by omega)).trans h.lop,
    fun j h1 h2 h3 => (e _ (by omega) (by omega)).trans (h.rest j h1 h2 h3), fun cells hc => h.cel cells ((e _ (by omega) (by omega)).symm.trans hc), h.fst, h.snd⟩
theorem only_drew (W : World) : Only [] W W.drew := ⟨rfl, rfl, rfl, Nat.le_refl _, fun _ _ _ => rfl⟩
theorem St.two {w W : World} {o1 o2 : Obj} (ho : Only [] w W) (h1 : W.heap[w.heap.size]? = some o1) (h2 : W.heap[w.heap.size + 1]? = some o2) : St w [.obj w.heap.size o1, .obj (w.heap.size + 1) o2] W := by
  refine ⟨ho, fun i r hi => ?_, fun i j r s k hi hj hr hs => ?_⟩
  · match i with
    | 0 => obtain rfl := Option.some.inj hi; exact ⟨Nat.le_refl _, h1⟩
    | 1 => obtain rfl := Option.some.inj hi; exact ⟨Nat.le_succ _, h2⟩
    | i + 2 => simp at hi
  · match i, j with
    | 0, 0 => rfl
    | 1, 1 => rfl
    | 0, 1 =>
      obtain rfl := Option.some.inj hi
      obtain rfl := Option.some.inj hj
      have h1 := Option.some.inj hr
      have h2 := Option.some.inj hs
      omega
    | 1, 0 =>
      obtain rfl := Option.some.inj hi
      obtain rfl := Option.some.inj hj
      have h1 := Option.some.inj hr
      have h2 := Option.some.inj hs
      omega
    | i + 2, _ => simp at hi
    | _, j + 2 => simp at hj
theorem takeM_len (l : List S37) : ∀ n, (takeM l n).2.length ≤ l.length := by
  induction l with
  | nil => intro n; exact Nat.le_refl _
  | cons x l ih =>
    intro n
    rw [takeM]
    split
    · split
      · have := ih (n - mn n x.f1)
        simp only [List.length_cons]
        omega
      · simp
    · simp
theorem infoLt : (Tryd.prog.info? 37).map (fun i => (i.zero, i.size, i.bytes)) = some (some (.agg #[.string ⟨#[]⟩, .int .i64 0]), 2, 24) := by kernel_rfl
section
theorem wpList_one {P : Program} {ops : Array Oper} {rest : List Oper} {o : Oper} {a : Act} {w : World} {Q : Exit → Act → World → Prop} (hg : o.guard = none) (t : TypeId) (x : Operand) (ho : o.op = .buildSlice t 1 #[(0, x)]) (e : TypeId) (ht : P.underlying t = some (.slice e))
    (z : Value) (size bytes : Nat) (hinfo : (P.info? e).map (fun i => (i.zero, i.size, i.bytes)) = some (some z, size, bytes)) (hs0 : 0 < size) (hs1 : size ≤ 1000) (v : Value) (hx : a.eval x = v) (cells : Array Value)
    (hfill : Instr.fill (fun i => some (i * size, size)) ((Array.range (1 * size)).map (z.cells[· % z.cells.size]!)) [(0, v)] = some cells)
    (h : wpList P ops Q rest (a.put o.dst (.slice (some ⟨w.heap.size, 0, none⟩) 1 1)) (w.alloc (.cells cells e))) : wpList P ops Q (o :: rest) a w := by
  obtain ⟨ie, h2, h3, h4, h5⟩ := info_parts hinfo
  subst h4
  exact wpList_buildSlice hg t e 1 _ ho cells ie z ht h2 h3 (by omega) (by omega) (by simpa [hx] using hfill) h
end
theorem di_start {l0 : List S25} {us : List Value} {k g c5 gl cl lb dd : Nat} {x : S25} {n : Int} {R : Obj} {L0 : List Res} {D : TkP} (hk : k < l0.length) (hx : l0[k]? = some x) (hu : us[k]? = some (.slice (some ⟨gl, 0, none⟩) x.f2.length cl)) (hul : us.length = l0.length) (hlo : lotsOk x.f2 = true) (hn1 : 1 ≤ n) (hn9 : n ≤ 1125899906842624)
    (hL : L0 = vRes (.slice (some ⟨g, 0, none⟩) l0.length c5) us l0 ++ [.blk lb 23 [.slice none 0 0], .row (.slice none 0 0) 37 2 0 [], .blk (lb + 1) 64 [.pointer (some ⟨g, k * 3, none⟩)], .blk (lb + 1 + 1) 3 [.int .i64 n]])
    (hD : D = ⟨0, k + 1, l0.length + 1 + 3, l0.length + 1 + 2, g, c5, l0.length, k, gl, cl, x.f2.length, lb + 1 + 1, lb + 1⟩) :
    DI D (l0.length + 1) lb dd L0 (vCells l0 us) (x.f2, n, []) R (x.f2, n, []) (x.f2, n, []) (L0 ++ [.obj dd (.deferred (some [])), .obj (dd + 1) R]) := by
  have hvl : (vRes (.slice (some ⟨g, 0, none⟩) l0.length c5) us l0).length = l0.length + 1 := by
    show (lotRes us l0).length + 1 = _
    unfold lotRes
    rw [List.length_zipWith, hul, Nat.min_self]
  have e0 : ∀ N, (vRes (.slice (some ⟨g, 0, none⟩) l0.length c5) us l0 ++ N)[0]? = some (.row (.slice (some ⟨g, 0, none⟩) l0.length c5) 25 3 l0.length (vCells l0 us)) := fun N => rfl
  have ek : ∀ N, (vRes (.slice (some ⟨g, 0, none⟩) l0.length c5) us l0 ++ N)[k + 1]? = some (.row (.slice (some ⟨gl, 0, none⟩) x.f2.length cl) 37 2 x.f2.length (lotRow x.f2)) := fun N => get_app (by exact lotRes_get hx hu) N
  have ej : ∀ (N : List Res) (j : Nat), (vRes (.slice (some ⟨g, 0, none⟩) l0.length c5) us l0 ++ N)[l0.length + 1 + j]? = N[j]? := fun N j => by rw [List.getElem?_append_right (by omega), hvl, Nat.add_sub_cancel_left]
  subst hL hD
  rw [List.append_assoc]
  refine ⟨⟨[], vCells l0 us, some ⟨gl, 0, none⟩, ?_, e0 _, ?_, fun _ => ?_, ek _, ej _ 3, ej _ 2⟩, lotsOk_of hlo, ⟨by show 0 ≤ n; omega, hn9⟩, ⟨.slice none 0 0, ej _ 0, ej _ 1⟩, ej _ 4, ej _ 5, fun j h1 h2 h3 => ?_, fun cells hc q hq => ?_, rfl, rfl⟩
  · show 0 + x.f2.length = x.f2.length
    omega
  · exact (vCells_get hx hu).2.2
  · show some (⟨gl, 0, none⟩ : Addr) = some ⟨gl, 0 * 2, none⟩
    rw [Nat.zero_mul]
  · rw [List.getElem?_append_left (by rw [hvl]; exact h2), List.getElem?_append_left (by rw [hvl]; exact h2)]
  · have h1 := Option.some.inj ((e0 _).symm.trans hc)
    unfold TkP.outR at h1
    injection h1 with _ _ _ _ h5
    rw [h5]
theorem addr_shift (g a b : Nat) : (⟨g, 0, none⟩ : Addr).add (a + b) = (⟨g, a, none⟩ : Addr).add b := by
  unfold Addr.add
  split <;> split <;> simp_all
theorem draw_out {l0 : List S25} {us : List Value} {k g c5 gl cl lb dd : Nat} {x : S25} {n m : Int} {cur o : List S37} {R : Obj} {L0 Ls L2 : List Res} {D : TkP} {v0 : Value} {w W : World} (hc5 : l0.length ≤ c5) (hs1 : l0.length ≤ 1000000) (hx2 : x.f2.length ≤ 900000) (hlx : ∀ y ∈ l0, y.f2.length ≤ 900000) (hk : k < l0.length) (hx : l0[k]? = some x) (hu : us[k]? = some (.slice (some ⟨gl, 0, none⟩) x.f2.length cl)) (hul : us.length = l0.length) (hcl : x.f2.length ≤ cl)
    (hL : L0 = vRes (.slice (some ⟨g, 0, none⟩) l0.length c5) us l0 ++ [.blk lb 23 [.slice none 0 0], .row (.slice none 0 0) 37 2 0 [], .blk (lb + 1) 64 [.pointer (some ⟨g, k * 3, none⟩)], .blk (lb + 1 + 1) 3 [.int .i64 n]])
    (hD : D = ⟨0, k + 1, l0.length + 1 + 3, l0.length + 1 + 2, g, c5, l0.length, k, gl, cl, x.f2.length, lb + 1 + 1, lb + 1⟩)
    (h : DI D (l0.length + 1) lb dd L0 (vCells l0 us) (x.f2, n, []) R (cur, m, o) (cur, m, o) Ls) (he : ∀ j, j ≠ l0.length + 1 + 4 → L2[j]? = Ls[j]?) (hs : St w L2 W) (hv : Ls[l0.length + 1 + 1]? = some (.row v0 37 2 o.length (lotRow o))) :
    Kd.V k25 25 W w.heap.size (fun k_ => (w.heap.size ≤ k_) ∧ some k_ ≠ (v0 : Value).ownBlock) (.slice (some ⟨g, 0, none⟩) l0.length c5) (l0.set k (turned x cur)) ∧ Kd.R k37 37 W w.heap.size (fun _ => True) v0 o := by
  refine ⟨?_, R_lots (hs.row (l0.length + 1 + 1) ((he _ (by omega)).trans hv)) (fun _ _ => trivial)⟩
  obtain ⟨pre, cells, A, hF⟩ := h.tk
  have hvl : (vRes (.slice (some ⟨g, 0, none⟩) l0.length c5) us l0).length = l0.length + 1 := by
    show (lotRes us l0).length + 1 = _
    unfold lotRes
    rw [List.length_zipWith, hul, Nat.min_self]
  have hout := hF.out
  have hcel := h.cel
  have hrest := h.rest
  have hlot := hF.lot
  have hhdr := hF.hdr
  have hadr := hF.adr
  have hlen := hF.len
  subst hD
  dsimp only at hout hcel hrest hlot hhdr hadr hlen
  obtain ⟨h0, hh0⟩ : ∃ h0, h0 = Value.slice A cur.length (cl - pre.length) := ⟨_, rfl⟩
  rw [← hh0] at hhdr
  have hcells : cells = vCells l0 (us.set k h0) := by
    rw [← vCells_set hx hu]
    refine List.ext_getElem? (fun q => ?_)
    by_cases hq : q = k * 3 + 2
    · subst hq
      rw [hhdr, List.getElem?_set_self]
      rw [vCells_length _ _ hul]
      omega
    · rw [List.getElem?_set_ne (Ne.symm hq)]
      exact hcel cells hout q hq
  have hlg : (l0.set k (turned x cur)).length = l0.length := List.length_set
  rw [← hlg]
  refine Kd.V_mk (by rw [hlg]; exact hc5) (fun W' hW => ?_)
  have hmv : ∀ (i : Nat) (r : Res), L2[i]? = some r → i ≠ l0.length + 1 + 1 → r.holds W' w.heap.size := fun i r hi hne =>
    Res.holds.move (hs.each i r hi) (fun k' hk' => hW k' ⟨(hs.lt hi hk').1, fun e => hs.ne hi ((he _ (by omega)).trans hv) hne hk' e.symm⟩ (hs.lt hi hk').2)
  refine C_ves (hs := us.set k h0) (by rw [List.length_set, hlg, hul]) (by rw [hlg]; omega) (fun _ => ?_) (fun j xx u hj hu2 => ?_)
  · rw [vCells_turned cur hx, ← hcells]
    exact ownsRow_at (hmv 0 _ ((he _ (by omega)).trans hout) (by omega)) (by show 0 < l0.length; omega)
  · by_cases hjk : j = k
    · subst hjk
      rw [List.getElem?_set_self hk] at hj
      rw [List.getElem?_set_self (by omega)] at hu2
      obtain rfl := Option.some.inj hj
      obtain rfl := Option.some.inj hu2
      refine ⟨A, cl - pre.length, hh0, by show cur.length ≤ _; omega, C_lots (by show cur.length ≤ _; omega) (fun hp => ?_)⟩
      have hne : cur ≠ [] := List.length_pos_iff.1 hp
      have ha := hadr hne
      have hp2 : 0 < cur.length := hp
      refine ⟨_, ha, ?_⟩
      obtain ⟨ad, e1, h1⟩ := ownsRow_at (hmv (j + 1) _ ((he _ (by omega)).trans hlot) (by omega)) (by show 0 < x.f2.length; omega)
      obtain rfl := Option.some.inj e1
      intro i u hi
      have hi2 : (lotRow cur)[i]? = some u := hi
      have h2 := h1 (pre.length * 2 + i) u (by rw [lotRow_append, List.getElem?_append_right (by rw [lotRow_length]; omega), lotRow_length, Nat.add_sub_cancel_left]; exact hi2)
      rw [addr_shift] at h2
      exact h2
    · rw [List.getElem?_set_ne (Ne.symm hjk)] at hj hu2
      have hjl : j < l0.length := (List.getElem?_eq_some_iff.1 hj).1
      have h1 : L2[j + 1]? = some (.row u 37 2 xx.f2.length (lotRow xx.f2)) := by
        rw [he _ (by omega), hrest (j + 1) (by omega) (by omega) (by omega), hL]
        exact get_app (by exact lotRes_get hj hu2) _
      exact S_lots (hmv (j + 1) _ h1 (by omega)) (by have := hlx xx (List.mem_of_getElem? hj); omega)
def drawOk (l : List S37) (n : Int) : Bool := lotsOk l && decide (n ≤ 1125899906842624) && decide (0 < l.length)
def ledger_Draw.f (l : List S25) (a : ByteArray) (n : Int) : Option (List S25 × List S37 × Int) :=
  if smallV l = true then
    (ledger_Check.f 100000 l).bind fun e => if e = 0 then
      (ledger_find.f l a).bind fun i => if i < 0 then some ([], [], 4) else if n < 1 then some ([], [], 130) else
        (ledger_Level.f 100000 (rd_T25 l i).f0 (rd_T25 l i).f1 (rd_T25 l i).f2).bind fun r => if r < n then some ([], [], 130) else
          if drawOk (rd_T25 l i).f2 n = true then some (l.set i.toNat (turned (rd_T25 l i) (takeM (rd_T25 l i).f2 n).1), (takeM (rd_T25 l i).f2 n).2, 0) else none
    else some ([], [], 1)
  else none
set_option maxHeartbeats 16000000 in
set_option maxRecDepth 100000 in
theorem draw_ok (A0 : Option Addr) (c0 : Nat) (l0 : List S25) (a1 : ByteArray) (n : Int) (k : Nat) (r : Int) (w : World) (hr0 : Kd.C k25 w A0 l0.length l0) (hc0 : l0.length ≤ c0) (hT : Tabs w) (hs1 : l0.length ≤ 1000000) (hs2 : ∀ x ∈ l0, x.f2.length ≤ 900000)
    (he : ledger_Check.f 100000 l0 = some 0) (hf : ledger_find.f l0 a1 = some (k : Int)) (x : S25) (hx : l0[k]? = some x) (hn1 : 1 ≤ n) (hlv : ledger_Level.f 100000 x.f0 x.f1 x.f2 = some r) (hrn : n ≤ r) (hdo : drawOk x.f2 n = true) :
    Calls Tryd.prog 18 #[.slice A0 l0.length c0, .string a1, .int .i64 n] w fun e w' => ∃ v0_ v1_ : Value, e = .returned (.tuple #[v0_, v1_, .int .i64 0]) ∧ Kd.V k25 25 w' w.heap.size (fun k_ => (w.heap.size ≤ k_) ∧ some k_ ≠ (v1_ : Value).ownBlock) v0_ (l0.set k (turned x (takeM x.f2 n).1)) ∧ Kd.R k37 37 w' w.heap.size (fun _ => True) v1_ (takeM x.f2 n).2 ∧ Below w.heap.size w w' := by
  have hk : k < l0.length := (List.getElem?_eq_some_iff.1 hx).1
  have hkk : (k : Int) < l0.length := by omega
  have hk0 : (0 : Int) ≤ k := by omega
  have HX := Lib.hid hx
  have HR := Lib.hid hr0
  have HT := Lib.hid hT
  have HS2 := Lib.hid hs2
  have HF := Lib.hid hf
  have HLV := Lib.hid hlv
  have HDO := Lib.hid hdo
  have hrn' : ¬ r < n := by omega
  have hn1' : ¬ n < 1 := by omega
  have HCK := Lib.hid (ledger_Check.calls 100000 A0 c0 l0 0 w hr0 hc0 hT he)
  clear hx hr0 hT hs2 hf hlv hdo he hrn
  refine (callsIn_wide (n := 0)).1 (callsIn_of_wp_marks Tryd.func18 rfl trivial ?_)
  simp only [Tryd.ntmps18, List.size_toArray, List.length_cons, List.length_nil, Nat.reduceAdd, Nat.reduceSub, Array.replicate_succ, Array.replicate_zero, List.push_toArray, List.append_toArray, List.nil_append, List.cons_append]
  refine (wpIn_wide (n := 0)).2 ?_
  go_wp2_with (go_at_call 12; refine HCK.out.mono ?_; rintro x W1 ⟨rfl, hb1⟩; have HO := Lib.hid (Only.of_below hb1); clear hb1; refine (fun (h : Hid _) => h.out) ?_)
  refine Lib.hid ?_
  clear HCK
  have HFN := Lib.hid (ledger_find.calls A0 c0 l0 a1 k W1 (Kd.C_below HR.out HO.out.nil_below) hc0 HF.out)
  go_wp2_with (go_at_call 33; refine HFN.out.mono ?_; rintro x W3 ⟨rfl, hb1⟩; replace HO := Lib.hid (HO.out.trans (Only.of_below hb1)); clear hb1; refine (fun (h : Hid _) => h.out) ?_)
  refine Lib.hid ?_
  clear HFN HF
  obtain ⟨ad, cs, rfl, _, hK, hcs⟩ := Kd.C_cells (Kd.C_below HR.out HO.out.nil_below) k hk
  rw [(List.getElem?_eq_some_iff.1 HX.out).2] at hK
  obtain ⟨A2, c2, rfl, hl2, hk2⟩ := k25_open hK
  have HC := Lib.hid (show CellsAt W3 (ad.add (k * 3)) _ from hcs)
  have HRM := Lib.hid (ledger_Level.calls 100000 x.f0 x.f1 (fun k_ => k_ < W3.heap.size) A2 c2 x.f2 r W3 (Kd.V_mk hl2 (Kd.C_F k37_heap hk2)) (HT.out.below HO.out.nil_below) HLV.out)
  clear hcs hK hl2 hk2 HLV
  go_wp2_with (first
    | (with_reducible refine wpList_load_at rfl 25 (.tmp 28) rfl (ad.add (k * 3)) rfl _ _ HC.out Tryd.underlying25 rfl (by kernel_rfl) ?_)
    | (go_at_call 16; refine HRM.out.mono ?_; rintro x W4 ⟨rfl, hb1⟩; replace HO := Lib.hid (HO.out.trans (Only.of_below hb1)); clear hb1; refine (fun (h : Hid _) => h.out) ?_))
  refine Lib.hid ?_
  clear HC HRM
  have HCP := Lib.hid (lcopied_calls (some ad) c0 l0 W4 (Kd.C_below HR.out HO.out.nil_below) hs1 (fun y hy => Nat.le_trans (HS2.out y hy) (by omega)))
  go_wp2_with (go_at_call 38; refine HCP.out.mono ?_; rintro x W5 ⟨v, rfl, us, hul, hS⟩; obtain ⟨g, c5, rfl, hc5⟩ := ownsRow_some (hS.row 0 rfl) (by omega); have HS := Lib.hid (hS.from HO.out); have HUL := Lib.hid hul; clear hS hul; refine (fun (h : Hid _) => h.out) ?_)
  refine Lib.hid ?_
  clear HCP HO
  replace HS := Lib.hid ((HS.out.alloc [.slice none 0 0] 23).empty 37 2)
  go_wp2_with (go_at_call 39; refine (taken_calls ⟨g, k * 3, none⟩ n _).mono ?_; rintro x W6 ⟨rfl, rfl⟩; refine (fun (h : Hid _) => h.out) ?_)
  refine Lib.hid ?_
  replace HS := Lib.hid ((HS.out.alloc [.pointer (some ⟨g, k * 3, none⟩)] 64).alloc [.int .i64 n] 3)
  simp only [World.size_alloc, List.append_assoc, List.cons_append, List.nil_append] at HS
  obtain ⟨u, hu⟩ : ∃ u, us[k]? = some u := ⟨us[k]'(by have := HUL.out; omega), List.getElem?_eq_getElem _⟩
  obtain ⟨hlo, hn9, hxl⟩ : lotsOk x.f2 = true ∧ n ≤ 1125899906842624 ∧ 0 < x.f2.length := by
    have := HDO.out
    unfold drawOk at this
    simpa [and_assoc] using this
  have hLk : ∀ N, (vRes (.slice (some ⟨g, 0, none⟩) l0.length c5) us l0 ++ N)[k + 1]? = some (.row u 37 2 x.f2.length (lotRow x.f2)) := fun N => get_app (by exact lotRes_get HX.out hu) N
  obtain ⟨gl, cl, rfl, hcl⟩ := ownsRow_some (HS.out.row (k + 1) (hLk _)) hxl
  rename_i K hK
  refine hK _ _ ?_
  clear hK K
  unfold wpList
  try simp only [Exit.then]
  rename_i K hK
  refine hK _ _ ?_
  clear hK K
  generalize W5.heap.size = lb at *
  generalize (((W5.alloc (.cells #[.slice none 0 0] 23)).alloc (.cells #[.pointer (some ⟨g, k * 3, none⟩)] 64)).alloc (.cells #[.int .i64 n] 3)) = W6 at *
  obtain ⟨L0, hL0⟩ : ∃ L0, L0 = vRes (.slice (some ⟨g, 0, none⟩) l0.length c5) us l0 ++ [.blk lb 23 [.slice none 0 0], .row (.slice none 0 0) 37 2 0 [], .blk (lb + 1) 64 [.pointer (some ⟨g, k * 3, none⟩)], .blk (lb + 1 + 1) 3 [.int .i64 n]] := ⟨_, rfl⟩
  have HL0 := Lib.hid hL0
  rw [← hL0] at HS
  clear hL0
  obtain ⟨D, hDD⟩ : ∃ D : TkP, D = ⟨0, k + 1, l0.length + 1 + 3, l0.length + 1 + 2, g, c5, l0.length, k, gl, cl, x.f2.length, lb + 1 + 1, lb + 1⟩ := ⟨_, rfl⟩
  have HDD := Lib.hid hDD
  have HP := Lib.hid (show DPl D (l0.length + 1) from by rw [hDD]; exact ⟨rfl, ⟨by show 1 ≤ k + 1; omega, by show k + 1 < _; omega⟩, rfl, rfl⟩)
  have HA := Lib.hid (show D.Apart from by rw [hDD]; constructor <;> (dsimp only; omega))
  clear hDD
  obtain ⟨dd, hdd⟩ : ∃ dd, dd = W6.heap.size := ⟨_, rfl⟩
  refine wp_block ?_
  refine wp_rangeFunc (gf := 56) (lb := #[.pointer (some ⟨lb + 1 + 1, 0, none⟩), .pointer (some ⟨lb + 1, 0, none⟩)]) rfl (enters_of Tryd.func56 (by kernel_rfl) rfl) encT nxtT goT (x.f2, n, []) ?_
    (fun R s W => ∃ Ls, DI D (l0.length + 1) lb dd L0 (vCells l0 us) (x.f2, n, []) R s s Ls ∧ St w Ls W)
    (fun R s W => ∃ Ls, DI D (l0.length + 1) lb dd L0 (vCells l0 us) (x.f2, n, []) R (nxtT s) s Ls ∧ St w Ls W)
    (fun a R s a' W => ∃ Ls bx, DI D (l0.length + 1) lb dd L0 (vCells l0 us) (x.f2, n, []) R (nxtT s) s Ls ∧ St w (Ls ++ [.blk bx 37 (lotCells (outL (s.1.headD ⟨⟨#[]⟩, 0⟩) s.2.1))]) W ∧ a' = { tmps := (a.tmps.setIfInBounds 39 (valT s)).setIfInBounds 12 (.pointer (some ⟨bx, 0, none⟩)), defers := [] })
    ?_ ?_ ?_ ?_ ?_ ?_ ?_ ?_ ?_ ?_
  · intro s; rfl
  · rintro R s W ⟨Ls, h, hs⟩
    rw [← hdd]
    exact ⟨(hs.each _ _ h.dfr).2, (hs.each _ _ h.lop).2⟩
  · rintro R s W ⟨Ls, h, hs⟩
    rw [← hdd]
    exact (hs.each _ _ h.lop).2
  · rintro R s a' W ⟨Ls, bx, h, hs, _⟩
    rw [← hdd]
    exact (hs.each _ _ (get_app h.lop _)).2
  · rintro R R' s W ⟨Ls, h, hs⟩
    rw [← hdd]
    exact ⟨_, h.turn HP.out R', hs.turnObj _ h.lop R'⟩
  · rintro R R' s a' W ⟨Ls, bx, h, hs, e⟩
    rw [← hdd]
    refine ⟨_, bx, h.turn HP.out R', ?_, e⟩
    have := hs.turnObj _ (get_app h.lop _) R'
    rwa [List.set_append_left _ _ (List.getElem?_eq_some_iff.1 h.lop).1] at this
  · intro R W ho h1 h2
    rw [← hdd] at h1 h2
    refine ⟨L0 ++ [.obj dd (.deferred (some [])), .obj (dd + 1) R], ?_, HS.out.join (by rw [hdd]; rw [hdd] at h1 h2; exact St.two ho h1 h2)⟩
    exact di_start hk HX.out hu HUL.out hlo hn1 hn9 HL0.out HDD.out
  · intro R hy W h
    obtain ⟨Ls, h, hs⟩ := h
    have hT := taken_clo D HA.out w (fun s Ls => DI D (l0.length + 1) lb dd L0 (vCells l0 us) (x.f2, n, []) R s s Ls) (fun s Ls => DI D (l0.length + 1) lb dd L0 (vCells l0 us) (x.f2, n, []) R (nxtT s) s Ls)
      (fun s Ls h => ⟨h.tk, h.ok1, h.ok2⟩) (fun s Ls L' h hg ht hk => h.step HP.out hg ht hk) (dd + 1) (x.f2, n, []) (fun s Ls W1 hg h hs => by have := hy s W1 hg ⟨Ls, h, hs⟩; rw [← hdd] at this; exact this) Ls W h hs
    rw [show D.nb = lb + 1 + 1 from by rw [HDD.out], show D.vb = lb + 1 from by rw [HDD.out]] at hT
    rw [← hdd, List.append_toArray, List.cons_append, List.nil_append]
    refine callsIn_wide.2 (hT.mono ?_)
    rintro e W' ⟨h1, s, Ls, h2, h3, h4⟩
    exact ⟨h1, s, h2, Ls, h3, h4⟩
  · rintro R ⟨cur, m, o⟩ W hg ⟨Ls, h, hs⟩
    obtain ⟨y, t, rfl⟩ : ∃ y t, cur = y :: t := by
      cases cur with
      | nil => exact absurd rfl hg.2
      | cons y t => exact ⟨y, t, rfl⟩
    have H := Lib.hid h
    have HS1 := Lib.hid hs
    clear h hs hg
    simp only [encT, valT, List.zip_toArray, List.zip_cons_cons, List.zip_nil_left, List.foldl_toArray', List.foldl_cons, List.foldl_nil, List.setIfInBounds_toArray, List.set_cons_succ, List.set_cons_zero]
    gi_wp2_with (refine wpListIn_of (by rintro ⟨_, _, h⟩; exact h) _ _ _ (by simp) ?_)
    go_wp2
    exact ⟨Ls, W.heap.size, H.out, HS1.out.alloc _ _, rfl⟩
  · rintro R ⟨cur, m, o⟩ a₁ W hg ⟨Ls, bx, h, hs, rfl⟩
    obtain ⟨y, t, rfl⟩ : ∃ y t, cur = y :: t := by
      cases cur with
      | nil => exact absurd rfl hg.2
      | cons y t => exact ⟨y, t, rfl⟩
    have hol : o.length ≤ 900000 := by
      have h1 := congrArg List.length h.snd
      have h2 := takeM_len x.f2 n
      have h3 := HS2.out x (List.mem_of_getElem? HX.out)
      have h4 : (nxtT (y :: t, m, o)).2.2.length = o.length + 1 := by show (o ++ [outL y m]).length = _; simp
      rw [List.length_append, h4] at h1
      have h5 : (takeM (x.f2, n, ([] : List S37)).1 (x.f2, n, ([] : List S37)).2.1).2 = (takeM x.f2 n).2 := rfl
      rw [h5] at h1
      omega
    obtain ⟨v0, v1, v2⟩ := h.var
    obtain ⟨q, hq⟩ : ∃ q, mn m y.f1 = q := ⟨_, rfl⟩
    have hnx : (nxtT (y :: t, m, o)).2.2 = o ++ [⟨y.f0, q⟩] := by rw [← hq]; rfl
    have hve : valT (y :: t, m, o) = .agg #[.string y.f0, .int .i64 q] := by rw [← hq]; rfl
    replace hs : St w (Ls ++ [.blk bx 37 [.string y.f0, .int .i64 q]]) W := by rw [← hq]; exact hs
    rw [hve]
    have HS1 := Lib.hid hs
    have H := Lib.hid h
    have HNX := Lib.hid hnx
    have HV1 := Lib.hid (fun N => get_app v1 N)
    have HV2 := Lib.hid (show ∀ N, (Ls ++ N)[l0.length + 1 + 1]? = some (.row v0 37 2 o.length (lotRow o)) from fun N => get_app v2 N)
    have HBX := Lib.hid (hs.cells Ls.length (get_end Ls _ []))
    have c1 : W.cell? ⟨lb, 0, none⟩ = some v0 := hs.cell (l0.length + 1) 0 (HV1.out _) rfl
    clear h hs hg v1 v2 hq hnx hve
    simp only [List.setIfInBounds_toArray, List.set_cons_succ, List.set_cons_zero]
    gi_wp2_with (refine wpListIn_of (by rintro ⟨_, _, h⟩; exact h) _ _ _ (by simp) ?_)
    go_wp2_with (first
      | (with_reducible refine wpList_load_at rfl 37 (.tmp 12) rfl ⟨bx, 0, none⟩ rfl _ _ HBX.out Tryd.underlying37 rfl (by kernel_rfl) ?_)
      | (with_reducible refine wpList_one rfl 23 (.tmp 41) rfl 37 Tryd.underlying23 (.agg #[.string ⟨#[]⟩, .int .i64 0]) 2 24 infoLt (by omega) (by omega) (.agg #[.string y.f0, .int .i64 q]) rfl #[.string y.f0, .int .i64 q] (fill_one2 (.agg #[.string ⟨#[]⟩, .int .i64 0]) _ _ rfl rfl) ?_; refine (fun (h : Hid _) => h.out) ?_))
    refine Lib.hid ?_
    clear c1
    have HS2 := Lib.hid (HS1.out.alloc [.string y.f0, .int .i64 q] 37)
    have HW1 := Lib.hid (show w.heap.size ≤ W.heap.size from HS1.out.le)
    simp only [List.append_assoc, List.cons_append, List.nil_append] at HS2
    have HNB := Lib.hid (HS2.out.cells (Ls.length + 1) (by rw [List.getElem?_append_right (by omega), Nat.add_sub_cancel_left]; rfl))
    clear HS1 HBX
    generalize W.heap.size = nb at *
    generalize W.alloc _ = Wa at *
    go_wp2_with (first
      | (at_builtin; refine wpList_appendR rfl _ _ 23 rfl HS2.out (l0.length + 1 + 1) (HV2.out _) 24 (.agg #[.string ⟨#[]⟩, .int .i64 0]) Tryd.underlying23 infoLt rfl (by omega) rfl (some ⟨nb, 0, none⟩) 1 1 [.string y.f0, .int .i64 q] rfl rfl (fun _ => ⟨_, rfl, HNB.out⟩) (by simp [Value.oneCell']) (by unfold maxLen; omega) (by omega) ?_; intro A7 c7 W7 h2; have HS3 := h2; clear h2; refine (fun (h : Hid _) => h.out) ?_))
    refine Lib.hid ?_
    have HV3 := Lib.hid (show ((Ls ++ ([.blk bx 37 [.string y.f0, .int .i64 q], .blk nb 37 [.string y.f0, .int .i64 q]] : List Res)).set (l0.length + 1 + 1) (Res.row (.slice A7 (o.length + 1) c7) 37 2 (o.length + 1) (lotRow o ++ [.string y.f0, .int .i64 q])))[l0.length + 1]? = some (Res.blk lb 23 [v0]) from by rw [List.getElem?_set_ne (by omega)]; exact HV1.out _)
    go_wp2_with (first
      | (with_reducible refine wpList_storeB rfl 23 (.tmp 11) (.tmp 43) rfl HS3.out (l0.length + 1) HV3.out 0 (.slice A7 (o.length + 1) c7) rfl rfl [.slice A7 (o.length + 1) c7] rfl (by kernel_rfl) (by simp) (by simp [Value.oneCell']) ?_; intro W8 HS4; refine (fun (h : Hid _) => h.out) ?_))
    refine Lib.hid ?_
    go_wp2
    have hl1 := (List.getElem?_eq_some_iff.1 H.out.var.choose_spec.2).1
    refine ⟨_, H.out.more HP.out (.slice A7 (o.length + 1) c7), ?_⟩
    have h3 := HS4.out
    rw [List.set_append_left _ _ hl1, List.set_append_left _ _ (by rw [List.length_set]; omega)] at h3
    rw [HNX.out, lotRow_append, List.length_append]
    exact h3.front
  · rintro R ⟨cur, m, o⟩ W hg ⟨Ls, h, hs⟩
    obtain ⟨v0, v1, v2⟩ := h.var
    have e1 : takeM cur m = (cur, []) := takeM_stop hg
    have hf : (takeM cur m).1 = (takeM x.f2 n).1 := h.fst
    have hs2 : o ++ (takeM cur m).2 = (takeM x.f2 n).2 := h.snd
    rw [e1] at hf hs2
    have HF1 := Lib.hid (show (takeM x.f2 n).1 = cur from hf.symm)
    have HF2 := Lib.hid (show (takeM x.f2 n).2 = o from by rw [← hs2, List.append_nil])
    have c1 : W.cell? ⟨lb, 0, none⟩ = some v0 := hs.cell (l0.length + 1) 0 v1 rfl
    have H := Lib.hid h
    have HS1 := Lib.hid hs
    have HV2 := Lib.hid v2
    clear h hs v1 v2 hf hs2 e1 hg
    simp only [Exit.inBlock, Exit.then]
    rename_i K hK
    refine hK _ _ ?_
    clear hK K
    go_wp2
    go_region
    simp only [Exit.then]
    rename_i K hK
    refine hK _ _ ?_
    clear hK K
    go_wp2
    have hd := (HS1.out.each _ _ H.out.dfr).2
    rw [hdd] at hd
    refine ⟨by simp, .inl ⟨_, _, rfl, run_takeDeferred (w := W.drew) hd, ?_⟩⟩
    refine ⟨_, results_tmp3 rfl _ _ _, ?_⟩
    have hS7 : St w (Ls.set (l0.length + 1 + 4) (.obj dd (.deferred none))) (W.drew.putObj W6.heap.size (.deferred none)) := by
      rw [← hdd]
      exact (HS1.out.keep (only_drew W)).turnObj _ H.out.dfr _
    obtain ⟨hV, hR⟩ := draw_out hc5 hs1 (HS2.out x (List.mem_of_getElem? HX.out)) HS2.out hk HX.out hu HUL.out hcl HL0.out HDD.out H.out (fun j hj => List.getElem?_set_ne (Ne.symm hj)) hS7 HV2.out
    rw [HF1.out, HF2.out]
    exact ⟨_, _, rfl, hV, hR, hS7.only.nil_below⟩
set_option maxHeartbeats 16000000 in
set_option maxRecDepth 100000 in
theorem ledger_Draw.calls (A0 : Option Addr) (c0 : Nat) (l0 : List S25) (a1 : ByteArray) (a2 : Int) (r1 : List S25) (r2 : List S37) (r3 : Int) (w : World) (hr0 : Kd.C k25 w A0 l0.length l0) (hc0 : l0.length ≤ c0) (hT : Tabs w) (h : ledger_Draw.f l0 a1 a2 = some (r1, r2, r3)) :
    Calls Tryd.prog 18 #[.slice A0 l0.length c0, .string a1, .int .i64 a2] w fun e w' => ∃ v0_ v1_ : Value, e = .returned (.tuple #[v0_, v1_, .int .i64 r3]) ∧ Kd.V k25 25 w' w.heap.size (fun k_ => (w.heap.size ≤ k_) ∧ some k_ ≠ (v1_ : Value).ownBlock) v0_ r1 ∧ Kd.R k37 37 w' w.heap.size (fun _ => True) v1_ r2 ∧ Below w.heap.size w w' := by
  unfold ledger_Draw.f at h
  split at h
  case isFalse => cases h
  rename_i hsm
  obtain ⟨hs1, hs2⟩ := smallV_of hsm
  obtain ⟨e, he, h⟩ := Option.bind_eq_some_iff.1 h
  have HR := Lib.hid hr0
  have HT := Lib.hid hT
  have HS2 := Lib.hid hs2
  have H := Lib.hid h
  have HCK := Lib.hid (ledger_Check.calls 100000 A0 c0 l0 e w hr0 hc0 hT he)
  have HE := Lib.hid he
  clear hsm hs2 h he hr0 hT
  by_cases he0 : e = 0
  rotate_left
  · have h := H.out
    rw [if_neg he0] at h
    obtain ⟨rfl, h2⟩ := Prod.mk.inj (Option.some.inj h)
    obtain ⟨rfl, rfl⟩ := Prod.mk.inj h2
    clear H h h2
    refine (callsIn_wide (n := 0)).1 (callsIn_of_wp_marks Tryd.func18 rfl trivial ?_)
    simp only [Tryd.ntmps18, List.size_toArray, List.length_cons, List.length_nil, Nat.reduceAdd, Nat.reduceSub, Array.replicate_succ, Array.replicate_zero, List.push_toArray, List.append_toArray, List.nil_append, List.cons_append]
    refine (wpIn_wide (n := 0)).2 ?_
    go_wp2_with (go_at_call 12; refine HCK.out.mono ?_; rintro x W1 ⟨rfl, hb1⟩; have HO := Lib.hid (Only.of_below hb1); clear hb1; refine (fun (h : Hid _) => h.out) ?_)
    refine Lib.hid ?_
    clear HCK
    go_wp2
    refine ⟨_, results_tmp3 rfl _ _ _, ?_⟩
    exact ⟨_, _, rfl, Kd.V_nil _ _ _ _ _, Kd.R_nil _ _ _ _ _, HO.out.nil_below⟩
  subst he0
  replace H := Lib.hid (show _ from (if_pos rfl).symm.trans H.out)
  obtain ⟨i, hi, h⟩ := Option.bind_eq_some_iff.1 H.out
  have hilt := find_lt hi
  have HF := Lib.hid hi
  replace H := Lib.hid h
  clear h hi
  by_cases hi0 : i < 0
  · have h := H.out
    rw [if_pos hi0] at h
    obtain ⟨rfl, h2⟩ := Prod.mk.inj (Option.some.inj h)
    obtain ⟨rfl, rfl⟩ := Prod.mk.inj h2
    clear H h h2
    refine (callsIn_wide (n := 0)).1 (callsIn_of_wp_marks Tryd.func18 rfl trivial ?_)
    simp only [Tryd.ntmps18, List.size_toArray, List.length_cons, List.length_nil, Nat.reduceAdd, Nat.reduceSub, Array.replicate_succ, Array.replicate_zero, List.push_toArray, List.append_toArray, List.nil_append, List.cons_append]
    refine (wpIn_wide (n := 0)).2 ?_
    go_wp2_with (go_at_call 12; refine HCK.out.mono ?_; rintro x W1 ⟨rfl, hb1⟩; have HO := Lib.hid (Only.of_below hb1); clear hb1; refine (fun (h : Hid _) => h.out) ?_)
    refine Lib.hid ?_
    clear HCK
    have HFN := Lib.hid (ledger_find.calls A0 c0 l0 a1 i W1 (Kd.C_below HR.out HO.out.nil_below) hc0 HF.out)
    go_wp2_with (go_at_call 33; refine HFN.out.mono ?_; rintro x W3 ⟨rfl, hb1⟩; replace HO := Lib.hid (HO.out.trans (Only.of_below hb1)); clear hb1; refine (fun (h : Hid _) => h.out) ?_)
    refine Lib.hid ?_
    clear HFN HF
    go_wp2
    refine ⟨_, results_tmp3 rfl _ _ _, ?_⟩
    exact ⟨_, _, rfl, Kd.V_nil _ _ _ _ _, Kd.R_nil _ _ _ _ _, HO.out.nil_below⟩
  replace H := Lib.hid (show _ from (if_neg hi0).symm.trans H.out)
  by_cases hn1 : a2 < 1
  · have h := H.out
    rw [if_pos hn1] at h
    obtain ⟨rfl, h2⟩ := Prod.mk.inj (Option.some.inj h)
    obtain ⟨rfl, rfl⟩ := Prod.mk.inj h2
    clear H h h2
    refine (callsIn_wide (n := 0)).1 (callsIn_of_wp_marks Tryd.func18 rfl trivial ?_)
    simp only [Tryd.ntmps18, List.size_toArray, List.length_cons, List.length_nil, Nat.reduceAdd, Nat.reduceSub, Array.replicate_succ, Array.replicate_zero, List.push_toArray, List.append_toArray, List.nil_append, List.cons_append]
    refine (wpIn_wide (n := 0)).2 ?_
    go_wp2_with (go_at_call 12; refine HCK.out.mono ?_; rintro x W1 ⟨rfl, hb1⟩; have HO := Lib.hid (Only.of_below hb1); clear hb1; refine (fun (h : Hid _) => h.out) ?_)
    refine Lib.hid ?_
    clear HCK
    have HFN := Lib.hid (ledger_find.calls A0 c0 l0 a1 i W1 (Kd.C_below HR.out HO.out.nil_below) hc0 HF.out)
    go_wp2_with (go_at_call 33; refine HFN.out.mono ?_; rintro x W3 ⟨rfl, hb1⟩; replace HO := Lib.hid (HO.out.trans (Only.of_below hb1)); clear hb1; refine (fun (h : Hid _) => h.out) ?_)
    refine Lib.hid ?_
    clear HFN HF
    go_wp2
    refine ⟨_, results_tmp3 rfl _ _ _, ?_⟩
    exact ⟨_, _, rfl, Kd.V_nil _ _ _ _ _, Kd.R_nil _ _ _ _ _, HO.out.nil_below⟩
  replace H := Lib.hid (show _ from (if_neg hn1).symm.trans H.out)
  obtain ⟨k, rfl⟩ := Int.eq_ofNat_of_zero_le (show 0 ≤ i by omega)
  have hk : k < l0.length := by omega
  have hkk : (k : Int) < l0.length := by omega
  have hk0 : (0 : Int) ≤ k := by omega
  have erd : rd_T25 l0 k = l0[k] := getD_at l0 _ k hk
  have HX := Lib.hid (List.getElem?_eq_getElem hk)
  rw [erd] at H
  clear erd
  obtain ⟨r, hr, h⟩ := Option.bind_eq_some_iff.1 H.out
  have HLV := Lib.hid hr
  replace H := Lib.hid h
  clear h hr
  by_cases hrn : r < a2
  · have h := H.out
    rw [if_pos hrn] at h
    obtain ⟨rfl, h2⟩ := Prod.mk.inj (Option.some.inj h)
    obtain ⟨rfl, rfl⟩ := Prod.mk.inj h2
    clear H h h2 HX
    refine (callsIn_wide (n := 0)).1 (callsIn_of_wp_marks Tryd.func18 rfl trivial ?_)
    simp only [Tryd.ntmps18, List.size_toArray, List.length_cons, List.length_nil, Nat.reduceAdd, Nat.reduceSub, Array.replicate_succ, Array.replicate_zero, List.push_toArray, List.append_toArray, List.nil_append, List.cons_append]
    refine (wpIn_wide (n := 0)).2 ?_
    go_wp2_with (go_at_call 12; refine HCK.out.mono ?_; rintro x W1 ⟨rfl, hb1⟩; have HO := Lib.hid (Only.of_below hb1); clear hb1; refine (fun (h : Hid _) => h.out) ?_)
    refine Lib.hid ?_
    clear HCK
    have HFN := Lib.hid (ledger_find.calls A0 c0 l0 a1 k W1 (Kd.C_below HR.out HO.out.nil_below) hc0 HF.out)
    go_wp2_with (go_at_call 33; refine HFN.out.mono ?_; rintro x W3 ⟨rfl, hb1⟩; replace HO := Lib.hid (HO.out.trans (Only.of_below hb1)); clear hb1; refine (fun (h : Hid _) => h.out) ?_)
    refine Lib.hid ?_
    clear HFN HF
    obtain ⟨ad, cs, rfl, _, hK, hcs⟩ := Kd.C_cells (Kd.C_below HR.out HO.out.nil_below) k hk
    obtain ⟨A2, c2, rfl, hl2, hk2⟩ := k25_open hK
    have HC := Lib.hid (show CellsAt W3 (ad.add (k * 3)) _ from hcs)
    have HRM := Lib.hid (ledger_Level.calls 100000 l0[k].f0 l0[k].f1 (fun k_ => k_ < W3.heap.size) A2 c2 l0[k].f2 r W3 (Kd.V_mk hl2 (Kd.C_F k37_heap hk2)) (HT.out.below HO.out.nil_below) HLV.out)
    clear hcs hK hl2 hk2 HLV
    generalize hx : l0[k] = x at *
    clear hx
    go_wp2_with (first
      | (with_reducible refine wpList_load_at rfl 25 (.tmp 28) rfl (ad.add (k * 3)) rfl _ _ HC.out Tryd.underlying25 rfl (by kernel_rfl) ?_)
      | (go_at_call 16; refine HRM.out.mono ?_; rintro x W4 ⟨rfl, hb1⟩; replace HO := Lib.hid (HO.out.trans (Only.of_below hb1)); clear hb1; refine (fun (h : Hid _) => h.out) ?_))
    refine Lib.hid ?_
    clear HC HRM
    go_wp2
    refine ⟨_, results_tmp3 rfl _ _ _, ?_⟩
    exact ⟨_, _, rfl, Kd.V_nil _ _ _ _ _, Kd.R_nil _ _ _ _ _, HO.out.nil_below⟩
  have h := (if_neg hrn).symm.trans H.out
  split at h
  case isFalse => cases h
  rename_i hdo
  obtain ⟨rfl, h2⟩ := Prod.mk.inj (Option.some.inj h)
  obtain ⟨rfl, rfl⟩ := Prod.mk.inj h2
  have := draw_ok A0 c0 l0 a1 a2 k r w HR.out hc0 HT.out hs1 HS2.out HE.out HF.out l0[k] HX.out (by omega) HLV.out (by omega) hdo
  exact this
end Go.Proofs.YtejecmjajdhiiaaDoor.Print
/-! ### LgMov -/
namespace Go.Proofs.YtejecmjajdhiiaaDoor.Print
open Go.RowKit Go.Proofs.YtejecmjajdhiiaaDoorW.PrintWords Go.Proofs.YtejecmjajdhiiaaDoorW.PrintLast Go.Proofs.YtejecmjajdhiiaaDoorW.PrintMore
set_option linter.unusedSimpArgs false
set_option linter.unusedVariables false
theorem firstFrom_spec {α : Type} (p : α → Bool) : ∀ (l : List α) (i : Nat) (k : Nat), firstFrom p i l = ((i + k : Nat) : Int) → ∃ x, l[k]? = some x ∧ p x = true
  | [], i, k, h => by unfold firstFrom at h; omega
  | x :: l, i, k, h => by
    unfold firstFrom at h
    split at h
    · rename_i hp
      have : k = 0 := by omega
      subst this
      exact ⟨x, rfl, hp⟩
    · cases k with
      | zero =>
        have h2 : ∀ (l : List α) (i : Nat), firstFrom p i l < 0 ∨ (i : Int) ≤ firstFrom p i l := by
          intro l
          induction l with
          | nil => intro i; left; simp [firstFrom]
          | cons y t ih =>
            intro i
            unfold firstFrom
            split
            · right; omega
            · rcases ih (i + 1) with h | h
              · left; exact h
              · right; omega
        have := h2 l (i + 1)
        omega
      | succ k =>
        obtain ⟨y, h1, h2⟩ := firstFrom_spec p l (i + 1) k (by rw [h]; congr 1; omega)
        exact ⟨y, h1, h2⟩
theorem find_is {l : List S25} {a : ByteArray} {k : Nat} (h : ledger_find.f l a = some (k : Int)) : ∃ x, l[k]? = some x ∧ x.f0.toList = a.toList := by
  unfold ledger_find.f at h
  split at h
  · have h2 := Option.some.inj h
    obtain ⟨x, h1, h3⟩ := firstFrom_spec (vesselIs a) l 0 k (by rw [h2]; simp)
    exact ⟨x, h1, by unfold vesselIs at h3; simpa using h3⟩
  · cases h
theorem find_ne {l : List S25} {a b : ByteArray} {i k : Nat} (h : ledger_find.f l a = some (i : Int)) (h' : ledger_find.f l b = some (k : Int)) (hab : a ≠ b) : k ≠ i := by
  intro e
  subst e
  obtain ⟨x, h1, h2⟩ := find_is h
  obtain ⟨y, h3, h4⟩ := find_is h'
  have : x = y := Option.some.inj (h1.symm.trans h3)
  subst this
  have e2 : a.toList = b.toList := h2.symm.trans h4
  have h5 := bytes_beq a b
  rw [e2, beq_self_eq_true] at h5
  exact hab (of_decide_eq_true h5.symm)
def poursM (l : List S37) (o : List S37) : List S37 := o.foldl pourM l
theorem poursM_more (l o : List S37) (x : S37) : poursM l (o ++ [x]) = pourM (poursM l o) x := by unfold poursM; rw [List.foldl_append]; rfl
def poursOk : List S37 → List S37 → Bool
  | _, [] => true
  | l, x :: t => pourOk l x && poursOk (pourM l x) t
theorem poursOk_at : ∀ (o : List S37) (l : List S37) (x : S37) (t : List S37), poursOk l (o ++ x :: t) = true → pourOk (poursM l o) x = true
  | [], l, x, t, h => by
    have h' : (pourOk l x && poursOk (pourM l x) t) = true := h
    simp only [Bool.and_eq_true] at h'
    exact h'.1
  | y :: o, l, x, t, h => by
    have h' : (pourOk l y && poursOk (pourM l y) (o ++ x :: t)) = true := h
    simp only [Bool.and_eq_true] at h'
    exact poursOk_at o (pourM l y) x t h'.2
theorem pourM_len (l : List S37) (x : S37) : (pourM l x).length ≤ l.length + 1 := by
  unfold pourM
  split
  · split
    · rw [List.length_set]; omega
    · simp
  · simp
theorem poursM_len : ∀ (o l : List S37), (poursM l o).length ≤ l.length + o.length
  | [], l => by show l.length ≤ _; omega
  | x :: o, l => by
    have h1 := poursM_len o (pourM l x)
    have h2 := pourM_len l x
    show (poursM (pourM l x) o).length ≤ _
    simp only [List.length_cons]
    omega
/-- Where Move stands. -/
structure MI (D : TkP) (N k2 kb ob dd : Nat) (outv : Value) (L0 : List Res) (cells0 : List Value) (t0 : TkS) (ys0 : List S37) (R : Obj) (st s : TkS) (Ls : List Res) : Prop where
  tk : Tk D st Ls
  ok1 : ∀ x ∈ st.1, 1 ≤ x.f1 ∧ x.f1 ≤ 1125899906842624
  ok2 : 0 ≤ st.2.1 ∧ st.2.1 ≤ 1125899906842624
  idx : Ls[N]? = some (.blk kb 3 [.int .i64 k2])
  hd : Ls[N + 1]? = some (.blk ob 22 [outv])
  dst : ∃ u, Ls[k2 + 1]? = some (.row u 37 2 (poursM ys0 s.2.2).length (lotRow (poursM ys0 s.2.2))) ∧ ∀ cells, Ls[D.ia]? = some (D.outR cells) → cells[k2 * 3 + 2]? = some u
  dfr : Ls[N + 4]? = some (.obj dd (.deferred (some [])))
  lop : Ls[N + 5]? = some (.obj (dd + 1) R)
  rest : ∀ j, 1 ≤ j → j < N → j ≠ D.ib → j ≠ k2 + 1 → Ls[j]? = L0[j]?
  cel : ∀ cells, Ls[D.ia]? = some (D.outR cells) → ∀ q, q ≠ D.i0 * 3 + 2 → q ≠ k2 * 3 + 2 → cells[q]? = cells0[q]?
  fst : (takeM st.1 st.2.1).1 = (takeM t0.1 t0.2.1).1
  snd : st.2.2 ++ (takeM st.1 st.2.1).2 = (takeM t0.1 t0.2.1).2
structure MPl (D : TkP) (N k2 : Nat) : Prop where
  (ia : D.ia = 0) (ib : D.ib = D.i0 + 1) (ibN : D.ib < N) (ip : D.ip = N + 3) (iq : D.iq = N + 2) (kN : k2 + 1 < N) (ne : k2 ≠ D.i0)
theorem outR_inj {D : TkP} {a b : List Value} (h : D.outR a = D.outR b) : a = b := by
  unfold TkP.outR at h
  injection h
theorem MI.step {D : TkP} {N k2 kb ob dd : Nat} {outv : Value} {L0 : List Res} {cells0 : List Value} {t0 : TkS} {ys0 : List S37} {R : Obj} {s : TkS} {L L' : List Res} (hp : MPl D N k2) (h : MI D N k2 kb ob dd outv L0 cells0 t0 ys0 R s s L) (hg : goT s) (ht : Turned D L L') (hk : Tk D (nxtT s) L') : MI D N k2 kb ob dd outv L0 cells0 t0 ys0 R (nxtT s) s L' := by
  obtain ⟨p1, p2, p2N, p3, p4, p5, p6⟩ := hp
  obtain ⟨o1, o2⟩ := nxt_ok hg h.ok1 h.ok2
  obtain ⟨t1, t2⟩ := takeM_next hg
  obtain ⟨u, u1, u2⟩ := h.dst
  have hnew : ∀ cells, L'[D.ia]? = some (D.outR cells) → ∃ cells1 v, L[D.ia]? = some (D.outR cells1) ∧ cells = cells1.set (D.i0 * 3 + 2) v := by
    intro cells hc
    obtain ⟨n, r, cells1, v, hc1, rfl⟩ := ht
    have hlt := (List.getElem?_eq_some_iff.1 hc1).1
    rw [List.getElem?_set_self (by rw [List.length_set, List.length_set]; exact hlt)] at hc
    exact ⟨cells1, v, hc1, (outR_inj (Option.some.inj hc)).symm⟩
  refine ⟨hk, o1, o2, (ht.other (by omega) (by omega) (by omega)).trans h.idx, (ht.other (by omega) (by omega) (by omega)).trans h.hd, ⟨u, (ht.other (by omega) (by omega) (by omega)).trans u1, fun cells hc => ?_⟩, (ht.other (by omega) (by omega) (by omega)).trans h.dfr, (ht.other (by omega) (by omega) (by omega)).trans h.lop,
    fun j h1 h2 h3 h4 => (ht.other (by omega) h3 (by omega)).trans (h.rest j h1 h2 h3 h4), fun cells hc q hq hq2 => ?_, t1.trans h.fst, t2.trans h.snd⟩
  · obtain ⟨cells1, v, hc1, rfl⟩ := hnew cells hc
    rw [List.getElem?_set_ne (by omega)]
    exact u2 cells1 hc1
  · obtain ⟨cells1, v, hc1, rfl⟩ := hnew cells hc
    rw [List.getElem?_set_ne (Ne.symm hq)]
    exact h.cel cells1 hc1 q hq hq2
theorem MI.turn {D : TkP} {N k2 kb ob dd : Nat} {outv : Value} {L0 : List Res} {cells0 : List Value} {t0 : TkS} {ys0 : List S37} {R : Obj} {st s : TkS} {L : List Res} (hp : MPl D N k2) (h : MI D N k2 kb ob dd outv L0 cells0 t0 ys0 R st s L) (R' : Obj) : MI D N k2 kb ob dd outv L0 cells0 t0 ys0 R' st s (L.set (N + 5) (.obj (dd + 1) R')) := by
  obtain ⟨p1, p2, p2N, p3, p4, p5, p6⟩ := hp
  obtain ⟨u, u1, u2⟩ := h.dst
  have e : ∀ j, j ≠ N + 5 → (L.set (N + 5) (.obj (dd + 1) R'))[j]? = L[j]? := fun j hj => List.getElem?_set_ne (Ne.symm hj)
  exact ⟨h.tk.move (e _ (by omega)) (e _ (by omega)) (e _ (by omega)) (e _ (by omega)), h.ok1, h.ok2, (e _ (by omega)).trans h.idx, (e _ (by omega)).trans h.hd, ⟨u, (e _ (by omega)).trans u1, fun cells hc => u2 cells ((e _ (by omega)).symm.trans hc)⟩, (e _ (by omega)).trans h.dfr, List.getElem?_set_self (List.getElem?_eq_some_iff.1 h.lop).1,
    fun j h1 h2 h3 h4 => (e _ (by omega)).trans (h.rest j h1 h2 h3 h4), fun cells hc => h.cel cells ((e _ (by omega)).symm.trans hc), h.fst, h.snd⟩
/-- The body has run: one lot has been poured. -/
theorem MI.more {D : TkP} {N k2 kb ob dd : Nat} {outv : Value} {L0 : List Res} {cells0 : List Value} {t0 : TkS} {ys0 : List S37} {R : Obj} {s : TkS} {L : List Res} (hp : MPl D N k2) (h : MI D N k2 kb ob dd outv L0 cells0 t0 ys0 R (nxtT s) s L) (u' : Value) {cells : List Value} (hc : L[D.ia]? = some (D.outR cells)) (hcl : k2 * 3 + 2 < cells.length) {ys : List S37} (hys : poursM ys0 (nxtT s).2.2 = ys) :
    MI D N k2 kb ob dd outv L0 cells0 t0 ys0 R (nxtT s) (nxtT s) ((L.set (k2 + 1) (.row u' 37 2 ys.length (lotRow ys))).set D.ia (D.outR (cells.set (k2 * 3 + 2) u'))) := by
  obtain ⟨p1, p2, p2N, p3, p4, p5, p6⟩ := hp
  obtain ⟨u, u1, u2⟩ := h.dst
  have hl1 := (List.getElem?_eq_some_iff.1 u1).1
  have hl0 := (List.getElem?_eq_some_iff.1 hc).1
  have e : ∀ j, j ≠ D.ia → j ≠ k2 + 1 → ((L.set (k2 + 1) (.row u' 37 2 ys.length (lotRow ys))).set D.ia (D.outR (cells.set (k2 * 3 + 2) u')))[j]? = L[j]? := fun j hj hj2 => by rw [List.getElem?_set_ne (Ne.symm hj), List.getElem?_set_ne (Ne.symm hj2)]
  have e0 : ((L.set (k2 + 1) (.row u' 37 2 ys.length (lotRow ys))).set D.ia (D.outR (cells.set (k2 * 3 + 2) u')))[D.ia]? = some (D.outR (cells.set (k2 * 3 + 2) u')) := List.getElem?_set_self (by rw [List.length_set]; exact hl0)
  have hnew : ∀ cells2, ((L.set (k2 + 1) (.row u' 37 2 ys.length (lotRow ys))).set D.ia (D.outR (cells.set (k2 * 3 + 2) u')))[D.ia]? = some (D.outR cells2) → cells2 = cells.set (k2 * 3 + 2) u' := fun cells2 h2 => (outR_inj (Option.some.inj (e0.symm.trans h2))).symm
  obtain ⟨pre, cells1, A, hF⟩ := h.tk
  obtain rfl : cells1 = cells := outR_inj (Option.some.inj (hF.out.symm.trans hc))
  refine ⟨⟨pre, cells1.set (k2 * 3 + 2) u', A, hF.len, e0, ?_, hF.adr, (e _ (by omega) (by omega)).trans hF.lot, (e _ (by omega) (by omega)).trans hF.num, (e _ (by omega) (by omega)).trans hF.ptr⟩, h.ok1, h.ok2, (e _ (by omega) (by omega)).trans h.idx, (e _ (by omega) (by omega)).trans h.hd, ⟨u', ?_, fun cells2 h2 => ?_⟩, (e _ (by omega) (by omega)).trans h.dfr, (e _ (by omega) (by omega)).trans h.lop,
    fun j h1 h2 h3 h4 => (e _ (by omega) h4).trans (h.rest j h1 h2 h3 h4), fun cells2 h2 q hq hq2 => ?_, h.fst, h.snd⟩
  · rw [List.getElem?_set_ne (by omega)]
    exact hF.hdr
  · rw [hys, List.getElem?_set_ne (by omega)]
    exact List.getElem?_set_self hl1
  · rw [hnew cells2 h2]
    exact List.getElem?_set_self hcl
  · rw [hnew cells2 h2, List.getElem?_set_ne (Ne.symm hq2)]
    exact h.cel cells1 hc q hq hq2
end Go.Proofs.YtejecmjajdhiiaaDoor.Print
/-! ### LIn -/
namespace Go.Proofs.YtejecmjajdhiiaaDoor
open Go.RowKit
section
variable {P : Program} {ops : Array Oper} {Q : Exit → Act → World → Prop} {md : Region.Mode}
theorem wpAnyIn_of {l n : Nat} (hQ : ¬ LetsOut Q) (hnd : ∀ o ∈ ops.toList, ∀ c, o.op ≠ .defer c) : ∀ (fuel : Nat) (listed : Array Bool) (a : Act) (w : World), wpAny P md ops Q fuel listed a w → wpAnyIn (Fence.wide.inRound l) n P md ops Q fuel listed a w
  | 0, _, _, _, h => h
  | fuel + 1, listed, a, w, h => by
    refine ⟨h.1, fun i hi => ?_⟩
    have h2 := h.2 i hi
    unfold wpOp at h2
    unfold wpOpIn
    split at h2
    · rename_i ho
      rw [ho]
      exact wpAnyIn_of hQ hnd fuel _ _ _ h2
    · rename_i o ho
      rw [ho]
      have hno : ∀ c, o.op ≠ .defer c := hnd o (by
        have h1 := Array.mem_of_getElem? ho
        simpa using h1)
      dsimp only
      split at h2
      · rename_i hw
        rw [if_pos hw]
        rcases h2 with h2 | ⟨_, h2⟩
        · refine ⟨fun _ _ => trivial, ?_⟩
          show o.uponIn (Fence.wide.inRound l) n P a _ Q (Sem.run P (Oper.semAt (some l) a.eval o) w)
          rw [Oper.semAt_some l _ _ hno]
          exact upon_in (fun a' w' h' => wpAnyIn_of hQ hnd fuel _ a' w' h') h2
        · exact absurd h2 hQ
      · rename_i hw
        rw [if_neg hw]
        exact ⟨fun _ _ => trivial, wpAnyIn_of hQ hnd fuel _ _ _ h2⟩
end
namespace L
section
variable {P : Program} {ops : Array Oper} {Q : Exit → Act → World → Prop}
/-- The beginning, within a round. -/
theorem grow_start_in {l k : Nat} (hQl : ¬ LetsOut Q) (hnd : ∀ o ∈ ops.toList, ∀ c, o.op ≠ .defer c) (S : List Nat) (z : Nat) (T : List (Nat × Bool × Bool)) {id : Nat} {a : Act} {w : World} (hm : P.follows .mixedOrders = true)
    (tab : List Row) (htab : tabOf .any ops = tab) (hs : Region.noSelect ops = true) {n : Nat} (hn : ops.size = n) (hT : (lastT (plains ops) tab n z && rowsT tab n z T (List.replicate n false) && T.length == n) = true)
    (hQ : ∀ c (a : Act) t v w, Q (.panic c) (a.put (some t) v) w → Q (.panic c) a w)
    (h : ∀ w1, Only [] w w1 → GrowL P ops Q S z T a w1) : (Code.region id ops true).wpIn (Fence.wide.inRound l) k P Q a w := by
  subst htab
  subst hn
  simp only [Bool.and_eq_true, beq_iff_eq] at hT
  obtain ⟨⟨h2, h1⟩, h3⟩ := hT
  have ho : Only [] w { w with drawn := w.drawn + 1 } := ⟨rfl, rfl, rfl, Nat.le_refl _, fun _ _ _ => rfl⟩
  refine wpIn_region_any hm (wpAnyIn_of hQl hnd _ _ _ _ (wpAny_of_grow (S := S) (z := z) _ _ _ _ ?_))
  have := grow_of_rows (S := S) (z := z) (lastT_spec h2) hs (fun c a d v w h => by cases d with | none => exact h | some t => exact hQ c a t v w h) T _ h1 (fun j oj _ hl => by exfalso; rw [Array.getD_eq_getD_getElem?, List.getElem?_toArray, List.getElem?_replicate] at hl; split at hl <;> simp at hl) a _ (h _ ho)
  rw [h3, List.toArray_replicate] at this
  exact this
/-- A call that writes, come to when all else is done. -/
theorem ge_lastcall {S : List Nat} {z : Nat} {f : Bool} {oi : Oper} {d : Nat} {T : List (Nat × Bool × Bool)} {a : Act} {w : World} {N : Nat} {env : List (Nat × Value)} {g : FuncId} {xs : Array Operand} {tys : Array TypeId} {vs : Array Value} (hi : ops[z]? = some oi) (hdst : oi.dst = some d) (hd : decide (d < N) = true) (hw : wantE ops env oi = some true)
    (hx : oi.op = .call { callee := .value (.func g), args := xs, argTypes := tys }) (hvs : xs.map (evE a env) = vs) (hcf : (callFunc g vs).run P w = .ok (.enter g vs) w)
    (h : Calls P g vs w fun e w' => ∃ v, e = .returned v ∧ GrowE P ops Q S z T a N ((d, v) :: env) w') : GrowE P ops Q S z ((z, f, true) :: T) a N env w := by
  intro hN he
  subst hN
  refine growl_alone hi (wantE_spec a he hw) ?_
  unfold Oper.wp execOp
  rw [puts_eval a env he, hx]
  have hr : (do let d ← resolve (evE a env) { callee := .value (.func g), args := xs, argTypes := tys } oi.type; invoke d.target d.args).run P w = .ok (.enter g vs) w := by
    simp only [resolve, Sem.run_bind, hvs]
    have e1 : (evE a env (.func g)) = .func (.func g) #[] #[] := rfl
    rw [e1]
    simp only [Deferred.ofValue]
    simp [invoke, hcf]
  rw [hr]
  simp only [Oper.upon]
  refine Calls.mono h fun e w' ⟨v, he', hg⟩ => ?_
  subst he'
  refine ⟨by simp, ?_⟩
  rw [hdst]
  exact hg rfl (more_lt (of_decide_eq_true hd) he)
end
end L
end Go.Proofs.YtejecmjajdhiiaaDoor
/-! ### EMove -/
namespace Go.Proofs.YtejecmjajdhiiaaDoor.Print
open Go.RowKit Go.Proofs.YtejecmjajdhiiaaDoorW.PrintWords Go.Proofs.YtejecmjajdhiiaaDoorW.PrintLast Go.Proofs.YtejecmjajdhiiaaDoorW.PrintMore
set_option linter.unusedSimpArgs false
set_option linter.unusedVariables false
theorem mi_start {l0 : List S25} {us : List Value} {i k2 g c5 gl cl kb ob dd : Nat} {x y : S25} {n : Int} {R : Obj} {L0 : List Res} {D : TkP} {outv : Value} (hk : i < l0.length) (hk2 : k2 < l0.length) (hx : l0[i]? = some x) (hy : l0[k2]? = some y) (hu : us[i]? = some (.slice (some ⟨gl, 0, none⟩) x.f2.length cl)) (hul : us.length = l0.length) (hlo : lotsOk x.f2 = true) (hn1 : 1 ≤ n) (hn9 : n ≤ 1125899906842624)
    (hL : L0 = vRes (.slice (some ⟨g, 0, none⟩) l0.length c5) us l0 ++ [.blk kb 3 [.int .i64 k2], .blk ob 22 [outv], .blk (ob + 1) 64 [.pointer (some ⟨g, i * 3, none⟩)], .blk (ob + 1 + 1) 3 [.int .i64 n]])
    (hD : D = ⟨0, i + 1, l0.length + 1 + 3, l0.length + 1 + 2, g, c5, l0.length, i, gl, cl, x.f2.length, ob + 1 + 1, ob + 1⟩) :
    MI D (l0.length + 1) k2 kb ob dd outv L0 (vCells l0 us) (x.f2, n, []) y.f2 R (x.f2, n, []) (x.f2, n, []) (L0 ++ [.obj dd (.deferred (some [])), .obj (dd + 1) R]) := by
  have hvl : (vRes (.slice (some ⟨g, 0, none⟩) l0.length c5) us l0).length = l0.length + 1 := by
    show (lotRes us l0).length + 1 = _
    unfold lotRes
    rw [List.length_zipWith, hul, Nat.min_self]
  have e0 : ∀ N, (vRes (.slice (some ⟨g, 0, none⟩) l0.length c5) us l0 ++ N)[0]? = some (.row (.slice (some ⟨g, 0, none⟩) l0.length c5) 25 3 l0.length (vCells l0 us)) := fun N => rfl
  have ek : ∀ N, (vRes (.slice (some ⟨g, 0, none⟩) l0.length c5) us l0 ++ N)[i + 1]? = some (.row (.slice (some ⟨gl, 0, none⟩) x.f2.length cl) 37 2 x.f2.length (lotRow x.f2)) := fun N => get_app (by exact lotRes_get hx hu) N
  have hu2 : us[k2]? = some us[k2] := List.getElem?_eq_getElem (by omega)
  have ek2 : ∀ N, (vRes (.slice (some ⟨g, 0, none⟩) l0.length c5) us l0 ++ N)[k2 + 1]? = some (.row us[k2] 37 2 y.f2.length (lotRow y.f2)) := fun N => get_app (by exact lotRes_get hy hu2) N
  have ej : ∀ (N : List Res) (j : Nat), (vRes (.slice (some ⟨g, 0, none⟩) l0.length c5) us l0 ++ N)[l0.length + 1 + j]? = N[j]? := fun N j => by rw [List.getElem?_append_right (by omega), hvl, Nat.add_sub_cancel_left]
  have hcin : ∀ (N : List Res) cells, (vRes (.slice (some ⟨g, 0, none⟩) l0.length c5) us l0 ++ N)[0]? = some (D.outR cells) → cells = vCells l0 us := by
    intro N cells hc
    subst hD
    exact (outR_inj (D := ⟨0, i + 1, l0.length + 1 + 3, l0.length + 1 + 2, g, c5, l0.length, i, gl, cl, x.f2.length, ob + 1 + 1, ob + 1⟩) (Option.some.inj ((e0 N).symm.trans hc))).symm
  subst hL hD
  rw [List.append_assoc]
  refine ⟨⟨[], vCells l0 us, some ⟨gl, 0, none⟩, ?_, e0 _, ?_, fun _ => ?_, ek _, ej _ 3, ej _ 2⟩, lotsOk_of hlo, ⟨by show 0 ≤ n; omega, hn9⟩, ej _ 0, ej _ 1, ⟨us[k2], ek2 _, fun cells hc => ?_⟩, ej _ 4, ej _ 5, fun j h1 h2 h3 h4 => ?_, fun cells hc q hq hq2 => ?_, rfl, rfl⟩
  · show 0 + x.f2.length = x.f2.length
    omega
  · exact (vCells_get hx hu).2.2
  · show some (⟨gl, 0, none⟩ : Addr) = some ⟨gl, 0 * 2, none⟩
    rw [Nat.zero_mul]
  · rw [hcin _ cells hc]
    exact (vCells_get hy hu2).2.2
  · rw [List.getElem?_append_left (by rw [hvl]; exact h2), List.getElem?_append_left (by rw [hvl]; exact h2)]
  · rw [hcin _ cells hc]
theorem move_out {l0 : List S25} {us : List Value} {i k2 g c5 gl cl kb ob dd : Nat} {x y : S25} {n m : Int} {cur o : List S37} {R : Obj} {L0 Ls L2 : List Res} {D : TkP} {outv : Value} {w W : World} (hc5 : l0.length ≤ c5) (hs1 : l0.length ≤ 1000000) (hlx : ∀ z ∈ l0, z.f2.length ≤ 900000) (hk : i < l0.length) (hk2 : k2 < l0.length) (hne : k2 ≠ i) (hx : l0[i]? = some x) (hy : l0[k2]? = some y) (hu : us[i]? = some (.slice (some ⟨gl, 0, none⟩) x.f2.length cl)) (hul : us.length = l0.length) (hcl : x.f2.length ≤ cl) (hol : o.length ≤ 900000)
    (hL : L0 = vRes (.slice (some ⟨g, 0, none⟩) l0.length c5) us l0 ++ [.blk kb 3 [.int .i64 k2], .blk ob 22 [outv], .blk (ob + 1) 64 [.pointer (some ⟨g, i * 3, none⟩)], .blk (ob + 1 + 1) 3 [.int .i64 n]])
    (hD : D = ⟨0, i + 1, l0.length + 1 + 3, l0.length + 1 + 2, g, c5, l0.length, i, gl, cl, x.f2.length, ob + 1 + 1, ob + 1⟩)
    (h : MI D (l0.length + 1) k2 kb ob dd outv L0 (vCells l0 us) (x.f2, n, []) y.f2 R (cur, m, o) (cur, m, o) Ls) (he : ∀ j, j ≠ l0.length + 1 + 4 → L2[j]? = Ls[j]?) (hs : St w L2 W) :
    Kd.V k25 25 W w.heap.size (fun k_ => w.heap.size ≤ k_) (.slice (some ⟨g, 0, none⟩) l0.length c5) ((l0.set i (turned x cur)).set k2 (turned y (poursM y.f2 o))) := by
  obtain ⟨pre, cells, A, hF⟩ := h.tk
  have hvl : (vRes (.slice (some ⟨g, 0, none⟩) l0.length c5) us l0).length = l0.length + 1 := by
    show (lotRes us l0).length + 1 = _
    unfold lotRes
    rw [List.length_zipWith, hul, Nat.min_self]
  have hx2 := hlx x (List.mem_of_getElem? hx)
  have hy2 := hlx y (List.mem_of_getElem? hy)
  have hpl := poursM_len o y.f2
  have hout := hF.out
  have hcel := h.cel
  have hrest := h.rest
  have hlot := hF.lot
  have hhdr := hF.hdr
  have hadr := hF.adr
  have hlen := hF.len
  obtain ⟨u2, hv1, hv2⟩ := h.dst
  subst hD
  dsimp only at hout hcel hrest hlot hhdr hadr hlen hv1 hv2
  replace hv2 := hv2 cells hout
  obtain ⟨h0, hh0⟩ : ∃ h0, h0 = Value.slice A cur.length (cl - pre.length) := ⟨_, rfl⟩
  rw [← hh0] at hhdr
  have huk : us[k2]? = some us[k2] := List.getElem?_eq_getElem (by omega)
  have huk2 : (us.set i h0)[k2]? = some us[k2] := by rw [List.getElem?_set_ne (Ne.symm hne)]; exact huk
  have hcells : cells = vCells l0 ((us.set i h0).set k2 u2) := by
    rw [← vCells_set hy huk2, ← vCells_set hx hu]
    have hcl0 : (vCells l0 us).length = l0.length * 3 := vCells_length _ _ hul
    refine List.ext_getElem? (fun q => ?_)
    by_cases hq2 : q = k2 * 3 + 2
    · subst hq2
      rw [hv2, List.getElem?_set_self]
      rw [List.length_set, hcl0]
      omega
    · rw [List.getElem?_set_ne (Ne.symm hq2)]
      by_cases hq : q = i * 3 + 2
      · subst hq
        rw [hhdr, List.getElem?_set_self]
        rw [hcl0]
        omega
      · rw [List.getElem?_set_ne (Ne.symm hq)]
        exact hcel cells hout q hq hq2
  have hy' : (l0.set i (turned x cur))[k2]? = some y := by rw [List.getElem?_set_ne (Ne.symm hne)]; exact hy
  have hlg : ((l0.set i (turned x cur)).set k2 (turned y (poursM y.f2 o))).length = l0.length := by rw [List.length_set, List.length_set]
  rw [← hlg]
  refine Kd.V_mk (by rw [hlg]; exact hc5) (fun W' hW => ?_)
  have hmv : ∀ (j : Nat) (r : Res), L2[j]? = some r → r.holds W' w.heap.size := fun j r hj =>
    Res.holds.move (hs.each j r hj) (fun k' hk' => hW k' (hs.lt hj hk').1 (hs.lt hj hk').2)
  refine C_ves (hs := (us.set i h0).set k2 u2) (by rw [List.length_set, List.length_set, hlg, hul]) (by rw [hlg]; omega) (fun _ => ?_) (fun j xx u hj hu2 => ?_)
  · rw [vCells_turned (poursM y.f2 o) hy', vCells_turned cur hx, ← hcells]
    exact ownsRow_at (hmv 0 _ ((he _ (by omega)).trans hout)) (by show 0 < l0.length; omega)
  · by_cases hjk2 : j = k2
    · subst hjk2
      rw [List.getElem?_set_self (by rw [List.length_set]; exact hk2)] at hj
      rw [List.getElem?_set_self (by rw [List.length_set]; omega)] at hu2
      obtain rfl := Option.some.inj hj
      obtain rfl := Option.some.inj hu2
      exact S_lots (l := poursM y.f2 o) (hmv (j + 1) _ ((he _ (by omega)).trans hv1)) (by omega)
    rw [List.getElem?_set_ne (Ne.symm hjk2)] at hj hu2
    by_cases hjk : j = i
    · subst hjk
      rw [List.getElem?_set_self hk] at hj
      rw [List.getElem?_set_self (by omega)] at hu2
      obtain rfl := Option.some.inj hj
      obtain rfl := Option.some.inj hu2
      refine ⟨A, cl - pre.length, hh0, by show cur.length ≤ _; omega, C_lots (by show cur.length ≤ _; omega) (fun hp => ?_)⟩
      have hne2 : cur ≠ [] := List.length_pos_iff.1 hp
      have ha := hadr hne2
      have hp2 : 0 < cur.length := hp
      refine ⟨_, ha, ?_⟩
      obtain ⟨ad, e1, h1⟩ := ownsRow_at (hmv (j + 1) _ ((he _ (by omega)).trans hlot)) (by show 0 < x.f2.length; omega)
      obtain rfl := Option.some.inj e1
      intro i u hi
      have hi2 : (lotRow cur)[i]? = some u := hi
      have h2 := h1 (pre.length * 2 + i) u (by rw [lotRow_append, List.getElem?_append_right (by rw [lotRow_length]; omega), lotRow_length, Nat.add_sub_cancel_left]; exact hi2)
      rw [addr_shift] at h2
      exact h2
    · rw [List.getElem?_set_ne (Ne.symm hjk)] at hj hu2
      have hjl : j < l0.length := (List.getElem?_eq_some_iff.1 hj).1
      have h1 : L2[j + 1]? = some (.row u 37 2 xx.f2.length (lotRow xx.f2)) := by
        rw [he _ (by omega), hrest (j + 1) (by omega) (by omega) (by omega) (by omega), hL]
        exact get_app (by exact lotRes_get hj hu2) _
      exact S_lots (hmv (j + 1) _ h1) (by have := hlx xx (List.mem_of_getElem? hj); omega)
def moveOk (x y : S25) (n : Int) : Bool := drawOk x.f2 n && poursOk y.f2 (takeM x.f2 n).2 && decide (x.f2.length + y.f2.length ≤ 900000)
def movedM (l : List S25) (i k : Nat) (x y : S25) (n : Int) : List S25 := (l.set i (turned x (takeM x.f2 n).1)).set k (turned y (poursM y.f2 (takeM x.f2 n).2))
def ledger_Move.f (l : List S25) (a b : ByteArray) (n : Int) : Option (List S25 × Int) :=
  if smallV l = true then
    (ledger_Check.f 100000 l).bind fun e => if e = 0 then
      if a = b then some ([], 1) else
      (ledger_find.f l a).bind fun i => (ledger_find.f l b).bind fun k => if i < 0 then some ([], 4) else if k < 0 then some ([], 4) else if n < 1 then some ([], 130) else
        (ledger_Level.f 100000 (rd_T25 l i).f0 (rd_T25 l i).f1 (rd_T25 l i).f2).bind fun r => if r < n then some ([], 130) else
          (ledger_room.f 100000 (rd_T25 l k).f0 (rd_T25 l k).f1 (rd_T25 l k).f2).bind fun q => if q < n then some ([], 130) else
            if moveOk (rd_T25 l i) (rd_T25 l k) n = true then some (outV (movedM l i.toNat k.toNat (rd_T25 l i) (rd_T25 l k) n)) else none
    else some ([], 1)
  else none
theorem St.swap {w0 w : World} {A B : List Res} (h : St w0 (A ++ B) w) : St w0 (B ++ A) w := by
  refine h.pickN (A.length + B.length) (by simp [Nat.add_comm]) (fun i => if i < B.length then A.length + i else i - B.length) (fun i hi j hj e => ?_) (fun i r hi => ?_)
  · try dsimp only at e
    split at e <;> split at e <;> omega
  · try dsimp only
    split
    · rename_i hlt
      rw [List.getElem?_append_left hlt] at hi
      rw [List.getElem?_append_right (by omega), Nat.add_sub_cancel_left]
      exact hi
    · rename_i hlt
      rw [List.getElem?_append_right (by omega)] at hi
      have := (List.getElem?_eq_some_iff.1 hi).1
      rw [List.getElem?_append_left (by omega)]
      exact hi
set_option maxHeartbeats 16000000 in
set_option maxRecDepth 100000 in
theorem move_ok (A0 : Option Addr) (c0 : Nat) (l0 : List S25) (a1 a2 : ByteArray) (n : Int) (i k : Nat) (r q : Int) (w : World) (hr0 : Kd.C k25 w A0 l0.length l0) (hc0 : l0.length ≤ c0) (hT : Tabs w) (hs1 : l0.length ≤ 1000000) (hs2 : ∀ x ∈ l0, x.f2.length ≤ 900000)
    (he : ledger_Check.f 100000 l0 = some 0) (hab : a1 ≠ a2) (hf : ledger_find.f l0 a1 = some (i : Int)) (hf2 : ledger_find.f l0 a2 = some (k : Int)) (x y : S25) (hx : l0[i]? = some x) (hy : l0[k]? = some y) (hn1 : 1 ≤ n) (hlv : ledger_Level.f 100000 x.f0 x.f1 x.f2 = some r) (hrn : n ≤ r) (hrm : ledger_room.f 100000 y.f0 y.f1 y.f2 = some q) (hqn : n ≤ q) (hmo : moveOk x y n = true) (out : List S25) (hout : out = movedM l0 i k x y n) :
    Calls Tryd.prog 26 #[.slice A0 l0.length c0, .string a1, .string a2, .int .i64 n] w fun e w' => ∃ v0_ : Value, e = .returned (.tuple #[v0_, .int .i64 (outV out).2]) ∧ Kd.V k25 25 w' w.heap.size (fun k_ => (w.heap.size ≤ k_)) v0_ (outV out).1 ∧ Below w.heap.size w w' := by
  have hi : i < l0.length := (List.getElem?_eq_some_iff.1 hx).1
  have hk : k < l0.length := (List.getElem?_eq_some_iff.1 hy).1
  have hii : (i : Int) < l0.length := by omega
  have hkk : (k : Int) < l0.length := by omega
  have hi0 : (0 : Int) ≤ i := by omega
  have hk0 : (0 : Int) ≤ k := by omega
  have HNE := Lib.hid (find_ne hf hf2 hab)
  have HX := Lib.hid hx
  have HY := Lib.hid hy
  have HR := Lib.hid hr0
  have HT := Lib.hid hT
  have HS2 := Lib.hid hs2
  have HF := Lib.hid hf
  have HF2 := Lib.hid hf2
  have HLV := Lib.hid hlv
  have HRM := Lib.hid hrm
  have HMO := Lib.hid hmo
  have HOUT := Lib.hid hout
  have hrn' : ¬ r < n := by omega
  have hqn' : ¬ q < n := by omega
  have hn1' : ¬ n < 1 := by omega
  have hab' : (a1.toList == a2.toList) = false := by rw [bytes_beq]; exact decide_eq_false hab
  have HCK := Lib.hid (ledger_Check.calls 100000 A0 c0 l0 0 w hr0 hc0 hT he)
  clear hx hy hr0 hT hs2 hf hf2 hlv hrm hmo he hrn hqn hab hout
  refine (callsIn_wide (n := 0)).1 (callsIn_of_wp_marks Tryd.func26 rfl trivial ?_)
  simp only [Tryd.ntmps26, List.size_toArray, List.length_cons, List.length_nil, Nat.reduceAdd, Nat.reduceSub, Array.replicate_succ, Array.replicate_zero, List.push_toArray, List.append_toArray, List.nil_append, List.cons_append]
  refine (wpIn_wide (n := 0)).2 ?_
  go_wp2_with (go_at_call 12; refine HCK.out.mono ?_; rintro x W1 ⟨rfl, hb1⟩; have HO := Lib.hid (Only.of_below hb1); clear hb1; refine (fun (h : Hid _) => h.out) ?_)
  refine Lib.hid ?_
  clear HCK
  have HFN := Lib.hid (ledger_find.calls A0 c0 l0 a1 i W1 (Kd.C_below HR.out HO.out.nil_below) hc0 HF.out)
  go_wp2_with (go_at_call 33; refine HFN.out.mono ?_; rintro x W3 ⟨rfl, hb1⟩; replace HO := Lib.hid (HO.out.trans (Only.of_below hb1)); clear hb1; refine (fun (h : Hid _) => h.out) ?_)
  refine Lib.hid ?_
  clear HFN HF
  replace HFN := Lib.hid (ledger_find.calls A0 c0 l0 a2 k W3 (Kd.C_below HR.out HO.out.nil_below) hc0 HF2.out)
  go_wp2_with (go_at_call 33; refine HFN.out.mono ?_; rintro x W4 ⟨rfl, hb1⟩; replace HO := Lib.hid (HO.out.trans (Only.of_below hb1)); clear hb1; refine (fun (h : Hid _) => h.out) ?_)
  refine Lib.hid ?_
  clear HFN HF2
  have HS := Lib.hid ((St.of_only HO.out).alloc [.int .i64 k] 3)
  simp only [List.nil_append] at HS
  have HRD := Lib.hid (Kd.C_below HR.out HS.out.only.nil_below)
  obtain ⟨ad, cs, rfl, _, hK, hcs⟩ := Kd.C_cells HRD.out i hi
  rw [(List.getElem?_eq_some_iff.1 HX.out).2] at hK
  obtain ⟨A2, c2, rfl, hl2, hk2⟩ := k25_open hK
  have HC := Lib.hid (show CellsAt (W4.alloc (.cells #[.int .i64 (k : Int)] 3)) (ad.add (i * 3)) _ from hcs)
  have HRL := Lib.hid (ledger_Level.calls 100000 x.f0 x.f1 (fun k_ => k_ < (W4.alloc (.cells #[.int .i64 (k : Int)] 3)).heap.size) A2 c2 x.f2 r (W4.alloc (.cells #[.int .i64 (k : Int)] 3)) (Kd.V_mk hl2 (Kd.C_F k37_heap hk2)) (HT.out.below HS.out.only.nil_below) HLV.out)
  clear hcs hK hl2 hk2 HLV HO HRD
  go_wp2_with (first
    | (with_reducible refine wpList_load_at rfl 25 (.tmp 39) rfl (ad.add (i * 3)) rfl _ _ HC.out Tryd.underlying25 rfl (by kernel_rfl) ?_)
    | (go_at_call 16; refine HRL.out.mono ?_; rintro x W5 ⟨rfl, hb1⟩; replace HS := Lib.hid (HS.out.keep (Only.of_below hb1)); clear hb1; refine (fun (h : Hid _) => h.out) ?_))
  refine Lib.hid ?_
  clear HC HRL
  generalize W4.heap.size = kb at *
  obtain ⟨cs, _, hK, hcs⟩ : ∃ cs, cs.length = k25.sz ∧ k25.K W5 l0[k] cs ∧ CellsAt W5 (ad.add (k * k25.sz)) cs := by
    obtain ⟨ad2, cs, e, h1, h2, h3⟩ := Kd.C_cells (Kd.C_below HR.out HS.out.only.nil_below) k hk
    obtain rfl := Option.some.inj e
    exact ⟨cs, h1, h2, h3⟩
  rw [(List.getElem?_eq_some_iff.1 HY.out).2] at hK
  obtain ⟨A3, c3, rfl, hl3, hk3⟩ := k25_open hK
  have HC := Lib.hid (show CellsAt W5 (ad.add (k * 3)) _ from hcs)
  have HRL := Lib.hid (ledger_room.calls 100000 y.f0 y.f1 A3 c3 y.f2 q W5 hk3 hl3 (HT.out.below HS.out.only.nil_below) HRM.out)
  have c1 : W5.cell? ⟨kb, 0, none⟩ = some (.int .i64 k) := HS.out.cell 0 0 rfl rfl
  clear hcs hK hl3 hk3 HRM
  go_wp2_with (first
    | (with_reducible refine wpList_load_at rfl 25 (.tmp 46) rfl (ad.add (k * 3)) rfl _ _ HC.out Tryd.underlying25 rfl (by kernel_rfl) ?_)
    | (go_at_call 40; refine HRL.out.mono ?_; rintro x W6 ⟨rfl, hb1⟩; replace HS := Lib.hid (HS.out.keep (Only.of_below hb1)); clear hb1; refine (fun (h : Hid _) => h.out) ?_))
  refine Lib.hid ?_
  clear HC HRL c1
  have HCP := Lib.hid (lcopied_calls (some ad) c0 l0 W6 (Kd.C_below HR.out HS.out.only.nil_below) hs1 (fun y hy => Nat.le_trans (HS2.out y hy) (by omega)))
  go_wp2_with (go_at_call 38; refine HCP.out.mono ?_; rintro x W7 ⟨v, rfl, us, hul, hS⟩; obtain ⟨g, c5, rfl, hc5⟩ := ownsRow_some (hS.row 0 rfl) (by omega); have HS7 := Lib.hid hS; have HUL := Lib.hid hul; clear hS hul; refine (fun (h : Hid _) => h.out) ?_)
  refine Lib.hid ?_
  clear HCP
  replace HS := Lib.hid (St.swap (HS.out.join HS7.out))
  clear HS7
  replace HS := Lib.hid (HS.out.alloc [.slice (some ⟨g, 0, none⟩) l0.length c5] 22)
  go_wp2_with (go_at_call 39; refine (taken_calls ⟨g, i * 3, none⟩ n _).mono ?_; rintro x W8 ⟨rfl, rfl⟩; refine (fun (h : Hid _) => h.out) ?_)
  refine Lib.hid ?_
  replace HS := Lib.hid ((HS.out.alloc [.pointer (some ⟨g, i * 3, none⟩)] 64).alloc [.int .i64 n] 3)
  simp only [World.size_alloc, List.append_assoc, List.cons_append, List.nil_append] at HS
  obtain ⟨u, hu⟩ : ∃ u, us[i]? = some u := ⟨us[i]'(by have := HUL.out; omega), List.getElem?_eq_getElem _⟩
  obtain ⟨hdo, hpk, hxy⟩ : drawOk x.f2 n = true ∧ poursOk y.f2 (takeM x.f2 n).2 = true ∧ x.f2.length + y.f2.length ≤ 900000 := by
    have := HMO.out
    unfold moveOk at this
    simpa [and_assoc] using this
  have HPK := Lib.hid hpk
  obtain ⟨hlo, hn9, hxl⟩ : lotsOk x.f2 = true ∧ n ≤ 1125899906842624 ∧ 0 < x.f2.length := by
    unfold drawOk at hdo
    simpa [and_assoc] using hdo
  clear hpk hdo
  have hLk : ∀ N, (vRes (.slice (some ⟨g, 0, none⟩) l0.length c5) us l0 ++ N)[i + 1]? = some (.row u 37 2 x.f2.length (lotRow x.f2)) := fun N => get_app (by exact lotRes_get HX.out hu) N
  obtain ⟨gl, cl, rfl, hcl⟩ := ownsRow_some (HS.out.row (i + 1) (hLk _)) hxl
  rename_i K hK
  refine hK _ _ ?_
  clear hK K
  unfold wpList
  try simp only [Exit.then]
  rename_i K hK
  refine hK _ _ ?_
  clear hK K
  generalize W7.heap.size = ob at *
  generalize (((W7.alloc (.cells #[.slice (some ⟨g, 0, none⟩) l0.length c5] 22)).alloc (.cells #[.pointer (some ⟨g, i * 3, none⟩)] 64)).alloc (.cells #[.int .i64 n] 3)) = W9 at *
  obtain ⟨L0, hL0⟩ : ∃ L0, L0 = vRes (.slice (some ⟨g, 0, none⟩) l0.length c5) us l0 ++ [.blk kb 3 [.int .i64 k], .blk ob 22 [.slice (some ⟨g, 0, none⟩) l0.length c5], .blk (ob + 1) 64 [.pointer (some ⟨g, i * 3, none⟩)], .blk (ob + 1 + 1) 3 [.int .i64 n]] := ⟨_, rfl⟩
  have HL0 := Lib.hid hL0
  rw [← hL0] at HS
  clear hL0
  obtain ⟨D, hDD⟩ : ∃ D : TkP, D = ⟨0, i + 1, l0.length + 1 + 3, l0.length + 1 + 2, g, c5, l0.length, i, gl, cl, x.f2.length, ob + 1 + 1, ob + 1⟩ := ⟨_, rfl⟩
  have HDD := Lib.hid hDD
  have HP := Lib.hid (show MPl D (l0.length + 1) k from by rw [hDD]; have := HNE.out; constructor <;> first | rfl | (dsimp only; omega) | omega)
  have HA := Lib.hid (show D.Apart from by rw [hDD]; constructor <;> (dsimp only; omega))
  clear hDD
  obtain ⟨dd, hdd⟩ : ∃ dd, dd = W9.heap.size := ⟨_, rfl⟩
  refine wp_block ?_
  refine wp_rangeFunc (gf := 56) (lb := #[.pointer (some ⟨ob + 1 + 1, 0, none⟩), .pointer (some ⟨ob + 1, 0, none⟩)]) rfl (enters_of Tryd.func56 (by kernel_rfl) rfl) encT nxtT goT (x.f2, n, []) ?_
    (fun R s W => ∃ Ls, MI D (l0.length + 1) k kb ob dd (.slice (some ⟨g, 0, none⟩) l0.length c5) L0 (vCells l0 us) (x.f2, n, []) y.f2 R s s Ls ∧ St w Ls W)
    (fun R s W => ∃ Ls, MI D (l0.length + 1) k kb ob dd (.slice (some ⟨g, 0, none⟩) l0.length c5) L0 (vCells l0 us) (x.f2, n, []) y.f2 R (nxtT s) s Ls ∧ St w Ls W)
    (fun a R s a' W => ∃ Ls bx, MI D (l0.length + 1) k kb ob dd (.slice (some ⟨g, 0, none⟩) l0.length c5) L0 (vCells l0 us) (x.f2, n, []) y.f2 R (nxtT s) s Ls ∧ St w (Ls ++ [.blk bx 37 (lotCells (outL (s.1.headD ⟨⟨#[]⟩, 0⟩) s.2.1))]) W ∧ a' = { tmps := (a.tmps.setIfInBounds 57 (valT s)).setIfInBounds 13 (.pointer (some ⟨bx, 0, none⟩)), defers := [] })
    ?_ ?_ ?_ ?_ ?_ ?_ ?_ ?_ ?_ ?_
  · intro s; rfl
  · rintro R s W ⟨Ls, h, hs⟩
    rw [← hdd]
    exact ⟨(hs.each _ _ h.dfr).2, (hs.each _ _ h.lop).2⟩
  · rintro R s W ⟨Ls, h, hs⟩
    rw [← hdd]
    exact (hs.each _ _ h.lop).2
  · rintro R s a' W ⟨Ls, bx, h, hs, _⟩
    rw [← hdd]
    exact (hs.each _ _ (get_app h.lop _)).2
  · rintro R R' s W ⟨Ls, h, hs⟩
    rw [← hdd]
    exact ⟨_, h.turn HP.out R', hs.turnObj _ h.lop R'⟩
  · rintro R R' s a' W ⟨Ls, bx, h, hs, e⟩
    rw [← hdd]
    refine ⟨_, bx, h.turn HP.out R', ?_, e⟩
    have := hs.turnObj _ (get_app h.lop _) R'
    rwa [List.set_append_left _ _ (List.getElem?_eq_some_iff.1 h.lop).1] at this
  · intro R W ho h1 h2
    rw [← hdd] at h1 h2
    refine ⟨L0 ++ [.obj dd (.deferred (some [])), .obj (dd + 1) R], ?_, HS.out.join (by rw [hdd]; rw [hdd] at h1 h2; exact St.two ho h1 h2)⟩
    exact mi_start hi hk HX.out HY.out hu HUL.out hlo hn1 hn9 HL0.out HDD.out
  · intro R hy W h
    obtain ⟨Ls, h, hs⟩ := h
    have hT := taken_clo D HA.out w (fun s Ls => MI D (l0.length + 1) k kb ob dd (.slice (some ⟨g, 0, none⟩) l0.length c5) L0 (vCells l0 us) (x.f2, n, []) y.f2 R s s Ls) (fun s Ls => MI D (l0.length + 1) k kb ob dd (.slice (some ⟨g, 0, none⟩) l0.length c5) L0 (vCells l0 us) (x.f2, n, []) y.f2 R (nxtT s) s Ls)
      (fun s Ls h => ⟨h.tk, h.ok1, h.ok2⟩) (fun s Ls L' h hg ht hk => h.step HP.out hg ht hk) (dd + 1) (x.f2, n, []) (fun s Ls W1 hg h hs => by have := hy s W1 hg ⟨Ls, h, hs⟩; rw [← hdd] at this; exact this) Ls W h hs
    rw [show D.nb = ob + 1 + 1 from by rw [HDD.out], show D.vb = ob + 1 from by rw [HDD.out]] at hT
    rw [← hdd, List.append_toArray, List.cons_append, List.nil_append]
    refine callsIn_wide.2 (hT.mono ?_)
    rintro e W' ⟨h1, s, Ls, h2, h3, h4⟩
    exact ⟨h1, s, h2, Ls, h3, h4⟩
  · rintro R ⟨cur, m, o⟩ W hg ⟨Ls, h, hs⟩
    obtain ⟨z, t, rfl⟩ : ∃ z t, cur = z :: t := by
      cases cur with
      | nil => exact absurd rfl hg.2
      | cons z t => exact ⟨z, t, rfl⟩
    have H := Lib.hid h
    have HS1 := Lib.hid hs
    clear h hs hg
    simp only [encT, valT, List.zip_toArray, List.zip_cons_cons, List.zip_nil_left, List.foldl_toArray', List.foldl_cons, List.foldl_nil, List.setIfInBounds_toArray, List.set_cons_succ, List.set_cons_zero]
    gi_wp2_with (refine wpListIn_of (by rintro ⟨_, _, h⟩; exact h) _ _ _ (by simp) ?_)
    go_wp2
    exact ⟨Ls, W.heap.size, H.out, HS1.out.alloc _ _, rfl⟩
  · rintro R ⟨cur, m, o⟩ a₁ W hg ⟨Ls, bx, h, hs, rfl⟩
    obtain ⟨z, t, rfl⟩ : ∃ z t, cur = z :: t := by
      cases cur with
      | nil => exact absurd rfl hg.2
      | cons z t => exact ⟨z, t, rfl⟩
    obtain ⟨q2, hq⟩ : ∃ q2, mn m z.f1 = q2 := ⟨_, rfl⟩
    have hnx : (nxtT (z :: t, m, o)).2.2 = o ++ [⟨z.f0, q2⟩] := by rw [← hq]; rfl
    have hve : valT (z :: t, m, o) = .agg #[.string z.f0, .int .i64 q2] := by rw [← hq]; rfl
    have hsn := h.snd
    rw [hnx] at hsn
    have hsn2 : (o ++ [⟨z.f0, q2⟩]) ++ (takeM (nxtT (z :: t, m, o)).1 (nxtT (z :: t, m, o)).2.1).2 = (takeM x.f2 n).2 := hsn
    rw [List.append_assoc] at hsn2
    have hPO := HPK.out
    rw [← hsn2] at hPO
    have HPO := Lib.hid (pourOk_last (poursOk_at _ _ _ _ hPO))
    have hol : (poursM y.f2 o).length ≤ 1000000 := by
      have h1 := congrArg List.length hsn2
      have h2 := takeM_len x.f2 n
      have h5 := poursM_len o y.f2
      simp only [List.length_append] at h1
      omega
    replace hs : St w (Ls ++ [.blk bx 37 [.string z.f0, .int .i64 q2]]) W := by rw [← hq]; exact hs
    rw [hve]
    have HS1 := Lib.hid hs
    have H := Lib.hid h
    have HYS := Lib.hid (show poursM y.f2 (nxtT (z :: t, m, o)).2.2 = pourM (poursM y.f2 o) ⟨z.f0, q2⟩ from by rw [hnx, poursM_more])
    obtain ⟨u, v1, v2⟩ := h.dst
    obtain ⟨pre, cells, A, hF⟩ := h.tk
    have HO1 := Lib.hid hF.out
    have HCK := Lib.hid (v2 cells hF.out)
    have I0 := Lib.hid (show ∀ N, (Ls ++ N)[0]? = some (.row (.slice (some ⟨g, 0, none⟩) l0.length c5) 25 3 l0.length cells) from fun N => get_app (by have h1 := hF.out; rw [HDD.out] at h1; exact h1) N)
    have I1 := Lib.hid (show ∀ N, (Ls ++ N)[k + 1]? = some (.row u 37 2 (poursM y.f2 o).length (lotRow (poursM y.f2 o))) from fun N => get_app v1 N)
    have HOL := Lib.hid hol
    clear h hs hg hq hnx hve hsn hsn2 hPO v1 v2 hF hol
    simp only [List.setIfInBounds_toArray, List.set_cons_succ, List.set_cons_zero]
    refine wpIn_block ?_
    refine L.grow_start_in (by rintro ⟨_, _, h⟩; exact h) (by simp) [] 4 ((0, true, false) :: (1, true, false) :: (2, true, false) :: (3, true, true) :: (4, false, true) :: []) (by kernel_rfl) (([], [12], some 58) :: ([], [11], some 59) :: ([0, 1], [58, 59], some 60) :: ([], [13], some 61) :: ([2, 3], [60, 61], some 62) :: []) (by kernel_rfl) (by kernel_rfl) (n := 5) rfl (by kernel_rfl) (fun _ _ _ _ _ h => h) (fun wg hog => ?_)
    refine L.growe_start (N := 67) (by rfl) ?_
    replace HS1 := Lib.hid (HS1.out.keep hog)
    clear hog
    have e1 : ∀ w', Only [] wg w' → w'.cell? ⟨ob, 0, none⟩ = some (.slice (some ⟨g, 0, none⟩) l0.length c5) := fun w' k => (HS1.out.keep k).cell (l0.length + 1 + 1) 0 (get_app H.out.hd _) rfl
    have e2 : ∀ w', Only [] wg w' → w'.cell? ⟨kb, 0, none⟩ = some (.int .i64 k) := fun w' k => (HS1.out.keep k).cell (l0.length + 1) 0 (get_app H.out.idx _) rfl
    iterate 3 (first | (refine L.ge_off rfl rfl rfl (by rfl) ?_) | (refine L.ge_move rfl rfl rfl (by rfl) rfl (by simp [L.evE, L.lk, Act.eval]; rfl) ?_) | (refine L.ge_pick rfl rfl rfl (by rfl) rfl (by simp [L.evE, L.lk, Act.eval]; rfl) (by simp [L.evE, L.lk, Act.eval]; rfl) ?_) | (refine L.ge_val rfl rfl rfl (by rfl) (by intro w' hw'; simp [execOp, L.evE, L.lk, Act.eval]; go_simp; rfl) ?_))
    refine ge_load_at rfl rfl rfl (by rfl) _ _ rfl ⟨bx, 0, none⟩ (by simp [L.evE, L.lk, Act.eval]) [.string z.f0, .int .i64 q2] _ (fun w' k => (HS1.out.keep k).cells Ls.length (get_end Ls _ [])) Tryd.underlying37 rfl (by kernel_rfl) ?_
    clear e1 e2
    refine L.ge_lastcall rfl rfl rfl (by rfl) rfl (by simp [L.evE, L.lk, Act.eval]; rfl) (by go_simp) ?_
    refine (pour_any w (Ls ++ [.blk bx 37 [.string z.f0, .int .i64 q2]]) 0 (k + 1) g c5 l0.length cells u k (poursM y.f2 o) ⟨z.f0, q2⟩ wg HS1.out (I0.out _) (I1.out _) (by omega) HCK.out hk HOL.out HPO.out).mono ?_
    rintro e W5 ⟨⟨rr, rfl⟩, u', hS5⟩
    refine ⟨_, rfl, ?_⟩
    refine L.ge_done ?_
    have hfin : ∃ Ls', MI D (l0.length + 1) k kb ob dd (.slice (some ⟨g, 0, none⟩) l0.length c5) L0 (vCells l0 us) (x.f2, n, []) y.f2 R (nxtT (z :: t, m, o)) (nxtT (z :: t, m, o)) Ls' ∧ St w Ls' W5 := by
      have hcl1 : cells.length = l0.length * 3 := (HS1.out.row 0 (I0.out _)).1
      refine ⟨_, H.out.more HP.out u' HO1.out (by omega) HYS.out, ?_⟩
      have hl1 := (List.getElem?_eq_some_iff.1 H.out.dst.choose_spec.1).1
      rw [List.set_append_left _ _ hl1, List.set_append_left _ _ (by rw [List.length_set]; omega)] at hS5
      rw [HDD.out]
      exact hS5.front
    exact hfin
  · rintro R ⟨cur, m, o⟩ W hg ⟨Ls, h, hs⟩
    have e1 : takeM cur m = (cur, []) := takeM_stop hg
    have hf : (takeM cur m).1 = (takeM x.f2 n).1 := h.fst
    have hs2 : o ++ (takeM cur m).2 = (takeM x.f2 n).2 := h.snd
    rw [e1] at hf hs2
    have hf2 : (takeM x.f2 n).2 = o := by rw [← hs2, List.append_nil]
    have HOL := Lib.hid (show o.length ≤ 900000 from by
      have h1 := takeM_len x.f2 n
      rw [hf2] at h1
      omega)
    have HMV := Lib.hid (show out = (l0.set i (turned x cur)).set k (turned y (poursM y.f2 o)) from by rw [HOUT.out]; unfold movedM; rw [← hf, hf2])
    have c1 : W.cell? ⟨ob, 0, none⟩ = some (.slice (some ⟨g, 0, none⟩) l0.length c5) := hs.cell (l0.length + 1 + 1) 0 h.hd rfl
    have H := Lib.hid h
    have HS1 := Lib.hid hs
    clear h hs hf hs2 hf2 e1 hg
    simp only [Exit.inBlock, Exit.then]
    rename_i K hK
    refine hK _ _ ?_
    clear hK K
    have HV := Lib.hid (fun (L2 : List Res) (W2 : World) (he : ∀ j, j ≠ l0.length + 1 + 4 → L2[j]? = Ls[j]?) (hs : St w L2 W2) => move_out hc5 hs1 HS2.out hi hk HNE.out HX.out HY.out hu HUL.out hcl HOL.out HL0.out HDD.out H.out he hs)
    rw [← HMV.out] at HV
    have hml : out.length = l0.length := by rw [HMV.out, List.length_set, List.length_set]
    clear HMV
    have HCC := Lib.hid (checked_any (some ⟨g, 0, none⟩) c5 out W (by
      have h1 := HV.out Ls W (fun _ _ => rfl) HS1.out
      rw [← hml] at h1
      exact Kd.V_F h1 W (fun _ _ _ => rfl)) (by omega))
    rw [hml] at HCC
    clear hml
    have hd2 : ∀ W2, Only [] W W2 → (Instr.takeDeferred W9.heap.size).run Tryd.prog W2 = .ok [] (W2.putObj W9.heap.size (.deferred none)) ∧ St w (Ls.set (l0.length + 1 + 4) (.obj dd (.deferred none))) (W2.putObj W9.heap.size (.deferred none)) := by
      intro W2 ho
      have hS2 := HS1.out.keep ho
      have hd := (hS2.each _ _ H.out.dfr).2
      rw [hdd] at hd
      refine ⟨run_takeDeferred (w := W2) hd, ?_⟩
      rw [← hdd]
      exact hS2.turnObj _ H.out.dfr _
    have HD2 := Lib.hid hd2
    clear hd2
    cases hm : out.any manyLots
    · have HHM := Lib.hid (show outV out = (out, 0) from by unfold outV; rw [hm, if_neg (by simp)])
      rw [hm, if_neg (by simp), if_neg (by simp)] at HCC
      clear hm
      go_wp2_with (go_at_call 42; refine HCC.out.mono ?_; rintro x W10 ⟨rfl, hb1⟩; have HB7 := Lib.hid hb1; clear hb1)
      obtain ⟨t1, t2⟩ := HD2.out _ (Only.of_below HB7.out)
      refine ⟨by simp, .inl ⟨_, _, rfl, t1, ?_⟩⟩
      refine ⟨_, results_tmp2 rfl _ _ _, ?_⟩
      rw [HHM.out]
      exact ⟨_, rfl, HV.out _ _ (fun j hj => List.getElem?_set_ne (Ne.symm hj)) t2, t2.only.nil_below⟩
    · have HHM := Lib.hid (show outV out = ([], 2) from by unfold outV; rw [hm, if_pos rfl])
      rw [hm, if_pos rfl, if_pos rfl] at HCC
      clear hm
      go_wp2_with (go_at_call 42; refine HCC.out.mono ?_; rintro x W10 ⟨rfl, hb1⟩; have HB7 := Lib.hid hb1; clear hb1)
      obtain ⟨t1, t2⟩ := HD2.out _ (Only.of_below HB7.out)
      refine ⟨by simp, .inl ⟨_, _, rfl, t1, ?_⟩⟩
      refine ⟨_, results_tmp2 rfl _ _ _, ?_⟩
      rw [HHM.out]
      exact ⟨_, rfl, Kd.V_nil _ _ _ _ _, t2.only.nil_below⟩
set_option maxHeartbeats 16000000 in
set_option maxRecDepth 100000 in
theorem ledger_Move.calls (A0 : Option Addr) (c0 : Nat) (l0 : List S25) (a1 a2 : ByteArray) (n : Int) (r1 : List S25) (r2 : Int) (w : World) (hr0 : Kd.C k25 w A0 l0.length l0) (hc0 : l0.length ≤ c0) (hT : Tabs w) (h : ledger_Move.f l0 a1 a2 n = some (r1, r2)) :
    Calls Tryd.prog 26 #[.slice A0 l0.length c0, .string a1, .string a2, .int .i64 n] w fun e w' => ∃ v0_ : Value, e = .returned (.tuple #[v0_, .int .i64 r2]) ∧ Kd.V k25 25 w' w.heap.size (fun k_ => (w.heap.size ≤ k_)) v0_ r1 ∧ Below w.heap.size w w' := by
  unfold ledger_Move.f at h
  split at h
  case isFalse => cases h
  rename_i hsm
  obtain ⟨hs1, hs2⟩ := smallV_of hsm
  obtain ⟨e, he, h⟩ := Option.bind_eq_some_iff.1 h
  have HR := Lib.hid hr0
  have HT := Lib.hid hT
  have HS2 := Lib.hid hs2
  have H := Lib.hid h
  have HCK := Lib.hid (ledger_Check.calls 100000 A0 c0 l0 e w hr0 hc0 hT he)
  have HE := Lib.hid he
  clear hsm hs2 h he hr0 hT
  by_cases he0 : e = 0
  rotate_left
  · have h := H.out
    rw [if_neg he0] at h
    obtain ⟨rfl, rfl⟩ := Prod.mk.inj (Option.some.inj h)
    clear H h
    refine (callsIn_wide (n := 0)).1 (callsIn_of_wp_marks Tryd.func26 rfl trivial ?_)
    simp only [Tryd.ntmps26, List.size_toArray, List.length_cons, List.length_nil, Nat.reduceAdd, Nat.reduceSub, Array.replicate_succ, Array.replicate_zero, List.push_toArray, List.append_toArray, List.nil_append, List.cons_append]
    refine (wpIn_wide (n := 0)).2 ?_
    go_wp2_with (go_at_call 12; refine HCK.out.mono ?_; rintro x W1 ⟨rfl, hb1⟩; have HO := Lib.hid (Only.of_below hb1); clear hb1; refine (fun (h : Hid _) => h.out) ?_)
    refine Lib.hid ?_
    clear HCK
    go_wp2
    refine ⟨_, results_tmp2 rfl _ _ _, ?_⟩
    exact ⟨_, rfl, Kd.V_nil _ _ _ _ _, HO.out.nil_below⟩
  subst he0
  replace H := Lib.hid (show _ from (if_pos rfl).symm.trans H.out)
  by_cases hab : a1 = a2
  · have h := H.out
    rw [if_pos hab] at h
    obtain ⟨rfl, rfl⟩ := Prod.mk.inj (Option.some.inj h)
    clear H h
    have hab' : (a1.toList == a2.toList) = true := by rw [bytes_beq]; exact decide_eq_true hab
    clear hab
    refine (callsIn_wide (n := 0)).1 (callsIn_of_wp_marks Tryd.func26 rfl trivial ?_)
    simp only [Tryd.ntmps26, List.size_toArray, List.length_cons, List.length_nil, Nat.reduceAdd, Nat.reduceSub, Array.replicate_succ, Array.replicate_zero, List.push_toArray, List.append_toArray, List.nil_append, List.cons_append]
    refine (wpIn_wide (n := 0)).2 ?_
    go_wp2_with (go_at_call 12; refine HCK.out.mono ?_; rintro x W1 ⟨rfl, hb1⟩; have HO := Lib.hid (Only.of_below hb1); clear hb1; refine (fun (h : Hid _) => h.out) ?_)
    refine Lib.hid ?_
    clear HCK
    go_wp2
    refine ⟨_, results_tmp2 rfl _ _ _, ?_⟩
    exact ⟨_, rfl, Kd.V_nil _ _ _ _ _, HO.out.nil_below⟩
  replace H := Lib.hid (show _ from (if_neg hab).symm.trans H.out)
  have hab' : (a1.toList == a2.toList) = false := by rw [bytes_beq]; exact decide_eq_false hab
  have HAB := Lib.hid hab
  clear hab
  obtain ⟨i, hi, h⟩ := Option.bind_eq_some_iff.1 H.out
  obtain ⟨k, hk, h⟩ := Option.bind_eq_some_iff.1 h
  have hilt := find_lt hi
  have hklt := find_lt hk
  have HF := Lib.hid hi
  have HF2 := Lib.hid hk
  replace H := Lib.hid h
  clear h hi hk
  by_cases hi0 : i < 0
  · have h := H.out
    rw [if_pos hi0] at h
    obtain ⟨rfl, rfl⟩ := Prod.mk.inj (Option.some.inj h)
    clear H h
    refine (callsIn_wide (n := 0)).1 (callsIn_of_wp_marks Tryd.func26 rfl trivial ?_)
    simp only [Tryd.ntmps26, List.size_toArray, List.length_cons, List.length_nil, Nat.reduceAdd, Nat.reduceSub, Array.replicate_succ, Array.replicate_zero, List.push_toArray, List.append_toArray, List.nil_append, List.cons_append]
    refine (wpIn_wide (n := 0)).2 ?_
    go_wp2_with (go_at_call 12; refine HCK.out.mono ?_; rintro x W1 ⟨rfl, hb1⟩; have HO := Lib.hid (Only.of_below hb1); clear hb1; refine (fun (h : Hid _) => h.out) ?_)
    refine Lib.hid ?_
    clear HCK
    have HFN := Lib.hid (ledger_find.calls A0 c0 l0 a1 i W1 (Kd.C_below HR.out HO.out.nil_below) hc0 HF.out)
    go_wp2_with (go_at_call 33; refine HFN.out.mono ?_; rintro x W3 ⟨rfl, hb1⟩; replace HO := Lib.hid (HO.out.trans (Only.of_below hb1)); clear hb1; refine (fun (h : Hid _) => h.out) ?_)
    refine Lib.hid ?_
    clear HFN HF
    replace HFN := Lib.hid (ledger_find.calls A0 c0 l0 a2 k W3 (Kd.C_below HR.out HO.out.nil_below) hc0 HF2.out)
    go_wp2_with (go_at_call 33; refine HFN.out.mono ?_; rintro x W4 ⟨rfl, hb1⟩; replace HO := Lib.hid (HO.out.trans (Only.of_below hb1)); clear hb1; refine (fun (h : Hid _) => h.out) ?_)
    refine Lib.hid ?_
    clear HFN HF2
    have HS := Lib.hid ((St.of_only HO.out).alloc [.int .i64 k] 3)
    simp only [List.nil_append] at HS
    go_wp2
    refine ⟨_, results_tmp2 rfl _ _ _, ?_⟩
    exact ⟨_, rfl, Kd.V_nil _ _ _ _ _, HS.out.only.nil_below⟩
  replace H := Lib.hid (show _ from (if_neg hi0).symm.trans H.out)
  by_cases hk0 : k < 0
  · have h := H.out
    rw [if_pos hk0] at h
    obtain ⟨rfl, rfl⟩ := Prod.mk.inj (Option.some.inj h)
    clear H h
    refine (callsIn_wide (n := 0)).1 (callsIn_of_wp_marks Tryd.func26 rfl trivial ?_)
    simp only [Tryd.ntmps26, List.size_toArray, List.length_cons, List.length_nil, Nat.reduceAdd, Nat.reduceSub, Array.replicate_succ, Array.replicate_zero, List.push_toArray, List.append_toArray, List.nil_append, List.cons_append]
    refine (wpIn_wide (n := 0)).2 ?_
    go_wp2_with (go_at_call 12; refine HCK.out.mono ?_; rintro x W1 ⟨rfl, hb1⟩; have HO := Lib.hid (Only.of_below hb1); clear hb1; refine (fun (h : Hid _) => h.out) ?_)
    refine Lib.hid ?_
    clear HCK
    have HFN := Lib.hid (ledger_find.calls A0 c0 l0 a1 i W1 (Kd.C_below HR.out HO.out.nil_below) hc0 HF.out)
    go_wp2_with (go_at_call 33; refine HFN.out.mono ?_; rintro x W3 ⟨rfl, hb1⟩; replace HO := Lib.hid (HO.out.trans (Only.of_below hb1)); clear hb1; refine (fun (h : Hid _) => h.out) ?_)
    refine Lib.hid ?_
    clear HFN HF
    replace HFN := Lib.hid (ledger_find.calls A0 c0 l0 a2 k W3 (Kd.C_below HR.out HO.out.nil_below) hc0 HF2.out)
    go_wp2_with (go_at_call 33; refine HFN.out.mono ?_; rintro x W4 ⟨rfl, hb1⟩; replace HO := Lib.hid (HO.out.trans (Only.of_below hb1)); clear hb1; refine (fun (h : Hid _) => h.out) ?_)
    refine Lib.hid ?_
    clear HFN HF2
    have HS := Lib.hid ((St.of_only HO.out).alloc [.int .i64 k] 3)
    simp only [List.nil_append] at HS
    go_wp2
    refine ⟨_, results_tmp2 rfl _ _ _, ?_⟩
    exact ⟨_, rfl, Kd.V_nil _ _ _ _ _, HS.out.only.nil_below⟩
  replace H := Lib.hid (show _ from (if_neg hk0).symm.trans H.out)
  by_cases hn1 : n < 1
  · have h := H.out
    rw [if_pos hn1] at h
    obtain ⟨rfl, rfl⟩ := Prod.mk.inj (Option.some.inj h)
    clear H h
    refine (callsIn_wide (n := 0)).1 (callsIn_of_wp_marks Tryd.func26 rfl trivial ?_)
    simp only [Tryd.ntmps26, List.size_toArray, List.length_cons, List.length_nil, Nat.reduceAdd, Nat.reduceSub, Array.replicate_succ, Array.replicate_zero, List.push_toArray, List.append_toArray, List.nil_append, List.cons_append]
    refine (wpIn_wide (n := 0)).2 ?_
    go_wp2_with (go_at_call 12; refine HCK.out.mono ?_; rintro x W1 ⟨rfl, hb1⟩; have HO := Lib.hid (Only.of_below hb1); clear hb1; refine (fun (h : Hid _) => h.out) ?_)
    refine Lib.hid ?_
    clear HCK
    have HFN := Lib.hid (ledger_find.calls A0 c0 l0 a1 i W1 (Kd.C_below HR.out HO.out.nil_below) hc0 HF.out)
    go_wp2_with (go_at_call 33; refine HFN.out.mono ?_; rintro x W3 ⟨rfl, hb1⟩; replace HO := Lib.hid (HO.out.trans (Only.of_below hb1)); clear hb1; refine (fun (h : Hid _) => h.out) ?_)
    refine Lib.hid ?_
    clear HFN HF
    replace HFN := Lib.hid (ledger_find.calls A0 c0 l0 a2 k W3 (Kd.C_below HR.out HO.out.nil_below) hc0 HF2.out)
    go_wp2_with (go_at_call 33; refine HFN.out.mono ?_; rintro x W4 ⟨rfl, hb1⟩; replace HO := Lib.hid (HO.out.trans (Only.of_below hb1)); clear hb1; refine (fun (h : Hid _) => h.out) ?_)
    refine Lib.hid ?_
    clear HFN HF2
    have HS := Lib.hid ((St.of_only HO.out).alloc [.int .i64 k] 3)
    simp only [List.nil_append] at HS
    go_wp2
    refine ⟨_, results_tmp2 rfl _ _ _, ?_⟩
    exact ⟨_, rfl, Kd.V_nil _ _ _ _ _, HS.out.only.nil_below⟩
  replace H := Lib.hid (show _ from (if_neg hn1).symm.trans H.out)
  obtain ⟨i, rfl⟩ := Int.eq_ofNat_of_zero_le (show 0 ≤ i by omega)
  obtain ⟨k, rfl⟩ := Int.eq_ofNat_of_zero_le (show 0 ≤ k by omega)
  have hi : i < l0.length := by omega
  have hk : k < l0.length := by omega
  have hii : (i : Int) < l0.length := by omega
  have hkk : (k : Int) < l0.length := by omega
  have hi0' : (0 : Int) ≤ i := by omega
  have hk0' : (0 : Int) ≤ k := by omega
  have erd : rd_T25 l0 i = l0[i] := getD_at l0 _ i hi
  have erd2 : rd_T25 l0 k = l0[k] := getD_at l0 _ k hk
  rw [erd, erd2] at H
  obtain ⟨x, hx⟩ : ∃ x, l0[i]? = some x := ⟨_, List.getElem?_eq_getElem hi⟩
  obtain ⟨y, hy⟩ : ∃ y, l0[k]? = some y := ⟨_, List.getElem?_eq_getElem hk⟩
  rw [(List.getElem?_eq_some_iff.1 hx).2, (List.getElem?_eq_some_iff.1 hy).2] at H
  have HX := Lib.hid hx
  have HY := Lib.hid hy
  clear erd erd2 hx hy
  obtain ⟨r, hr, h⟩ := Option.bind_eq_some_iff.1 H.out
  have HLV := Lib.hid hr
  replace H := Lib.hid h
  clear h hr
  by_cases hrn : r < n
  · have h := H.out
    rw [if_pos hrn] at h
    obtain ⟨rfl, rfl⟩ := Prod.mk.inj (Option.some.inj h)
    clear H h
    clear HY
    refine (callsIn_wide (n := 0)).1 (callsIn_of_wp_marks Tryd.func26 rfl trivial ?_)
    simp only [Tryd.ntmps26, List.size_toArray, List.length_cons, List.length_nil, Nat.reduceAdd, Nat.reduceSub, Array.replicate_succ, Array.replicate_zero, List.push_toArray, List.append_toArray, List.nil_append, List.cons_append]
    refine (wpIn_wide (n := 0)).2 ?_
    go_wp2_with (go_at_call 12; refine HCK.out.mono ?_; rintro x W1 ⟨rfl, hb1⟩; have HO := Lib.hid (Only.of_below hb1); clear hb1; refine (fun (h : Hid _) => h.out) ?_)
    refine Lib.hid ?_
    clear HCK
    have HFN := Lib.hid (ledger_find.calls A0 c0 l0 a1 i W1 (Kd.C_below HR.out HO.out.nil_below) hc0 HF.out)
    go_wp2_with (go_at_call 33; refine HFN.out.mono ?_; rintro x W3 ⟨rfl, hb1⟩; replace HO := Lib.hid (HO.out.trans (Only.of_below hb1)); clear hb1; refine (fun (h : Hid _) => h.out) ?_)
    refine Lib.hid ?_
    clear HFN HF
    replace HFN := Lib.hid (ledger_find.calls A0 c0 l0 a2 k W3 (Kd.C_below HR.out HO.out.nil_below) hc0 HF2.out)
    go_wp2_with (go_at_call 33; refine HFN.out.mono ?_; rintro x W4 ⟨rfl, hb1⟩; replace HO := Lib.hid (HO.out.trans (Only.of_below hb1)); clear hb1; refine (fun (h : Hid _) => h.out) ?_)
    refine Lib.hid ?_
    clear HFN HF2
    have HS := Lib.hid ((St.of_only HO.out).alloc [.int .i64 k] 3)
    simp only [List.nil_append] at HS
    have HRD := Lib.hid (Kd.C_below HR.out HS.out.only.nil_below)
    obtain ⟨ad, cs, rfl, _, hK, hcs⟩ := Kd.C_cells HRD.out i hi
    rw [(List.getElem?_eq_some_iff.1 HX.out).2] at hK
    obtain ⟨A2, c2, rfl, hl2, hk2⟩ := k25_open hK
    have HC := Lib.hid (show CellsAt (W4.alloc (.cells #[.int .i64 (k : Int)] 3)) (ad.add (i * 3)) _ from hcs)
    have HRL := Lib.hid (ledger_Level.calls 100000 x.f0 x.f1 (fun k_ => k_ < (W4.alloc (.cells #[.int .i64 (k : Int)] 3)).heap.size) A2 c2 x.f2 r (W4.alloc (.cells #[.int .i64 (k : Int)] 3)) (Kd.V_mk hl2 (Kd.C_F k37_heap hk2)) (HT.out.below HS.out.only.nil_below) HLV.out)
    clear hcs hK hl2 hk2 HLV HO HRD
    go_wp2_with (first
      | (with_reducible refine wpList_load_at rfl 25 (.tmp 39) rfl (ad.add (i * 3)) rfl _ _ HC.out Tryd.underlying25 rfl (by kernel_rfl) ?_)
      | (go_at_call 16; refine HRL.out.mono ?_; rintro x W5 ⟨rfl, hb1⟩; replace HS := Lib.hid (HS.out.keep (Only.of_below hb1)); clear hb1; refine (fun (h : Hid _) => h.out) ?_))
    refine Lib.hid ?_
    clear HC HRL
    go_wp2
    refine ⟨_, results_tmp2 rfl _ _ _, ?_⟩
    exact ⟨_, rfl, Kd.V_nil _ _ _ _ _, HS.out.only.nil_below⟩
  replace H := Lib.hid (show _ from (if_neg hrn).symm.trans H.out)
  obtain ⟨q, hq, h⟩ := Option.bind_eq_some_iff.1 H.out
  have HRM := Lib.hid hq
  replace H := Lib.hid h
  clear h hq
  by_cases hqn : q < n
  · have h := H.out
    rw [if_pos hqn] at h
    obtain ⟨rfl, rfl⟩ := Prod.mk.inj (Option.some.inj h)
    clear H h
    refine (callsIn_wide (n := 0)).1 (callsIn_of_wp_marks Tryd.func26 rfl trivial ?_)
    simp only [Tryd.ntmps26, List.size_toArray, List.length_cons, List.length_nil, Nat.reduceAdd, Nat.reduceSub, Array.replicate_succ, Array.replicate_zero, List.push_toArray, List.append_toArray, List.nil_append, List.cons_append]
    refine (wpIn_wide (n := 0)).2 ?_
    go_wp2_with (go_at_call 12; refine HCK.out.mono ?_; rintro x W1 ⟨rfl, hb1⟩; have HO := Lib.hid (Only.of_below hb1); clear hb1; refine (fun (h : Hid _) => h.out) ?_)
    refine Lib.hid ?_
    clear HCK
    have HFN := Lib.hid (ledger_find.calls A0 c0 l0 a1 i W1 (Kd.C_below HR.out HO.out.nil_below) hc0 HF.out)
    go_wp2_with (go_at_call 33; refine HFN.out.mono ?_; rintro x W3 ⟨rfl, hb1⟩; replace HO := Lib.hid (HO.out.trans (Only.of_below hb1)); clear hb1; refine (fun (h : Hid _) => h.out) ?_)
    refine Lib.hid ?_
    clear HFN HF
    replace HFN := Lib.hid (ledger_find.calls A0 c0 l0 a2 k W3 (Kd.C_below HR.out HO.out.nil_below) hc0 HF2.out)
    go_wp2_with (go_at_call 33; refine HFN.out.mono ?_; rintro x W4 ⟨rfl, hb1⟩; replace HO := Lib.hid (HO.out.trans (Only.of_below hb1)); clear hb1; refine (fun (h : Hid _) => h.out) ?_)
    refine Lib.hid ?_
    clear HFN HF2
    have HS := Lib.hid ((St.of_only HO.out).alloc [.int .i64 k] 3)
    simp only [List.nil_append] at HS
    have HRD := Lib.hid (Kd.C_below HR.out HS.out.only.nil_below)
    obtain ⟨ad, cs, rfl, _, hK, hcs⟩ := Kd.C_cells HRD.out i hi
    rw [(List.getElem?_eq_some_iff.1 HX.out).2] at hK
    obtain ⟨A2, c2, rfl, hl2, hk2⟩ := k25_open hK
    have HC := Lib.hid (show CellsAt (W4.alloc (.cells #[.int .i64 (k : Int)] 3)) (ad.add (i * 3)) _ from hcs)
    have HRL := Lib.hid (ledger_Level.calls 100000 x.f0 x.f1 (fun k_ => k_ < (W4.alloc (.cells #[.int .i64 (k : Int)] 3)).heap.size) A2 c2 x.f2 r (W4.alloc (.cells #[.int .i64 (k : Int)] 3)) (Kd.V_mk hl2 (Kd.C_F k37_heap hk2)) (HT.out.below HS.out.only.nil_below) HLV.out)
    clear hcs hK hl2 hk2 HLV HO HRD
    go_wp2_with (first
      | (with_reducible refine wpList_load_at rfl 25 (.tmp 39) rfl (ad.add (i * 3)) rfl _ _ HC.out Tryd.underlying25 rfl (by kernel_rfl) ?_)
      | (go_at_call 16; refine HRL.out.mono ?_; rintro x W5 ⟨rfl, hb1⟩; replace HS := Lib.hid (HS.out.keep (Only.of_below hb1)); clear hb1; refine (fun (h : Hid _) => h.out) ?_))
    refine Lib.hid ?_
    clear HC HRL
    generalize W4.heap.size = kb at *
    obtain ⟨cs, _, hK, hcs⟩ : ∃ cs, cs.length = k25.sz ∧ k25.K W5 l0[k] cs ∧ CellsAt W5 (ad.add (k * k25.sz)) cs := by
      obtain ⟨ad2, cs, e, h1, h2, h3⟩ := Kd.C_cells (Kd.C_below HR.out HS.out.only.nil_below) k hk
      obtain rfl := Option.some.inj e
      exact ⟨cs, h1, h2, h3⟩
    rw [(List.getElem?_eq_some_iff.1 HY.out).2] at hK
    obtain ⟨A3, c3, rfl, hl3, hk3⟩ := k25_open hK
    have HC := Lib.hid (show CellsAt W5 (ad.add (k * 3)) _ from hcs)
    have HRL := Lib.hid (ledger_room.calls 100000 y.f0 y.f1 A3 c3 y.f2 q W5 hk3 hl3 (HT.out.below HS.out.only.nil_below) HRM.out)
    have c1 : W5.cell? ⟨kb, 0, none⟩ = some (.int .i64 k) := HS.out.cell 0 0 rfl rfl
    clear hcs hK hl3 hk3 HRM
    go_wp2_with (first
      | (with_reducible refine wpList_load_at rfl 25 (.tmp 46) rfl (ad.add (k * 3)) rfl _ _ HC.out Tryd.underlying25 rfl (by kernel_rfl) ?_)
      | (go_at_call 40; refine HRL.out.mono ?_; rintro x W6 ⟨rfl, hb1⟩; replace HS := Lib.hid (HS.out.keep (Only.of_below hb1)); clear hb1; refine (fun (h : Hid _) => h.out) ?_))
    refine Lib.hid ?_
    clear HC HRL c1
    go_wp2
    refine ⟨_, results_tmp2 rfl _ _ _, ?_⟩
    exact ⟨_, rfl, Kd.V_nil _ _ _ _ _, HS.out.only.nil_below⟩
  have h := (if_neg hqn).symm.trans H.out
  split at h
  case isFalse => cases h
  rename_i hmo
  have hh := Option.some.inj h
  have := move_ok A0 c0 l0 a1 a2 n i k r q w HR.out hc0 HT.out hs1 HS2.out HE.out HAB.out HF.out HF2.out x y HX.out HY.out (by omega) HLV.out (by omega) HRM.out (by omega) hmo _ rfl
  have e1 : outV (movedM l0 i k x y n) = (r1, r2) := hh
  rw [e1] at this
  exact this
end Go.Proofs.YtejecmjajdhiiaaDoor.Print
/-! ### Print8 -/
namespace Go.Proofs.YtejecmjajdhiiaaDoor.Print
open Go.RowKit Go.Proofs.YtejecmjajdhiiaaDoorW.PrintWords Go.Proofs.YtejecmjajdhiiaaDoorW.PrintLast Go.Proofs.YtejecmjajdhiiaaDoorW.PrintMore
attribute [local go_sem] min_two
set_option linter.unusedVariables false
set_option linter.unusedSimpArgs false
mutual
def malthouseref01_Rune.j2 : Nat → ByteArray → Int → Int → Int → Int → Option (Int × Int)
  | 0, _, _, _, _, _ => none
  | k + 1, x0, x1, x6, x7, x8 => if x7 > (wrap64 ((x0.size : Int) - x1)) then (some (0, 0)) else (malthouseref01_Rune.l0 k x0 x1 x6 x7 x8 1)
def malthouseref01_Rune.l0 : Nat → ByteArray → Int → Int → Int → Int → Int → Option (Int × Int)
  | 0, _, _, _, _, _, _ => none
  | k + 1, x0, x1, x6, x7, x8, x9 => if x9 < x7 then (if 0 ≤ (wrap64 (x1 + x9)) then (if (wrap64 (x1 + x9)) < (x0.size : Int) then (if (wrap64 (bt x0 (wrap64 (x1 + x9)))) < 128 then (some (0, 0)) else (if (wrap64 (bt x0 (wrap64 (x1 + x9)))) ≥ 192 then (some (0, 0)) else (malthouseref01_Rune.l0 k x0 x1 (wrap64 ((wrap64 ((wrap64 (64 * x6)) + (wrap64 (bt x0 (wrap64 (x1 + x9)))))) - 128)) x7 x8 (wrap64 (x9 + 1))))) else (none)) else (none)) else (if x6 < x8 then (some (0, 0)) else (if x6 > 1114111 then (some (0, 0)) else (if x6 ≥ 55296 then (if x6 ≤ 57343 then (some (0, 0)) else (some (x6, x7))) else (some (x6, x7)))))
def malthouseref01_Rune.j0 : Nat → ByteArray → Int → Int → Bool → Option (Int × Int)
  | 0, _, _, _, _ => none
  | k + 1, x0, x1, x6, x19 => if x19 = true then (malthouseref01_Rune.j2 k x0 x1 (wrap64 (x6 - 192)) 2 128) else (if x6 ≥ 224 then (malthouseref01_Rune.j1 k x0 x1 x6 (decide (x6 < 240))) else (malthouseref01_Rune.j1 k x0 x1 x6 false))
def malthouseref01_Rune.j1 : Nat → ByteArray → Int → Int → Bool → Option (Int × Int)
  | 0, _, _, _, _ => none
  | k + 1, x0, x1, x6, x28 => if x28 = true then (malthouseref01_Rune.j2 k x0 x1 (wrap64 (x6 - 224)) 3 2048) else (if x6 ≥ 240 then (if x6 < 248 then (malthouseref01_Rune.j2 k x0 x1 (wrap64 (x6 - 240)) 4 65536) else (some (0, 0))) else (some (0, 0)))
end
def malthouseref01_Rune.f (k : Nat) (a0 : ByteArray) (a1 : Int) : Option (Int × Int) := if 0 ≤ a1 then (if a1 < (a0.size : Int) then (if (wrap64 (bt a0 a1)) < 128 then (some (wrap64 (bt a0 a1), 1)) else (if (wrap64 (bt a0 a1)) ≥ 192 then (malthouseref01_Rune.j0 k a0 a1 (wrap64 (bt a0 a1)) (decide ((wrap64 (bt a0 a1)) < 224))) else (malthouseref01_Rune.j0 k a0 a1 (wrap64 (bt a0 a1)) false))) else (none)) else (none)
set_option maxHeartbeats 8000000 in
set_option maxRecDepth 100000 in
theorem malthouseref01_Rune.calls (k : Nat) (a0 : ByteArray) (a1 : Int) (r1 : Int) (r2 : Int) (w : World) (h : malthouseref01_Rune.f k a0 a1 = some (r1, r2)) :
    Calls Tryd.prog 61 #[.string a0, .int .i64 a1] w fun e w' => e = .returned (.tuple #[.int .i64 r1, .int .i64 r2]) ∧ Drawn0 w w' := by
  have H : (if 0 ≤ a1 then (if a1 < (a0.size : Int) then (if (wrap64 (bt a0 a1)) < 128 then (some (wrap64 (bt a0 a1), 1)) else (if (wrap64 (bt a0 a1)) ≥ 192 then (malthouseref01_Rune.j0 k a0 a1 (wrap64 (bt a0 a1)) (decide ((wrap64 (bt a0 a1)) < 224))) else (malthouseref01_Rune.j0 k a0 a1 (wrap64 (bt a0 a1)) false))) else (none)) else (none)) = some (r1, r2) := h
  clear h
  by_cases c3 : 0 ≤ a1
  · rw [if_pos c3] at H
    have c3b0 : decide (0 ≤ a1) = true := decide_eq_true c3
    clear c3
    by_cases c4 : a1 < (a0.size : Int)
    · rw [if_pos c4] at H
      have c4b0 : decide (a1 < (a0.size : Int)) = true := decide_eq_true c4
      clear c4
      have HC6 := Aside0.mk H
      clear H
      have p5 : 0 ≤ (a1 : Int) := of_decide_eq_true (by first | (with_reducible assumption) | assumption)
      have q5 : a1 < (a0.size : Int) := of_decide_eq_true (by first | (with_reducible assumption) | assumption)
      have hx5 := bt_at a0 a1
      replace p5 := eq_true p5
      replace q5 := eq_true q5
      go_enter Tryd.func61, Tryd.ntmps61
      go_upto_block 0 with (fail)
      go_cut [6, 7, 8] (fun v6 v7 v8 wc => ∃ (kq : Nat) (x6_5 : Int) (x7_5 : Int) (x8_5 : Int), v6 = .int .i64 x6_5 ∧ v7 = .int .i64 x7_5 ∧ v8 = .int .i64 x8_5 ∧ Aside0 (malthouseref01_Rune.j2 kq a0 a1 x6_5 x7_5 x8_5 = some (r1, r2)) ∧ Aside0 (kq ≤ k) ∧ Drawn0 w wc)
      case first =>
        have H := HC6.out
        clear HC6
        by_cases c7 : (wrap64 (bt a0 a1)) < 128
        · rw [if_pos c7] at H
          have c7b0 : decide ((wrap64 (bt a0 a1)) < 128) = true := decide_eq_true c7
          clear c7
          (first | rw [c7b0] | (simp only [i64_w, i32_w]; rw [c7b0]) | skip)
          simp only [Option.some.injEq, Prod.mk.injEq] at H
          obtain ⟨rfl, rfl⟩ := H
          go_wp2
          go_ret2
          exact ⟨by first | rfl | (simp; done) | (simp [*]; done), by repeat (first | exact Drawn0.refl _ | apply Drawn0.step)⟩
        · rw [if_neg c7] at H
          have c7b0 : decide ((wrap64 (bt a0 a1)) < 128) = false := decide_eq_false c7
          clear c7
          (first | rw [c7b0] | (simp only [i64_w, i32_w]; rw [c7b0]) | skip)
          have HC8 := Aside0.mk H
          clear H
          go_upto_region 7 with (fail)
          go_cut [19] (fun v19 wc => ∃ (kq : Nat) (x19_7 : Bool), v19 = .bool x19_7 ∧ Aside0 (malthouseref01_Rune.j0 kq a0 a1 (wrap64 (bt a0 a1)) x19_7 = some (r1, r2)) ∧ Aside0 (kq ≤ k) ∧ Drawn0 w wc)
          case first =>
            have H := HC8.out
            clear HC8
            by_cases c9 : (wrap64 (bt a0 a1)) ≥ 192
            · rw [if_pos c9] at H
              have c9b0 : decide (192 ≤ (wrap64 (bt a0 a1))) = true := decide_eq_true c9
              clear c9
              (first | rw [c9b0] | (simp only [i64_w, i32_w]; rw [c9b0]) | skip)
              have H' := Aside0.mk H
              clear H
              go_wp2
              go_meet
              case rel => exact ⟨_, (decide ((wrap64 (bt a0 a1)) < 224)), (by first | rfl | (simp; done) | (simp [*]; done)), H', ⟨by first | omega | exact Nat.le_refl _⟩, by repeat (first | exact Drawn0.refl _ | apply Drawn0.step)⟩
            · rw [if_neg c9] at H
              have c9b0 : decide (192 ≤ (wrap64 (bt a0 a1))) = false := decide_eq_false c9
              clear c9
              (first | rw [c9b0] | (simp only [i64_w, i32_w]; rw [c9b0]) | skip)
              have H' := Aside0.mk H
              clear H
              go_wp2
              go_meet
              case rel => exact ⟨_, (false), (by first | rfl | (simp; done) | (simp [*]; done)), H', ⟨by first | omega | exact Nat.le_refl _⟩, by repeat (first | exact Drawn0.refl _ | apply Drawn0.step)⟩
          case rest =>
            clear HC8
            try clear p2
            try clear c3
            try clear c3b0
            try clear c4
            try clear c4b0
            try clear p5
            try clear q5
            try clear hx5
            try clear c6
            try clear p6
            try clear c7
            try clear c7b0
            try clear c9
            try clear c9b0
            try clear p5
            try clear q5
            obtain ⟨kq, x19_7, rfl, HA, HJ7, ⟨mc7, rfl⟩⟩ := hcut
            cases kq with
            | zero => exact absurd HA.out (by simp [malthouseref01_Rune.j0])
            | succ kj7 =>
              have H := HA.out
              clear HA
              simp only [malthouseref01_Rune.j0] at H
              by_cases c10 : x19_7 = true
              · subst c10
                have H1 : (malthouseref01_Rune.j2 kj7 a0 a1 (wrap64 ((wrap64 (bt a0 a1)) - 192)) 2 128) = some (r1, r2) := by rw [if_pos rfl] at H; exact H
                clear H
                have H := H1
                clear H1
                have H' := Aside0.mk H
                clear H
                go_wp2
                go_meet
                case rel => exact ⟨_, (wrap64 ((wrap64 (bt a0 a1)) - 192)), (2), (128), (by first | rfl | (simp; done) | (simp [*]; done)), (by first | rfl | (simp; done) | (simp [*]; done)), (by first | rfl | (simp; done) | (simp [*]; done)), H', ⟨by have := HJ7.out; first | omega | exact Nat.le_refl _⟩, by repeat (first | exact Drawn0.refl _ | apply Drawn0.step)⟩
              · replace c10 := Bool.eq_false_iff.mpr c10
                subst c10
                have H1 : (if (wrap64 (bt a0 a1)) ≥ 224 then (malthouseref01_Rune.j1 kj7 a0 a1 (wrap64 (bt a0 a1)) (decide ((wrap64 (bt a0 a1)) < 240))) else (malthouseref01_Rune.j1 kj7 a0 a1 (wrap64 (bt a0 a1)) false)) = some (r1, r2) := by rw [if_neg (show ¬ (false = true) by decide)] at H; exact H
                clear H
                have H := H1
                clear H1
                have HC11 := Aside0.mk H
                clear H
                go_upto_region 11 with (fail)
                go_cut [28] (fun v28 wc => ∃ (kq : Nat) (x28_10 : Bool), v28 = .bool x28_10 ∧ Aside0 (malthouseref01_Rune.j1 kq a0 a1 (wrap64 (bt a0 a1)) x28_10 = some (r1, r2)) ∧ Aside0 (kq ≤ kj7) ∧ Drawn0 w wc)
                case first =>
                  have H := HC11.out
                  clear HC11
                  by_cases c12 : (wrap64 (bt a0 a1)) ≥ 224
                  · rw [if_pos c12] at H
                    have c12b0 : decide (224 ≤ (wrap64 (bt a0 a1))) = true := decide_eq_true c12
                    clear c12
                    (first | rw [c12b0] | (simp only [i64_w, i32_w]; rw [c12b0]) | skip)
                    have H' := Aside0.mk H
                    clear H
                    go_wp2
                    go_meet
                    case rel => exact ⟨_, (decide ((wrap64 (bt a0 a1)) < 240)), (by first | rfl | (simp; done) | (simp [*]; done)), H', ⟨by have := HJ7.out; first | omega | exact Nat.le_refl _⟩, by repeat (first | exact Drawn0.refl _ | apply Drawn0.step)⟩
                  · rw [if_neg c12] at H
                    have c12b0 : decide (224 ≤ (wrap64 (bt a0 a1))) = false := decide_eq_false c12
                    clear c12
                    (first | rw [c12b0] | (simp only [i64_w, i32_w]; rw [c12b0]) | skip)
                    have H' := Aside0.mk H
                    clear H
                    go_wp2
                    go_meet
                    case rel => exact ⟨_, (false), (by first | rfl | (simp; done) | (simp [*]; done)), H', ⟨by have := HJ7.out; first | omega | exact Nat.le_refl _⟩, by repeat (first | exact Drawn0.refl _ | apply Drawn0.step)⟩
                case rest =>
                  clear HC11
                  try clear c1
                  try clear p2
                  try clear c3
                  try clear c3b0
                  try clear c4
                  try clear c4b0
                  try clear p5
                  try clear q5
                  try clear hx5
                  try clear c6
                  try clear p6
                  try clear c7
                  try clear c7b0
                  try clear c9
                  try clear c9b0
                  try clear c10
                  try clear c12
                  try clear c12b0
                  try clear p2
                  try clear p5
                  try clear p6
                  try clear q5
                  obtain ⟨kq, x28_10, rfl, HA, HJ10, ⟨mc10, rfl⟩⟩ := hcut
                  cases kq with
                  | zero => exact absurd HA.out (by simp [malthouseref01_Rune.j1])
                  | succ kj10 =>
                    have H := HA.out
                    clear HA
                    simp only [malthouseref01_Rune.j1] at H
                    by_cases c13 : x28_10 = true
                    · subst c13
                      have H1 : (malthouseref01_Rune.j2 kj10 a0 a1 (wrap64 ((wrap64 (bt a0 a1)) - 224)) 3 2048) = some (r1, r2) := by rw [if_pos rfl] at H; exact H
                      clear H
                      have H := H1
                      clear H1
                      have H' := Aside0.mk H
                      clear H
                      go_wp2
                      go_meet
                      case rel => exact ⟨_, (wrap64 ((wrap64 (bt a0 a1)) - 224)), (3), (2048), (by first | rfl | (simp; done) | (simp [*]; done)), (by first | rfl | (simp; done) | (simp [*]; done)), (by first | rfl | (simp; done) | (simp [*]; done)), H', ⟨by have := HJ7.out; have := HJ10.out; first | omega | exact Nat.le_refl _⟩, by repeat (first | exact Drawn0.refl _ | apply Drawn0.step)⟩
                    · replace c13 := Bool.eq_false_iff.mpr c13
                      subst c13
                      have H1 : (if (wrap64 (bt a0 a1)) ≥ 240 then (if (wrap64 (bt a0 a1)) < 248 then (malthouseref01_Rune.j2 kj10 a0 a1 (wrap64 ((wrap64 (bt a0 a1)) - 240)) 4 65536) else (some (0, 0))) else (some (0, 0))) = some (r1, r2) := by rw [if_neg (show ¬ (false = true) by decide)] at H; exact H
                      clear H
                      have H := H1
                      clear H1
                      by_cases c14 : (wrap64 (bt a0 a1)) ≥ 240
                      · rw [if_pos c14] at H
                        have c14b0 : decide (240 ≤ (wrap64 (bt a0 a1))) = true := decide_eq_true c14
                        clear c14
                        by_cases c15 : (wrap64 (bt a0 a1)) < 248
                        · rw [if_pos c15] at H
                          have c15b0 : decide ((wrap64 (bt a0 a1)) < 248) = true := decide_eq_true c15
                          clear c15
                          have H' := Aside0.mk H
                          clear H
                          go_wp2
                          go_meet
                          case rel => exact ⟨_, (wrap64 ((wrap64 (bt a0 a1)) - 240)), (4), (65536), (by first | rfl | (simp; done) | (simp [*]; done)), (by first | rfl | (simp; done) | (simp [*]; done)), (by first | rfl | (simp; done) | (simp [*]; done)), H', ⟨by have := HJ7.out; have := HJ10.out; first | omega | exact Nat.le_refl _⟩, by repeat (first | exact Drawn0.refl _ | apply Drawn0.step)⟩
                        · rw [if_neg c15] at H
                          have c15b0 : decide ((wrap64 (bt a0 a1)) < 248) = false := decide_eq_false c15
                          clear c15
                          simp only [Option.some.injEq, Prod.mk.injEq] at H
                          obtain ⟨rfl, rfl⟩ := H
                          go_wp2
                          go_ret2
                          exact ⟨by first | rfl | (simp; done) | (simp [*]; done), by repeat (first | exact Drawn0.refl _ | apply Drawn0.step)⟩
                      · rw [if_neg c14] at H
                        have c14b0 : decide (240 ≤ (wrap64 (bt a0 a1))) = false := decide_eq_false c14
                        clear c14
                        simp only [Option.some.injEq, Prod.mk.injEq] at H
                        obtain ⟨rfl, rfl⟩ := H
                        go_wp2
                        go_ret2
                        exact ⟨by first | rfl | (simp; done) | (simp [*]; done), by repeat (first | exact Drawn0.refl _ | apply Drawn0.step)⟩
      case rest =>
        clear HC6
        try clear c1
        try clear p2
        try clear c3
        try clear c3b0
        try clear c4
        try clear c4b0
        try clear p5
        try clear q5
        try clear hx5
        try clear c6
        try clear p6
        try clear c7
        try clear c7b0
        try clear c9
        try clear c9b0
        try clear c10
        try clear c12
        try clear c12b0
        try clear c13
        try clear c14
        try clear c14b0
        try clear c15
        try clear c15b0
        try clear p2
        try clear p5
        try clear p6
        try clear q5
        obtain ⟨kq, x6_5, x7_5, x8_5, rfl, rfl, rfl, HA, HJ5, ⟨mc5, rfl⟩⟩ := hcut
        cases kq with
        | zero => exact absurd HA.out (by simp [malthouseref01_Rune.j2])
        | succ kj5 =>
          have H := HA.out
          clear HA
          simp only [malthouseref01_Rune.j2] at H
          by_cases c16 : x7_5 > (wrap64 ((a0.size : Int) - a1))
          · rw [if_pos c16] at H
            have c16b0 : decide ((wrap64 ((a0.size : Int) - a1)) < x7_5) = true := decide_eq_true c16
            clear c16
            simp only [Option.some.injEq, Prod.mk.injEq] at H
            obtain ⟨rfl, rfl⟩ := H
            go_wp2
            go_ret2
            exact ⟨by first | rfl | (simp; done) | (simp [*]; done), by repeat (first | exact Drawn0.refl _ | apply Drawn0.step)⟩
          · rw [if_neg c16] at H
            have c16b0 : decide ((wrap64 ((a0.size : Int) - a1)) < x7_5) = false := decide_eq_false c16
            clear c16
            have H' := Aside0.mk H
            clear H
            go_wp2
            go_loopg [6, 9] kj5 (fun kq v6 v9 w' => ∃ (x6_2 : Int) (x9_2 : Int), v6 = .int .i64 x6_2 ∧ v9 = .int .i64 x9_2 ∧ Aside0 (malthouseref01_Rune.l0 kq a0 a1 x6_2 x7_5 x8_5 x9_2 = some (r1, r2)) ∧ Aside0 (kq ≤ kj5) ∧ Drawn0 w w')
            case atStart => exact ⟨(x6_5), (1), (by first | rfl | (simp; done) | (simp [*]; done)), (by first | rfl | (simp; done) | (simp [*]; done)), H', ⟨Nat.le_refl _⟩, by repeat (first | exact Drawn0.refl _ | apply Drawn0.step)⟩
            case round =>
              clear H'
              try clear c1
              try clear p2
              try clear c3
              try clear c3b0
              try clear c4
              try clear c4b0
              try clear c5
              try clear p5
              try clear q5
              try clear hx5
              try clear c6
              try clear p6
              try clear c7
              try clear c7b0
              try clear c9
              try clear c9b0
              try clear c10
              try clear c12
              try clear c12b0
              try clear c13
              try clear c14
              try clear c14b0
              try clear c15
              try clear c15b0
              try clear c16
              try clear c16b0
              try clear p2
              try clear p5
              try clear p6
              try clear q5
              obtain ⟨x6_2, x9_2, rfl, rfl, HA, HK2, ⟨m2, rfl⟩⟩ := hrel
              cases gk with
              | zero => exact absurd HA.out (by simp [malthouseref01_Rune.l0])
              | succ k2 =>
                have H := HA.out
                clear HA
                simp only [malthouseref01_Rune.l0] at H
                by_cases c17 : x9_2 < x7_5
                · rw [if_pos c17] at H
                  have c17b0 : decide (x9_2 < x7_5) = true := decide_eq_true c17
                  clear c17
                  obtain ⟨ji18, hji18⟩ : ∃ j_ : Int, (wrap64 (a1 + x9_2)) = j_ := ⟨_, rfl⟩
                  replace H : (if 0 ≤ (ji18) then (if (ji18) < (a0.size : Int) then (if (wrap64 (bt a0 (ji18))) < 128 then (some (0, 0)) else (if (wrap64 (bt a0 (ji18))) ≥ 192 then (some (0, 0)) else (malthouseref01_Rune.l0 k2 a0 a1 (wrap64 ((wrap64 ((wrap64 (64 * x6_2)) + (wrap64 (bt a0 (ji18))))) - 128)) x7_5 x8_5 (wrap64 (x9_2 + 1))))) else (none)) else (none)) = some (r1, r2) := by first | (rw [hji18] at H; exact H) | (simp only [hji18] at H ⊢; exact H)
                  have hji18w : (IntKind.i64.wrap (a1 + x9_2)) = ji18 := (i64_w _).trans hji18
                  by_cases c19 : 0 ≤ (ji18)
                  · rw [if_pos c19] at H
                    have c19b0 : decide (0 ≤ (ji18)) = true := decide_eq_true c19
                    clear c19
                    by_cases c20 : (ji18) < (a0.size : Int)
                    · rw [if_pos c20] at H
                      have c20b0 : decide ((ji18) < (a0.size : Int)) = true := decide_eq_true c20
                      clear c20
                      by_cases c22 : (wrap64 (bt a0 (ji18))) < 128
                      · rw [if_pos c22] at H
                        have c22b0 : decide ((wrap64 (bt a0 (ji18))) < 128) = true := decide_eq_true c22
                        clear c22
                        simp only [Option.some.injEq, Prod.mk.injEq] at H
                        obtain ⟨rfl, rfl⟩ := H
                        have p21 : 0 ≤ ((ji18) : Int) := of_decide_eq_true (by first | (with_reducible assumption) | assumption)
                        have q21 : (ji18) < (a0.size : Int) := of_decide_eq_true (by first | (with_reducible assumption) | assumption)
                        have hx21 := bt_at a0 (ji18)
                        replace p21 := eq_true p21
                        replace q21 := eq_true q21
                        go_wp2
                        go_ret2
                        exact ⟨by first | rfl | (simp; done) | (simp only [← hji18] <;> (first | rfl | simp)) | (simp [*]; done), by repeat (first | exact Drawn0.refl _ | apply Drawn0.step)⟩
                      · rw [if_neg c22] at H
                        have c22b0 : decide ((wrap64 (bt a0 (ji18))) < 128) = false := decide_eq_false c22
                        clear c22
                        by_cases c23 : (wrap64 (bt a0 (ji18))) ≥ 192
                        · rw [if_pos c23] at H
                          have c23b0 : decide (192 ≤ (wrap64 (bt a0 (ji18)))) = true := decide_eq_true c23
                          clear c23
                          simp only [Option.some.injEq, Prod.mk.injEq] at H
                          obtain ⟨rfl, rfl⟩ := H
                          have p21 : 0 ≤ ((ji18) : Int) := of_decide_eq_true (by first | (with_reducible assumption) | assumption)
                          have q21 : (ji18) < (a0.size : Int) := of_decide_eq_true (by first | (with_reducible assumption) | assumption)
                          have hx21 := bt_at a0 (ji18)
                          replace p21 := eq_true p21
                          replace q21 := eq_true q21
                          go_wp2
                          go_ret2
                          exact ⟨by first | rfl | (simp; done) | (simp only [← hji18] <;> (first | rfl | simp)) | (simp [*]; done), by repeat (first | exact Drawn0.refl _ | apply Drawn0.step)⟩
                        · rw [if_neg c23] at H
                          have c23b0 : decide (192 ≤ (wrap64 (bt a0 (ji18)))) = false := decide_eq_false c23
                          clear c23
                          have H' := Aside0.mk H
                          clear H
                          have p21 : 0 ≤ ((ji18) : Int) := of_decide_eq_true (by first | (with_reducible assumption) | assumption)
                          have q21 : (ji18) < (a0.size : Int) := of_decide_eq_true (by first | (with_reducible assumption) | assumption)
                          have hx21 := bt_at a0 (ji18)
                          replace p21 := eq_true p21
                          replace q21 := eq_true q21
                          go_wp2
                          go_roundg k2
                          case measure => have := HJ5.out; have := HK2.out; omega
                          case rel => exact ⟨(wrap64 ((wrap64 ((wrap64 (64 * x6_2)) + (wrap64 (bt a0 (ji18))))) - 128)), (wrap64 (x9_2 + 1)), (by first | rfl | (simp; done) | (simp only [← hji18] <;> (first | rfl | simp)) | (simp [*]; done)), (by first | rfl | (simp; done) | (simp [*]; done)), H', ⟨by have := HJ5.out; have := HK2.out; omega⟩, by repeat (first | exact Drawn0.refl _ | apply Drawn0.step)⟩
                    · rw [if_neg c20] at H
                      exact absurd H (by simp)
                  · rw [if_neg c19] at H
                    exact absurd H (by simp)
                · rw [if_neg c17] at H
                  have c17b0 : decide (x9_2 < x7_5) = false := decide_eq_false c17
                  clear c17
                  by_cases c24 : x6_2 < x8_5
                  · rw [if_pos c24] at H
                    have c24b0 : decide (x6_2 < x8_5) = true := decide_eq_true c24
                    clear c24
                    simp only [Option.some.injEq, Prod.mk.injEq] at H
                    obtain ⟨rfl, rfl⟩ := H
                    go_wp2
                    go_ret2
                    exact ⟨by first | rfl | (simp; done) | (simp [*]; done), by repeat (first | exact Drawn0.refl _ | apply Drawn0.step)⟩
                  · rw [if_neg c24] at H
                    have c24b0 : decide (x6_2 < x8_5) = false := decide_eq_false c24
                    clear c24
                    by_cases c25 : x6_2 > 1114111
                    · rw [if_pos c25] at H
                      have c25b0 : decide (1114111 < x6_2) = true := decide_eq_true c25
                      clear c25
                      simp only [Option.some.injEq, Prod.mk.injEq] at H
                      obtain ⟨rfl, rfl⟩ := H
                      go_wp2
                      go_ret2
                      exact ⟨by first | rfl | (simp; done) | (simp [*]; done), by repeat (first | exact Drawn0.refl _ | apply Drawn0.step)⟩
                    · rw [if_neg c25] at H
                      have c25b0 : decide (1114111 < x6_2) = false := decide_eq_false c25
                      clear c25
                      by_cases c26 : x6_2 ≥ 55296
                      · rw [if_pos c26] at H
                        have c26b0 : decide (55296 ≤ x6_2) = true := decide_eq_true c26
                        clear c26
                        by_cases c27 : x6_2 ≤ 57343
                        · rw [if_pos c27] at H
                          have c27b0 : decide (x6_2 ≤ 57343) = true := decide_eq_true c27
                          clear c27
                          simp only [Option.some.injEq, Prod.mk.injEq] at H
                          obtain ⟨rfl, rfl⟩ := H
                          go_wp2
                          go_ret2
                          exact ⟨by first | rfl | (simp; done) | (simp [*]; done), by repeat (first | exact Drawn0.refl _ | apply Drawn0.step)⟩
                        · rw [if_neg c27] at H
                          have c27b0 : decide (x6_2 ≤ 57343) = false := decide_eq_false c27
                          clear c27
                          simp only [Option.some.injEq, Prod.mk.injEq] at H
                          obtain ⟨rfl, rfl⟩ := H
                          go_wp2
                          go_ret2
                          exact ⟨by first | rfl | (simp; done) | (simp [*]; done), by repeat (first | exact Drawn0.refl _ | apply Drawn0.step)⟩
                      · rw [if_neg c26] at H
                        have c26b0 : decide (55296 ≤ x6_2) = false := decide_eq_false c26
                        clear c26
                        simp only [Option.some.injEq, Prod.mk.injEq] at H
                        obtain ⟨rfl, rfl⟩ := H
                        go_wp2
                        go_ret2
                        exact ⟨by first | rfl | (simp; done) | (simp [*]; done), by repeat (first | exact Drawn0.refl _ | apply Drawn0.step)⟩
    · rw [if_neg c4] at H
      exact absurd H (by simp)
  · rw [if_neg c3] at H
    exact absurd H (by simp)
def malthouseref01_Runes.l0 : Nat → ByteArray → Int → ByteArray → List Int → List Int → Option (ByteArray × List Int × List Int × Bool)
  | 0, _, _, _, _, _ => none
  | k + 1, x0, x5, x133000, x133001, x133002 => if x5 < (x0.size : Int) then ((malthouseref01_Rune.f k x0 x5).bind fun bt133 => (if bt133.2 = 0 then (some (x133000, x133001, x133002, false)) else (if x133001.length < 17592186044416 then (if x133002.length < 17592186044416 then (malthouseref01_Runes.l0 k x0 (wrap64 (x5 + bt133.2)) x133000 (x133001 ++ [bt133.1]) (x133002 ++ [x5])) else (none)) else (none)))) else (if x133002.length < 17592186044416 then (some (x133000, x133001, (x133002 ++ [(x0.size : Int)]), true)) else (none))
def malthouseref01_Runes.f (k : Nat) (a0 : ByteArray) : Option (ByteArray × List Int × List Int × Bool) := malthouseref01_Runes.l0 k a0 0 a0 ([] : List Int) ([] : List Int)
set_option maxHeartbeats 8000000 in
set_option maxRecDepth 100000 in
theorem malthouseref01_Runes.calls (k : Nat) (a0 : ByteArray) (r1 : ByteArray) (r2 : List Int) (r3 : List Int) (r4 : Bool) (w : World) (h : malthouseref01_Runes.f k a0 = some (r1, r2, r3, r4)) :
    Calls Tryd.prog 51 #[.string a0] w fun e w' => ∃ v1_ v2_ : Value, e = .returned (.tuple #[.agg #[.string r1, v1_, v2_], .bool r4]) ∧ Kd.R (Kd.int .i64) 3 w' w.heap.size (fun k_ => some k_ ≠ (v2_ : Value).ownBlock) v1_ r2 ∧ Kd.R (Kd.int .i64) 3 w' w.heap.size (fun k_ => some k_ ≠ (v1_ : Value).ownBlock) v2_ r3 ∧ Below w.heap.size w w' := by
  have hu76 := Tryd.underlying76
  have HB := Aside0.mk (Below.refl w.heap.size w)
  have H : (malthouseref01_Runes.l0 k a0 0 a0 ([] : List Int) ([] : List Int)) = some (r1, r2, r3, r4) := h
  clear h
  have H' := Aside0.mk H
  clear H
  go_enter Tryd.func51, Tryd.ntmps51
  go_wp2_with (first | ((with_reducible refine gate_dst (N := 2) rfl ?_); refine box_event ?hg (N := 2) ?hd (cs := #[.string (⟨#[]⟩ : ByteArray), .slice none 0 0, .slice none 0 0]) (t := 76) ?hr ?_; (case hd => rfl); (case hg => rfl); (case hr => first | (go_simp; done) | (go_simp; rfl)); intro gb131 hg w2 hbox hb; have n0_ := Aside0.mk (below_step (by repeat (first | (with_reducible first | exact HB.out | apply below_alloc | apply pw_below_drewN | apply below_drew1) | exact HB.out)) hb); have n1_ := Aside0.mk (hbox); have n2_ := Aside0.mk ((by rw [hg]; exact (below_size (by repeat (first | (with_reducible first | exact HB.out | apply below_alloc | apply pw_below_drewN | apply below_drew1) | exact HB.out))) : w.heap.size ≤ gb131)); have n3_ := Aside0.mk ((by rw [hg]; exact (below_size (by repeat (first | (with_reducible first | exact HB.out | apply below_alloc | apply pw_below_drewN | apply below_drew1) | exact HB.out))) : w.heap.size ≤ gb131)); clear HB; have HB := n0_; have BK131 := n1_; have GW131 := n2_; have GE131 := n3_; clear n0_ n1_ n2_ n3_; clear hb hbox hg) | ((with_reducible refine gate_dst (N := 4) rfl ?_); refine box_event ?hg (N := 4) ?hd (cs := #[.string (⟨#[]⟩ : ByteArray), .slice none 0 0, .slice none 0 0]) (t := 76) ?hr ?_; (case hd => rfl); (case hg => rfl); (case hr => first | (go_simp; done) | (go_simp; rfl)); intro gb132 hg w3 hbox hb; have n0_ := Aside0.mk (blk_below (g := gb131) (o := .cells #[.string (⟨#[]⟩ : ByteArray), .slice none 0 0, .slice none 0 0] 76 (0, 0)) (by (with_reducible repeat (first | refine blk_drewN ?_ _ | refine blk_drew ?_ | refine blk_alloc ?_ _)); exact BK131.out) hb); have n1_ := Aside0.mk (below_step (by repeat (first | (with_reducible first | exact HB.out | apply below_alloc | apply pw_below_drewN | apply below_drew1 | refine below_set ?_ GE131.out) | exact HB.out)) hb); have n2_ := Aside0.mk (hbox); have n3_ := Aside0.mk ((by rw [hg]; exact (below_size (by repeat (first | (with_reducible first | exact HB.out | apply below_alloc | apply pw_below_drewN | apply below_drew1 | refine below_set ?_ GE131.out) | exact HB.out))) : w.heap.size ≤ gb132)); have n4_ := Aside0.mk ((by rw [hg]; exact (below_size (by repeat (first | (with_reducible first | exact HB.out | apply below_alloc | apply pw_below_drewN | apply below_drew1 | refine below_set ?_ GE131.out) | exact HB.out))) : w.heap.size ≤ gb132)); have n5_ := Aside0.mk ((by rw [hg]; exact Nat.ne_of_lt (blk_lt (g := gb131) (o := .cells #[.string (⟨#[]⟩ : ByteArray), .slice none 0 0, .slice none 0 0] 76 (0, 0)) (by (with_reducible repeat (first | refine blk_drewN ?_ _ | refine blk_drew ?_ | refine blk_alloc ?_ _)); exact BK131.out)) : gb131 ≠ gb132)); have n6_ := Aside0.mk ((by rw [hg]; exact Nat.ne_of_gt (blk_lt (g := gb131) (o := .cells #[.string (⟨#[]⟩ : ByteArray), .slice none 0 0, .slice none 0 0] 76 (0, 0)) (by (with_reducible repeat (first | refine blk_drewN ?_ _ | refine blk_drew ?_ | refine blk_alloc ?_ _)); exact BK131.out)) : gb132 ≠ gb131)); clear BK131; clear HB; have BK131 := n0_; have HB := n1_; have BK132 := n2_; have GW132 := n3_; have GE132 := n4_; have NB131_132 := n5_; have NB132_131 := n6_; clear n0_ n1_ n2_ n3_ n4_ n5_ n6_; clear hb hbox hg; have hnb4 := NB132_131.out; have hnc4 := NB131_132.out; have hcz5_0 : w3.cell? ⟨gb132, 0, none⟩ = some (.string (⟨#[]⟩ : ByteArray)) := (blk_cell BK132.out 0).trans rfl; have hcz5_1 : w3.cell? ⟨gb132, 1, none⟩ = some (.slice none 0 0) := (blk_cell BK132.out 1).trans rfl; have hcz5_2 : w3.cell? ⟨gb132, 2, none⟩ = some (.slice none 0 0) := (blk_cell BK132.out 2).trans rfl; have hfz5_0 := blk_frozen BK132.out 0; have hfz5_1 := blk_frozen BK132.out 1; have hfz5_2 := blk_frozen BK132.out 2))
  go_loopg [5] k (fun kq v5 w' => ∃ (x5_1 : Int) (x132000_1 : ByteArray) (x133001_1 : List Int) (x133002_1 : List Int) (u133001 : Value) (u133002 : Value), v5 = .int .i64 x5_1 ∧ Aside0 (malthouseref01_Runes.l0 kq a0 x5_1 a0 x133001_1 x133002_1 = some (r1, r2, r3, r4)) ∧ Aside0 (kq ≤ k) ∧ Aside0 (Kd.R (Kd.int .i64) 3 w' w.heap.size (fun k_ => some k_ ≠ (u133002 : Value).ownBlock) u133001 x133001_1) ∧ Aside0 (Kd.R (Kd.int .i64) 3 w' w.heap.size (fun k_ => some k_ ≠ (u133001 : Value).ownBlock) u133002 x133002_1) ∧ Aside0 (w'.heap[gb131]? = some (.cells #[.string x132000_1, (.slice none 0 0), (.slice none 0 0)] 76 (0, 0))) ∧ Aside0 (w'.heap[gb132]? = some (.cells #[.string a0, u133001, u133002] 76 (0, 0))) ∧ Aside0 (Below w.heap.size w w'))
  case atStart => exact ⟨(0), ((⟨#[]⟩ : ByteArray)), (([] : List Int)), (([] : List Int)), (.slice none 0 0), (.slice none 0 0), (by first | rfl | (simp; done) | (simp [*]; done)), H', ⟨Nat.le_refl _⟩, ⟨by first | exact Kd.R_nil _ _ _ _ _ | exact Kd.N_nil _ _ _ _ _ | exact Kd.V_nil _ _ _ _ _ | exact Kd.Q_nil _ _ _ _ _ | exact Kd.S_nil _ _ _ _ _⟩, ⟨by first | exact Kd.R_nil _ _ _ _ _ | exact Kd.N_nil _ _ _ _ _ | exact Kd.V_nil _ _ _ _ _ | exact Kd.Q_nil _ _ _ _ _ | exact Kd.S_nil _ _ _ _ _⟩, ⟨by (with_reducible repeat (first | refine blk_drewN ?_ _ | refine blk_drew ?_ | refine blk_alloc ?_ _)); refine blk_far ?_ NB131_132.out _; (with_reducible repeat (first | refine blk_drewN ?_ _ | refine blk_drew ?_ | refine blk_alloc ?_ _)); refine blk_far ?_ NB131_132.out _; (with_reducible repeat (first | refine blk_drewN ?_ _ | refine blk_drew ?_ | refine blk_alloc ?_ _)); refine blk_far ?_ NB131_132.out _; (with_reducible repeat (first | refine blk_drewN ?_ _ | refine blk_drew ?_ | refine blk_alloc ?_ _)); exact BK131.out⟩, ⟨by (with_reducible repeat (first | refine blk_drewN ?_ _ | refine blk_drew ?_ | refine blk_alloc ?_ _)); refine blk_put (cs := #[.string a0, .slice none 0 0, .slice none 0 0]) ?_ 2 _ rfl; (with_reducible repeat (first | refine blk_drewN ?_ _ | refine blk_drew ?_ | refine blk_alloc ?_ _)); refine blk_put (cs := #[.string a0, .slice none 0 0, .slice none 0 0]) ?_ 1 _ rfl; (with_reducible repeat (first | refine blk_drewN ?_ _ | refine blk_drew ?_ | refine blk_alloc ?_ _)); refine blk_put (cs := #[.string (⟨#[]⟩ : ByteArray), .slice none 0 0, .slice none 0 0]) ?_ 0 _ rfl; (with_reducible repeat (first | refine blk_drewN ?_ _ | refine blk_drew ?_ | refine blk_alloc ?_ _)); exact BK132.out⟩, ⟨by repeat (first | (with_reducible first | exact HB.out | apply below_alloc | apply pw_below_drewN | apply below_drew1 | refine below_set ?_ GE131.out | refine below_set ?_ GE132.out) | exact HB.out)⟩⟩
  case round =>
    clear H'
    try clear p2
    try clear c4
    try clear c5
    try clear hcz5_0
    try clear hcz5_1
    try clear hcz5_2
    try clear hfz5_0
    try clear hfz5_1
    try clear hfz5_2
    obtain ⟨x5_1, x132000_1, x133001_1, x133002_1, u133001, u133002, rfl, HA, HK1, HO_133001, HO_133002, BK131, BK132, HB⟩ := hrel
    cases gk with
    | zero => exact absurd HA.out (by simp [malthouseref01_Runes.l0])
    | succ k1 =>
      have H := HA.out
      clear HA
      simp only [malthouseref01_Runes.l0] at H
      by_cases c6 : x5_1 < (a0.size : Int)
      · rw [if_pos c6] at H
        have c6b0 : decide (x5_1 < (a0.size : Int)) = true := decide_eq_true c6
        clear c6
        replace H := Option.bind_eq_some_iff.mp H
        obtain ⟨⟨t133, t134⟩, A70, H⟩ := H
        replace H : (if t134 = 0 then (some (a0, x133001_1, x133002_1, false)) else (if x133001_1.length < 17592186044416 then (if x133002_1.length < 17592186044416 then (malthouseref01_Runes.l0 k1 a0 (wrap64 (x5_1 + t134)) a0 (x133001_1 ++ [t133]) (x133002_1 ++ [x5_1])) else (none)) else (none))) = some (r1, r2, r3, r4) := H
        have A7 := Aside0.mk A70
        clear A70
        by_cases c8 : t134 = 0
        · rw [if_pos c8] at H
          have c8b0 : (t134 == 0) = true := beq_iff_eq.mpr c8
          have c8b1 : (t134 != 0) = false := bne_eq_false_iff_eq.mpr c8
          clear c8
          simp only [Option.some.injEq, Prod.mk.injEq] at H
          obtain ⟨rfl, rfl, rfl, rfl⟩ := H
          go_wp2_with (first | ((with_reducible refine gate_callee (f := 61) rfl ?_); refine goesL_ (some 17) rfl rfl Tryd.func61 (by kernel_rfl) rfl #[.string a0, .int .i64 x5_1] rfl (by (try simp only [List.map_toArray, List.map_cons, List.map_nil]); first | done | rfl | (simp only [List.length_drop, List.length_take]; rfl)) ?_; (with_reducible refine (malthouseref01_Rune.calls k1 a0 x5_1 t133 t134 _ A7.out).mono ?_); rintro e w' ⟨rfl, ⟨nd, rfl⟩⟩; refine ⟨_, rfl, ?_⟩; (try (rw [drewN_self wr]; generalize hq_ : World.drewN wr _ = wr; have n0_ : Aside0 (Kd.R (Kd.int .i64) 3 wr w.heap.size (fun k_ => some k_ ≠ (u133002 : Value).ownBlock) u133001 x133001_1) := ⟨by rw [← hq_]; exact (by (with_reducible repeat (first | apply Kd.R_alloc | apply Kd.R_drewN | apply Kd.R_drew)); exact HO_133001.out)⟩; have n1_ : Aside0 (Kd.R (Kd.int .i64) 3 wr w.heap.size (fun k_ => some k_ ≠ (u133001 : Value).ownBlock) u133002 x133002_1) := ⟨by rw [← hq_]; exact (by (with_reducible repeat (first | apply Kd.R_alloc | apply Kd.R_drewN | apply Kd.R_drew)); exact HO_133002.out)⟩; have n2_ : Aside0 (wr.heap[gb131]? = some (.cells #[.string x132000_1, .slice none 0 0, .slice none 0 0] 76 (0, 0))) := ⟨by rw [← hq_]; exact (by (with_reducible repeat (first | refine blk_drewN ?_ _ | refine blk_drew ?_ | refine blk_alloc ?_ _)); exact BK131.out)⟩; have n3_ : Aside0 (wr.heap[gb132]? = some (.cells #[.string a0, u133001, u133002] 76 (0, 0))) := ⟨by rw [← hq_]; exact (by (with_reducible repeat (first | refine blk_drewN ?_ _ | refine blk_drew ?_ | refine blk_alloc ?_ _)); exact BK132.out)⟩; have n4_ : Aside0 (Below w.heap.size w wr) := ⟨by rw [← hq_]; exact (by repeat (first | (with_reducible first | exact HB.out | apply below_alloc | apply pw_below_drewN | apply below_drew1 | refine below_set ?_ GE131.out | refine below_set ?_ GE132.out) | exact HB.out))⟩; clear HO_133001 HO_133002 BK131 BK132 HB hq_; have HO_133001 := n0_; have HO_133002 := n1_; have BK131 := n2_; have BK132 := n3_; have HB := n4_; clear n0_ n1_ n2_ n3_ n4_)); have hnb9 := NB132_131.out; have hnc9 := NB131_132.out; have hcz10_0 : wr.cell? ⟨gb132, 0, none⟩ = some (.string a0) := (blk_cell BK132.out 0).trans rfl; have hcz10_1 : wr.cell? ⟨gb132, 1, none⟩ = some (u133001) := (blk_cell BK132.out 1).trans rfl; have hcz10_2 : wr.cell? ⟨gb132, 2, none⟩ = some (u133002) := (blk_cell BK132.out 2).trans rfl; have hfz10_0 := blk_frozen BK132.out 0; have hfz10_1 := blk_frozen BK132.out 1; have hfz10_2 := blk_frozen BK132.out 2; have hcz11_0 : wr.cell? ⟨gb131, 0, none⟩ = some (.string x132000_1) := (blk_cell BK131.out 0).trans rfl; have hcz11_1 : wr.cell? ⟨gb131, 1, none⟩ = some (.slice none 0 0) := (blk_cell BK131.out 1).trans rfl; have hcz11_2 : wr.cell? ⟨gb131, 2, none⟩ = some (.slice none 0 0) := (blk_cell BK131.out 2).trans rfl; have hfz11_0 := blk_frozen BK131.out 0; have hfz11_1 := blk_frozen BK131.out 1; have hfz11_2 := blk_frozen BK131.out 2; obtain ⟨Ao12, co12, eo12⟩ := Kd.R_slice HO_133001.out; subst eo12; obtain ⟨Ao13, co13, eo13⟩ := Kd.R_slice HO_133002.out; subst eo13))
          refine bodyPost_ret (results_ct rfl _ _ gb131 76 #[.string a0, .slice Ao12 x133001_1.length co12, .slice Ao13 x133002_1.length co13] (0, 0) _ rfl (by (with_reducible repeat (first | refine blk_drewN ?_ _ | refine blk_drew ?_ | refine blk_alloc ?_ _)); refine blk_put (cs := #[.string a0, .slice Ao12 x133001_1.length co12, .slice none 0 0]) ?_ 2 _ rfl; (with_reducible repeat (first | refine blk_drewN ?_ _ | refine blk_drew ?_ | refine blk_alloc ?_ _)); refine blk_put (cs := #[.string a0, .slice none 0 0, .slice none 0 0]) ?_ 1 _ rfl; (with_reducible repeat (first | refine blk_drewN ?_ _ | refine blk_drew ?_ | refine blk_alloc ?_ _)); refine blk_put (cs := #[.string x132000_1, .slice none 0 0, .slice none 0 0]) ?_ 0 _ rfl; (with_reducible repeat (first | refine blk_drewN ?_ _ | refine blk_drew ?_ | refine blk_alloc ?_ _)); exact BK131.out) Tryd.underlying76 rfl (by kernel_rfl)) rfl ?_
          exact ⟨_, _, by first | rfl | (simp [errW_none, errW_some] <;> rfl) | (simp [*, errW_none, errW_some] <;> rfl), by (with_reducible repeat (first | apply Kd.R_alloc | apply Kd.R_drewN | apply Kd.R_drew)); exact Kd.R_mono (Kd.R_far (p := ⟨gb131, 2, none⟩) (Kd.R_far (p := ⟨gb131, 1, none⟩) (Kd.R_far (p := ⟨gb131, 0, none⟩) (Kd.R_types HO_133001.out BK131.out (by decide)) (fun _ hk => hk.2) (.string a0)) (fun _ hk => hk.2) (.slice Ao12 x133001_1.length co12)) (fun _ hk => hk.2) (.slice Ao13 x133002_1.length co13)) (fun _ hk => hk.1), by (with_reducible repeat (first | apply Kd.R_alloc | apply Kd.R_drewN | apply Kd.R_drew)); exact Kd.R_mono (Kd.R_far (p := ⟨gb131, 2, none⟩) (Kd.R_far (p := ⟨gb131, 1, none⟩) (Kd.R_far (p := ⟨gb131, 0, none⟩) (Kd.R_types HO_133002.out BK131.out (by decide)) (fun _ hk => hk.2) (.string a0)) (fun _ hk => hk.2) (.slice Ao12 x133001_1.length co12)) (fun _ hk => hk.2) (.slice Ao13 x133002_1.length co13)) (fun _ hk => hk.1), by repeat (first | (with_reducible first | exact HB.out | apply below_alloc | apply pw_below_drewN | apply below_drew1 | refine below_set ?_ GE131.out | refine below_set ?_ GE132.out) | exact HB.out)⟩
        · rw [if_neg c8] at H
          have c8b0 : (t134 == 0) = false := beq_eq_false_iff_ne.mpr c8
          have c8b1 : (t134 != 0) = true := bne_iff_ne.mpr c8
          by_cases c14 : x133001_1.length < 17592186044416
          · rw [if_pos c14] at H
            have LMc14 := Aside0.mk c14
            clear c14
            obtain ⟨y135, hy135⟩ : ∃ y_ : List Int, y_ = (x133001_1 ++ [t133]) := ⟨_, rfl⟩
            replace H : (if x133002_1.length < 17592186044416 then (malthouseref01_Runes.l0 k1 a0 (wrap64 (x5_1 + t134)) a0 y135 (x133002_1 ++ [x5_1])) else (none)) = some (r1, r2, r3, r4) := by first | (rw [hy135]; with_reducible exact H) | (have H2_ := (Option.bind_some _ _).symm.trans H; rw [hy135]; with_reducible exact H2_) | (have H2_ := (Option.bind_some _ _).symm.trans H; with_reducible exact H2_) | with_reducible exact H | (rw [hy135]; exact H) | exact H
            have Ny135 := Aside0.mk hy135
            clear hy135
            by_cases c15 : x133002_1.length < 17592186044416
            · rw [if_pos c15] at H
              have LMc15 := Aside0.mk c15
              clear c15
              obtain ⟨y138, hy138⟩ : ∃ y_ : List Int, y_ = (x133002_1 ++ [x5_1]) := ⟨_, rfl⟩
              replace H : (malthouseref01_Runes.l0 k1 a0 (wrap64 (x5_1 + t134)) a0 y135 y138) = some (r1, r2, r3, r4) := by first | (rw [hy138]; with_reducible exact H) | (have H2_ := (Option.bind_some _ _).symm.trans H; rw [hy138]; with_reducible exact H2_) | (have H2_ := (Option.bind_some _ _).symm.trans H; with_reducible exact H2_) | with_reducible exact H | (rw [hy138]; exact H) | exact H
              have Ny138 := Aside0.mk hy138
              clear hy138
              have H' := Aside0.mk H
              clear H
              go_wp2_with (first | ((with_reducible refine gate_callee (f := 61) rfl ?_); refine goesL_ (some 17) rfl rfl Tryd.func61 (by kernel_rfl) rfl #[.string a0, .int .i64 x5_1] rfl (by (try simp only [List.map_toArray, List.map_cons, List.map_nil]); first | done | rfl | (simp only [List.length_drop, List.length_take]; rfl)) ?_; (with_reducible refine (malthouseref01_Rune.calls k1 a0 x5_1 t133 t134 _ A7.out).mono ?_); rintro e w' ⟨rfl, ⟨nd, rfl⟩⟩; refine ⟨_, rfl, ?_⟩; (try (rw [drewN_self wr]; generalize hq_ : World.drewN wr _ = wr; have n0_ : Aside0 (Kd.R (Kd.int .i64) 3 wr w.heap.size (fun k_ => some k_ ≠ (u133002 : Value).ownBlock) u133001 x133001_1) := ⟨by rw [← hq_]; exact (by (with_reducible repeat (first | apply Kd.R_alloc | apply Kd.R_drewN | apply Kd.R_drew)); exact HO_133001.out)⟩; have n1_ : Aside0 (Kd.R (Kd.int .i64) 3 wr w.heap.size (fun k_ => some k_ ≠ (u133001 : Value).ownBlock) u133002 x133002_1) := ⟨by rw [← hq_]; exact (by (with_reducible repeat (first | apply Kd.R_alloc | apply Kd.R_drewN | apply Kd.R_drew)); exact HO_133002.out)⟩; have n2_ : Aside0 (wr.heap[gb131]? = some (.cells #[.string x132000_1, .slice none 0 0, .slice none 0 0] 76 (0, 0))) := ⟨by rw [← hq_]; exact (by (with_reducible repeat (first | refine blk_drewN ?_ _ | refine blk_drew ?_ | refine blk_alloc ?_ _)); exact BK131.out)⟩; have n3_ : Aside0 (wr.heap[gb132]? = some (.cells #[.string a0, u133001, u133002] 76 (0, 0))) := ⟨by rw [← hq_]; exact (by (with_reducible repeat (first | refine blk_drewN ?_ _ | refine blk_drew ?_ | refine blk_alloc ?_ _)); exact BK132.out)⟩; have n4_ : Aside0 (Below w.heap.size w wr) := ⟨by rw [← hq_]; exact (by repeat (first | (with_reducible first | exact HB.out | apply below_alloc | apply pw_below_drewN | apply below_drew1 | refine below_set ?_ GE131.out | refine below_set ?_ GE132.out) | exact HB.out))⟩; clear HO_133001 HO_133002 BK131 BK132 HB hq_; have HO_133001 := n0_; have HO_133002 := n1_; have BK131 := n2_; have BK132 := n3_; have HB := n4_; clear n0_ n1_ n2_ n3_ n4_)); have hnb16 := NB132_131.out; have hnc16 := NB131_132.out; have hcz17_0 : wr.cell? ⟨gb132, 0, none⟩ = some (.string a0) := (blk_cell BK132.out 0).trans rfl; have hcz17_1 : wr.cell? ⟨gb132, 1, none⟩ = some (u133001) := (blk_cell BK132.out 1).trans rfl; have hcz17_2 : wr.cell? ⟨gb132, 2, none⟩ = some (u133002) := (blk_cell BK132.out 2).trans rfl; have hfz17_0 := blk_frozen BK132.out 0; have hfz17_1 := blk_frozen BK132.out 1; have hfz17_2 := blk_frozen BK132.out 2) | ((with_reducible refine gate_builtin (b := .append) (xs := #[.tmp 24, .tmp 26]) rfl ?_); at_builtin; refine Kd.R_append (Kd.int .i64) (w0 := w) w.heap.size rfl (.tmp 24) (.tmp 26) 74 3 (.int .i64 0) 8 rfl Tryd.underlying74 info3 rfl (by decide) (by omega) u133001 x133001_1 t133 [.int .i64 t133] (fun k_ => some k_ ≠ (u133002 : Value).ownBlock) (fun _ => False) rfl rfl ?aP (fun _ hk => hk.elim) ?aF ?aO ?aB ?aS ?aL ?_; (case aP => exact rfl); (case aB => exact (by repeat (first | (with_reducible first | exact HB.out | apply below_alloc | apply pw_below_drewN | apply below_drew1 | refine below_set ?_ GE131.out | refine below_set ?_ GE132.out) | exact HB.out))); (case aF => exact (fun k_ hk => Kd.fresh' (Kd.R_lt (by (with_reducible repeat (first | apply Kd.R_alloc | apply Kd.R_drewN | apply Kd.R_drew)); exact HO_133002.out)) k_ hk)); (case aO => exact (by (with_reducible repeat (first | apply Kd.R_alloc | apply Kd.R_drewN | apply Kd.R_drew)); exact HO_133001.out)); (case aS => exact (below_size (by repeat (first | (with_reducible first | exact HB.out | apply below_alloc | apply pw_below_drewN | apply below_drew1 | refine below_set ?_ GE131.out | refine below_set ?_ GE132.out) | exact HB.out)))); (case aL => have := LMc14.out; omega); intro v136 w18 ho hb hg hat; rw [← Ny135.out] at ho; have n0_ := Aside0.mk (Kd.R_after (ok := (fun _ => True)) (by (with_reducible repeat (first | apply Kd.R_alloc | apply Kd.R_drewN | apply Kd.R_drew)); exact Kd.R_mono HO_133002.out (fun _ hk => ⟨trivial, hk⟩)) hg hat); have n1_ := Aside0.mk (blk_grown (g := gb131) (o := .cells #[.string x132000_1, .slice none 0 0, .slice none 0 0] 76 (0, 0)) (by (with_reducible repeat (first | refine blk_drewN ?_ _ | refine blk_drew ?_ | refine blk_alloc ?_ _)); exact BK131.out) hg (Kd.R_ne HO_133001.out BK131.out (by decide))); have n2_ := Aside0.mk (blk_grown (g := gb132) (o := .cells #[.string a0, u133001, u133002] 76 (0, 0)) (by (with_reducible repeat (first | refine blk_drewN ?_ _ | refine blk_drew ?_ | refine blk_alloc ?_ _)); exact BK132.out) hg (Kd.R_ne HO_133001.out BK132.out (by decide))); have n3_ := Aside0.mk (hb); have n4_ := Aside0.mk (ho); clear HO_133002; clear BK131; clear BK132; clear HB; clear HO_133001; have HO_133002 := n0_; have BK131 := n1_; have BK132 := n2_; have HB := n3_; have HO137 := n4_; clear n0_ n1_ n2_ n3_ n4_; clear ho hb hg hat; obtain ⟨Ao19, co19, eo19⟩ := Kd.R_slice HO137.out; subst eo19; have hcz20_0 : w18.cell? ⟨gb132, 0, none⟩ = some (.string a0) := (blk_cell BK132.out 0).trans rfl; have hcz20_1 : w18.cell? ⟨gb132, 1, none⟩ = some (u133001) := (blk_cell BK132.out 1).trans rfl; have hcz20_2 : w18.cell? ⟨gb132, 2, none⟩ = some (u133002) := (blk_cell BK132.out 2).trans rfl; have hfz20_0 := blk_frozen BK132.out 0; have hfz20_1 := blk_frozen BK132.out 1; have hfz20_2 := blk_frozen BK132.out 2) | ((with_reducible refine gate_builtin (b := .append) (xs := #[.tmp 30, .tmp 32]) rfl ?_); at_builtin; refine Kd.R_append (Kd.int .i64) (w0 := w) w.heap.size rfl (.tmp 30) (.tmp 32) 74 3 (.int .i64 0) 8 rfl Tryd.underlying74 info3 rfl (by decide) (by omega) u133002 x133002_1 x5_1 [.int .i64 x5_1] (fun k_ => some k_ ≠ (.slice Ao19 y135.length co19 : Value).ownBlock) (fun _ => False) rfl (by first | (go_simp; done) | (go_simp; rfl)) ?aP (fun _ hk => hk.elim) ?aF ?aO ?aB ?aS ?aL ?_; (case aP => exact rfl); (case aB => exact (by repeat (first | (with_reducible first | exact HB.out | apply below_alloc | apply pw_below_drewN | apply below_drew1 | refine below_set ?_ GE131.out | refine below_set ?_ GE132.out) | exact HB.out))); (case aF => exact (fun k_ hk => Kd.fresh' (Kd.R_lt (by (with_reducible repeat (first | apply Kd.R_alloc | apply Kd.R_drewN | apply Kd.R_drew)); exact (Kd.R_mono (Kd.R_far (p := ⟨gb132, 1, none⟩) (Kd.R_types HO137.out BK132.out (by decide)) (fun _ hk => hk.2) (.slice Ao19 y135.length co19)) (fun _ h_ => h_.1)))) k_ hk)); (case aO => exact (by (with_reducible repeat (first | apply Kd.R_alloc | apply Kd.R_drewN | apply Kd.R_drew)); exact Kd.R_mono (Kd.R_far (p := ⟨gb132, 1, none⟩) (Kd.R_types HO_133002.out BK132.out (by decide)) (fun _ hk => hk.2) (.slice Ao19 y135.length co19)) (fun _ hk => hk.1.2))); (case aS => exact (below_size (by repeat (first | (with_reducible first | exact HB.out | apply below_alloc | apply pw_below_drewN | apply below_drew1 | refine below_set ?_ GE131.out | refine below_set ?_ GE132.out) | exact HB.out)))); (case aL => have := LMc15.out; omega); intro v139 w21 ho hb hg hat; rw [← Ny138.out] at ho; have n0_ := Aside0.mk (blk_grown (g := gb131) (o := .cells #[.string x132000_1, .slice none 0 0, .slice none 0 0] 76 (0, 0)) (by (with_reducible repeat (first | refine blk_drewN ?_ _ | refine blk_drew ?_ | refine blk_alloc ?_ _)); refine blk_far ?_ NB131_132.out _; (with_reducible repeat (first | refine blk_drewN ?_ _ | refine blk_drew ?_ | refine blk_alloc ?_ _)); exact BK131.out) hg (Kd.R_ne HO_133002.out BK131.out (by decide))); have n1_ := Aside0.mk (blk_grown (g := gb132) (o := .cells #[.string a0, .slice Ao19 y135.length co19, u133002] 76 (0, 0)) (by (with_reducible repeat (first | refine blk_drewN ?_ _ | refine blk_drew ?_ | refine blk_alloc ?_ _)); refine blk_put (cs := #[.string a0, u133001, u133002]) ?_ 1 _ rfl; (with_reducible repeat (first | refine blk_drewN ?_ _ | refine blk_drew ?_ | refine blk_alloc ?_ _)); exact BK132.out) hg (Kd.R_ne HO_133002.out BK132.out (by decide))); have n2_ := Aside0.mk (Kd.R_after (ok := (fun _ => True)) (by (with_reducible repeat (first | apply Kd.R_alloc | apply Kd.R_drewN | apply Kd.R_drew)); exact Kd.R_mono (Kd.R_far (p := ⟨gb132, 1, none⟩) (Kd.R_types HO137.out BK132.out (by decide)) (fun _ hk => hk.2) (.slice Ao19 y135.length co19)) (fun _ hk => ⟨trivial, hk.1⟩)) hg hat); have n3_ := Aside0.mk (hb); have n4_ := Aside0.mk (ho); clear BK131; clear BK132; clear HO137; clear HB; clear HO_133002; have BK131 := n0_; have BK132 := n1_; have HO137 := n2_; have HB := n3_; have HO140 := n4_; clear n0_ n1_ n2_ n3_ n4_; clear ho hb hg hat; obtain ⟨Ao22, co22, eo22⟩ := Kd.R_slice HO140.out; subst eo22; have hcz23_0 : w21.cell? ⟨gb132, 0, none⟩ = some (.string a0) := (blk_cell BK132.out 0).trans rfl; have hcz23_1 : w21.cell? ⟨gb132, 1, none⟩ = some (.slice Ao19 y135.length co19) := (blk_cell BK132.out 1).trans rfl; have hcz23_2 : w21.cell? ⟨gb132, 2, none⟩ = some (u133002) := (blk_cell BK132.out 2).trans rfl; have hfz23_0 := blk_frozen BK132.out 0; have hfz23_1 := blk_frozen BK132.out 1; have hfz23_2 := blk_frozen BK132.out 2))
              go_roundg k1
              case measure => have := HK1.out; omega
              case rel => exact ⟨(wrap64 (x5_1 + t134)), (x132000_1), (y135), (y138), (.slice Ao19 y135.length co19), (.slice Ao22 y138.length co22), (by first | rfl | (simp; done) | (simp [*]; done)), H', ⟨by have := HK1.out; omega⟩, ⟨by (with_reducible repeat (first | apply Kd.R_alloc | apply Kd.R_drewN | apply Kd.R_drew)); exact Kd.R_mono (Kd.R_far (p := ⟨gb132, 2, none⟩) (Kd.R_types HO137.out BK132.out (by decide)) (fun _ hk => hk.2) (.slice Ao22 y138.length co22)) (fun _ hk => hk.1.2)⟩, ⟨by (with_reducible repeat (first | apply Kd.R_alloc | apply Kd.R_drewN | apply Kd.R_drew)); exact Kd.R_mono (Kd.R_far (p := ⟨gb132, 2, none⟩) (Kd.R_types HO140.out BK132.out (by decide)) (fun _ hk => hk.2) (.slice Ao22 y138.length co22)) (fun _ hk => hk.1)⟩, ⟨by (with_reducible repeat (first | refine blk_drewN ?_ _ | refine blk_drew ?_ | refine blk_alloc ?_ _)); refine blk_far ?_ NB131_132.out _; (with_reducible repeat (first | refine blk_drewN ?_ _ | refine blk_drew ?_ | refine blk_alloc ?_ _)); exact BK131.out⟩, ⟨by (with_reducible repeat (first | refine blk_drewN ?_ _ | refine blk_drew ?_ | refine blk_alloc ?_ _)); refine blk_put (cs := #[.string a0, .slice Ao19 y135.length co19, u133002]) ?_ 2 _ rfl; (with_reducible repeat (first | refine blk_drewN ?_ _ | refine blk_drew ?_ | refine blk_alloc ?_ _)); exact BK132.out⟩, ⟨by repeat (first | (with_reducible first | exact HB.out | apply below_alloc | apply pw_below_drewN | apply below_drew1 | refine below_set ?_ GE131.out | refine below_set ?_ GE132.out) | exact HB.out)⟩⟩
            · rw [if_neg c15] at H
              exact absurd H (by simp)
          · rw [if_neg c14] at H
            exact absurd H (by simp)
      · rw [if_neg c6] at H
        have c6b0 : decide (x5_1 < (a0.size : Int)) = false := decide_eq_false c6
        clear c6
        by_cases c24 : x133002_1.length < 17592186044416
        · rw [if_pos c24] at H
          have LMc24 := Aside0.mk c24
          clear c24
          obtain ⟨y141, hy141⟩ : ∃ y_ : List Int, y_ = (x133002_1 ++ [(a0.size : Int)]) := ⟨_, rfl⟩
          replace H : (some (a0, x133001_1, y141, true)) = some (r1, r2, r3, r4) := by first | (rw [hy141]; with_reducible exact H) | (have H2_ := (Option.bind_some _ _).symm.trans H; rw [hy141]; with_reducible exact H2_) | (have H2_ := (Option.bind_some _ _).symm.trans H; with_reducible exact H2_) | with_reducible exact H | (rw [hy141]; exact H) | exact H
          have Ny141 := Aside0.mk hy141
          clear hy141
          simp only [Option.some.injEq, Prod.mk.injEq] at H
          obtain ⟨rfl, rfl, rfl, rfl⟩ := H
          have hnb25 := NB132_131.out
          have hnc25 := NB131_132.out
          have hcz26_0 : wr.cell? ⟨gb132, 0, none⟩ = some (.string a0) := (blk_cell BK132.out 0).trans rfl
          have hcz26_1 : wr.cell? ⟨gb132, 1, none⟩ = some (u133001) := (blk_cell BK132.out 1).trans rfl
          have hcz26_2 : wr.cell? ⟨gb132, 2, none⟩ = some (u133002) := (blk_cell BK132.out 2).trans rfl
          have hfz26_0 := blk_frozen BK132.out 0
          have hfz26_1 := blk_frozen BK132.out 1
          have hfz26_2 := blk_frozen BK132.out 2
          go_wp2_with (first | ((with_reducible refine gate_builtin (b := .append) (xs := #[.tmp 39, .tmp 42]) rfl ?_); at_builtin; refine Kd.R_append (Kd.int .i64) (w0 := w) w.heap.size rfl (.tmp 39) (.tmp 42) 74 3 (.int .i64 0) 8 rfl Tryd.underlying74 info3 rfl (by decide) (by omega) u133002 x133002_1 (a0.size : Int) [.int .i64 (a0.size : Int)] (fun k_ => some k_ ≠ (u133001 : Value).ownBlock) (fun _ => False) rfl rfl ?aP (fun _ hk => hk.elim) ?aF ?aO ?aB ?aS ?aL ?_; (case aP => exact rfl); (case aB => exact (by repeat (first | (with_reducible first | exact HB.out | apply below_alloc | apply pw_below_drewN | apply below_drew1 | refine below_set ?_ GE131.out | refine below_set ?_ GE132.out) | exact HB.out))); (case aF => exact (fun k_ hk => Kd.fresh' (Kd.R_lt (by (with_reducible repeat (first | apply Kd.R_alloc | apply Kd.R_drewN | apply Kd.R_drew)); exact HO_133001.out)) k_ hk)); (case aO => exact (by (with_reducible repeat (first | apply Kd.R_alloc | apply Kd.R_drewN | apply Kd.R_drew)); exact HO_133002.out)); (case aS => exact (below_size (by repeat (first | (with_reducible first | exact HB.out | apply below_alloc | apply pw_below_drewN | apply below_drew1 | refine below_set ?_ GE131.out | refine below_set ?_ GE132.out) | exact HB.out)))); (case aL => have := LMc24.out; omega); intro v142 w27 ho hb hg hat; rw [← Ny141.out] at ho; have n0_ := Aside0.mk (Kd.R_after (ok := (fun _ => True)) (by (with_reducible repeat (first | apply Kd.R_alloc | apply Kd.R_drewN | apply Kd.R_drew)); exact Kd.R_mono HO_133001.out (fun _ hk => ⟨trivial, hk⟩)) hg hat); have n1_ := Aside0.mk (blk_grown (g := gb131) (o := .cells #[.string x132000_1, .slice none 0 0, .slice none 0 0] 76 (0, 0)) (by (with_reducible repeat (first | refine blk_drewN ?_ _ | refine blk_drew ?_ | refine blk_alloc ?_ _)); exact BK131.out) hg (Kd.R_ne HO_133002.out BK131.out (by decide))); have n2_ := Aside0.mk (blk_grown (g := gb132) (o := .cells #[.string a0, u133001, u133002] 76 (0, 0)) (by (with_reducible repeat (first | refine blk_drewN ?_ _ | refine blk_drew ?_ | refine blk_alloc ?_ _)); exact BK132.out) hg (Kd.R_ne HO_133002.out BK132.out (by decide))); have n3_ := Aside0.mk (hb); have n4_ := Aside0.mk (ho); clear HO_133001; clear BK131; clear BK132; clear HB; clear HO_133002; have HO_133001 := n0_; have BK131 := n1_; have BK132 := n2_; have HB := n3_; have HO143 := n4_; clear n0_ n1_ n2_ n3_ n4_; clear ho hb hg hat; obtain ⟨Ao28, co28, eo28⟩ := Kd.R_slice HO143.out; subst eo28; have hcz29_0 : w27.cell? ⟨gb132, 0, none⟩ = some (.string a0) := (blk_cell BK132.out 0).trans rfl; have hcz29_1 : w27.cell? ⟨gb132, 1, none⟩ = some (u133001) := (blk_cell BK132.out 1).trans rfl; have hcz29_2 : w27.cell? ⟨gb132, 2, none⟩ = some (u133002) := (blk_cell BK132.out 2).trans rfl; have hfz29_0 := blk_frozen BK132.out 0; have hfz29_1 := blk_frozen BK132.out 1; have hfz29_2 := blk_frozen BK132.out 2; have hcz30_0 : w27.cell? ⟨gb131, 0, none⟩ = some (.string x132000_1) := (blk_cell BK131.out 0).trans rfl; have hcz30_1 : w27.cell? ⟨gb131, 1, none⟩ = some (.slice none 0 0) := (blk_cell BK131.out 1).trans rfl; have hcz30_2 : w27.cell? ⟨gb131, 2, none⟩ = some (.slice none 0 0) := (blk_cell BK131.out 2).trans rfl; have hfz30_0 := blk_frozen BK131.out 0; have hfz30_1 := blk_frozen BK131.out 1; have hfz30_2 := blk_frozen BK131.out 2; obtain ⟨Ao31, co31, eo31⟩ := Kd.R_slice HO_133001.out; subst eo31))
          refine bodyPost_ret (results_ct rfl _ _ gb131 76 #[.string a0, .slice Ao31 x133001_1.length co31, .slice Ao28 y141.length co28] (0, 0) _ rfl (by (with_reducible repeat (first | refine blk_drewN ?_ _ | refine blk_drew ?_ | refine blk_alloc ?_ _)); refine blk_put (cs := #[.string a0, .slice Ao31 x133001_1.length co31, .slice none 0 0]) ?_ 2 _ rfl; (with_reducible repeat (first | refine blk_drewN ?_ _ | refine blk_drew ?_ | refine blk_alloc ?_ _)); refine blk_put (cs := #[.string a0, .slice none 0 0, .slice none 0 0]) ?_ 1 _ rfl; (with_reducible repeat (first | refine blk_drewN ?_ _ | refine blk_drew ?_ | refine blk_alloc ?_ _)); refine blk_put (cs := #[.string x132000_1, .slice none 0 0, .slice none 0 0]) ?_ 0 _ rfl; (with_reducible repeat (first | refine blk_drewN ?_ _ | refine blk_drew ?_ | refine blk_alloc ?_ _)); refine blk_far ?_ NB131_132.out _; (with_reducible repeat (first | refine blk_drewN ?_ _ | refine blk_drew ?_ | refine blk_alloc ?_ _)); exact BK131.out) Tryd.underlying76 rfl (by kernel_rfl)) rfl ?_
          exact ⟨_, _, by first | rfl | (simp [errW_none, errW_some] <;> rfl) | (simp [*, errW_none, errW_some] <;> rfl), by (with_reducible repeat (first | apply Kd.R_alloc | apply Kd.R_drewN | apply Kd.R_drew)); exact Kd.R_mono (Kd.R_far (p := ⟨gb131, 2, none⟩) (Kd.R_far (p := ⟨gb131, 1, none⟩) (Kd.R_far (p := ⟨gb131, 0, none⟩) (Kd.R_far (p := ⟨gb132, 2, none⟩) (Kd.R_types (Kd.R_types HO_133001.out BK132.out (by decide)) BK131.out (by decide)) (fun _ hk => hk.1.2) (.slice Ao28 y141.length co28)) (fun _ hk => hk.2) (.string a0)) (fun _ hk => hk.2) (.slice Ao31 x133001_1.length co31)) (fun _ hk => hk.2) (.slice Ao28 y141.length co28)) (fun _ hk => hk.1.1.2), by (with_reducible repeat (first | apply Kd.R_alloc | apply Kd.R_drewN | apply Kd.R_drew)); exact Kd.R_mono (Kd.R_far (p := ⟨gb131, 2, none⟩) (Kd.R_far (p := ⟨gb131, 1, none⟩) (Kd.R_far (p := ⟨gb131, 0, none⟩) (Kd.R_far (p := ⟨gb132, 2, none⟩) (Kd.R_types (Kd.R_types HO143.out BK132.out (by decide)) BK131.out (by decide)) (fun _ hk => hk.1.2) (.slice Ao28 y141.length co28)) (fun _ hk => hk.2) (.string a0)) (fun _ hk => hk.2) (.slice Ao31 x133001_1.length co31)) (fun _ hk => hk.2) (.slice Ao28 y141.length co28)) (fun _ hk => hk.1.1), by repeat (first | (with_reducible first | exact HB.out | apply below_alloc | apply pw_below_drewN | apply below_drew1 | refine below_set ?_ GE131.out | refine below_set ?_ GE132.out) | exact HB.out)⟩
        · rw [if_neg c24] at H
          exact absurd H (by simp)
end Go.Proofs.YtejecmjajdhiiaaDoor.Print
/-! ### EClass -/
namespace Go.Proofs.YtejecmjajdhiiaaDoor.Print
open Go.RowKit Go.Proofs.YtejecmjajdhiiaaDoorW.PrintWords Go.Proofs.YtejecmjajdhiiaaDoorW.PrintLast Go.Proofs.YtejecmjajdhiiaaDoorW.PrintMore
set_option linter.unusedSimpArgs false
set_option linter.unusedVariables false
def malthouseref01_Class.f (a0 : Int) : Option Int := some (classZ a0)
theorem sign_at (S : ByteArray) (hS : S = ⟨#[40, 41, 123, 125, 44, 59, 58, 61, 43, 45, 42, 47, 37, 60, 62, 33, 38, 124]⟩) (k : Nat) (h : k < S.size) : ((S[k]'h).toNat : Int) = signs.getD k 0 := by
  subst hS
  have h18 : k < 18 := h
  match k, h18 with
  | 0, _ => rfl
  | 1, _ => rfl
  | 2, _ => rfl
  | 3, _ => rfl
  | 4, _ => rfl
  | 5, _ => rfl
  | 6, _ => rfl
  | 7, _ => rfl
  | 8, _ => rfl
  | 9, _ => rfl
  | 10, _ => rfl
  | 11, _ => rfl
  | 12, _ => rfl
  | 13, _ => rfl
  | 14, _ => rfl
  | 15, _ => rfl
  | 16, _ => rfl
  | 17, _ => rfl
  | k + 18, h => omega
theorem wrap_byte (b : UInt8) : wrap64 (b.toNat : Int) = b.toNat := by
  have := b.toNat_lt
  unfold wrap64
  omega
/-- What is no blank, letter, digit, quote or hash. -/
def lateZ (r : Int) : Prop := ¬ (r = 32 ∨ r = 9 ∨ r = 13 ∨ r = 10) ∧ ¬ ((97 ≤ r ∧ r ≤ 122) ∨ (65 ≤ r ∧ r ≤ 90) ∨ r = 95) ∧ ¬ (192 ≤ r ∧ r ≤ 591 ∧ r ≠ 215 ∧ r ≠ 247) ∧ ¬ (48 ≤ r ∧ r ≤ 57) ∧ r ≠ 34 ∧ r ≠ 35
theorem class_late {r : Int} (h : lateZ r) : classZ r = if r ∈ signs then 4 else 0 := by
  obtain ⟨h1, h2, h3, h4, h5, h6⟩ := h
  unfold classZ
  rw [if_neg h1, if_neg h2, if_neg h3, if_neg h4, if_neg h5, if_neg h6]
set_option maxHeartbeats 8000000 in
set_option maxRecDepth 100000 in
theorem malthouseref01_Class.calls (a0 : Int) (r : Int) (w : World) (h : malthouseref01_Class.f a0 = some r) :
    Calls Tryd.prog 52 #[.int .i64 a0] w fun e w' => e = .returned (.int .i64 r) ∧ Drawn0 w w' := by
  obtain rfl := Option.some.inj h
  clear h
  obtain ⟨c, hc⟩ : ∃ c, c = classZ a0 := ⟨_, rfl⟩
  rw [← hc]
  have HC := Lib.hid hc
  clear hc
  cases hb1 : (a0 != 215) <;> cases hb2 : (a0 != 247)
  all_goals
    go_enter Tryd.func52, Tryd.ntmps52
    go_wp2
  all_goals (try simp only [beq_eq_false_iff_ne, beq_iff_eq, bne_iff_ne, bne_eq_false_iff_eq, ne_eq] at *)
  all_goals first
    | (exfalso; omega)
    | (go_ret; refine ⟨?_, Drawn0.refl _⟩; rw [HC.out]; unfold classZ; (first | rw [if_pos (by omega)] | rw [if_neg (by omega), if_pos (by omega)] | rw [if_neg (by omega), if_neg (by omega), if_pos (by omega)] | rw [if_neg (by omega), if_neg (by omega), if_neg (by omega), if_pos (by omega)] | rw [if_neg (by omega), if_neg (by omega), if_neg (by omega), if_neg (by omega), if_pos (by omega)] | rw [if_neg (by omega), if_neg (by omega), if_neg (by omega), if_neg (by omega), if_neg (by omega), if_pos (by omega)]) <;> rfl)
    | (have hl : lateZ a0 := by unfold lateZ; omega
       clear hb1 hb2
       have h4 := HC.out
       rw [class_late hl] at h4
       have H4 := Lib.hid h4
       clear h4 hl HC
       generalize hS : (⟨#[40, 41, 123, 125, 44, 59, 58, 61, 43, 45, 42, 47, 37, 60, 62, 33, 38, 124]⟩ : ByteArray) = S
       have HS := Lib.hid hS.symm
       have hsz : S.size = 18 := by rw [← hS]; rfl
       have HSZ := Lib.hid hsz
       clear hS hsz
       go_loopw [4] (fun i wr => ∃ k : Nat, k ≤ 18 ∧ i = .int .i64 k ∧ Hid (∀ j, j < k → a0 ≠ signs.getD j 0) ∧ wr = w) (fun i _ => 18 - (intOf i).toNat)
       case atStart => exact ⟨0, by omega, rfl, Lib.hid (fun j h => by omega), rfl⟩
       case round =>
        obtain ⟨k, hk, rfl, hno, rfl⟩ := hrel
        by_cases hlt : k < S.size
        · have hlt' : (k : Int) < S.size := by omega
          have hk18 : k < 18 := by have := HSZ.out; omega
          have hat := sign_at S HS.out k hlt
          by_cases heq : a0 = signs.getD k 0
          · have hb : (wrap64 ((S[k]'hlt).toNat : Int) == a0) = true := by rw [wrap_byte (S[k]'hlt), hat, heq]; simp
            have hmem : a0 ∈ signs := by
              rw [heq, List.getD_eq_getElem?_getD, List.getElem?_eq_getElem (show k < signs.length from hk18)]
              exact List.getElem_mem _
            have H9 := Lib.hid hmem
            clear heq hat hmem
            go_wp2
            go_ret
            exact ⟨by rw [H4.out, if_pos H9.out]; rfl, Drawn0.refl _⟩
          · have hb : (wrap64 ((S[k]'hlt).toNat : Int) == a0) = false := by rw [wrap_byte (S[k]'hlt), hat, beq_eq_false_iff_ne]; exact fun e => heq e.symm
            have H9 := Lib.hid heq
            clear heq hat
            go_wp2
            go_roundw
            case rel =>
              refine ⟨k + 1, by omega, by go_num, Lib.hid (fun j hj => ?_), trivial⟩
              by_cases hjk : j = k
              · subst hjk; exact H9.out
              · exact hno.out j (by omega)
            case measure => simp [intOf]; omega
        · have hlt' : (S.size : Int) ≤ k := by have := HSZ.out; omega
          have hk18 : k = 18 := by have := HSZ.out; omega
          have hnm : a0 ∉ signs := by
            intro hm
            obtain ⟨j, hj, he⟩ := List.getElem_of_mem hm
            have hj18 : j < 18 := hj
            have := hno.out j (by omega)
            rw [List.getD_eq_getElem?_getD, List.getElem?_eq_getElem hj] at this
            exact this he.symm
          have H9 := Lib.hid hnm
          clear hnm
          go_wp2
          go_ret
          exact ⟨by rw [H4.out, if_neg H9.out]; rfl, Drawn0.refl _⟩)
end Go.Proofs.YtejecmjajdhiiaaDoor.Print
/-! ### Print9 -/
namespace Go.Proofs.YtejecmjajdhiiaaDoor.Print
open Go.RowKit Go.Proofs.YtejecmjajdhiiaaDoorW.PrintWords Go.Proofs.YtejecmjajdhiiaaDoorW.PrintLast Go.Proofs.YtejecmjajdhiiaaDoorW.PrintMore
attribute [local go_sem] min_two
set_option linter.unusedVariables false
set_option linter.unusedSimpArgs false
def malthouseref01_wordy.f (a0 : Int) : Option (Bool) := (malthouseref01_Class.f a0).bind fun t144 => (if t144 = 2 then (some true) else (some (t144 == 3)))
set_option maxHeartbeats 8000000 in
set_option maxRecDepth 100000 in
theorem malthouseref01_wordy.calls (a0 : Int) (r : Bool) (w : World) (h : malthouseref01_wordy.f a0 = some r) :
    Calls Tryd.prog 53 #[.int .i64 a0] w fun e w' => e = .returned (.bool r) ∧ Drawn0 w w' := by
  have H : ((malthouseref01_Class.f a0).bind fun t144 => (if t144 = 2 then (some true) else (some (t144 == 3)))) = some r := h
  clear h
  replace H := Option.bind_eq_some_iff.mp H
  obtain ⟨t144, A20, H⟩ := H
  replace H : (if t144 = 2 then (some true) else (some (t144 == 3))) = some r := H
  have A2 := Aside0.mk A20
  clear A20
  by_cases c3 : t144 = 2
  · rw [if_pos c3] at H
    have c3b0 : (t144 == 2) = true := beq_iff_eq.mpr c3
    have c3b1 : (t144 != 2) = false := bne_eq_false_iff_eq.mpr c3
    clear c3
    obtain rfl := Option.some.inj H
    go_enter Tryd.func53, Tryd.ntmps53
    go_wp2_with (first | ((with_reducible refine gate_callee (f := 52) rfl ?_); refine goesL_ (some 5) rfl rfl Tryd.func52 (by kernel_rfl) rfl #[.int .i64 a0] rfl (by (try simp only [List.map_toArray, List.map_cons, List.map_nil]); first | done | rfl | (simp only [List.length_drop, List.length_take]; rfl)) ?_; (with_reducible refine (malthouseref01_Class.calls a0 t144 _ A2.out).mono ?_); rintro e w' ⟨rfl, ⟨nd, rfl⟩⟩; refine ⟨_, rfl, ?_⟩))
    go_ret
    exact ⟨by first | rfl | (simp; done) | (simp [*]; done), by repeat (first | exact Drawn0.refl _ | apply Drawn0.step)⟩
  · rw [if_neg c3] at H
    have c3b0 : (t144 == 2) = false := beq_eq_false_iff_ne.mpr c3
    have c3b1 : (t144 != 2) = true := bne_iff_ne.mpr c3
    obtain rfl := Option.some.inj H
    go_enter Tryd.func53, Tryd.ntmps53
    go_wp2_with (first | ((with_reducible refine gate_callee (f := 52) rfl ?_); refine goesL_ (some 5) rfl rfl Tryd.func52 (by kernel_rfl) rfl #[.int .i64 a0] rfl (by (try simp only [List.map_toArray, List.map_cons, List.map_nil]); first | done | rfl | (simp only [List.length_drop, List.length_take]; rfl)) ?_; (with_reducible refine (malthouseref01_Class.calls a0 t144 _ A2.out).mono ?_); rintro e w' ⟨rfl, ⟨nd, rfl⟩⟩; refine ⟨_, rfl, ?_⟩))
    go_ret
    exact ⟨by first | rfl | (simp; done) | (simp [*]; done), by repeat (first | exact Drawn0.refl _ | apply Drawn0.step)⟩
mutual
def malthouseref01_Name.j0 : Nat → Bool → ByteArray → List Int → List Int → Option (Bool)
  | 0, _, _, _, _ => none
  | k + 1, x32, x154000, x154001, x154002 => if x32 = true then (some false) else (malthouseref01_Name.l0 k 0 x154000 x154001 x154002)
def malthouseref01_Name.l0 : Nat → Int → ByteArray → List Int → List Int → Option (Bool)
  | 0, _, _, _, _ => none
  | k + 1, x5, x154000, x154001, x154002 => if x5 < (x154001.length : Int) then (if 0 ≤ x5 then ((malthouseref01_wordy.f (rd x154001 x5)).bind fun t157 => (if t157 = true then (malthouseref01_Name.l0 k (wrap64 (x5 + 1)) x154000 x154001 x154002) else (some false))) else (none)) else (some true)
end
def malthouseref01_Name.f (k : Nat) (a0 : ByteArray) : Option (Bool) := (malthouseref01_Runes.f k a0).bind fun bt145 => (if bt145.2.2.2 = true then (if (bt145.2.1.length : Int) = 0 then (malthouseref01_Name.j0 k true bt145.1 bt145.2.1 bt145.2.2.1) else (if (bt145.2.1.length : Int) > 12 then (malthouseref01_Name.j0 k true bt145.1 bt145.2.1 bt145.2.2.1) else (if 0 < (bt145.2.1.length : Int) then ((malthouseref01_Class.f (rd bt145.2.1 0)).bind fun t155 => (malthouseref01_Name.j0 k (t155 != 2) bt145.1 bt145.2.1 bt145.2.2.1)) else (none)))) else (malthouseref01_Name.j0 k true bt145.1 bt145.2.1 bt145.2.2.1))
set_option maxHeartbeats 8000000 in
set_option maxRecDepth 100000 in
theorem malthouseref01_Name.calls (k : Nat) (a0 : ByteArray) (r : Bool) (w : World) (h : malthouseref01_Name.f k a0 = some r) :
    Calls Tryd.prog 34 #[.string a0] w fun e w' => e = .returned (.bool r) ∧ Below w.heap.size w w' := by
  have hu76 := Tryd.underlying76
  have HB := Aside0.mk (Below.refl w.heap.size w)
  have H : ((malthouseref01_Runes.f k a0).bind fun bt145 => (if bt145.2.2.2 = true then (if (bt145.2.1.length : Int) = 0 then (malthouseref01_Name.j0 k true bt145.1 bt145.2.1 bt145.2.2.1) else (if (bt145.2.1.length : Int) > 12 then (malthouseref01_Name.j0 k true bt145.1 bt145.2.1 bt145.2.2.1) else (if 0 < (bt145.2.1.length : Int) then ((malthouseref01_Class.f (rd bt145.2.1 0)).bind fun t155 => (malthouseref01_Name.j0 k (t155 != 2) bt145.1 bt145.2.1 bt145.2.2.1)) else (none)))) else (malthouseref01_Name.j0 k true bt145.1 bt145.2.1 bt145.2.2.1))) = some r := h
  clear h
  replace H := Option.bind_eq_some_iff.mp H
  obtain ⟨⟨t145, t146, t149, t152⟩, A20, H⟩ := H
  replace H : (if t152 = true then (if (t146.length : Int) = 0 then (malthouseref01_Name.j0 k true t145 t146 t149) else (if (t146.length : Int) > 12 then (malthouseref01_Name.j0 k true t145 t146 t149) else (if 0 < (t146.length : Int) then ((malthouseref01_Class.f (rd t146 0)).bind fun t155 => (malthouseref01_Name.j0 k (t155 != 2) t145 t146 t149)) else (none)))) else (malthouseref01_Name.j0 k true t145 t146 t149)) = some r := H
  have A2 := Aside0.mk A20
  clear A20
  have HC3 := Aside0.mk H
  clear H
  go_enter Tryd.func34, Tryd.ntmps34
  go_upto_region 2 with (first | ((with_reducible refine gate_callee (f := 51) rfl ?_); refine goesL_ (some 8) rfl rfl Tryd.func51 (by kernel_rfl) rfl #[.string a0] rfl (by (try simp only [List.map_toArray, List.map_cons, List.map_nil]); first | done | rfl | (simp only [List.length_drop, List.length_take]; rfl)) ?_; (with_reducible refine (malthouseref01_Runes.calls k a0 t145 t146 t149 t152 _ A2.out).mono ?_); rintro e w4 ⟨v147, v150, rfl, ho0, ho1, hb⟩; refine ⟨_, rfl, ?_⟩; have n0_ := Aside0.mk (Kd.R_lower ho0 (below_size (by repeat (first | (with_reducible first | exact HB.out | apply below_alloc | apply pw_below_drewN | apply below_drew1) | exact HB.out)))); have n1_ := Aside0.mk (Kd.R_lower ho1 (below_size (by repeat (first | (with_reducible first | exact HB.out | apply below_alloc | apply pw_below_drewN | apply below_drew1) | exact HB.out)))); have n2_ := Aside0.mk (below_step (by repeat (first | (with_reducible first | exact HB.out | apply below_alloc | apply pw_below_drewN | apply below_drew1) | exact HB.out)) hb); clear HB; have HO148 := n0_; have HO151 := n1_; have HB := n2_; clear n0_ n1_ n2_; (try clear hb); (try clear hb2); (try clear hk); (try clear hi); (try clear ho0); (try clear ho1)) | ((with_reducible refine gate_dst (N := 3) rfl ?_); (try (refine gate_guard (by rfl) ?_; dsimp only)); refine box_event ?hg (N := 3) ?hd (cs := #[.string (⟨#[]⟩ : ByteArray), .slice none 0 0, .slice none 0 0]) (t := 76) ?hr ?_; (case hd => rfl); (case hg => rfl); (case hr => first | (go_simp; done) | (go_simp; rfl)); intro gb153 hg w5 hbox hb; have n0_ := Aside0.mk (Kd.R_below (by (with_reducible repeat (first | apply Kd.R_alloc | apply Kd.R_drewN | apply Kd.R_drew)); exact HO148.out) hb); have n1_ := Aside0.mk (Kd.R_below (by (with_reducible repeat (first | apply Kd.R_alloc | apply Kd.R_drewN | apply Kd.R_drew)); exact HO151.out) hb); have n2_ := Aside0.mk (below_step (by repeat (first | (with_reducible first | exact HB.out | apply below_alloc | apply pw_below_drewN | apply below_drew1) | exact HB.out)) hb); have n3_ := Aside0.mk (hbox); have n4_ := Aside0.mk ((by rw [hg]; exact (below_size (by repeat (first | (with_reducible first | exact HB.out | apply below_alloc | apply pw_below_drewN | apply below_drew1) | exact HB.out))) : w.heap.size ≤ gb153)); have n5_ := Aside0.mk ((by rw [hg]; exact (below_size (by repeat (first | (with_reducible first | exact HB.out | apply below_alloc | apply pw_below_drewN | apply below_drew1) | exact HB.out))) : w.heap.size ≤ gb153)); clear HO148; clear HO151; clear HB; have HO148 := n0_; have HO151 := n1_; have HB := n2_; have BK153 := n3_; have GW153 := n4_; have GE153 := n5_; clear n0_ n1_ n2_ n3_ n4_ n5_; clear hb hbox hg; have hcz6_0 : w5.cell? ⟨gb153, 0, none⟩ = some (.string (⟨#[]⟩ : ByteArray)) := (blk_cell BK153.out 0).trans rfl; have hcz6_1 : w5.cell? ⟨gb153, 1, none⟩ = some (.slice none 0 0) := (blk_cell BK153.out 1).trans rfl; have hcz6_2 : w5.cell? ⟨gb153, 2, none⟩ = some (.slice none 0 0) := (blk_cell BK153.out 2).trans rfl; have hfz6_0 := blk_frozen BK153.out 0; have hfz6_1 := blk_frozen BK153.out 1; have hfz6_2 := blk_frozen BK153.out 2; obtain ⟨Ao7, co7, eo7⟩ := Kd.R_slice HO148.out; subst eo7; obtain ⟨Ao8, co8, eo8⟩ := Kd.R_slice HO151.out; subst eo8))
  (try simp only [Act.put, List.setIfInBounds_toArray, List.set_cons_zero, List.set_cons_succ])
  go_cut [32] (fun v32 wc => ∃ (kq : Nat) (x32_2 : Bool), v32 = .bool x32_2 ∧ Aside0 (malthouseref01_Name.j0 kq x32_2 t145 t146 t149 = some r) ∧ Aside0 (kq ≤ k) ∧ Aside0 (Kd.R (Kd.int .i64) 3 wc w.heap.size (fun k_ => some k_ ≠ ((.slice Ao8 t149.length co8) : Value).ownBlock) (.slice Ao7 t146.length co7) t146) ∧ Aside0 (Kd.R (Kd.int .i64) 3 wc w.heap.size (fun k_ => some k_ ≠ ((.slice Ao7 t146.length co7) : Value).ownBlock) (.slice Ao8 t149.length co8) t149) ∧ Aside0 (wc.heap[gb153]? = some (.cells #[.string t145, (.slice Ao7 t146.length co7), (.slice Ao8 t149.length co8)] 76 (0, 0))) ∧ Aside0 (Below w.heap.size w wc))
  case first =>
    have H := HC3.out
    clear HC3
    by_cases c9 : t152 = true
    · subst c9
      have H1 : (if (t146.length : Int) = 0 then (malthouseref01_Name.j0 k true t145 t146 t149) else (if (t146.length : Int) > 12 then (malthouseref01_Name.j0 k true t145 t146 t149) else (if 0 < (t146.length : Int) then ((malthouseref01_Class.f (rd t146 0)).bind fun t155 => (malthouseref01_Name.j0 k (t155 != 2) t145 t146 t149)) else (none)))) = some r := by rw [if_pos rfl] at H; exact H
      clear H
      have H := H1
      clear H1
      by_cases c10 : (t146.length : Int) = 0
      · rw [if_pos c10] at H
        have c10b0 : ((t146.length : Int) == 0) = true := beq_iff_eq.mpr c10
        have c10b1 : ((t146.length : Int) != 0) = false := bne_eq_false_iff_eq.mpr c10
        clear c10
        (first | rw [c10b0] | (simp only [i64_w, i32_w]; rw [c10b0]) | skip)
        have H' := Aside0.mk H
        clear H
        have hcz11_0 : w5.cell? ⟨gb153, 0, none⟩ = some (.string (⟨#[]⟩ : ByteArray)) := (blk_cell BK153.out 0).trans rfl
        have hcz11_1 : w5.cell? ⟨gb153, 1, none⟩ = some (.slice none 0 0) := (blk_cell BK153.out 1).trans rfl
        have hcz11_2 : w5.cell? ⟨gb153, 2, none⟩ = some (.slice none 0 0) := (blk_cell BK153.out 2).trans rfl
        have hfz11_0 := blk_frozen BK153.out 0
        have hfz11_1 := blk_frozen BK153.out 1
        have hfz11_2 := blk_frozen BK153.out 2
        go_wp2
        go_meet
        case rel => exact ⟨_, (true), (by first | rfl | (simp; done) | (simp [*]; done)), H', ⟨by first | omega | exact Nat.le_refl _⟩, ⟨by (with_reducible repeat (first | apply Kd.R_alloc | apply Kd.R_drewN | apply Kd.R_drew)); exact Kd.R_mono (Kd.R_far (p := ⟨gb153, 2, none⟩) (Kd.R_far (p := ⟨gb153, 1, none⟩) (Kd.R_far (p := ⟨gb153, 0, none⟩) (Kd.R_types HO148.out BK153.out (by decide)) (fun _ hk => hk.2) (.string t145)) (fun _ hk => hk.2) (.slice Ao7 t146.length co7)) (fun _ hk => hk.2) (.slice Ao8 t149.length co8)) (fun _ hk => hk.1)⟩, ⟨by (with_reducible repeat (first | apply Kd.R_alloc | apply Kd.R_drewN | apply Kd.R_drew)); exact Kd.R_mono (Kd.R_far (p := ⟨gb153, 2, none⟩) (Kd.R_far (p := ⟨gb153, 1, none⟩) (Kd.R_far (p := ⟨gb153, 0, none⟩) (Kd.R_types HO151.out BK153.out (by decide)) (fun _ hk => hk.2) (.string t145)) (fun _ hk => hk.2) (.slice Ao7 t146.length co7)) (fun _ hk => hk.2) (.slice Ao8 t149.length co8)) (fun _ hk => hk.1)⟩, ⟨by (with_reducible repeat (first | refine blk_drewN ?_ _ | refine blk_drew ?_ | refine blk_alloc ?_ _)); refine blk_put (cs := #[.string t145, .slice Ao7 t146.length co7, .slice none 0 0]) ?_ 2 _ rfl; (with_reducible repeat (first | refine blk_drewN ?_ _ | refine blk_drew ?_ | refine blk_alloc ?_ _)); refine blk_put (cs := #[.string t145, .slice none 0 0, .slice none 0 0]) ?_ 1 _ rfl; (with_reducible repeat (first | refine blk_drewN ?_ _ | refine blk_drew ?_ | refine blk_alloc ?_ _)); refine blk_put (cs := #[.string (⟨#[]⟩ : ByteArray), .slice none 0 0, .slice none 0 0]) ?_ 0 _ rfl; (with_reducible repeat (first | refine blk_drewN ?_ _ | refine blk_drew ?_ | refine blk_alloc ?_ _)); exact BK153.out⟩, ⟨by repeat (first | (with_reducible first | exact HB.out | apply below_alloc | apply pw_below_drewN | apply below_drew1 | refine below_set ?_ GE153.out) | exact HB.out)⟩⟩
      · rw [if_neg c10] at H
        have c10b0 : ((t146.length : Int) == 0) = false := beq_eq_false_iff_ne.mpr c10
        have c10b1 : ((t146.length : Int) != 0) = true := bne_iff_ne.mpr c10
        have c10b2 : ¬ (t146 = []) := fun h_ => c10 (by rw [h_]; rfl)
        (first | rw [c10b0] | (simp only [i64_w, i32_w]; rw [c10b0]) | skip)
        by_cases c12 : (t146.length : Int) > 12
        · rw [if_pos c12] at H
          have c12b0 : decide (12 < (t146.length : Int)) = true := decide_eq_true c12
          have c12b1 : decide (12 < t146.length) = true := decide_eq_true (by omega)
          clear c12
          have H' := Aside0.mk H
          clear H
          have hcz13_0 : w5.cell? ⟨gb153, 0, none⟩ = some (.string (⟨#[]⟩ : ByteArray)) := (blk_cell BK153.out 0).trans rfl
          have hcz13_1 : w5.cell? ⟨gb153, 1, none⟩ = some (.slice none 0 0) := (blk_cell BK153.out 1).trans rfl
          have hcz13_2 : w5.cell? ⟨gb153, 2, none⟩ = some (.slice none 0 0) := (blk_cell BK153.out 2).trans rfl
          have hfz13_0 := blk_frozen BK153.out 0
          have hfz13_1 := blk_frozen BK153.out 1
          have hfz13_2 := blk_frozen BK153.out 2
          go_wp2
          go_meet
          case rel => exact ⟨_, (true), (by first | rfl | (simp; done) | (simp [*]; done)), H', ⟨by first | omega | exact Nat.le_refl _⟩, ⟨by (with_reducible repeat (first | apply Kd.R_alloc | apply Kd.R_drewN | apply Kd.R_drew)); exact Kd.R_mono (Kd.R_far (p := ⟨gb153, 2, none⟩) (Kd.R_far (p := ⟨gb153, 1, none⟩) (Kd.R_far (p := ⟨gb153, 0, none⟩) (Kd.R_types HO148.out BK153.out (by decide)) (fun _ hk => hk.2) (.string t145)) (fun _ hk => hk.2) (.slice Ao7 t146.length co7)) (fun _ hk => hk.2) (.slice Ao8 t149.length co8)) (fun _ hk => hk.1)⟩, ⟨by (with_reducible repeat (first | apply Kd.R_alloc | apply Kd.R_drewN | apply Kd.R_drew)); exact Kd.R_mono (Kd.R_far (p := ⟨gb153, 2, none⟩) (Kd.R_far (p := ⟨gb153, 1, none⟩) (Kd.R_far (p := ⟨gb153, 0, none⟩) (Kd.R_types HO151.out BK153.out (by decide)) (fun _ hk => hk.2) (.string t145)) (fun _ hk => hk.2) (.slice Ao7 t146.length co7)) (fun _ hk => hk.2) (.slice Ao8 t149.length co8)) (fun _ hk => hk.1)⟩, ⟨by (with_reducible repeat (first | refine blk_drewN ?_ _ | refine blk_drew ?_ | refine blk_alloc ?_ _)); refine blk_put (cs := #[.string t145, .slice Ao7 t146.length co7, .slice none 0 0]) ?_ 2 _ rfl; (with_reducible repeat (first | refine blk_drewN ?_ _ | refine blk_drew ?_ | refine blk_alloc ?_ _)); refine blk_put (cs := #[.string t145, .slice none 0 0, .slice none 0 0]) ?_ 1 _ rfl; (with_reducible repeat (first | refine blk_drewN ?_ _ | refine blk_drew ?_ | refine blk_alloc ?_ _)); refine blk_put (cs := #[.string (⟨#[]⟩ : ByteArray), .slice none 0 0, .slice none 0 0]) ?_ 0 _ rfl; (with_reducible repeat (first | refine blk_drewN ?_ _ | refine blk_drew ?_ | refine blk_alloc ?_ _)); exact BK153.out⟩, ⟨by repeat (first | (with_reducible first | exact HB.out | apply below_alloc | apply pw_below_drewN | apply below_drew1 | refine below_set ?_ GE153.out) | exact HB.out)⟩⟩
        · rw [if_neg c12] at H
          have c12b0 : decide (12 < (t146.length : Int)) = false := decide_eq_false c12
          have c12b1 : decide (12 < t146.length) = false := decide_eq_false (by omega)
          clear c12
          by_cases c14 : 0 < (t146.length : Int)
          · rw [if_pos c14] at H
            have c14b0 : decide (0 < (t146.length : Int)) = true := decide_eq_true c14
            have c14b1 : decide (0 < t146.length) = true := decide_eq_true (by omega)
            clear c14
            replace H := Option.bind_eq_some_iff.mp H
            obtain ⟨t155, A150, H⟩ := H
            replace H : (malthouseref01_Name.j0 k (t155 != 2) t145 t146 t149) = some r := H
            have A15 := Aside0.mk A150
            clear A150
            have H' := Aside0.mk H
            clear H
            have hcz16_0 : w5.cell? ⟨gb153, 0, none⟩ = some (.string (⟨#[]⟩ : ByteArray)) := (blk_cell BK153.out 0).trans rfl
            have hcz16_1 : w5.cell? ⟨gb153, 1, none⟩ = some (.slice none 0 0) := (blk_cell BK153.out 1).trans rfl
            have hcz16_2 : w5.cell? ⟨gb153, 2, none⟩ = some (.slice none 0 0) := (blk_cell BK153.out 2).trans rfl
            have hfz16_0 := blk_frozen BK153.out 0
            have hfz16_1 := blk_frozen BK153.out 1
            have hfz16_2 := blk_frozen BK153.out 2
            have p154 : 0 ≤ (0 : Int) := (by omega)
            have q154 : 0 < (t146.length : Int) := of_decide_eq_true (by first | (with_reducible assumption) | assumption)
            obtain ⟨ad154, e154, hx154_0⟩ := Kd.at_int (Kd.R_reads' HO148.out).2.2 0 p154 q154
            cases e154
            have qi154 : (0 < t146.length) = True := eq_true (by omega)
            (try rw [show ((0 : Int)).toNat = 0 from rfl] at hx154_0)
            (try rw [Addr.add_zero'] at hx154_0)
            have hn154_0 : ad154.block ≠ gb153 := Kd.own_blk (Kd.R_ne HO148.out BK153.out (by decide))
            have hn154_1 : ad154.block ≠ gb153 := Kd.own_blk (Kd.R_ne HO148.out BK153.out (by decide))
            have hn154_2 : ad154.block ≠ gb153 := Kd.own_blk (Kd.R_ne HO148.out BK153.out (by decide))
            replace hx154_0 := (cell_far (p := ⟨gb153, 0, none⟩) (by first | (rw [add_block]; exact hn154_0) | (show (Addr.add _ _).block ≠ _; rw [add_block]; exact hn154_0) | exact hn154_0) (.string t145)).trans hx154_0
            replace hx154_0 := (cell_far (p := ⟨gb153, 1, none⟩) (by first | (rw [add_block]; exact hn154_1) | (show (Addr.add _ _).block ≠ _; rw [add_block]; exact hn154_1) | exact hn154_1) (.slice (some ad154) t146.length co7)).trans hx154_0
            replace hx154_0 := (cell_far (p := ⟨gb153, 2, none⟩) (by first | (rw [add_block]; exact hn154_2) | (show (Addr.add _ _).block ≠ _; rw [add_block]; exact hn154_2) | exact hn154_2) (.slice Ao8 t149.length co8)).trans hx154_0
            clear hn154_0
            clear hn154_1
            clear hn154_2
            replace p154 := eq_true p154
            replace q154 := eq_true q154
            go_wp2_with (first | (go_at_call 52; (with_reducible refine (malthouseref01_Class.calls (rd t146 0) t155 _ A15.out).mono ?_); rintro e w' ⟨rfl, ⟨nd, rfl⟩⟩))
            go_meet
            case rel => exact ⟨_, ((t155 != 2)), (by first | rfl | (simp; done) | (simp [*]; done)), H', ⟨by first | omega | exact Nat.le_refl _⟩, ⟨by (with_reducible repeat (first | apply Kd.R_alloc | apply Kd.R_drewN | apply Kd.R_drew)); exact Kd.R_mono (Kd.R_far (p := ⟨gb153, 2, none⟩) (Kd.R_far (p := ⟨gb153, 1, none⟩) (Kd.R_far (p := ⟨gb153, 0, none⟩) (Kd.R_types HO148.out BK153.out (by decide)) (fun _ hk => hk.2) (.string t145)) (fun _ hk => hk.2) (.slice (some ad154) t146.length co7)) (fun _ hk => hk.2) (.slice Ao8 t149.length co8)) (fun _ hk => hk.1)⟩, ⟨by (with_reducible repeat (first | apply Kd.R_alloc | apply Kd.R_drewN | apply Kd.R_drew)); exact Kd.R_mono (Kd.R_far (p := ⟨gb153, 2, none⟩) (Kd.R_far (p := ⟨gb153, 1, none⟩) (Kd.R_far (p := ⟨gb153, 0, none⟩) (Kd.R_types HO151.out BK153.out (by decide)) (fun _ hk => hk.2) (.string t145)) (fun _ hk => hk.2) (.slice (some ad154) t146.length co7)) (fun _ hk => hk.2) (.slice Ao8 t149.length co8)) (fun _ hk => hk.1)⟩, ⟨by (with_reducible repeat (first | refine blk_drewN ?_ _ | refine blk_drew ?_ | refine blk_alloc ?_ _)); refine blk_put (cs := #[.string t145, .slice (some ad154) t146.length co7, .slice none 0 0]) ?_ 2 _ rfl; (with_reducible repeat (first | refine blk_drewN ?_ _ | refine blk_drew ?_ | refine blk_alloc ?_ _)); refine blk_put (cs := #[.string t145, .slice none 0 0, .slice none 0 0]) ?_ 1 _ rfl; (with_reducible repeat (first | refine blk_drewN ?_ _ | refine blk_drew ?_ | refine blk_alloc ?_ _)); refine blk_put (cs := #[.string (⟨#[]⟩ : ByteArray), .slice none 0 0, .slice none 0 0]) ?_ 0 _ rfl; (with_reducible repeat (first | refine blk_drewN ?_ _ | refine blk_drew ?_ | refine blk_alloc ?_ _)); exact BK153.out⟩, ⟨by repeat (first | (with_reducible first | exact HB.out | apply below_alloc | apply pw_below_drewN | apply below_drew1 | refine below_set ?_ GE153.out) | exact HB.out)⟩⟩
          · rw [if_neg c14] at H
            exact absurd H (by simp)
    · replace c9 := Bool.eq_false_iff.mpr c9
      subst c9
      have H1 : (malthouseref01_Name.j0 k true t145 t146 t149) = some r := by rw [if_neg (show ¬ (false = true) by decide)] at H; exact H
      clear H
      have H := H1
      clear H1
      have H' := Aside0.mk H
      clear H
      go_wp2
      go_meet
      case rel => exact ⟨_, (true), (by first | rfl | (simp; done) | (simp [*]; done)), H', ⟨by first | omega | exact Nat.le_refl _⟩, ⟨by (with_reducible repeat (first | apply Kd.R_alloc | apply Kd.R_drewN | apply Kd.R_drew)); exact Kd.R_mono (Kd.R_far (p := ⟨gb153, 2, none⟩) (Kd.R_far (p := ⟨gb153, 1, none⟩) (Kd.R_far (p := ⟨gb153, 0, none⟩) (Kd.R_types HO148.out BK153.out (by decide)) (fun _ hk => hk.2) (.string t145)) (fun _ hk => hk.2) (.slice Ao7 t146.length co7)) (fun _ hk => hk.2) (.slice Ao8 t149.length co8)) (fun _ hk => hk.1)⟩, ⟨by (with_reducible repeat (first | apply Kd.R_alloc | apply Kd.R_drewN | apply Kd.R_drew)); exact Kd.R_mono (Kd.R_far (p := ⟨gb153, 2, none⟩) (Kd.R_far (p := ⟨gb153, 1, none⟩) (Kd.R_far (p := ⟨gb153, 0, none⟩) (Kd.R_types HO151.out BK153.out (by decide)) (fun _ hk => hk.2) (.string t145)) (fun _ hk => hk.2) (.slice Ao7 t146.length co7)) (fun _ hk => hk.2) (.slice Ao8 t149.length co8)) (fun _ hk => hk.1)⟩, ⟨by (with_reducible repeat (first | refine blk_drewN ?_ _ | refine blk_drew ?_ | refine blk_alloc ?_ _)); refine blk_put (cs := #[.string t145, .slice Ao7 t146.length co7, .slice none 0 0]) ?_ 2 _ rfl; (with_reducible repeat (first | refine blk_drewN ?_ _ | refine blk_drew ?_ | refine blk_alloc ?_ _)); refine blk_put (cs := #[.string t145, .slice none 0 0, .slice none 0 0]) ?_ 1 _ rfl; (with_reducible repeat (first | refine blk_drewN ?_ _ | refine blk_drew ?_ | refine blk_alloc ?_ _)); refine blk_put (cs := #[.string (⟨#[]⟩ : ByteArray), .slice none 0 0, .slice none 0 0]) ?_ 0 _ rfl; (with_reducible repeat (first | refine blk_drewN ?_ _ | refine blk_drew ?_ | refine blk_alloc ?_ _)); exact BK153.out⟩, ⟨by repeat (first | (with_reducible first | exact HB.out | apply below_alloc | apply pw_below_drewN | apply below_drew1 | refine below_set ?_ GE153.out) | exact HB.out)⟩⟩
  case rest =>
    clear HC3
    try clear c1
    try clear p1
    try clear q1
    try clear hx1
    try clear qi1
    try clear p2
    try clear c3
    try clear c5
    try clear c9
    try clear c10
    try clear c10b0
    try clear c10b1
    try clear c10b2
    try clear c12
    try clear c12b0
    try clear c12b1
    try clear c14
    try clear c14b0
    try clear c14b1
    try clear p15
    try clear q15
    try clear hx15
    try clear qi15
    try clear hcz11_0
    try clear hcz11_1
    try clear hcz11_2
    try clear hcz13_0
    try clear hcz13_1
    try clear hcz13_2
    try clear hcz16_0
    try clear hcz16_1
    try clear hcz16_2
    try clear hcz6_0
    try clear hcz6_1
    try clear hcz6_2
    try clear hfz11_0
    try clear hfz11_1
    try clear hfz11_2
    try clear hfz13_0
    try clear hfz13_1
    try clear hfz13_2
    try clear hfz16_0
    try clear hfz16_1
    try clear hfz16_2
    try clear hfz6_0
    try clear hfz6_1
    try clear hfz6_2
    try clear hx154_0
    try clear p154
    try clear q154
    obtain ⟨kq, x32_2, rfl, HA, HJ2, HO_154001, HO_154002, BK153, HB⟩ := hcut
    cases kq with
    | zero => exact absurd HA.out (by simp [malthouseref01_Name.j0])
    | succ kj2 =>
      have H := HA.out
      clear HA
      simp only [malthouseref01_Name.j0] at H
      by_cases c17 : x32_2 = true
      · subst c17
        have H1 : (some false) = some r := by rw [if_pos rfl] at H; exact H
        clear H
        have H := H1
        clear H1
        obtain rfl := Option.some.inj H
        go_wp2
        go_ret
        exact ⟨by first | rfl | (simp [errW_none, errW_some] <;> rfl) | (simp [*, errW_none, errW_some] <;> rfl), by repeat (first | (with_reducible first | exact HB.out | apply below_alloc | apply pw_below_drewN | apply below_drew1 | refine below_set ?_ GE153.out) | exact HB.out)⟩
      · replace c17 := Bool.eq_false_iff.mpr c17
        subst c17
        have H1 : (malthouseref01_Name.l0 kj2 0 t145 t146 t149) = some r := by rw [if_neg (show ¬ (false = true) by decide)] at H; exact H
        clear H
        have H := H1
        clear H1
        have H' := Aside0.mk H
        clear H
        go_wp2
        go_loopg [5] kj2 (fun kq v5 w' => ∃ (x5_2 : Int), v5 = .int .i64 x5_2 ∧ Aside0 (malthouseref01_Name.l0 kq x5_2 t145 t146 t149 = some r) ∧ Aside0 (kq ≤ kj2) ∧ Aside0 (Kd.R (Kd.int .i64) 3 w' w.heap.size (fun k_ => some k_ ≠ ((.slice Ao8 t149.length co8) : Value).ownBlock) (.slice Ao7 t146.length co7) t146) ∧ Aside0 (Kd.R (Kd.int .i64) 3 w' w.heap.size (fun k_ => some k_ ≠ ((.slice Ao7 t146.length co7) : Value).ownBlock) (.slice Ao8 t149.length co8) t149) ∧ Aside0 (w'.heap[gb153]? = some (.cells #[.string t145, (.slice Ao7 t146.length co7), (.slice Ao8 t149.length co8)] 76 (0, 0))) ∧ Aside0 (Below w.heap.size w w'))
        case atStart => exact ⟨(0), (by first | rfl | (simp; done) | (simp [*]; done)), H', ⟨Nat.le_refl _⟩, ⟨by (with_reducible repeat (first | apply Kd.R_alloc | apply Kd.R_drewN | apply Kd.R_drew)); exact HO_154001.out⟩, ⟨by (with_reducible repeat (first | apply Kd.R_alloc | apply Kd.R_drewN | apply Kd.R_drew)); exact HO_154002.out⟩, ⟨by (with_reducible repeat (first | refine blk_drewN ?_ _ | refine blk_drew ?_ | refine blk_alloc ?_ _)); exact BK153.out⟩, ⟨by repeat (first | (with_reducible first | exact HB.out | apply below_alloc | apply pw_below_drewN | apply below_drew1 | refine below_set ?_ GE153.out) | exact HB.out)⟩⟩
        case round =>
          clear H'
          try clear c1
          try clear p1
          try clear q1
          try clear hx1
          try clear qi1
          try clear p2
          try clear c3
          try clear c5
          try clear c9
          try clear c10
          try clear c10b0
          try clear c10b1
          try clear c10b2
          try clear c12
          try clear c12b0
          try clear c12b1
          try clear c14
          try clear c14b0
          try clear c14b1
          try clear p15
          try clear q15
          try clear hx15
          try clear qi15
          try clear c17
          try clear hcz11_0
          try clear hcz11_1
          try clear hcz11_2
          try clear hcz13_0
          try clear hcz13_1
          try clear hcz13_2
          try clear hcz16_0
          try clear hcz16_1
          try clear hcz16_2
          try clear hcz6_0
          try clear hcz6_1
          try clear hcz6_2
          try clear hfz11_0
          try clear hfz11_1
          try clear hfz11_2
          try clear hfz13_0
          try clear hfz13_1
          try clear hfz13_2
          try clear hfz16_0
          try clear hfz16_1
          try clear hfz16_2
          try clear hfz6_0
          try clear hfz6_1
          try clear hfz6_2
          try clear hx154_0
          try clear p1
          try clear p15
          try clear p154
          try clear p2
          try clear q1
          try clear q15
          try clear q154
          obtain ⟨x5_2, rfl, HA, HK2, HO_154001, HO_154002, BK153, HB⟩ := hrel
          cases gk with
          | zero => exact absurd HA.out (by simp [malthouseref01_Name.l0])
          | succ k2 =>
            have H := HA.out
            clear HA
            simp only [malthouseref01_Name.l0] at H
            by_cases c18 : x5_2 < (t146.length : Int)
            · rw [if_pos c18] at H
              have c18b0 : decide (x5_2 < (t146.length : Int)) = true := decide_eq_true c18
              clear c18
              by_cases c19 : 0 ≤ x5_2
              · rw [if_pos c19] at H
                have c19b0 : decide (0 ≤ x5_2) = true := decide_eq_true c19
                clear c19
                replace H := Option.bind_eq_some_iff.mp H
                obtain ⟨t157, A200, H⟩ := H
                replace H : (if t157 = true then (malthouseref01_Name.l0 k2 (wrap64 (x5_2 + 1)) t145 t146 t149) else (some false)) = some r := H
                have A20 := Aside0.mk A200
                clear A200
                by_cases c21 : t157 = true
                · subst c21
                  have H1 : (malthouseref01_Name.l0 k2 (wrap64 (x5_2 + 1)) t145 t146 t149) = some r := by rw [if_pos rfl] at H; exact H
                  clear H
                  have H := H1
                  clear H1
                  have H' := Aside0.mk H
                  clear H
                  have hcz22_0 : wr.cell? ⟨gb153, 0, none⟩ = some (.string t145) := (blk_cell BK153.out 0).trans rfl
                  have hcz22_1 : wr.cell? ⟨gb153, 1, none⟩ = some (.slice Ao7 t146.length co7) := (blk_cell BK153.out 1).trans rfl
                  have hcz22_2 : wr.cell? ⟨gb153, 2, none⟩ = some (.slice Ao8 t149.length co8) := (blk_cell BK153.out 2).trans rfl
                  have hfz22_0 := blk_frozen BK153.out 0
                  have hfz22_1 := blk_frozen BK153.out 1
                  have hfz22_2 := blk_frozen BK153.out 2
                  have p156 : 0 ≤ (x5_2 : Int) := of_decide_eq_true (by first | (with_reducible assumption) | assumption)
                  have q156 : x5_2 < (t146.length : Int) := of_decide_eq_true (by first | (with_reducible assumption) | assumption)
                  obtain ⟨ad156, e156, hx156_0⟩ := Kd.at_int (Kd.R_reads' HO_154001.out).2.2 x5_2 p156 q156
                  cases e156
                  replace p156 := eq_true p156
                  replace q156 := eq_true q156
                  go_wp2_with (first | ((with_reducible refine gate_callee (f := 53) rfl ?_); refine goesL_ (some 45) rfl rfl Tryd.func53 (by kernel_rfl) rfl #[.int .i64 (rd t146 x5_2)] rfl (by (try simp only [List.map_toArray, List.map_cons, List.map_nil]); first | done | rfl | (simp only [List.length_drop, List.length_take]; rfl)) ?_; (with_reducible refine (malthouseref01_wordy.calls (rd t146 x5_2) true _ A20.out).mono ?_); rintro e w' ⟨rfl, ⟨nd, rfl⟩⟩; refine ⟨_, rfl, ?_⟩))
                  go_roundg k2
                  case measure => have := HJ2.out; have := HK2.out; omega
                  case rel => exact ⟨(wrap64 (x5_2 + 1)), (by first | rfl | (simp; done) | (simp [*]; done)), H', ⟨by have := HJ2.out; have := HK2.out; omega⟩, ⟨by (with_reducible repeat (first | apply Kd.R_alloc | apply Kd.R_drewN | apply Kd.R_drew)); exact HO_154001.out⟩, ⟨by (with_reducible repeat (first | apply Kd.R_alloc | apply Kd.R_drewN | apply Kd.R_drew)); exact HO_154002.out⟩, ⟨by (with_reducible repeat (first | refine blk_drewN ?_ _ | refine blk_drew ?_ | refine blk_alloc ?_ _)); exact BK153.out⟩, ⟨by repeat (first | (with_reducible first | exact HB.out | apply below_alloc | apply pw_below_drewN | apply below_drew1 | refine below_set ?_ GE153.out) | exact HB.out)⟩⟩
                · replace c21 := Bool.eq_false_iff.mpr c21
                  subst c21
                  have H1 : (some false) = some r := by rw [if_neg (show ¬ (false = true) by decide)] at H; exact H
                  clear H
                  have H := H1
                  clear H1
                  obtain rfl := Option.some.inj H
                  have hcz23_0 : wr.cell? ⟨gb153, 0, none⟩ = some (.string t145) := (blk_cell BK153.out 0).trans rfl
                  have hcz23_1 : wr.cell? ⟨gb153, 1, none⟩ = some (.slice Ao7 t146.length co7) := (blk_cell BK153.out 1).trans rfl
                  have hcz23_2 : wr.cell? ⟨gb153, 2, none⟩ = some (.slice Ao8 t149.length co8) := (blk_cell BK153.out 2).trans rfl
                  have hfz23_0 := blk_frozen BK153.out 0
                  have hfz23_1 := blk_frozen BK153.out 1
                  have hfz23_2 := blk_frozen BK153.out 2
                  have p156 : 0 ≤ (x5_2 : Int) := of_decide_eq_true (by first | (with_reducible assumption) | assumption)
                  have q156 : x5_2 < (t146.length : Int) := of_decide_eq_true (by first | (with_reducible assumption) | assumption)
                  obtain ⟨ad156, e156, hx156_0⟩ := Kd.at_int (Kd.R_reads' HO_154001.out).2.2 x5_2 p156 q156
                  cases e156
                  replace p156 := eq_true p156
                  replace q156 := eq_true q156
                  go_wp2_with (first | ((with_reducible refine gate_callee (f := 53) rfl ?_); refine goesL_ (some 45) rfl rfl Tryd.func53 (by kernel_rfl) rfl #[.int .i64 (rd t146 x5_2)] rfl (by (try simp only [List.map_toArray, List.map_cons, List.map_nil]); first | done | rfl | (simp only [List.length_drop, List.length_take]; rfl)) ?_; (with_reducible refine (malthouseref01_wordy.calls (rd t146 x5_2) false _ A20.out).mono ?_); rintro e w' ⟨rfl, ⟨nd, rfl⟩⟩; refine ⟨_, rfl, ?_⟩))
                  go_ret
                  exact ⟨by first | rfl | (simp [errW_none, errW_some] <;> rfl) | (simp [*, errW_none, errW_some] <;> rfl), by repeat (first | (with_reducible first | exact HB.out | apply below_alloc | apply pw_below_drewN | apply below_drew1 | refine below_set ?_ GE153.out) | exact HB.out)⟩
              · rw [if_neg c19] at H
                exact absurd H (by simp)
            · rw [if_neg c18] at H
              have c18b0 : decide (x5_2 < (t146.length : Int)) = false := decide_eq_false c18
              clear c18
              obtain rfl := Option.some.inj H
              have hcz24_0 : wr.cell? ⟨gb153, 0, none⟩ = some (.string t145) := (blk_cell BK153.out 0).trans rfl
              have hcz24_1 : wr.cell? ⟨gb153, 1, none⟩ = some (.slice Ao7 t146.length co7) := (blk_cell BK153.out 1).trans rfl
              have hcz24_2 : wr.cell? ⟨gb153, 2, none⟩ = some (.slice Ao8 t149.length co8) := (blk_cell BK153.out 2).trans rfl
              have hfz24_0 := blk_frozen BK153.out 0
              have hfz24_1 := blk_frozen BK153.out 1
              have hfz24_2 := blk_frozen BK153.out 2
              go_wp2
              go_ret
              exact ⟨by first | rfl | (simp [errW_none, errW_some] <;> rfl) | (simp [*, errW_none, errW_some] <;> rfl), by repeat (first | (with_reducible first | exact HB.out | apply below_alloc | apply pw_below_drewN | apply below_drew1 | refine below_set ?_ GE153.out) | exact HB.out)⟩
def malthouseref13_lots.l0 : Nat → List (S37) → Int → Int → Option (Bool)
  | 0, _, _, _ => none
  | k + 1, x0, x1, x5 => if x5 < (x0.length : Int) then (if 0 ≤ x5 then ((malthouseref01_Name.f k ((rd_T37 x0 x5).f0)).bind fun t159 => (if t159 = true then (if ((rd_T37 x0 x5).f1) < 1 then (some false) else (if ((rd_T37 x0 x5).f1) > x1 then (some false) else (if x5 > 0 then (if 0 ≤ (wrap64 (x5 - 1)) then (if (wrap64 (x5 - 1)) < (x0.length : Int) then (if ((rd_T37 x0 x5).f0).toList = ((rd_T37 x0 (wrap64 (x5 - 1))).f0).toList then (some false) else (malthouseref13_lots.l0 k x0 (wrap64 (x1 - ((rd_T37 x0 x5).f1))) (wrap64 (x5 + 1)))) else (none)) else (none)) else (malthouseref13_lots.l0 k x0 (wrap64 (x1 - ((rd_T37 x0 x5).f1))) (wrap64 (x5 + 1)))))) else (some false))) else (none)) else (some true)
def malthouseref13_lots.f (k : Nat) (l0 : List (S37)) (a1 : Int) : Option (Bool) := malthouseref13_lots.l0 k l0 a1 0
set_option maxHeartbeats 8000000 in
set_option maxRecDepth 100000 in
theorem malthouseref13_lots.calls (k : Nat) (A0 : Option Addr) (c0 : Nat) (l0 : List (S37)) (a1 : Int) (r : Bool) (w : World) (hr0 : Kd.C k37 w A0 l0.length l0) (hc0 : l0.length ≤ c0) (h : malthouseref13_lots.f k l0 a1 = some r) :
    Calls Tryd.prog 35 #[.slice A0 l0.length c0, .int .i64 a1] w fun e w' => e = .returned (.bool r) ∧ Below w.heap.size w w' := by
  have HR0 := Aside0.mk hr0
  have HC0 := Aside0.mk hc0
  clear hr0 hc0
  have HB := Aside0.mk (Below.refl w.heap.size w)
  have H : (malthouseref13_lots.l0 k l0 a1 0) = some r := h
  clear h
  have H' := Aside0.mk H
  clear H
  go_enter Tryd.func35, Tryd.ntmps35
  go_wp2
  repeat (go_quiet (fail); try go_wp2)
  go_loopg [1, 5] k (fun kq v1 v5 w' => ∃ (x1_1 : Int) (x5_1 : Int), v1 = .int .i64 x1_1 ∧ v5 = .int .i64 x5_1 ∧ Aside0 (malthouseref13_lots.l0 kq l0 x1_1 x5_1 = some r) ∧ Aside0 (kq ≤ k) ∧ Aside0 (Below w.heap.size w w'))
  case atStart => exact ⟨(a1), (0), (by first | rfl | (simp; done) | (simp [*]; done)), (by first | rfl | (simp; done) | (simp [*]; done)), H', ⟨Nat.le_refl _⟩, ⟨by repeat (first | (with_reducible first | exact HB.out | apply below_alloc | apply pw_below_drewN | apply below_drew1) | exact HB.out)⟩⟩
  case round =>
    clear H'
    try clear p2
    obtain ⟨x1_1, x5_1, rfl, rfl, HA, HK1, HB⟩ := hrel
    cases gk with
    | zero => exact absurd HA.out (by simp [malthouseref13_lots.l0])
    | succ k1 =>
      have H := HA.out
      clear HA
      simp only [malthouseref13_lots.l0] at H
      by_cases c3 : x5_1 < (l0.length : Int)
      · rw [if_pos c3] at H
        have c3b0 : decide (x5_1 < (l0.length : Int)) = true := decide_eq_true c3
        clear c3
        by_cases c4 : 0 ≤ x5_1
        · rw [if_pos c4] at H
          have c4b0 : decide (0 ≤ x5_1) = true := decide_eq_true c4
          clear c4
          replace H := Option.bind_eq_some_iff.mp H
          obtain ⟨t159, A50, H⟩ := H
          replace H : (if t159 = true then (if ((rd_T37 l0 x5_1).f1) < 1 then (some false) else (if ((rd_T37 l0 x5_1).f1) > x1_1 then (some false) else (if x5_1 > 0 then (if 0 ≤ (wrap64 (x5_1 - 1)) then (if (wrap64 (x5_1 - 1)) < (l0.length : Int) then (if ((rd_T37 l0 x5_1).f0).toList = ((rd_T37 l0 (wrap64 (x5_1 - 1))).f0).toList then (some false) else (malthouseref13_lots.l0 k1 l0 (wrap64 (x1_1 - ((rd_T37 l0 x5_1).f1))) (wrap64 (x5_1 + 1)))) else (none)) else (none)) else (malthouseref13_lots.l0 k1 l0 (wrap64 (x1_1 - ((rd_T37 l0 x5_1).f1))) (wrap64 (x5_1 + 1)))))) else (some false)) = some r := H
          have A5 := Aside0.mk A50
          clear A50
          by_cases c6 : t159 = true
          · subst c6
            have H1 : (if ((rd_T37 l0 x5_1).f1) < 1 then (some false) else (if ((rd_T37 l0 x5_1).f1) > x1_1 then (some false) else (if x5_1 > 0 then (if 0 ≤ (wrap64 (x5_1 - 1)) then (if (wrap64 (x5_1 - 1)) < (l0.length : Int) then (if ((rd_T37 l0 x5_1).f0).toList = ((rd_T37 l0 (wrap64 (x5_1 - 1))).f0).toList then (some false) else (malthouseref13_lots.l0 k1 l0 (wrap64 (x1_1 - ((rd_T37 l0 x5_1).f1))) (wrap64 (x5_1 + 1)))) else (none)) else (none)) else (malthouseref13_lots.l0 k1 l0 (wrap64 (x1_1 - ((rd_T37 l0 x5_1).f1))) (wrap64 (x5_1 + 1)))))) = some r := by rw [if_pos rfl] at H; exact H
            clear H
            have H := H1
            clear H1
            by_cases c7 : ((rd_T37 l0 x5_1).f1) < 1
            · rw [if_pos c7] at H
              have c7b0 : decide (((rd_T37 l0 x5_1).f1) < 1) = true := decide_eq_true c7
              clear c7
              obtain rfl := Option.some.inj H
              have p158 : 0 ≤ (x5_1 : Int) := of_decide_eq_true (by first | (with_reducible assumption) | assumption)
              have q158 : x5_1 < (l0.length : Int) := of_decide_eq_true (by first | (with_reducible assumption) | assumption)
              obtain ⟨ad158, e158, hx158_0, hx158_1⟩ := at_T37 HR0.out x5_1 p158 q158
              cases e158
              replace hx158_0 := (HB.out.cell (World.block_lt_of_cell? w _ hx158_0)).trans hx158_0
              replace hx158_1 := (HB.out.cell (World.block_lt_of_cell? w _ hx158_1)).trans hx158_1
              replace p158 := eq_true p158
              replace q158 := eq_true q158
              go_wp2_with (first | (go_at_call 34; (with_reducible refine (malthouseref01_Name.calls k1 ((rd_T37 l0 x5_1).f0) true _ A5.out).mono ?_); rintro e w8 ⟨rfl, hb⟩; have n0_ := Aside0.mk (below_step (by repeat (first | (with_reducible first | exact HB.out | apply below_alloc | apply pw_below_drewN | apply below_drew1) | exact HB.out)) hb); clear HB; have HB := n0_; clear n0_; (try clear hb); (try clear hb2); (try clear hk); (try clear hi); have p160 : 0 ≤ (x5_1 : Int) := of_decide_eq_true (by first | (with_reducible assumption) | assumption); have q160 : x5_1 < (l0.length : Int) := of_decide_eq_true (by first | (with_reducible assumption) | assumption); obtain ⟨ad160, e160, hx160_0, hx160_1⟩ := at_T37 HR0.out x5_1 p160 q160; obtain rfl : ad158 = ad160 := (by injection e160); replace hx160_0 := (HB.out.cell (World.block_lt_of_cell? w _ hx160_0)).trans hx160_0; replace hx160_1 := (HB.out.cell (World.block_lt_of_cell? w _ hx160_1)).trans hx160_1; replace p160 := eq_true p160; replace q160 := eq_true q160))
              repeat (go_quiet (first | (go_at_call 34; (with_reducible refine (malthouseref01_Name.calls k1 ((rd_T37 l0 x5_1).f0) true _ A5.out).mono ?_); rintro e w8 ⟨rfl, hb⟩; have n0_ := Aside0.mk (below_step (by repeat (first | (with_reducible first | exact HB.out | apply below_alloc | apply pw_below_drewN | apply below_drew1) | exact HB.out)) hb); clear HB; have HB := n0_; clear n0_; (try clear hb); (try clear hb2); (try clear hk); (try clear hi); have p160 : 0 ≤ (x5_1 : Int) := of_decide_eq_true (by first | (with_reducible assumption) | assumption); have q160 : x5_1 < (l0.length : Int) := of_decide_eq_true (by first | (with_reducible assumption) | assumption); obtain ⟨ad160, e160, hx160_0, hx160_1⟩ := at_T37 HR0.out x5_1 p160 q160; obtain rfl : ad158 = ad160 := (by injection e160); replace hx160_0 := (HB.out.cell (World.block_lt_of_cell? w _ hx160_0)).trans hx160_0; replace hx160_1 := (HB.out.cell (World.block_lt_of_cell? w _ hx160_1)).trans hx160_1; replace p160 := eq_true p160; replace q160 := eq_true q160)); try go_wp2_with (first | (go_at_call 34; (with_reducible refine (malthouseref01_Name.calls k1 ((rd_T37 l0 x5_1).f0) true _ A5.out).mono ?_); rintro e w8 ⟨rfl, hb⟩; have n0_ := Aside0.mk (below_step (by repeat (first | (with_reducible first | exact HB.out | apply below_alloc | apply pw_below_drewN | apply below_drew1) | exact HB.out)) hb); clear HB; have HB := n0_; clear n0_; (try clear hb); (try clear hb2); (try clear hk); (try clear hi); have p160 : 0 ≤ (x5_1 : Int) := of_decide_eq_true (by first | (with_reducible assumption) | assumption); have q160 : x5_1 < (l0.length : Int) := of_decide_eq_true (by first | (with_reducible assumption) | assumption); obtain ⟨ad160, e160, hx160_0, hx160_1⟩ := at_T37 HR0.out x5_1 p160 q160; obtain rfl : ad158 = ad160 := (by injection e160); replace hx160_0 := (HB.out.cell (World.block_lt_of_cell? w _ hx160_0)).trans hx160_0; replace hx160_1 := (HB.out.cell (World.block_lt_of_cell? w _ hx160_1)).trans hx160_1; replace p160 := eq_true p160; replace q160 := eq_true q160)))
              go_ret
              exact ⟨by first | rfl | (simp [errW_none, errW_some] <;> rfl) | (simp [*, errW_none, errW_some] <;> rfl), by repeat (first | (with_reducible first | exact HB.out | apply below_alloc | apply pw_below_drewN | apply below_drew1) | exact HB.out)⟩
            · rw [if_neg c7] at H
              have c7b0 : decide (((rd_T37 l0 x5_1).f1) < 1) = false := decide_eq_false c7
              clear c7
              by_cases c9 : ((rd_T37 l0 x5_1).f1) > x1_1
              · rw [if_pos c9] at H
                have c9b0 : decide (x1_1 < ((rd_T37 l0 x5_1).f1)) = true := decide_eq_true c9
                clear c9
                obtain rfl := Option.some.inj H
                have p158 : 0 ≤ (x5_1 : Int) := of_decide_eq_true (by first | (with_reducible assumption) | assumption)
                have q158 : x5_1 < (l0.length : Int) := of_decide_eq_true (by first | (with_reducible assumption) | assumption)
                obtain ⟨ad158, e158, hx158_0, hx158_1⟩ := at_T37 HR0.out x5_1 p158 q158
                cases e158
                replace hx158_0 := (HB.out.cell (World.block_lt_of_cell? w _ hx158_0)).trans hx158_0
                replace hx158_1 := (HB.out.cell (World.block_lt_of_cell? w _ hx158_1)).trans hx158_1
                replace p158 := eq_true p158
                replace q158 := eq_true q158
                go_wp2_with (first | (go_at_call 34; (with_reducible refine (malthouseref01_Name.calls k1 ((rd_T37 l0 x5_1).f0) true _ A5.out).mono ?_); rintro e w10 ⟨rfl, hb⟩; have n0_ := Aside0.mk (below_step (by repeat (first | (with_reducible first | exact HB.out | apply below_alloc | apply pw_below_drewN | apply below_drew1) | exact HB.out)) hb); clear HB; have HB := n0_; clear n0_; (try clear hb); (try clear hb2); (try clear hk); (try clear hi); have p160 : 0 ≤ (x5_1 : Int) := of_decide_eq_true (by first | (with_reducible assumption) | assumption); have q160 : x5_1 < (l0.length : Int) := of_decide_eq_true (by first | (with_reducible assumption) | assumption); obtain ⟨ad160, e160, hx160_0, hx160_1⟩ := at_T37 HR0.out x5_1 p160 q160; obtain rfl : ad158 = ad160 := (by injection e160); replace hx160_0 := (HB.out.cell (World.block_lt_of_cell? w _ hx160_0)).trans hx160_0; replace hx160_1 := (HB.out.cell (World.block_lt_of_cell? w _ hx160_1)).trans hx160_1; replace p160 := eq_true p160; replace q160 := eq_true q160; have p161 : 0 ≤ (x5_1 : Int) := of_decide_eq_true (by first | (with_reducible assumption) | assumption); have q161 : x5_1 < (l0.length : Int) := of_decide_eq_true (by first | (with_reducible assumption) | assumption); obtain ⟨ad161, e161, hx161_0, hx161_1⟩ := at_T37 HR0.out x5_1 p161 q161; obtain rfl : ad158 = ad161 := (by injection e161); replace hx161_0 := (HB.out.cell (World.block_lt_of_cell? w _ hx161_0)).trans hx161_0; replace hx161_1 := (HB.out.cell (World.block_lt_of_cell? w _ hx161_1)).trans hx161_1; replace p161 := eq_true p161; replace q161 := eq_true q161))
                repeat (go_quiet (first | (go_at_call 34; (with_reducible refine (malthouseref01_Name.calls k1 ((rd_T37 l0 x5_1).f0) true _ A5.out).mono ?_); rintro e w10 ⟨rfl, hb⟩; have n0_ := Aside0.mk (below_step (by repeat (first | (with_reducible first | exact HB.out | apply below_alloc | apply pw_below_drewN | apply below_drew1) | exact HB.out)) hb); clear HB; have HB := n0_; clear n0_; (try clear hb); (try clear hb2); (try clear hk); (try clear hi); have p160 : 0 ≤ (x5_1 : Int) := of_decide_eq_true (by first | (with_reducible assumption) | assumption); have q160 : x5_1 < (l0.length : Int) := of_decide_eq_true (by first | (with_reducible assumption) | assumption); obtain ⟨ad160, e160, hx160_0, hx160_1⟩ := at_T37 HR0.out x5_1 p160 q160; obtain rfl : ad158 = ad160 := (by injection e160); replace hx160_0 := (HB.out.cell (World.block_lt_of_cell? w _ hx160_0)).trans hx160_0; replace hx160_1 := (HB.out.cell (World.block_lt_of_cell? w _ hx160_1)).trans hx160_1; replace p160 := eq_true p160; replace q160 := eq_true q160; have p161 : 0 ≤ (x5_1 : Int) := of_decide_eq_true (by first | (with_reducible assumption) | assumption); have q161 : x5_1 < (l0.length : Int) := of_decide_eq_true (by first | (with_reducible assumption) | assumption); obtain ⟨ad161, e161, hx161_0, hx161_1⟩ := at_T37 HR0.out x5_1 p161 q161; obtain rfl : ad158 = ad161 := (by injection e161); replace hx161_0 := (HB.out.cell (World.block_lt_of_cell? w _ hx161_0)).trans hx161_0; replace hx161_1 := (HB.out.cell (World.block_lt_of_cell? w _ hx161_1)).trans hx161_1; replace p161 := eq_true p161; replace q161 := eq_true q161)); try go_wp2_with (first | (go_at_call 34; (with_reducible refine (malthouseref01_Name.calls k1 ((rd_T37 l0 x5_1).f0) true _ A5.out).mono ?_); rintro e w10 ⟨rfl, hb⟩; have n0_ := Aside0.mk (below_step (by repeat (first | (with_reducible first | exact HB.out | apply below_alloc | apply pw_below_drewN | apply below_drew1) | exact HB.out)) hb); clear HB; have HB := n0_; clear n0_; (try clear hb); (try clear hb2); (try clear hk); (try clear hi); have p160 : 0 ≤ (x5_1 : Int) := of_decide_eq_true (by first | (with_reducible assumption) | assumption); have q160 : x5_1 < (l0.length : Int) := of_decide_eq_true (by first | (with_reducible assumption) | assumption); obtain ⟨ad160, e160, hx160_0, hx160_1⟩ := at_T37 HR0.out x5_1 p160 q160; obtain rfl : ad158 = ad160 := (by injection e160); replace hx160_0 := (HB.out.cell (World.block_lt_of_cell? w _ hx160_0)).trans hx160_0; replace hx160_1 := (HB.out.cell (World.block_lt_of_cell? w _ hx160_1)).trans hx160_1; replace p160 := eq_true p160; replace q160 := eq_true q160; have p161 : 0 ≤ (x5_1 : Int) := of_decide_eq_true (by first | (with_reducible assumption) | assumption); have q161 : x5_1 < (l0.length : Int) := of_decide_eq_true (by first | (with_reducible assumption) | assumption); obtain ⟨ad161, e161, hx161_0, hx161_1⟩ := at_T37 HR0.out x5_1 p161 q161; obtain rfl : ad158 = ad161 := (by injection e161); replace hx161_0 := (HB.out.cell (World.block_lt_of_cell? w _ hx161_0)).trans hx161_0; replace hx161_1 := (HB.out.cell (World.block_lt_of_cell? w _ hx161_1)).trans hx161_1; replace p161 := eq_true p161; replace q161 := eq_true q161)))
                go_ret
                exact ⟨by first | rfl | (simp [errW_none, errW_some] <;> rfl) | (simp [*, errW_none, errW_some] <;> rfl), by repeat (first | (with_reducible first | exact HB.out | apply below_alloc | apply pw_below_drewN | apply below_drew1) | exact HB.out)⟩
              · rw [if_neg c9] at H
                have c9b0 : decide (x1_1 < ((rd_T37 l0 x5_1).f1)) = false := decide_eq_false c9
                clear c9
                by_cases c11 : x5_1 > 0
                · rw [if_pos c11] at H
                  have c11b0 : decide (0 < x5_1) = true := decide_eq_true c11
                  clear c11
                  obtain ⟨ji12, hji12⟩ : ∃ j_ : Int, (wrap64 (x5_1 - 1)) = j_ := ⟨_, rfl⟩
                  replace H : (if 0 ≤ (ji12) then (if (ji12) < (l0.length : Int) then (if ((rd_T37 l0 x5_1).f0).toList = ((rd_T37 l0 (ji12)).f0).toList then (some false) else (malthouseref13_lots.l0 k1 l0 (wrap64 (x1_1 - ((rd_T37 l0 x5_1).f1))) (wrap64 (x5_1 + 1)))) else (none)) else (none)) = some r := by first | (rw [hji12] at H; exact H) | (simp only [hji12] at H ⊢; exact H)
                  (try rw [hji12] at A5)
                  have hji12w : (IntKind.i64.wrap (x5_1 - 1)) = ji12 := (i64_w _).trans hji12
                  by_cases c13 : 0 ≤ (ji12)
                  · rw [if_pos c13] at H
                    have c13b0 : decide (0 ≤ (ji12)) = true := decide_eq_true c13
                    clear c13
                    by_cases c14 : (ji12) < (l0.length : Int)
                    · rw [if_pos c14] at H
                      have c14b0 : decide ((ji12) < (l0.length : Int)) = true := decide_eq_true c14
                      clear c14
                      by_cases c15 : ((rd_T37 l0 x5_1).f0).toList = ((rd_T37 l0 (ji12)).f0).toList
                      · rw [if_pos c15] at H
                        have c15b0 : (((rd_T37 l0 x5_1).f0).toList == ((rd_T37 l0 (ji12)).f0).toList) = true := beq_iff_eq.mpr c15
                        have c15b1 : (((rd_T37 l0 x5_1).f0).toList != ((rd_T37 l0 (ji12)).f0).toList) = false := bne_eq_false_iff_eq.mpr c15
                        clear c15
                        obtain rfl := Option.some.inj H
                        have p158 : 0 ≤ (x5_1 : Int) := of_decide_eq_true (by first | (with_reducible assumption) | assumption)
                        have q158 : x5_1 < (l0.length : Int) := of_decide_eq_true (by first | (with_reducible assumption) | assumption)
                        obtain ⟨ad158, e158, hx158_0, hx158_1⟩ := at_T37 HR0.out x5_1 p158 q158
                        cases e158
                        replace hx158_0 := (HB.out.cell (World.block_lt_of_cell? w _ hx158_0)).trans hx158_0
                        replace hx158_1 := (HB.out.cell (World.block_lt_of_cell? w _ hx158_1)).trans hx158_1
                        replace p158 := eq_true p158
                        replace q158 := eq_true q158
                        go_wp2_with (first | (go_at_call 34; (with_reducible refine (malthouseref01_Name.calls k1 ((rd_T37 l0 x5_1).f0) true _ A5.out).mono ?_); rintro e w16 ⟨rfl, hb⟩; have n0_ := Aside0.mk (below_step (by repeat (first | (with_reducible first | exact HB.out | apply below_alloc | apply pw_below_drewN | apply below_drew1) | exact HB.out)) hb); clear HB; have HB := n0_; clear n0_; (try clear hb); (try clear hb2); (try clear hk); (try clear hi); have p160 : 0 ≤ (x5_1 : Int) := of_decide_eq_true (by first | (with_reducible assumption) | assumption); have q160 : x5_1 < (l0.length : Int) := of_decide_eq_true (by first | (with_reducible assumption) | assumption); obtain ⟨ad160, e160, hx160_0, hx160_1⟩ := at_T37 HR0.out x5_1 p160 q160; obtain rfl : ad158 = ad160 := (by injection e160); replace hx160_0 := (HB.out.cell (World.block_lt_of_cell? w _ hx160_0)).trans hx160_0; replace hx160_1 := (HB.out.cell (World.block_lt_of_cell? w _ hx160_1)).trans hx160_1; replace p160 := eq_true p160; replace q160 := eq_true q160; have p161 : 0 ≤ (x5_1 : Int) := of_decide_eq_true (by first | (with_reducible assumption) | assumption); have q161 : x5_1 < (l0.length : Int) := of_decide_eq_true (by first | (with_reducible assumption) | assumption); obtain ⟨ad161, e161, hx161_0, hx161_1⟩ := at_T37 HR0.out x5_1 p161 q161; obtain rfl : ad158 = ad161 := (by injection e161); replace hx161_0 := (HB.out.cell (World.block_lt_of_cell? w _ hx161_0)).trans hx161_0; replace hx161_1 := (HB.out.cell (World.block_lt_of_cell? w _ hx161_1)).trans hx161_1; replace p161 := eq_true p161; replace q161 := eq_true q161; have p162 : 0 ≤ (x5_1 : Int) := of_decide_eq_true (by first | (with_reducible assumption) | assumption); have q162 : x5_1 < (l0.length : Int) := of_decide_eq_true (by first | (with_reducible assumption) | assumption); obtain ⟨ad162, e162, hx162_0, hx162_1⟩ := at_T37 HR0.out x5_1 p162 q162; obtain rfl : ad158 = ad162 := (by injection e162); replace hx162_0 := (HB.out.cell (World.block_lt_of_cell? w _ hx162_0)).trans hx162_0; replace hx162_1 := (HB.out.cell (World.block_lt_of_cell? w _ hx162_1)).trans hx162_1; replace p162 := eq_true p162; replace q162 := eq_true q162; have p163 : 0 ≤ ((ji12) : Int) := of_decide_eq_true (by first | (with_reducible assumption) | assumption); have q163 : (ji12) < (l0.length : Int) := of_decide_eq_true (by first | (with_reducible assumption) | assumption); obtain ⟨ad163, e163, hx163_0, hx163_1⟩ := at_T37 HR0.out (ji12) p163 q163; obtain rfl : ad158 = ad163 := (by injection e163); replace hx163_0 := (HB.out.cell (World.block_lt_of_cell? w _ hx163_0)).trans hx163_0; replace hx163_1 := (HB.out.cell (World.block_lt_of_cell? w _ hx163_1)).trans hx163_1; replace p163 := eq_true p163; replace q163 := eq_true q163))
                        repeat (go_quiet (first | (go_at_call 34; (with_reducible refine (malthouseref01_Name.calls k1 ((rd_T37 l0 x5_1).f0) true _ A5.out).mono ?_); rintro e w16 ⟨rfl, hb⟩; have n0_ := Aside0.mk (below_step (by repeat (first | (with_reducible first | exact HB.out | apply below_alloc | apply pw_below_drewN | apply below_drew1) | exact HB.out)) hb); clear HB; have HB := n0_; clear n0_; (try clear hb); (try clear hb2); (try clear hk); (try clear hi); have p160 : 0 ≤ (x5_1 : Int) := of_decide_eq_true (by first | (with_reducible assumption) | assumption); have q160 : x5_1 < (l0.length : Int) := of_decide_eq_true (by first | (with_reducible assumption) | assumption); obtain ⟨ad160, e160, hx160_0, hx160_1⟩ := at_T37 HR0.out x5_1 p160 q160; obtain rfl : ad158 = ad160 := (by injection e160); replace hx160_0 := (HB.out.cell (World.block_lt_of_cell? w _ hx160_0)).trans hx160_0; replace hx160_1 := (HB.out.cell (World.block_lt_of_cell? w _ hx160_1)).trans hx160_1; replace p160 := eq_true p160; replace q160 := eq_true q160; have p161 : 0 ≤ (x5_1 : Int) := of_decide_eq_true (by first | (with_reducible assumption) | assumption); have q161 : x5_1 < (l0.length : Int) := of_decide_eq_true (by first | (with_reducible assumption) | assumption); obtain ⟨ad161, e161, hx161_0, hx161_1⟩ := at_T37 HR0.out x5_1 p161 q161; obtain rfl : ad158 = ad161 := (by injection e161); replace hx161_0 := (HB.out.cell (World.block_lt_of_cell? w _ hx161_0)).trans hx161_0; replace hx161_1 := (HB.out.cell (World.block_lt_of_cell? w _ hx161_1)).trans hx161_1; replace p161 := eq_true p161; replace q161 := eq_true q161; have p162 : 0 ≤ (x5_1 : Int) := of_decide_eq_true (by first | (with_reducible assumption) | assumption); have q162 : x5_1 < (l0.length : Int) := of_decide_eq_true (by first | (with_reducible assumption) | assumption); obtain ⟨ad162, e162, hx162_0, hx162_1⟩ := at_T37 HR0.out x5_1 p162 q162; obtain rfl : ad158 = ad162 := (by injection e162); replace hx162_0 := (HB.out.cell (World.block_lt_of_cell? w _ hx162_0)).trans hx162_0; replace hx162_1 := (HB.out.cell (World.block_lt_of_cell? w _ hx162_1)).trans hx162_1; replace p162 := eq_true p162; replace q162 := eq_true q162; have p163 : 0 ≤ ((ji12) : Int) := of_decide_eq_true (by first | (with_reducible assumption) | assumption); have q163 : (ji12) < (l0.length : Int) := of_decide_eq_true (by first | (with_reducible assumption) | assumption); obtain ⟨ad163, e163, hx163_0, hx163_1⟩ := at_T37 HR0.out (ji12) p163 q163; obtain rfl : ad158 = ad163 := (by injection e163); replace hx163_0 := (HB.out.cell (World.block_lt_of_cell? w _ hx163_0)).trans hx163_0; replace hx163_1 := (HB.out.cell (World.block_lt_of_cell? w _ hx163_1)).trans hx163_1; replace p163 := eq_true p163; replace q163 := eq_true q163)); try go_wp2_with (first | (go_at_call 34; (with_reducible refine (malthouseref01_Name.calls k1 ((rd_T37 l0 x5_1).f0) true _ A5.out).mono ?_); rintro e w16 ⟨rfl, hb⟩; have n0_ := Aside0.mk (below_step (by repeat (first | (with_reducible first | exact HB.out | apply below_alloc | apply pw_below_drewN | apply below_drew1) | exact HB.out)) hb); clear HB; have HB := n0_; clear n0_; (try clear hb); (try clear hb2); (try clear hk); (try clear hi); have p160 : 0 ≤ (x5_1 : Int) := of_decide_eq_true (by first | (with_reducible assumption) | assumption); have q160 : x5_1 < (l0.length : Int) := of_decide_eq_true (by first | (with_reducible assumption) | assumption); obtain ⟨ad160, e160, hx160_0, hx160_1⟩ := at_T37 HR0.out x5_1 p160 q160; obtain rfl : ad158 = ad160 := (by injection e160); replace hx160_0 := (HB.out.cell (World.block_lt_of_cell? w _ hx160_0)).trans hx160_0; replace hx160_1 := (HB.out.cell (World.block_lt_of_cell? w _ hx160_1)).trans hx160_1; replace p160 := eq_true p160; replace q160 := eq_true q160; have p161 : 0 ≤ (x5_1 : Int) := of_decide_eq_true (by first | (with_reducible assumption) | assumption); have q161 : x5_1 < (l0.length : Int) := of_decide_eq_true (by first | (with_reducible assumption) | assumption); obtain ⟨ad161, e161, hx161_0, hx161_1⟩ := at_T37 HR0.out x5_1 p161 q161; obtain rfl : ad158 = ad161 := (by injection e161); replace hx161_0 := (HB.out.cell (World.block_lt_of_cell? w _ hx161_0)).trans hx161_0; replace hx161_1 := (HB.out.cell (World.block_lt_of_cell? w _ hx161_1)).trans hx161_1; replace p161 := eq_true p161; replace q161 := eq_true q161; have p162 : 0 ≤ (x5_1 : Int) := of_decide_eq_true (by first | (with_reducible assumption) | assumption); have q162 : x5_1 < (l0.length : Int) := of_decide_eq_true (by first | (with_reducible assumption) | assumption); obtain ⟨ad162, e162, hx162_0, hx162_1⟩ := at_T37 HR0.out x5_1 p162 q162; obtain rfl : ad158 = ad162 := (by injection e162); replace hx162_0 := (HB.out.cell (World.block_lt_of_cell? w _ hx162_0)).trans hx162_0; replace hx162_1 := (HB.out.cell (World.block_lt_of_cell? w _ hx162_1)).trans hx162_1; replace p162 := eq_true p162; replace q162 := eq_true q162; have p163 : 0 ≤ ((ji12) : Int) := of_decide_eq_true (by first | (with_reducible assumption) | assumption); have q163 : (ji12) < (l0.length : Int) := of_decide_eq_true (by first | (with_reducible assumption) | assumption); obtain ⟨ad163, e163, hx163_0, hx163_1⟩ := at_T37 HR0.out (ji12) p163 q163; obtain rfl : ad158 = ad163 := (by injection e163); replace hx163_0 := (HB.out.cell (World.block_lt_of_cell? w _ hx163_0)).trans hx163_0; replace hx163_1 := (HB.out.cell (World.block_lt_of_cell? w _ hx163_1)).trans hx163_1; replace p163 := eq_true p163; replace q163 := eq_true q163)))
                        go_ret
                        exact ⟨by first | rfl | (simp [errW_none, errW_some] <;> rfl) | (simp only [← hji12]; first | rfl | (simp [errW_none, errW_some] <;> rfl)) | (simp [*, errW_none, errW_some] <;> rfl), by repeat (first | (with_reducible first | exact HB.out | apply below_alloc | apply pw_below_drewN | apply below_drew1) | exact HB.out)⟩
                      · rw [if_neg c15] at H
                        have c15b0 : (((rd_T37 l0 x5_1).f0).toList == ((rd_T37 l0 (ji12)).f0).toList) = false := beq_eq_false_iff_ne.mpr c15
                        have c15b1 : (((rd_T37 l0 x5_1).f0).toList != ((rd_T37 l0 (ji12)).f0).toList) = true := bne_iff_ne.mpr c15
                        have H' := Aside0.mk H
                        clear H
                        have p158 : 0 ≤ (x5_1 : Int) := of_decide_eq_true (by first | (with_reducible assumption) | assumption)
                        have q158 : x5_1 < (l0.length : Int) := of_decide_eq_true (by first | (with_reducible assumption) | assumption)
                        obtain ⟨ad158, e158, hx158_0, hx158_1⟩ := at_T37 HR0.out x5_1 p158 q158
                        cases e158
                        replace hx158_0 := (HB.out.cell (World.block_lt_of_cell? w _ hx158_0)).trans hx158_0
                        replace hx158_1 := (HB.out.cell (World.block_lt_of_cell? w _ hx158_1)).trans hx158_1
                        replace p158 := eq_true p158
                        replace q158 := eq_true q158
                        go_wp2_with (first | (go_at_call 34; (with_reducible refine (malthouseref01_Name.calls k1 ((rd_T37 l0 x5_1).f0) true _ A5.out).mono ?_); rintro e w17 ⟨rfl, hb⟩; have n0_ := Aside0.mk (below_step (by repeat (first | (with_reducible first | exact HB.out | apply below_alloc | apply pw_below_drewN | apply below_drew1) | exact HB.out)) hb); clear HB; have HB := n0_; clear n0_; (try clear hb); (try clear hb2); (try clear hk); (try clear hi); have p160 : 0 ≤ (x5_1 : Int) := of_decide_eq_true (by first | (with_reducible assumption) | assumption); have q160 : x5_1 < (l0.length : Int) := of_decide_eq_true (by first | (with_reducible assumption) | assumption); obtain ⟨ad160, e160, hx160_0, hx160_1⟩ := at_T37 HR0.out x5_1 p160 q160; obtain rfl : ad158 = ad160 := (by injection e160); replace hx160_0 := (HB.out.cell (World.block_lt_of_cell? w _ hx160_0)).trans hx160_0; replace hx160_1 := (HB.out.cell (World.block_lt_of_cell? w _ hx160_1)).trans hx160_1; replace p160 := eq_true p160; replace q160 := eq_true q160; have p161 : 0 ≤ (x5_1 : Int) := of_decide_eq_true (by first | (with_reducible assumption) | assumption); have q161 : x5_1 < (l0.length : Int) := of_decide_eq_true (by first | (with_reducible assumption) | assumption); obtain ⟨ad161, e161, hx161_0, hx161_1⟩ := at_T37 HR0.out x5_1 p161 q161; obtain rfl : ad158 = ad161 := (by injection e161); replace hx161_0 := (HB.out.cell (World.block_lt_of_cell? w _ hx161_0)).trans hx161_0; replace hx161_1 := (HB.out.cell (World.block_lt_of_cell? w _ hx161_1)).trans hx161_1; replace p161 := eq_true p161; replace q161 := eq_true q161; have p162 : 0 ≤ (x5_1 : Int) := of_decide_eq_true (by first | (with_reducible assumption) | assumption); have q162 : x5_1 < (l0.length : Int) := of_decide_eq_true (by first | (with_reducible assumption) | assumption); obtain ⟨ad162, e162, hx162_0, hx162_1⟩ := at_T37 HR0.out x5_1 p162 q162; obtain rfl : ad158 = ad162 := (by injection e162); replace hx162_0 := (HB.out.cell (World.block_lt_of_cell? w _ hx162_0)).trans hx162_0; replace hx162_1 := (HB.out.cell (World.block_lt_of_cell? w _ hx162_1)).trans hx162_1; replace p162 := eq_true p162; replace q162 := eq_true q162; have p163 : 0 ≤ ((ji12) : Int) := of_decide_eq_true (by first | (with_reducible assumption) | assumption); have q163 : (ji12) < (l0.length : Int) := of_decide_eq_true (by first | (with_reducible assumption) | assumption); obtain ⟨ad163, e163, hx163_0, hx163_1⟩ := at_T37 HR0.out (ji12) p163 q163; obtain rfl : ad158 = ad163 := (by injection e163); replace hx163_0 := (HB.out.cell (World.block_lt_of_cell? w _ hx163_0)).trans hx163_0; replace hx163_1 := (HB.out.cell (World.block_lt_of_cell? w _ hx163_1)).trans hx163_1; replace p163 := eq_true p163; replace q163 := eq_true q163; have p164 : 0 ≤ (x5_1 : Int) := of_decide_eq_true (by first | (with_reducible assumption) | assumption); have q164 : x5_1 < (l0.length : Int) := of_decide_eq_true (by first | (with_reducible assumption) | assumption); obtain ⟨ad164, e164, hx164_0, hx164_1⟩ := at_T37 HR0.out x5_1 p164 q164; obtain rfl : ad158 = ad164 := (by injection e164); replace hx164_0 := (HB.out.cell (World.block_lt_of_cell? w _ hx164_0)).trans hx164_0; replace hx164_1 := (HB.out.cell (World.block_lt_of_cell? w _ hx164_1)).trans hx164_1; replace p164 := eq_true p164; replace q164 := eq_true q164))
                        repeat (go_quiet (first | (go_at_call 34; (with_reducible refine (malthouseref01_Name.calls k1 ((rd_T37 l0 x5_1).f0) true _ A5.out).mono ?_); rintro e w17 ⟨rfl, hb⟩; have n0_ := Aside0.mk (below_step (by repeat (first | (with_reducible first | exact HB.out | apply below_alloc | apply pw_below_drewN | apply below_drew1) | exact HB.out)) hb); clear HB; have HB := n0_; clear n0_; (try clear hb); (try clear hb2); (try clear hk); (try clear hi); have p160 : 0 ≤ (x5_1 : Int) := of_decide_eq_true (by first | (with_reducible assumption) | assumption); have q160 : x5_1 < (l0.length : Int) := of_decide_eq_true (by first | (with_reducible assumption) | assumption); obtain ⟨ad160, e160, hx160_0, hx160_1⟩ := at_T37 HR0.out x5_1 p160 q160; obtain rfl : ad158 = ad160 := (by injection e160); replace hx160_0 := (HB.out.cell (World.block_lt_of_cell? w _ hx160_0)).trans hx160_0; replace hx160_1 := (HB.out.cell (World.block_lt_of_cell? w _ hx160_1)).trans hx160_1; replace p160 := eq_true p160; replace q160 := eq_true q160; have p161 : 0 ≤ (x5_1 : Int) := of_decide_eq_true (by first | (with_reducible assumption) | assumption); have q161 : x5_1 < (l0.length : Int) := of_decide_eq_true (by first | (with_reducible assumption) | assumption); obtain ⟨ad161, e161, hx161_0, hx161_1⟩ := at_T37 HR0.out x5_1 p161 q161; obtain rfl : ad158 = ad161 := (by injection e161); replace hx161_0 := (HB.out.cell (World.block_lt_of_cell? w _ hx161_0)).trans hx161_0; replace hx161_1 := (HB.out.cell (World.block_lt_of_cell? w _ hx161_1)).trans hx161_1; replace p161 := eq_true p161; replace q161 := eq_true q161; have p162 : 0 ≤ (x5_1 : Int) := of_decide_eq_true (by first | (with_reducible assumption) | assumption); have q162 : x5_1 < (l0.length : Int) := of_decide_eq_true (by first | (with_reducible assumption) | assumption); obtain ⟨ad162, e162, hx162_0, hx162_1⟩ := at_T37 HR0.out x5_1 p162 q162; obtain rfl : ad158 = ad162 := (by injection e162); replace hx162_0 := (HB.out.cell (World.block_lt_of_cell? w _ hx162_0)).trans hx162_0; replace hx162_1 := (HB.out.cell (World.block_lt_of_cell? w _ hx162_1)).trans hx162_1; replace p162 := eq_true p162; replace q162 := eq_true q162; have p163 : 0 ≤ ((ji12) : Int) := of_decide_eq_true (by first | (with_reducible assumption) | assumption); have q163 : (ji12) < (l0.length : Int) := of_decide_eq_true (by first | (with_reducible assumption) | assumption); obtain ⟨ad163, e163, hx163_0, hx163_1⟩ := at_T37 HR0.out (ji12) p163 q163; obtain rfl : ad158 = ad163 := (by injection e163); replace hx163_0 := (HB.out.cell (World.block_lt_of_cell? w _ hx163_0)).trans hx163_0; replace hx163_1 := (HB.out.cell (World.block_lt_of_cell? w _ hx163_1)).trans hx163_1; replace p163 := eq_true p163; replace q163 := eq_true q163; have p164 : 0 ≤ (x5_1 : Int) := of_decide_eq_true (by first | (with_reducible assumption) | assumption); have q164 : x5_1 < (l0.length : Int) := of_decide_eq_true (by first | (with_reducible assumption) | assumption); obtain ⟨ad164, e164, hx164_0, hx164_1⟩ := at_T37 HR0.out x5_1 p164 q164; obtain rfl : ad158 = ad164 := (by injection e164); replace hx164_0 := (HB.out.cell (World.block_lt_of_cell? w _ hx164_0)).trans hx164_0; replace hx164_1 := (HB.out.cell (World.block_lt_of_cell? w _ hx164_1)).trans hx164_1; replace p164 := eq_true p164; replace q164 := eq_true q164)); try go_wp2_with (first | (go_at_call 34; (with_reducible refine (malthouseref01_Name.calls k1 ((rd_T37 l0 x5_1).f0) true _ A5.out).mono ?_); rintro e w17 ⟨rfl, hb⟩; have n0_ := Aside0.mk (below_step (by repeat (first | (with_reducible first | exact HB.out | apply below_alloc | apply pw_below_drewN | apply below_drew1) | exact HB.out)) hb); clear HB; have HB := n0_; clear n0_; (try clear hb); (try clear hb2); (try clear hk); (try clear hi); have p160 : 0 ≤ (x5_1 : Int) := of_decide_eq_true (by first | (with_reducible assumption) | assumption); have q160 : x5_1 < (l0.length : Int) := of_decide_eq_true (by first | (with_reducible assumption) | assumption); obtain ⟨ad160, e160, hx160_0, hx160_1⟩ := at_T37 HR0.out x5_1 p160 q160; obtain rfl : ad158 = ad160 := (by injection e160); replace hx160_0 := (HB.out.cell (World.block_lt_of_cell? w _ hx160_0)).trans hx160_0; replace hx160_1 := (HB.out.cell (World.block_lt_of_cell? w _ hx160_1)).trans hx160_1; replace p160 := eq_true p160; replace q160 := eq_true q160; have p161 : 0 ≤ (x5_1 : Int) := of_decide_eq_true (by first | (with_reducible assumption) | assumption); have q161 : x5_1 < (l0.length : Int) := of_decide_eq_true (by first | (with_reducible assumption) | assumption); obtain ⟨ad161, e161, hx161_0, hx161_1⟩ := at_T37 HR0.out x5_1 p161 q161; obtain rfl : ad158 = ad161 := (by injection e161); replace hx161_0 := (HB.out.cell (World.block_lt_of_cell? w _ hx161_0)).trans hx161_0; replace hx161_1 := (HB.out.cell (World.block_lt_of_cell? w _ hx161_1)).trans hx161_1; replace p161 := eq_true p161; replace q161 := eq_true q161; have p162 : 0 ≤ (x5_1 : Int) := of_decide_eq_true (by first | (with_reducible assumption) | assumption); have q162 : x5_1 < (l0.length : Int) := of_decide_eq_true (by first | (with_reducible assumption) | assumption); obtain ⟨ad162, e162, hx162_0, hx162_1⟩ := at_T37 HR0.out x5_1 p162 q162; obtain rfl : ad158 = ad162 := (by injection e162); replace hx162_0 := (HB.out.cell (World.block_lt_of_cell? w _ hx162_0)).trans hx162_0; replace hx162_1 := (HB.out.cell (World.block_lt_of_cell? w _ hx162_1)).trans hx162_1; replace p162 := eq_true p162; replace q162 := eq_true q162; have p163 : 0 ≤ ((ji12) : Int) := of_decide_eq_true (by first | (with_reducible assumption) | assumption); have q163 : (ji12) < (l0.length : Int) := of_decide_eq_true (by first | (with_reducible assumption) | assumption); obtain ⟨ad163, e163, hx163_0, hx163_1⟩ := at_T37 HR0.out (ji12) p163 q163; obtain rfl : ad158 = ad163 := (by injection e163); replace hx163_0 := (HB.out.cell (World.block_lt_of_cell? w _ hx163_0)).trans hx163_0; replace hx163_1 := (HB.out.cell (World.block_lt_of_cell? w _ hx163_1)).trans hx163_1; replace p163 := eq_true p163; replace q163 := eq_true q163; have p164 : 0 ≤ (x5_1 : Int) := of_decide_eq_true (by first | (with_reducible assumption) | assumption); have q164 : x5_1 < (l0.length : Int) := of_decide_eq_true (by first | (with_reducible assumption) | assumption); obtain ⟨ad164, e164, hx164_0, hx164_1⟩ := at_T37 HR0.out x5_1 p164 q164; obtain rfl : ad158 = ad164 := (by injection e164); replace hx164_0 := (HB.out.cell (World.block_lt_of_cell? w _ hx164_0)).trans hx164_0; replace hx164_1 := (HB.out.cell (World.block_lt_of_cell? w _ hx164_1)).trans hx164_1; replace p164 := eq_true p164; replace q164 := eq_true q164)))
                        go_roundg k1
                        case measure => have := HK1.out; omega
                        case rel => exact ⟨(wrap64 (x1_1 - ((rd_T37 l0 x5_1).f1))), (wrap64 (x5_1 + 1)), (by first | rfl | (simp; done) | (simp [*]; done)), (by first | rfl | (simp; done) | (simp [*]; done)), H', ⟨by have := HK1.out; omega⟩, ⟨by repeat (first | (with_reducible first | exact HB.out | apply below_alloc | apply pw_below_drewN | apply below_drew1) | exact HB.out)⟩⟩
                    · rw [if_neg c14] at H
                      exact absurd H (by simp)
                  · rw [if_neg c13] at H
                    exact absurd H (by simp)
                · rw [if_neg c11] at H
                  have c11b0 : decide (0 < x5_1) = false := decide_eq_false c11
                  clear c11
                  have H' := Aside0.mk H
                  clear H
                  have p158 : 0 ≤ (x5_1 : Int) := of_decide_eq_true (by first | (with_reducible assumption) | assumption)
                  have q158 : x5_1 < (l0.length : Int) := of_decide_eq_true (by first | (with_reducible assumption) | assumption)
                  obtain ⟨ad158, e158, hx158_0, hx158_1⟩ := at_T37 HR0.out x5_1 p158 q158
                  cases e158
                  replace hx158_0 := (HB.out.cell (World.block_lt_of_cell? w _ hx158_0)).trans hx158_0
                  replace hx158_1 := (HB.out.cell (World.block_lt_of_cell? w _ hx158_1)).trans hx158_1
                  replace p158 := eq_true p158
                  replace q158 := eq_true q158
                  go_wp2_with (first | (go_at_call 34; (with_reducible refine (malthouseref01_Name.calls k1 ((rd_T37 l0 x5_1).f0) true _ A5.out).mono ?_); rintro e w18 ⟨rfl, hb⟩; have n0_ := Aside0.mk (below_step (by repeat (first | (with_reducible first | exact HB.out | apply below_alloc | apply pw_below_drewN | apply below_drew1) | exact HB.out)) hb); clear HB; have HB := n0_; clear n0_; (try clear hb); (try clear hb2); (try clear hk); (try clear hi); have p160 : 0 ≤ (x5_1 : Int) := of_decide_eq_true (by first | (with_reducible assumption) | assumption); have q160 : x5_1 < (l0.length : Int) := of_decide_eq_true (by first | (with_reducible assumption) | assumption); obtain ⟨ad160, e160, hx160_0, hx160_1⟩ := at_T37 HR0.out x5_1 p160 q160; obtain rfl : ad158 = ad160 := (by injection e160); replace hx160_0 := (HB.out.cell (World.block_lt_of_cell? w _ hx160_0)).trans hx160_0; replace hx160_1 := (HB.out.cell (World.block_lt_of_cell? w _ hx160_1)).trans hx160_1; replace p160 := eq_true p160; replace q160 := eq_true q160; have p161 : 0 ≤ (x5_1 : Int) := of_decide_eq_true (by first | (with_reducible assumption) | assumption); have q161 : x5_1 < (l0.length : Int) := of_decide_eq_true (by first | (with_reducible assumption) | assumption); obtain ⟨ad161, e161, hx161_0, hx161_1⟩ := at_T37 HR0.out x5_1 p161 q161; obtain rfl : ad158 = ad161 := (by injection e161); replace hx161_0 := (HB.out.cell (World.block_lt_of_cell? w _ hx161_0)).trans hx161_0; replace hx161_1 := (HB.out.cell (World.block_lt_of_cell? w _ hx161_1)).trans hx161_1; replace p161 := eq_true p161; replace q161 := eq_true q161; have p165 : 0 ≤ (x5_1 : Int) := of_decide_eq_true (by first | (with_reducible assumption) | assumption); have q165 : x5_1 < (l0.length : Int) := of_decide_eq_true (by first | (with_reducible assumption) | assumption); obtain ⟨ad165, e165, hx165_0, hx165_1⟩ := at_T37 HR0.out x5_1 p165 q165; obtain rfl : ad158 = ad165 := (by injection e165); replace hx165_0 := (HB.out.cell (World.block_lt_of_cell? w _ hx165_0)).trans hx165_0; replace hx165_1 := (HB.out.cell (World.block_lt_of_cell? w _ hx165_1)).trans hx165_1; replace p165 := eq_true p165; replace q165 := eq_true q165))
                  repeat (go_quiet (first | (go_at_call 34; (with_reducible refine (malthouseref01_Name.calls k1 ((rd_T37 l0 x5_1).f0) true _ A5.out).mono ?_); rintro e w18 ⟨rfl, hb⟩; have n0_ := Aside0.mk (below_step (by repeat (first | (with_reducible first | exact HB.out | apply below_alloc | apply pw_below_drewN | apply below_drew1) | exact HB.out)) hb); clear HB; have HB := n0_; clear n0_; (try clear hb); (try clear hb2); (try clear hk); (try clear hi); have p160 : 0 ≤ (x5_1 : Int) := of_decide_eq_true (by first | (with_reducible assumption) | assumption); have q160 : x5_1 < (l0.length : Int) := of_decide_eq_true (by first | (with_reducible assumption) | assumption); obtain ⟨ad160, e160, hx160_0, hx160_1⟩ := at_T37 HR0.out x5_1 p160 q160; obtain rfl : ad158 = ad160 := (by injection e160); replace hx160_0 := (HB.out.cell (World.block_lt_of_cell? w _ hx160_0)).trans hx160_0; replace hx160_1 := (HB.out.cell (World.block_lt_of_cell? w _ hx160_1)).trans hx160_1; replace p160 := eq_true p160; replace q160 := eq_true q160; have p161 : 0 ≤ (x5_1 : Int) := of_decide_eq_true (by first | (with_reducible assumption) | assumption); have q161 : x5_1 < (l0.length : Int) := of_decide_eq_true (by first | (with_reducible assumption) | assumption); obtain ⟨ad161, e161, hx161_0, hx161_1⟩ := at_T37 HR0.out x5_1 p161 q161; obtain rfl : ad158 = ad161 := (by injection e161); replace hx161_0 := (HB.out.cell (World.block_lt_of_cell? w _ hx161_0)).trans hx161_0; replace hx161_1 := (HB.out.cell (World.block_lt_of_cell? w _ hx161_1)).trans hx161_1; replace p161 := eq_true p161; replace q161 := eq_true q161; have p165 : 0 ≤ (x5_1 : Int) := of_decide_eq_true (by first | (with_reducible assumption) | assumption); have q165 : x5_1 < (l0.length : Int) := of_decide_eq_true (by first | (with_reducible assumption) | assumption); obtain ⟨ad165, e165, hx165_0, hx165_1⟩ := at_T37 HR0.out x5_1 p165 q165; obtain rfl : ad158 = ad165 := (by injection e165); replace hx165_0 := (HB.out.cell (World.block_lt_of_cell? w _ hx165_0)).trans hx165_0; replace hx165_1 := (HB.out.cell (World.block_lt_of_cell? w _ hx165_1)).trans hx165_1; replace p165 := eq_true p165; replace q165 := eq_true q165)); try go_wp2_with (first | (go_at_call 34; (with_reducible refine (malthouseref01_Name.calls k1 ((rd_T37 l0 x5_1).f0) true _ A5.out).mono ?_); rintro e w18 ⟨rfl, hb⟩; have n0_ := Aside0.mk (below_step (by repeat (first | (with_reducible first | exact HB.out | apply below_alloc | apply pw_below_drewN | apply below_drew1) | exact HB.out)) hb); clear HB; have HB := n0_; clear n0_; (try clear hb); (try clear hb2); (try clear hk); (try clear hi); have p160 : 0 ≤ (x5_1 : Int) := of_decide_eq_true (by first | (with_reducible assumption) | assumption); have q160 : x5_1 < (l0.length : Int) := of_decide_eq_true (by first | (with_reducible assumption) | assumption); obtain ⟨ad160, e160, hx160_0, hx160_1⟩ := at_T37 HR0.out x5_1 p160 q160; obtain rfl : ad158 = ad160 := (by injection e160); replace hx160_0 := (HB.out.cell (World.block_lt_of_cell? w _ hx160_0)).trans hx160_0; replace hx160_1 := (HB.out.cell (World.block_lt_of_cell? w _ hx160_1)).trans hx160_1; replace p160 := eq_true p160; replace q160 := eq_true q160; have p161 : 0 ≤ (x5_1 : Int) := of_decide_eq_true (by first | (with_reducible assumption) | assumption); have q161 : x5_1 < (l0.length : Int) := of_decide_eq_true (by first | (with_reducible assumption) | assumption); obtain ⟨ad161, e161, hx161_0, hx161_1⟩ := at_T37 HR0.out x5_1 p161 q161; obtain rfl : ad158 = ad161 := (by injection e161); replace hx161_0 := (HB.out.cell (World.block_lt_of_cell? w _ hx161_0)).trans hx161_0; replace hx161_1 := (HB.out.cell (World.block_lt_of_cell? w _ hx161_1)).trans hx161_1; replace p161 := eq_true p161; replace q161 := eq_true q161; have p165 : 0 ≤ (x5_1 : Int) := of_decide_eq_true (by first | (with_reducible assumption) | assumption); have q165 : x5_1 < (l0.length : Int) := of_decide_eq_true (by first | (with_reducible assumption) | assumption); obtain ⟨ad165, e165, hx165_0, hx165_1⟩ := at_T37 HR0.out x5_1 p165 q165; obtain rfl : ad158 = ad165 := (by injection e165); replace hx165_0 := (HB.out.cell (World.block_lt_of_cell? w _ hx165_0)).trans hx165_0; replace hx165_1 := (HB.out.cell (World.block_lt_of_cell? w _ hx165_1)).trans hx165_1; replace p165 := eq_true p165; replace q165 := eq_true q165)))
                  go_roundg k1
                  case measure => have := HK1.out; omega
                  case rel => exact ⟨(wrap64 (x1_1 - ((rd_T37 l0 x5_1).f1))), (wrap64 (x5_1 + 1)), (by first | rfl | (simp; done) | (simp [*]; done)), (by first | rfl | (simp; done) | (simp [*]; done)), H', ⟨by have := HK1.out; omega⟩, ⟨by repeat (first | (with_reducible first | exact HB.out | apply below_alloc | apply pw_below_drewN | apply below_drew1) | exact HB.out)⟩⟩
          · replace c6 := Bool.eq_false_iff.mpr c6
            subst c6
            have H1 : (some false) = some r := by rw [if_neg (show ¬ (false = true) by decide)] at H; exact H
            clear H
            have H := H1
            clear H1
            obtain rfl := Option.some.inj H
            have p158 : 0 ≤ (x5_1 : Int) := of_decide_eq_true (by first | (with_reducible assumption) | assumption)
            have q158 : x5_1 < (l0.length : Int) := of_decide_eq_true (by first | (with_reducible assumption) | assumption)
            obtain ⟨ad158, e158, hx158_0, hx158_1⟩ := at_T37 HR0.out x5_1 p158 q158
            cases e158
            replace hx158_0 := (HB.out.cell (World.block_lt_of_cell? w _ hx158_0)).trans hx158_0
            replace hx158_1 := (HB.out.cell (World.block_lt_of_cell? w _ hx158_1)).trans hx158_1
            replace p158 := eq_true p158
            replace q158 := eq_true q158
            go_wp2_with (first | (go_at_call 34; (with_reducible refine (malthouseref01_Name.calls k1 ((rd_T37 l0 x5_1).f0) false _ A5.out).mono ?_); rintro e w19 ⟨rfl, hb⟩; have n0_ := Aside0.mk (below_step (by repeat (first | (with_reducible first | exact HB.out | apply below_alloc | apply pw_below_drewN | apply below_drew1) | exact HB.out)) hb); clear HB; have HB := n0_; clear n0_; (try clear hb); (try clear hb2); (try clear hk); (try clear hi)))
            repeat (go_quiet (first | (go_at_call 34; (with_reducible refine (malthouseref01_Name.calls k1 ((rd_T37 l0 x5_1).f0) false _ A5.out).mono ?_); rintro e w19 ⟨rfl, hb⟩; have n0_ := Aside0.mk (below_step (by repeat (first | (with_reducible first | exact HB.out | apply below_alloc | apply pw_below_drewN | apply below_drew1) | exact HB.out)) hb); clear HB; have HB := n0_; clear n0_; (try clear hb); (try clear hb2); (try clear hk); (try clear hi))); try go_wp2_with (first | (go_at_call 34; (with_reducible refine (malthouseref01_Name.calls k1 ((rd_T37 l0 x5_1).f0) false _ A5.out).mono ?_); rintro e w19 ⟨rfl, hb⟩; have n0_ := Aside0.mk (below_step (by repeat (first | (with_reducible first | exact HB.out | apply below_alloc | apply pw_below_drewN | apply below_drew1) | exact HB.out)) hb); clear HB; have HB := n0_; clear n0_; (try clear hb); (try clear hb2); (try clear hk); (try clear hi))))
            go_ret
            exact ⟨by first | rfl | (simp [errW_none, errW_some] <;> rfl) | (simp [*, errW_none, errW_some] <;> rfl), by repeat (first | (with_reducible first | exact HB.out | apply below_alloc | apply pw_below_drewN | apply below_drew1) | exact HB.out)⟩
        · rw [if_neg c4] at H
          exact absurd H (by simp)
      · rw [if_neg c3] at H
        have c3b0 : decide (x5_1 < (l0.length : Int)) = false := decide_eq_false c3
        clear c3
        obtain rfl := Option.some.inj H
        go_wp2
        repeat (go_quiet (fail); try go_wp2)
        go_ret
        exact ⟨by first | rfl | (simp [errW_none, errW_some] <;> rfl) | (simp [*, errW_none, errW_some] <;> rfl), by repeat (first | (with_reducible first | exact HB.out | apply below_alloc | apply pw_below_drewN | apply below_drew1) | exact HB.out)⟩
def malthouseref13_Place.l0 : Nat → List (S25) → ByteArray → Int → Option (Int)
  | 0, _, _, _ => none
  | k + 1, x0, x1, x5 => if x5 < (x0.length : Int) then (if 0 ≤ x5 then (if ((rd_T25 x0 x5).f0).toList = x1.toList then (some x5) else (malthouseref13_Place.l0 k x0 x1 (wrap64 (x5 + 1)))) else (none)) else (some (-1))
def malthouseref13_Place.f (k : Nat) (l0 : List (S25)) (a1 : ByteArray) : Option (Int) := malthouseref13_Place.l0 k l0 a1 0
set_option maxHeartbeats 8000000 in
set_option maxRecDepth 100000 in
theorem malthouseref13_Place.calls (k : Nat) (A0 : Option Addr) (c0 : Nat) (l0 : List (S25)) (a1 : ByteArray) (r : Int) (w : World) (hr0 : Kd.C k25 w A0 l0.length l0) (hc0 : l0.length ≤ c0) (h : malthouseref13_Place.f k l0 a1 = some r) :
    Calls Tryd.prog 36 #[.slice A0 l0.length c0, .string a1] w fun e w' => e = .returned (.int .i64 r) ∧ Drawn0 w w' := by
  have HR0 := Aside0.mk hr0
  have HC0 := Aside0.mk hc0
  clear hr0 hc0
  have H : (malthouseref13_Place.l0 k l0 a1 0) = some r := h
  clear h
  have H' := Aside0.mk H
  clear H
  go_enter Tryd.func36, Tryd.ntmps36
  go_wp2
  go_loopg [5] k (fun kq v5 w' => ∃ (x5_1 : Int), v5 = .int .i64 x5_1 ∧ Aside0 (malthouseref13_Place.l0 kq l0 a1 x5_1 = some r) ∧ Aside0 (kq ≤ k) ∧ Drawn0 w w')
  case atStart => exact ⟨(0), (by first | rfl | (simp; done) | (simp [*]; done)), H', ⟨Nat.le_refl _⟩, by repeat (first | exact Drawn0.refl _ | apply Drawn0.step)⟩
  case round =>
    clear H'
    try clear p2
    obtain ⟨x5_1, rfl, HA, HK1, ⟨m1, rfl⟩⟩ := hrel
    cases gk with
    | zero => exact absurd HA.out (by simp [malthouseref13_Place.l0])
    | succ k1 =>
      have H := HA.out
      clear HA
      simp only [malthouseref13_Place.l0] at H
      by_cases c3 : x5_1 < (l0.length : Int)
      · rw [if_pos c3] at H
        have c3b0 : decide (x5_1 < (l0.length : Int)) = true := decide_eq_true c3
        clear c3
        by_cases c4 : 0 ≤ x5_1
        · rw [if_pos c4] at H
          have c4b0 : decide (0 ≤ x5_1) = true := decide_eq_true c4
          clear c4
          by_cases c5 : ((rd_T25 l0 x5_1).f0).toList = a1.toList
          · rw [if_pos c5] at H
            have c5b0 : (((rd_T25 l0 x5_1).f0).toList == a1.toList) = true := beq_iff_eq.mpr c5
            have c5b1 : (((rd_T25 l0 x5_1).f0).toList != a1.toList) = false := bne_eq_false_iff_eq.mpr c5
            clear c5
            obtain rfl := Option.some.inj H
            have p166 : 0 ≤ (x5_1 : Int) := of_decide_eq_true (by first | (with_reducible assumption) | assumption)
            have q166 : x5_1 < (l0.length : Int) := of_decide_eq_true (by first | (with_reducible assumption) | assumption)
            obtain ⟨ad166, A166_2, c166_2, e166, hx166_0, hx166_1, hx166_2, hl166_2, hi166_2⟩ := at_T25 HR0.out x5_1 p166 q166
            cases e166
            have HR166_2 := Aside0.mk hi166_2
            have HC166_2 := Aside0.mk hl166_2
            clear hi166_2 hl166_2
            replace p166 := eq_true p166
            replace q166 := eq_true q166
            go_wp2
            go_ret
            exact ⟨by first | rfl | (simp; done) | (simp [*]; done), by repeat (first | exact Drawn0.refl _ | apply Drawn0.step)⟩
          · rw [if_neg c5] at H
            have c5b0 : (((rd_T25 l0 x5_1).f0).toList == a1.toList) = false := beq_eq_false_iff_ne.mpr c5
            have c5b1 : (((rd_T25 l0 x5_1).f0).toList != a1.toList) = true := bne_iff_ne.mpr c5
            have H' := Aside0.mk H
            clear H
            have p166 : 0 ≤ (x5_1 : Int) := of_decide_eq_true (by first | (with_reducible assumption) | assumption)
            have q166 : x5_1 < (l0.length : Int) := of_decide_eq_true (by first | (with_reducible assumption) | assumption)
            obtain ⟨ad166, A166_2, c166_2, e166, hx166_0, hx166_1, hx166_2, hl166_2, hi166_2⟩ := at_T25 HR0.out x5_1 p166 q166
            cases e166
            have HR166_2 := Aside0.mk hi166_2
            have HC166_2 := Aside0.mk hl166_2
            clear hi166_2 hl166_2
            replace p166 := eq_true p166
            replace q166 := eq_true q166
            go_wp2
            go_roundg k1
            case measure => have := HK1.out; omega
            case rel => exact ⟨(wrap64 (x5_1 + 1)), (by first | rfl | (simp; done) | (simp [*]; done)), H', ⟨by have := HK1.out; omega⟩, by repeat (first | exact Drawn0.refl _ | apply Drawn0.step)⟩
        · rw [if_neg c4] at H
          exact absurd H (by simp)
      · rw [if_neg c3] at H
        have c3b0 : decide (x5_1 < (l0.length : Int)) = false := decide_eq_false c3
        clear c3
        obtain rfl := Option.some.inj H
        go_wp2
        go_ret
        exact ⟨by first | rfl | (simp; done) | (simp [*]; done), by repeat (first | exact Drawn0.refl _ | apply Drawn0.step)⟩
end Go.Proofs.YtejecmjajdhiiaaDoor.Print
